/- The structs that the laws are told, row by row. Conditions: none. -/
import Derived.Test.YtbpnpmknamghkaaChecked
import Derived.Test.YtbpnpmknamghkaaSbW
import Derived.KernelRfl
set_option maxRecDepth 100000
set_option linter.unusedSimpArgs false
namespace Go.Proofs.Ytbpnpmknamghkaa
open Go Go.Sb
structure KAct where
  later : Int
  n : Int
  look : Bool
def KAct.enc (x : KAct) : List Value := [.int .u16 x.later, .int .u64 x.n, .bool x.look]
def KAct.ok (_h : Hp) (x : KAct) : Prop := (0 ≤ x.later ∧ x.later ≤ 65535) ∧ (0 ≤ x.n ∧ x.n ≤ 18446744073709551615)
theorem KAct.of_rd {h : Hp} {d : Nat} {cs : List Value} (hcs : RdT Try.prog h (d + 2) 72 cs) : ∃ x : KAct, cs = x.enc ∧ x.ok h := by
  obtain ⟨hlen, hf⟩ := RdT.fields (l := [(70, 0), (22, 1), (4, 2)]) (by kernel_rfl) hcs
  rw [show Try.prog.cellsOf 72 = 3 by kernel_rfl] at hlen
  obtain ⟨c0, c1, c2, rfl⟩ : ∃ c0 c1 c2, cs = [c0, c1, c2] := by
    match cs, hlen with
    | [c0, c1, c2], _ => exact ⟨c0, c1, c2, rfl⟩
  have g0 := hf 0 70 0 rfl
  rw [show Try.prog.cellsOf 70 = 1 by kernel_rfl] at g0
  simp only [List.drop_succ_cons, List.drop_zero, List.take_succ_cons, List.take_zero] at g0
  obtain ⟨n0, e0, l0, m0⟩ := RdT.int (show Try.prog.underlying 70 = some (.int .u16) by kernel_rfl) g0
  rw [show IntKind.u16.min = 0 by decide] at l0
  rw [show IntKind.u16.max = 65535 by decide] at m0
  simp only [List.cons.injEq, and_true] at e0
  have g1 := hf 1 22 1 rfl
  rw [show Try.prog.cellsOf 22 = 1 by kernel_rfl] at g1
  simp only [List.drop_succ_cons, List.drop_zero, List.take_succ_cons, List.take_zero] at g1
  obtain ⟨n1, e1, l1, m1⟩ := RdT.int (show Try.prog.underlying 22 = some (.int .u64) by kernel_rfl) g1
  rw [show IntKind.u64.min = 0 by decide] at l1
  rw [show IntKind.u64.max = 18446744073709551615 by decide] at m1
  simp only [List.cons.injEq, and_true] at e1
  have g2 := hf 2 4 2 rfl
  rw [show Try.prog.cellsOf 4 = 1 by kernel_rfl] at g2
  simp only [List.drop_succ_cons, List.drop_zero, List.take_succ_cons, List.take_zero] at g2
  obtain ⟨n2, e2⟩ := RdT.bool (show Try.prog.underlying 4 = some .bool by kernel_rfl) g2
  simp only [List.cons.injEq, and_true] at e2
  exact ⟨⟨n0, n1, n2⟩, by simp [KAct.enc, e0, e1, e2], ⟨l0, m0⟩, ⟨l1, m1⟩⟩
theorem open_59 {h : Hp} {a : Option Addr} {len cap : Nat} (hr : RdT Try.prog h 12 59 [.slice a len cap]) : ∃ xs : List KAct, RdE h.size h KAct.enc 3 ⟨a, len, cap⟩ xs ∧ ∀ x ∈ xs, x.ok h :=
  open_rdEok (e := 72) (d := 11) (by kernel_rfl) (by kernel_rfl) (by intro x; simp [KAct.enc]) (fun cs hcs => KAct.of_rd hcs) hr
end Go.Proofs.Ytbpnpmknamghkaa
