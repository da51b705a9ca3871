/- Rows of texts, as arguments. Conditions: none. -/
import Derived.Test.YtkmenmagclojmaaChecked
import Derived.Test.YtkmenmagclojmaaSbS
import Derived.KernelRfl
set_option maxRecDepth 100000
namespace Go.Proofs.Ytkmenmagclojmaa
open Go Go.Sb
theorem open_63 {h : Hp} {a : Option Addr} {len cap : Nat} (hr : RdT Try.prog h 6 63 [.slice a len cap]) : ∃ xs : List ByteArray, RdE h.size h (fun x => [.string x]) 1 ⟨a, len, cap⟩ xs ∧ ∀ x ∈ xs, True :=
  open_rdEok (e := 9) (d := 5) (by kernel_rfl) (by kernel_rfl) (by simp) (fun cs hcs => by
    obtain ⟨n, rfl⟩ := RdT.string (by kernel_rfl) hcs
    exact ⟨n, rfl, trivial⟩) hr
end Go.Proofs.Ytkmenmagclojmaa
