/- Shares: the law HyperOrders, over the structs. Conditions: none. -/
import Derived.Test.YtbpnpmknamghkaaHypT
import Derived.Test.YtbpnpmknamghkaaHypA
namespace Go.Proofs.Ytbpnpmknamghkaa
open Go Go.Sb
theorem HyperOrders_sh {h0 : Hp} {x y z : Share} (hx : x.ok h0) (hy : y.ok h0) (hz : z.ok h0) : N_signalboxlaw32_HyperOrders x.over x.under y.over y.under z.over z.under h0 (HFin h0) :=
  HyperOrders_ok hx.1 hx.2 hy.1 hy.2 hz.1 hz.2
end Go.Proofs.Ytbpnpmknamghkaa
