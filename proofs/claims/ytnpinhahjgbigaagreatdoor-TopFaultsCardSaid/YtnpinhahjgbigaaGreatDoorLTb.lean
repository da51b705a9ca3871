/- The law TopFaults: for every input it returns true, and each argument reads afterwards as it read before. Conditions: none. -/
import Derived.Test.YtnpinhahjgbigaaGreatDoorLTa
import Derived.Test.YtnpinhahjgbigaaGreatDoorLF
namespace Go.Proofs.YtnpinhahjgbigaaGreatDoor.topFaults
open Go.ChangeShapes Go.WideShapes Go.ChangeAt Go.RowKit
open Go Go.Sb
theorem over:Rows.topFaultsRow.holds Tryz.pinned (OpenSpec.ofChange Rows.topFaultsSpec):=
 OpenClaim.holds_of_wide 6 Tryz.f6 rfl rfl rfl rfl rfl rfl rfl ⟨rfl,rfl,rfl,rfl,rfl⟩ rfl rfl rfl rfl rfl o1 Tryz.func6 o2 o3 o4
  (fun os started H enc _=>lifted os started H enc)
end Go.Proofs.YtnpinhahjgbigaaGreatDoor.topFaults
namespace Go.Proofs.YtnpinhahjgbigaaGreatDoor
open Go Go.Sb
theorem topFaults_holds:Rows.TopFaultsCardSaid:=
 Claim7.holds_tied_plain_at .later [] [.data,.data,.data,.data,.sentinel,.sentinel,.pinned] true Rows.topFaultsCard.stood.harness true
  topFaults.over (fun _ h=>by cases h) topFaults.o5 (fun _ h=>by cases h) topFaults_row_tie rfl ⟨rfl,rfl⟩ (by kernel_rfl) rfl
  (fun f fn hf hfn=>by
   obtain rfl:f=6:=(Option.some.inj (topFaults.o1.symm.trans hf)).symm
   obtain rfl:fn=Tryz.f6:=(Option.some.inj (Tryz.func6.symm.trans hfn)).symm
   exact⟨topFaults.o6.symm,fun j t ht=>by
    have ht:Tryz.f6.params[j]? =some t:=ht
    rw[Tryz.params6]at ht
    have hm:t∈[27,28,29]:=by simpa using Array.mem_of_getElem? ht
    exact (show topFaults.P.wantsStandIn t=false by simpa using List.all_eq_true.1 topFaults.o7 t hm)⟩)
  topFaults.o8
end Go.Proofs.YtnpinhahjgbigaaGreatDoor
#print axioms Go.Proofs.YtnpinhahjgbigaaGreatDoor.topFaults_holds
