/- The tied card of CoreProved. No condition. -/
import Derived.Test.YtpkpadepccneeaaGreatDoorP49
import Derived.Test.YtpkpadepccneeaaGreatDoorCards
import Derived.Test.YtpkpadepccneeaaGreatDoorTie
import Derived.SevenTiedAt
namespace Go.Proofs.YtpkpadepccneeaaGreatDoor.coreProved
open Go
theorem wants6 : ([23, 3, 22].all fun u => !Tryz.prog.wantsStandIn u) = true := by kernel_rfl
theorem proved : Rows.CoreProvedCardSaid :=
  Claim7.holds_tied_plain_at .later [] [.data, .data, .data, .sentinel, .sentinel] true (true, "dc9d0d8aad0b73cd06f421d91e108caf36b62bd579fc3950814a9a7a98504e1f") true
    over (fun _ h => by cases h) (by kernel_rfl) (fun _ h => by cases h) coreProved_row_tie rfl ⟨rfl, rfl⟩ (by kernel_rfl) rfl
    (fun f fn hf hfn => by
      obtain rfl : f = 6 := Option.some.inj (named6.symm.trans hf) |>.symm
      obtain rfl : fn = Tryz.f6 := (Option.some.inj (Tryz.func6.symm.trans hfn)).symm
      exact ⟨by kernel_rfl, fun j t ht => by
        rw [Tryz.params6] at ht
        have hm : t ∈ [23, 3, 22] := by simpa using Array.mem_of_getElem? ht
        exact (show Tryz.prog.wantsStandIn t = false by simpa using List.all_eq_true.1 wants6 t hm)⟩)
    (by kernel_rfl)
#print axioms proved
end Go.Proofs.YtpkpadepccneeaaGreatDoor.coreProved
