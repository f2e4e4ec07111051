/- The tied card of CoreLinear, at inputs of bulk at most 1048576. No other condition. -/
import Derived.Test.YtpkpadepccneeaaGreatDoorL51
import Derived.Test.YtpkpadepccneeaaGreatDoorCards
import Derived.Test.YtpkpadepccneeaaGreatDoorTie
import Derived.SevenTiedAt
namespace Go.Proofs.YtpkpadepccneeaaGreatDoor.coreLinear
open Go
theorem wants5 : ([25, 26, 26].all fun u => !Tryz.prog.wantsStandIn u) = true := by kernel_rfl
theorem proved : Rows.CoreLinearUptoCardSaid :=
  Claim7.holds_tied_plain_at .later [] [.data, .data, .data, .sentinel, .sentinel] true (true, "dc9d0d8aad0b73cd06f421d91e108caf36b62bd579fc3950814a9a7a98504e1f") true
    over (fun _ h => by cases h) (by kernel_rfl) (fun _ h => by cases h) coreLinearUpto_row_tie rfl ⟨rfl, rfl⟩ (by kernel_rfl) rfl
    (fun f fn hf hfn => by
      obtain rfl : f = 5 := Option.some.inj (named5.symm.trans hf) |>.symm
      obtain rfl : fn = Tryz.f5 := (Option.some.inj (Tryz.func5.symm.trans hfn)).symm
      exact ⟨by kernel_rfl, fun j t ht => by
        rw [Tryz.params5] at ht
        have hm : t ∈ [25, 26, 26] := by simpa using Array.mem_of_getElem? ht
        exact (show Tryz.prog.wantsStandIn t = false by simpa using List.all_eq_true.1 wants5 t hm)⟩)
    (by kernel_rfl)
#print axioms proved
end Go.Proofs.YtpkpadepccneeaaGreatDoor.coreLinear
