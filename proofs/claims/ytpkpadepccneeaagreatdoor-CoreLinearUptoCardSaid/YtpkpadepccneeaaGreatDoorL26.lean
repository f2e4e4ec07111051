/- What the view of one axis of 4, stride 1, comes to. No condition. -/
import Derived.Test.YtpkpadepccneeaaGreatDoorL23
import Derived.Test.YtpkpadepccneeaaGreatDoorL25
namespace Go.Proofs.YtpkpadepccneeaaGreatDoor.W
set_option linter.unusedVariables false
theorem size4 : S.sizeS [4] = (4, 0) := by decide
theorem sizeN4 : sizeN [4] = 4 := by unfold sizeN; rw [size4]; rfl
theorem at4 : ∀ n, n < 4 → S.pad (S.atL [4] (n : Nat)) = [((n : Nat) : Int), 0, 0, 0] := by decide
theorem cell4 : ∀ n, n < 4 → V.cellOf 0 [4] [1] n = (n : Int) := by decide
theorem idx4 (n : Nat) (hn : n < 4) : idx [4] n = four n 0 0 0 := by unfold idx; rw [at4 n hn]; rfl
open Classical in
theorem dup4 : V.dupB (V.cellOf 0 [4] [1]) 4 = false := by
  unfold V.dupB
  refine decide_eq_false ?_
  rintro ⟨i, j, h1, h2, h3⟩
  rw [cell4 i (by omega), cell4 j h2] at h3
  omega
theorem check4 (c : Int) (h : 4 ≤ c) (h2 : c ≤ 4096) : V.check 0 [4] [1] c = 0 := by
  unfold V.check
  rw [if_neg (by intro h; rcases h with h | h | h; exact h rfl; omega; omega), size4, if_neg (by decide), sizeN4, V.chk_in (fun n hn => by rw [cell4 n hn]; omega), dup4]
  rfl
theorem cells4 : V.cells 0 [4] [1] = [0, 1, 2, 3] := by
  unfold V.cells
  rw [if_pos (check4 4096 (by decide) (by decide)), sizeN4]
  decide
end Go.Proofs.YtpkpadepccneeaaGreatDoor.W
