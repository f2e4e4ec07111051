/- What chapter 8's alive tells of two views, reckoned. No condition. -/
import Derived.Test.YtdaajncfhcpecaaVPerm
namespace Go.Proofs.Ytdaajncfhcpecaa
set_option linter.unusedVariables false
namespace V
open Classical
theorem check_ok {o : Int} {l s : List Int} {c : Int} {N : Nat} (h1 : l.length = s.length) (h0 : 0 ≤ c) (hc : c ≤ 4096) (hok : S.Ok l) (hN : sizeN l = N) (hin : ∀ n, n < N → 0 ≤ cellOf o l s n ∧ cellOf o l s n < c)
    (hinj : ∀ j, j < N → ∀ i, i < j → cellOf o l s i ≠ cellOf o l s j) : check o l s c = 0 := by
  unfold check
  rw [if_neg (by omega), hok.size, if_neg (by simp), hN, chk_in hin]
  rw [if_neg]
  unfold dupB
  rw [decide_eq_true_iff]
  rintro ⟨i, j, h1, h2, h3⟩
  exact hinj j h2 i h1 h3
end V
theorem Ok32 : S.Ok [3, 2] := ⟨by decide, by decide, by decide⟩
theorem size23 : sizeN [2, 3] = 6 := by
  have h := sizeN_ok Ok23
  rw [show S.prod [2, 3] = 6 by decide] at h
  omega
theorem size32 : sizeN [3, 2] = 6 := by
  have h := sizeN_ok Ok32
  rw [show S.prod [3, 2] = 6 by decide] at h
  omega
theorem check23 : V.check 0 [2, 3] [3, 1] 4096 = 0 := V.check_ok rfl (by decide) (by decide) Ok23 size23 (by decide) (by decide)
theorem check32 : V.check 0 [3, 2] [1, 3] 4096 = 0 := V.check_ok rfl (by decide) (by decide) Ok32 size32 (by decide) (by decide)
theorem cells32 : V.cells 0 [3, 2] [1, 3] = [0, 3, 1, 4, 2, 5] := by
  unfold V.cells
  rw [if_pos check32, size32]
  decide
theorem good10 : goodAx 2 [1, 0] := by unfold goodAx; decide
end Go.Proofs.Ytdaajncfhcpecaa
