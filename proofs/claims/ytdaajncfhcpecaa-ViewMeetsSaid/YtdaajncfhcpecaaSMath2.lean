/- Plain mathematics of chapter 7, second part: an index filled from its beginning. No program in it. No condition. -/
import Derived.Test.YtdaajncfhcpecaaSMath
namespace Go.Proofs.Ytdaajncfhcpecaa.S
set_option linter.unusedVariables false
set_option linter.unusedSimpArgs false
/-- An index as it is filled: before k. -/
def frontAt (l : List Int) (n : Int) (k : Nat) : List Int := (List.range 4).map fun i => if i < k then (pad (atL l n)).getD i 0 else 0
theorem frontAt_length (l : List Int) (n : Int) (j : Nat) : (frontAt l n j).length = 4 := by simp [frontAt]
theorem frontAt_getD (l : List Int) (n : Int) (j : Nat) {i : Nat} (h : i < 4) : (frontAt l n j).getD i 0 = if i < j then (pad (atL l n)).getD i 0 else 0 := by
  simp [frontAt, h]
theorem zeros_getD {i : Nat} (hi : i < 4) : ([0, 0, 0, 0] : List Int).getD i 0 = 0 := by
  match i, hi with
  | 0, _ => rfl
  | 1, _ => rfl
  | 2, _ => rfl
  | 3, _ => rfl
theorem frontAt_zero (l : List Int) (n : Int) : frontAt l n 0 = [0, 0, 0, 0] := by
  refine four_ext (frontAt_length ..) rfl fun i hi => ?_
  rw [frontAt_getD l n _ hi, zeros_getD hi, if_neg (by omega)]
theorem frontAt_full (l : List Int) (n : Int) (h : l.length ≤ 4) : frontAt l n l.length = pad (atL l n) := by
  refine four_ext (frontAt_length ..) (pad_length (by rw [atL_length]; exact h)) fun i hi => ?_
  rw [frontAt_getD l n _ hi]
  by_cases hl : i < l.length
  · rw [if_pos hl]
  · rw [if_neg hl, pad_getD (by rw [atL_length]; omega)]
theorem frontAt_set (l : List Int) (n : Int) (k : Nat) (hk : k < l.length) (h4 : l.length ≤ 4) : (frontAt l n k).set k (n / stride l k % l.getD k 0) = frontAt l n (k + 1) := by
  refine four_ext (by simp [frontAt]) (frontAt_length ..) fun i hi => ?_
  rw [frontAt_getD l n _ hi]
  by_cases e : k = i
  · subst e
    rw [if_pos (by omega), pad_getD_lt (by rw [atL_length]; exact hk), atL_getD l n k hk]
    simp [List.getD_eq_getElem?_getD, frontAt_length, show k < 4 by omega]
  · have h5 : ((frontAt l n k).set k (n / stride l k % l.getD k 0)).getD i 0 = (frontAt l n k).getD i 0 := by
      simp [List.getD_eq_getElem?_getD, List.getElem?_set_ne e]
    rw [h5, frontAt_getD l n _ hi]
    by_cases h6 : i < k
    · rw [if_pos h6, if_pos (by omega)]
    · rw [if_neg h6, if_neg (by omega)]
end Go.Proofs.Ytdaajncfhcpecaa.S
