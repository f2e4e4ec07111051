/- Plain mathematics of chapter 7, third part: the index behind one. No program in it. No condition. -/
import Derived.Test.YtdaajncfhcpecaaSMath2
namespace Go.Proofs.Ytdaajncfhcpecaa.S
set_option linter.unusedVariables false
set_option linter.unusedSimpArgs false
/-- From j on as of the next number, ahead of it as of this one. -/
def mixAt (l : List Int) (n : Int) (j : Nat) : List Int := (List.range 4).map fun i => if j ≤ i then (pad (atL l (n + 1))).getD i 0 else (pad (atL l n)).getD i 0
theorem mixAt_length (l : List Int) (n : Int) (j : Nat) : (mixAt l n j).length = 4 := by simp [mixAt]
theorem mixAt_getD (l : List Int) (n : Int) (j : Nat) {i : Nat} (h : i < 4) : (mixAt l n j).getD i 0 = if j ≤ i then (pad (atL l (n + 1))).getD i 0 else (pad (atL l n)).getD i 0 := by
  simp [mixAt, h]
theorem mixAt_top (l : List Int) (n : Int) (h : l.length ≤ 4) : mixAt l n l.length = pad (atL l n) := by
  refine four_ext (mixAt_length ..) (pad_length (by rw [atL_length]; exact h)) fun i hi => ?_
  rw [mixAt_getD l n _ hi]
  by_cases hl : l.length ≤ i
  · rw [if_pos hl, pad_getD (by rw [atL_length]; exact hl), pad_getD (by rw [atL_length]; exact hl)]
  · rw [if_neg hl]
theorem mixAt_zero (l : List Int) (n : Int) (h : l.length ≤ 4) : mixAt l n 0 = pad (atL l (n + 1)) := by
  refine four_ext (mixAt_length ..) (pad_length (by rw [atL_length]; exact h)) fun i hi => ?_
  rw [mixAt_getD l n _ hi, if_pos (by omega)]
theorem mixAt_at (l : List Int) (n : Int) {k : Nat} (hk : k < l.length) (h4 : l.length ≤ 4) : (mixAt l n (k + 1)).getD k 0 = n / stride l k % l.getD k 0 := by
  rw [mixAt_getD l n _ (by omega), if_neg (by omega), pad_getD_lt (by rw [atL_length]; exact hk), atL_getD l n k hk]
/-- All behind is full: it goes on to the next. -/
def Full (l : List Int) (n : Int) (j : Nat) : Prop := n % prod (l.drop j) = prod (l.drop j) - 1
theorem full_top (l : List Int) (n : Int) : Full l n l.length := by unfold Full; rw [List.drop_length]; simp [prod, Int.emod_one]
theorem full_div (l : List Int) (n : Int) (k : Nat) (h : ∀ r ∈ l, 1 ≤ r) (hf : Full l n (k + 1)) : (n + 1) / stride l k = n / stride l k + 1 := by
  have hp : 1 ≤ stride l k := prod_drop_pos l (k + 1) h
  have hf' : n % stride l k = stride l k - 1 := hf
  have e := Int.mul_ediv_add_emod n (stride l k)
  have e2 : n + 1 = stride l k * (n / stride l k + 1) := by rw [Int.mul_add, Int.mul_one]; omega
  rw [e2, Int.mul_ediv_cancel_left _ (by omega)]
theorem next_digit (l : List Int) (n : Int) {k : Nat} (hk : k < l.length) (h4 : l.length ≤ 4) (h : ∀ r ∈ l, 1 ≤ r) (hf : Full l n (k + 1)) :
    (pad (atL l (n + 1))).getD k 0 = (n / stride l k + 1) % l.getD k 0 := by
  rw [pad_getD_lt (by rw [atL_length]; exact hk), atL_getD l (n + 1) k hk, full_div l n k h hf]
theorem emod_succ_lt {a s : Int} (hs : 1 ≤ s) (h : a % s + 1 < s) : (a + 1) % s = a % s + 1 := by
  have h0 := Int.emod_nonneg a (show s ≠ 0 by omega)
  have e := Int.mul_ediv_add_emod a s
  have e2 : a + 1 = (a % s + 1) + s * (a / s) := by omega
  rw [e2, Int.add_mul_emod_self_left, Int.emod_eq_of_lt (by omega) h]
theorem ediv_succ_lt {a s : Int} (hs : 1 ≤ s) (h : a % s + 1 < s) : (a + 1) / s = a / s := by
  have h0 := Int.emod_nonneg a (show s ≠ 0 by omega)
  have e := Int.mul_ediv_add_emod a s
  have e2 : a + 1 = (a % s + 1) + s * (a / s) := by omega
  rw [e2, Int.add_mul_ediv_left _ _ (by omega), Int.ediv_eq_zero_of_lt (by omega) h, Int.zero_add]
theorem emod_succ_eq {a s : Int} (hs : 1 ≤ s) (h : a % s + 1 = s) : (a + 1) % s = 0 := by
  have e := Int.mul_ediv_add_emod a s
  have e2 : a + 1 = s * (a / s + 1) := by rw [Int.mul_add, Int.mul_one]; omega
  rw [e2]; exact Int.mul_emod_right _ _
/-- The numbers behind a place, and the place itself. -/
theorem div_up (l : List Int) (n : Int) : ∀ (k i : Nat), i < k → k < l.length → (∀ r ∈ l, 1 ≤ r) → ∃ c, ∀ m : Int, m / stride l i = m / (stride l k * l.getD k 0) / c
  | 0, i, hi, _, _ => by omega
  | k + 1, i, hi, hk, h => by
    have e : stride l k = stride l (k + 1) * l.getD (k + 1) 0 := by
      have := prod_drop_at l (k := k + 1) hk
      rw [Int.mul_comm]; exact this
    have hp1 : 1 ≤ stride l (k + 1) * l.getD (k + 1) 0 := by rw [← e]; exact prod_drop_pos l (k + 1) h
    by_cases hik : i = k
    · subst hik
      exact ⟨1, fun m => by rw [e, Int.ediv_one]⟩
    · obtain ⟨c, hc⟩ := div_up l n k i (by omega) (by omega) h
      refine ⟨l.getD k 0 * c, fun m => ?_⟩
      have hr := h _ (getD_mem (l := l) (k := k) (by omega))
      rw [hc m, e, ← Int.ediv_ediv_of_nonneg (by omega), Int.ediv_ediv_of_nonneg (by omega)]
/-- No carry: the index behind this one. -/
theorem next_stop (l : List Int) (n : Int) {k : Nat} (hk : k < l.length) (h4 : l.length ≤ 4) (h : ∀ r ∈ l, 1 ≤ r) (hf : Full l n (k + 1)) (hd : n / stride l k % l.getD k 0 + 1 < l.getD k 0) :
    (mixAt l n (k + 1)).set k (n / stride l k % l.getD k 0 + 1) = pad (atL l (n + 1)) := by
  have hr := h _ (getD_mem hk)
  refine four_ext (by simp [mixAt]) (pad_length (by rw [atL_length]; exact h4)) fun i hi => ?_
  by_cases e : k = i
  · subst e
    rw [next_digit l n hk h4 h hf, emod_succ_lt hr hd]
    simp [List.getD_eq_getElem?_getD, mixAt_length, show k < 4 by omega]
  · have h5 : ((mixAt l n (k + 1)).set k (n / stride l k % l.getD k 0 + 1)).getD i 0 = (mixAt l n (k + 1)).getD i 0 := by
      simp [List.getD_eq_getElem?_getD, List.getElem?_set_ne e]
    rw [h5, mixAt_getD l n _ hi]
    by_cases h6 : k + 1 ≤ i
    · rw [if_pos h6]
    · rw [if_neg h6, pad_getD_lt (by rw [atL_length]; omega), pad_getD_lt (by rw [atL_length]; omega), atL_getD l n i (by omega), atL_getD l (n + 1) i (by omega)]
      obtain ⟨c, hc⟩ := div_up l n k i (by omega) hk h
      have hp : 1 ≤ stride l k := prod_drop_pos l (k + 1) h
      rw [hc n, hc (n + 1), ← Int.ediv_ediv_of_nonneg (show 0 ≤ stride l k by omega), ← Int.ediv_ediv_of_nonneg (show 0 ≤ stride l k by omega), full_div l n k h hf, ediv_succ_lt hr hd]
/-- A carry. -/
theorem next_carry (l : List Int) (n : Int) {k : Nat} (hk : k < l.length) (h4 : l.length ≤ 4) (h : ∀ r ∈ l, 1 ≤ r) (hf : Full l n (k + 1)) (hd : ¬ n / stride l k % l.getD k 0 + 1 < l.getD k 0) :
    (mixAt l n (k + 1)).set k 0 = mixAt l n k ∧ Full l n k := by
  have hr := h _ (getD_mem hk)
  have hlt := Int.emod_lt_of_pos (n / stride l k) (show 0 < l.getD k 0 by omega)
  have hd2 : n / stride l k % l.getD k 0 + 1 = l.getD k 0 := by omega
  refine ⟨?_, ?_⟩
  · refine four_ext (by simp [mixAt]) (mixAt_length ..) fun i hi => ?_
    by_cases e : k = i
    · subst e
      rw [mixAt_getD l n _ hi, if_pos (Nat.le_refl _), next_digit l n hk h4 h hf, emod_succ_eq hr hd2]
      simp [List.getD_eq_getElem?_getD, mixAt_length, show k < 4 by omega]
    · have h5 : ((mixAt l n (k + 1)).set k 0).getD i 0 = (mixAt l n (k + 1)).getD i 0 := by
        simp [List.getD_eq_getElem?_getD, List.getElem?_set_ne e]
      rw [h5, mixAt_getD l n _ hi, mixAt_getD l n _ hi]
      by_cases h6 : k ≤ i
      · rw [if_pos h6, if_pos (by omega)]
      · rw [if_neg h6, if_neg (by omega)]
  · have hp : 1 ≤ stride l k := prod_drop_pos l (k + 1) h
    have hf' : n % stride l k = stride l k - 1 := hf
    have e1 := Int.mul_ediv_add_emod n (stride l k)
    have e2 := Int.mul_ediv_add_emod (n / stride l k) (l.getD k 0)
    have e3 : prod (l.drop k) = l.getD k 0 * stride l k := prod_drop_at l hk
    unfold Full
    rw [e3]
    have e4 : n = l.getD k 0 * stride l k * (n / stride l k / l.getD k 0) + (l.getD k 0 * stride l k - 1) := by
      have e5 : stride l k * (n / stride l k) = stride l k * (l.getD k 0 * (n / stride l k / l.getD k 0)) + stride l k * (n / stride l k % l.getD k 0) := by rw [← Int.mul_add, e2]
      have e6 : n / stride l k % l.getD k 0 = l.getD k 0 - 1 := by omega
      rw [e6, Int.mul_sub, Int.mul_one] at e5
      have e7 : stride l k * (l.getD k 0 * (n / stride l k / l.getD k 0)) = l.getD k 0 * stride l k * (n / stride l k / l.getD k 0) := by ac_rfl
      have e8 : stride l k * l.getD k 0 = l.getD k 0 * stride l k := Int.mul_comm _ _
      omega
    have hpos := mul_pos' hr hp
    generalize l.getD k 0 * stride l k = m at *
    generalize n / stride l k / l.getD k 0 = q at *
    rw [e4, Int.add_comm, Int.add_mul_emod_self_left, Int.emod_eq_of_lt (by omega) (by omega)]
theorem atL_zero : ∀ (l : List Int), (∀ r ∈ l, 1 ≤ r) → atL l 0 = List.replicate l.length 0
  | [], _ => rfl
  | s :: ss, h => by
    rw [List.length_cons, List.replicate_succ, atL, atL_zero ss fun x hx => h x (by simp [hx]), Int.zero_ediv, Int.zero_emod]
theorem pad_zero (l : List Int) (h : Ok l) : pad (atL l 0) = [0, 0, 0, 0] := by
  have hl := h.1
  refine four_ext (pad_length (by rw [atL_length]; exact hl)) rfl fun i hi => ?_
  rw [zeros_getD hi]
  by_cases hi2 : i < l.length
  · rw [pad_getD_lt (by rw [atL_length]; exact hi2), atL_zero l h.2.1]
    simp [hi2]
  · rw [pad_getD (by rw [atL_length]; omega)]
end Go.Proofs.Ytdaajncfhcpecaa.S
