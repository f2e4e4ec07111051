/- Where not all is near, some cell lies outside: so both Checks say the same. No condition. -/
import Derived.Test.YtdaajncfhcpecaaVCheck
namespace Go.Proofs.Ytdaajncfhcpecaa.V
set_option linter.unusedVariables false
theorem isL_of : ∀ (l i : List Int), l.length ≤ i.length → (∀ k, k < l.length → 0 ≤ i.getD k 0 ∧ i.getD k 0 < l.getD k 0) → (∀ k, l.length ≤ k → i.getD k 0 = 0) → S.isL l i = true
  | [], [], _, _, _ => rfl
  | [], x :: is, _, _, h => by
    have h0 : x = 0 := by simpa using h 0 (by simp)
    simp only [S.isL, if_pos h0]
    exact isL_of [] is (by simp) (by simp) fun k _ => by simpa using h (k + 1) (by simp)
  | s :: ss, [], h, _, _ => absurd h (by simp)
  | s :: ss, x :: is, hl, h, hz => by
    have h0 : 0 ≤ x ∧ x < s := by simpa using h 0 (by simp)
    simp only [S.isL, if_pos h0]
    exact isL_of ss is (by simpa using hl) (fun k hk => by simpa using h (k + 1) (by simpa using hk)) fun k hk => by simpa using hz (k + 1) (by simpa using hk)
/-- The index that goes one step on one axis. -/
def unit (k : Nat) : List Int := (List.replicate 4 0).set k 1
theorem unit_get (k : Nat) (hk : k < 4) (j : Nat) : (unit k).getD j 0 = if j = k then 1 else 0 := by
  unfold unit
  rw [List.getD_eq_getElem?_getD, List.getElem?_set]
  by_cases e : k = j
  · subst e
    rw [if_pos rfl, if_pos (by simpa using hk), if_pos rfl]; rfl
  · rw [if_neg e, if_neg (fun h => e h.symm), List.getElem?_replicate]
    split <;> rfl
theorem sumR_unit (s : List Int) (k : Nat) (hk : k < 4) : ∀ m, sumR s (unit k) m = if k < m then cut (s.getD k 0) else 0
  | 0 => by simp [sumR]
  | m + 1 => by
    simp only [sumR]
    rw [sumR_unit s k hk m, unit_get k hk m]
    by_cases e : m = k
    · subst e
      rw [if_pos rfl, if_neg (by omega), if_pos (by omega)]
      omega
    · rw [if_neg e]
      by_cases h : k < m
      · rw [if_pos h, if_pos (by omega)]; omega
      · rw [if_neg h, if_neg (by omega)]; omega
theorem sumR_zero (s : List Int) (i : List Int) (hi : ∀ k, i.getD k 0 = 0) : ∀ m, sumR s i m = 0
  | 0 => rfl
  | m + 1 => by simp only [sumR]; rw [sumR_zero s i hi m, hi m]; omega
theorem far_out (o : Int) (l s : List Int) (c : Int) (hok : S.Ok l) (hls : l.length = s.length) (h0 : 0 ≤ c) (h1 : c ≤ 4096) (hn : ¬ near o l s c) : ∃ n, n < sizeN l ∧ ¬ (0 ≤ cellOf o l s n ∧ cellOf o l s n < c) := by
  have hN := sizeN_ok hok
  have hp := hok.pos
  by_cases ho : 0 ≤ o ∧ o < c
  · have : ∃ k, k < s.length ∧ ¬ nearAt l s c k := Classical.byContradiction fun h => hn ⟨ho.1, ho.2, fun k hk => Classical.byContradiction fun hna => h ⟨k, hk, hna⟩⟩
    obtain ⟨k, hk, hna⟩ := this
    have hf : 1 < l.getD k 0 ∧ (s.getD k 0 ≤ -c ∨ c ≤ s.getD k 0) := Classical.byContradiction hna
    have hk4 : k < 4 := by have := hok.1; omega
    have hu4 : (unit k).length = 4 := by simp [unit]
    have hi : S.isL l (unit k) = true := by
      refine isL_of l (unit k) (by rw [hu4]; exact hok.1) (fun j hj => ?_) (fun j hj => ?_)
      · rw [unit_get k hk4 j]
        by_cases e : j = k
        · subst e; rw [if_pos rfl]; omega
        · rw [if_neg e]
          have : 1 ≤ l.getD j 0 := by
            rw [List.getD_eq_getElem?_getD, List.getElem?_eq_getElem hj]
            exact hok.2.1 _ (List.getElem_mem hj)
          omega
      · rw [unit_get k hk4 j, if_neg (by omega)]
    have hb := S.sumL_bound l (unit k) (by rw [hu4]; exact hok.1) hok.2.1 hi
    have hat := S.at_num hok hu4 hi
    refine ⟨(S.sumL l (unit k)).toNat, by omega, ?_⟩
    have hc : cellOf o l s (S.sumL l (unit k)).toNat = o + cut (s.getD k 0) := by
      unfold cellOf cellR
      rw [show (((S.sumL l (unit k)).toNat : Nat) : Int) = S.sumL l (unit k) by omega, hat, sumR_unit s k hk4, if_pos hk, cut_near (by omega) (by omega)]
    rw [hc]
    unfold cut
    split <;> (try split) <;> omega
  · refine ⟨0, by omega, ?_⟩
    have hz : S.pad (S.atL l ((0 : Nat) : Int)) = [0, 0, 0, 0] := S.pad_zero l hok
    have hc : cellOf o l s 0 = cut o := by
      unfold cellOf cellR
      rw [hz, sumR_zero s [0, 0, 0, 0] (fun k => by match k with | 0 => rfl | 1 => rfl | 2 => rfl | 3 => rfl | (k + 4) => simp)]
      omega
    rw [hc]
    unfold cut
    split <;> (try split) <;> omega
theorem check_far (o : Int) (l s : List Int) (c : Int) (hok : S.Ok l) (hls : l.length = s.length) (h0 : 0 ≤ c) (h1 : c ≤ 4096) (hn : ¬ near o l s c) : check o l s c = 6 := by
  unfold check
  obtain ⟨n, h2, h3⟩ := far_out o l s c hok hls h0 h1 hn
  rw [if_neg (by omega), hok.size, if_neg (by simp)]
  exact chk_out h2 h3
end Go.Proofs.Ytdaajncfhcpecaa.V
