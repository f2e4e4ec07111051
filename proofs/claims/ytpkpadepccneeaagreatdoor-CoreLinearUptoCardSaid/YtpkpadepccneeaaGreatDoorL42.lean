/- Plain lists: sorting by insertion: two neighbours that are exchanged. No program in it. No condition. -/
import Derived.Test.YtpkpadepccneeaaGreatDoorL34
import Derived.Test.YtpkpadepccneeaaGreatDoorL39
namespace Go.Proofs.YtpkpadepccneeaaGreatDoor
set_option linter.unusedVariables false
set_option linter.unusedSimpArgs false
/-- Two neighbours exchanged. -/
def swp (xs : List Nat) (j : Nat) : List Nat := (xs.set (j + 1) (xs.getD j 0)).set j (xs.getD (j + 1) 0)
theorem swp_len (xs : List Nat) (j : Nat) : (swp xs j).length = xs.length := by simp [swp]
theorem getD_set (xs : List Nat) (i k x : Nat) (hi : i < xs.length) : (xs.set i x).getD k 0 = if k = i then x else xs.getD k 0 := by
  rw [List.getD_eq_getElem?_getD, List.getElem?_set, List.getD_eq_getElem?_getD]
  by_cases h : i = k
  · subst h
    simp [hi]
  · rw [if_neg h, if_neg (fun e => h e.symm)]
theorem swp_at (xs : List Nat) (j k : Nat) (h : j + 1 < xs.length) : (swp xs j).getD k 0 = if k = j then xs.getD (j + 1) 0 else if k = j + 1 then xs.getD j 0 else xs.getD k 0 := by
  unfold swp
  rw [getD_set _ _ _ _ (by rw [List.length_set]; omega), getD_set _ _ _ _ h]
theorem swp_perm (xs : List Nat) (j : Nat) (h : j + 1 < xs.length) : (swp xs j).Perm xs := by
  unfold swp
  have e1 : xs.getD j 0 = xs[j] := by rw [List.getD_eq_getElem?_getD, List.getElem?_eq_getElem (by omega)]; rfl
  have e2 : xs.getD (j + 1) 0 = xs[j + 1] := by rw [List.getD_eq_getElem?_getD, List.getElem?_eq_getElem h]; rfl
  rw [e1, e2]
  exact List.set_set_perm h (by omega)
/-- Sorted below i. -/
def SrtTo (xs : List Nat) (i : Nat) : Prop := ∀ a b, a < b → b < i → xs.getD a 0 ≤ xs.getD b 0
/-- Sorted up to i but for what stands at j, which is no greater than what is behind it. -/
def SrtBut (xs : List Nat) (i j : Nat) : Prop := (∀ a b, a < b → b ≤ i → a ≠ j → b ≠ j → xs.getD a 0 ≤ xs.getD b 0) ∧ ∀ b, j < b → b ≤ i → xs.getD j 0 ≤ xs.getD b 0
theorem SrtBut.start {xs : List Nat} {i : Nat} (h : SrtTo xs i) : SrtBut xs i i :=
  ⟨fun a b h1 h2 h3 h4 => h a b h1 (by omega), fun b h1 h2 => by omega⟩
theorem SrtBut.low {xs : List Nat} {i : Nat} (h : SrtBut xs i 0) : SrtTo xs (i + 1) := fun a b h1 h2 => by
  by_cases ha : a = 0
  · subst ha; exact h.2 b h1 (by omega)
  · exact h.1 a b h1 (by omega) ha (by omega)
theorem SrtBut.stop {xs : List Nat} {i j : Nat} (h : SrtBut xs i (j + 1)) (hle : xs.getD j 0 ≤ xs.getD (j + 1) 0) (hji : j + 1 ≤ i) : SrtTo xs (i + 1) := fun a b h1 h2 => by
  by_cases ha : a = j + 1
  · subst ha; exact h.2 b h1 (by omega)
  by_cases hb : b = j + 1
  · subst hb
    by_cases haj : a = j
    · subst haj; exact hle
    · exact Nat.le_trans (h.1 a j (by omega) (by omega) ha (by omega)) hle
  · exact h.1 a b h1 (by omega) ha hb
theorem SrtBut.go {xs : List Nat} {i j : Nat} (h : SrtBut xs i (j + 1)) (hlt : xs.getD (j + 1) 0 < xs.getD j 0) (hji : j + 1 ≤ i) (hi : i < xs.length) : SrtBut (swp xs j) i j := by
  have hj : j + 1 < xs.length := by omega
  refine ⟨fun a b h1 h2 h3 h4 => ?_, fun b h1 h2 => ?_⟩
  · rw [swp_at xs j a hj, swp_at xs j b hj, if_neg h3, if_neg h4]
    by_cases ha : a = j + 1
    · subst ha
      rw [if_pos rfl, if_neg (by omega)]
      exact h.1 j b (by omega) h2 (by omega) (by omega)
    · rw [if_neg ha]
      by_cases hb : b = j + 1
      · subst hb
        rw [if_pos rfl]
        exact h.1 a j (by omega) (by omega) ha (by omega)
      · rw [if_neg hb]
        exact h.1 a b h1 h2 ha hb
  · rw [swp_at xs j j hj, swp_at xs j b hj, if_pos rfl, if_neg (by omega)]
    by_cases hb : b = j + 1
    · subst hb; rw [if_pos rfl]; omega
    · rw [if_neg hb]; exact h.2 b (by omega) h2
/-- Sorted, each once: rising. -/
theorem SrtTo.rise {xs : List Nat} (h : SrtTo xs xs.length) (hn : xs.Nodup) : ∀ i j, i < j → j < xs.length → xs.getD i 0 < xs.getD j 0 := fun i j h1 h2 => by
  have h3 := h i j h1 h2
  refine Nat.lt_of_le_of_ne h3 fun e => ?_
  rw [List.getD_eq_getElem?_getD, List.getD_eq_getElem?_getD, List.getElem?_eq_getElem h2, List.getElem?_eq_getElem (by omega)] at e
  exact List.pairwise_iff_getElem.1 hn i j (by omega) h2 h1 (show xs[i] = xs[j] from e)
theorem len_of_sub {xs ks : List Nat} (hn : xs.Nodup) (h : ∀ x ∈ xs, x ∈ ks) : xs.length ≤ ks.length := by
  refine Nat.le_of_not_lt fun hlt => ?_
  obtain ⟨i, j, h1, h2, h3⟩ := Nt.pigeon ks.length (fun i => ks.idxOf (xs.getD i 0)) (fun i hi => by
    have hi' : i < xs.length := by omega
    have : xs.getD i 0 ∈ xs := by rw [List.getD_eq_getElem?_getD, List.getElem?_eq_getElem hi']; exact List.getElem_mem hi'
    exact List.idxOf_lt_length_of_mem (h _ this))
  have h3' : ks.idxOf (xs.getD i 0) = ks.idxOf (xs.getD j 0) := h3
  have hi' : i < xs.length := by omega
  have hj' : j < xs.length := by omega
  have m1 : xs.getD i 0 ∈ ks := h _ (by rw [List.getD_eq_getElem?_getD, List.getElem?_eq_getElem hi']; exact List.getElem_mem hi')
  have m2 : xs.getD j 0 ∈ ks := h _ (by rw [List.getD_eq_getElem?_getD, List.getElem?_eq_getElem hj']; exact List.getElem_mem hj')
  have e1 := List.getElem_idxOf (List.idxOf_lt_length_of_mem m1)
  have e2 := List.getElem_idxOf (List.idxOf_lt_length_of_mem m2)
  have e : xs.getD i 0 = xs.getD j 0 := by rw [← e1, ← e2]; congr 1
  rw [List.getD_eq_getElem?_getD, List.getD_eq_getElem?_getD, List.getElem?_eq_getElem hi', List.getElem?_eq_getElem hj'] at e
  exact List.pairwise_iff_getElem.1 hn i j hi' hj' h1 (show xs[i] = xs[j] from e)
end Go.Proofs.YtpkpadepccneeaaGreatDoor
