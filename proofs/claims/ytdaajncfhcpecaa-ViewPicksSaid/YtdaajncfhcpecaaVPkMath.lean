/- Plain words of chapter 8: a view without an axis of which one index is picked can be, where the view can. No condition. -/
import Derived.Test.YtdaajncfhcpecaaVSlMath
import Derived.Test.YtdaajncfhcpecaaTurnsLaw
namespace Go.Proofs.Ytdaajncfhcpecaa
set_option linter.unusedVariables false
set_option linter.unusedSimpArgs false
namespace V
theorem getD_erase {l : List Int} {k : Nat} (hk : k < l.length) (m : Nat) : (l.eraseIdx k).getD m 0 = if m < k then l.getD m 0 else l.getD (m + 1) 0 := by
  rw [List.getD_eq_getElem?_getD, List.getElem?_eraseIdx]
  split <;> rw [← List.getD_eq_getElem?_getD]
theorem erase_length {l : List Int} {k : Nat} (hk : k < l.length) : (l.eraseIdx k).length = l.length - 1 := by rw [List.length_eraseIdx, if_pos hk]
theorem prod_erase : ∀ (l : List Int) (k : Nat), k < l.length → S.prod l = l.getD k 0 * S.prod (l.eraseIdx k)
  | [], k, h => by simp at h
  | r :: rs, 0, _ => by simp [S.prod]
  | r :: rs, k + 1, h => by
    have ih := prod_erase rs k (by simpa using h)
    simp only [List.eraseIdx_cons_succ, S.prod]
    rw [ih]
    have : (r :: rs).getD (k + 1) 0 = rs.getD k 0 := by simp
    rw [this, ← Int.mul_assoc, ← Int.mul_assoc, Int.mul_comm r]
theorem erase_ok {l : List Int} (hok : S.Ok l) {k : Nat} (hk : k < l.length) : S.Ok (l.eraseIdx k) := by
  have hp := prod_erase l k hk
  have h1 := hok.2.1 _ (S.getD_mem hk)
  have hm : ∀ r ∈ l.eraseIdx k, 1 ≤ r := fun r hr => hok.2.1 r (List.mem_of_mem_eraseIdx hr)
  have h2 := S.prod_pos _ hm
  have h3 := S.mul_ge h2 h1
  have h4 := hok.2.2
  rw [Int.mul_comm] at h3
  exact ⟨by rw [erase_length hk]; have := hok.1; omega, hm, by omega⟩
/-- An index with one more axis. -/
def ins (k : Nat) (at' : Int) (i : List Int) : List Int := (List.range 4).map fun j => if j < k then i.getD j 0 else if j = k then at' else i.getD (j - 1) 0
theorem ins_length (k : Nat) (a : Int) (i : List Int) : (ins k a i).length = 4 := by simp [ins]
theorem ins_get (k : Nat) (a : Int) (i : List Int) {j : Nat} (hj : j < 4) : (ins k a i).getD j 0 = if j < k then i.getD j 0 else if j = k then a else i.getD (j - 1) 0 := by
  simp [ins, List.getD_eq_getElem?_getD, hj]
/-- .. of which so many are laid. -/
def insPart (k n : Nat) (i : List Int) : List Int := (List.range 4).map fun j => if j < k then (if j < n then i.getD j 0 else 0) else if j = k then 0 else if j - 1 < n then i.getD (j - 1) 0 else 0
theorem insPart_length (k n : Nat) (i : List Int) : (insPart k n i).length = 4 := by simp [insPart]
theorem insPart_get (k n : Nat) (i : List Int) {j : Nat} (hj : j < 4) : (insPart k n i).getD j 0 = if j < k then (if j < n then i.getD j 0 else 0) else if j = k then 0 else if j - 1 < n then i.getD (j - 1) 0 else 0 := by
  simp [insPart, List.getD_eq_getElem?_getD, hj]
theorem insPart_zero (k : Nat) (i : List Int) : insPart k 0 i = [0, 0, 0, 0] := by
  apply S.four_ext (insPart_length ..) rfl
  intro j hj
  rw [insPart_get k 0 i hj]
  have : ([0, 0, 0, 0] : List Int).getD j 0 = 0 := S.zeros_getD hj
  rw [this]
  split
  · rw [if_neg (by omega)]
  · split
    · rfl
    · rw [if_neg (by omega)]
theorem insPart_lo {k n : Nat} (i : List Int) (hn : n < k) (h4 : n < 4) : (insPart k n i).set n (i.getD n 0) = insPart k (n + 1) i := by
  apply S.four_ext (by rw [List.length_set]; exact insPart_length ..) (insPart_length ..)
  intro j hj
  rw [insPart_get k (n + 1) i hj]
  by_cases e : n = j
  · subst e
    rw [getD_set_self (by rw [insPart_length]; exact h4), if_pos hn, if_pos (by omega)]
  · rw [getD_set_other e, insPart_get k n i hj]
    by_cases h1 : j < k
    · rw [if_pos h1, if_pos h1]
      by_cases h2 : j < n
      · rw [if_pos h2, if_pos (by omega)]
      · rw [if_neg h2, if_neg (by omega)]
    · rw [if_neg h1, if_neg h1]
      by_cases h2 : j = k
      · rw [if_pos h2, if_pos h2]
      · rw [if_neg h2, if_neg h2, if_neg (by omega), if_neg (by omega)]
theorem insPart_hi {k n : Nat} (i : List Int) (hn : k ≤ n) (h4 : n + 1 < 4) : (insPart k n i).set (n + 1) (i.getD n 0) = insPart k (n + 1) i := by
  apply S.four_ext (by rw [List.length_set]; exact insPart_length ..) (insPart_length ..)
  intro j hj
  rw [insPart_get k (n + 1) i hj]
  by_cases e : n + 1 = j
  · subst e
    rw [getD_set_self (by rw [insPart_length]; exact h4), if_neg (by omega), if_neg (by omega), if_pos (by omega), Nat.add_sub_cancel]
  · rw [getD_set_other e, insPart_get k n i hj]
    by_cases h1 : j < k
    · rw [if_pos h1, if_pos h1, if_pos (by omega), if_pos (by omega)]
    · rw [if_neg h1, if_neg h1]
      by_cases h2 : j = k
      · rw [if_pos h2, if_pos h2]
      · rw [if_neg h2, if_neg h2]
        by_cases h3 : j - 1 < n
        · rw [if_pos h3, if_pos (by omega)]
        · rw [if_neg h3, if_neg (by omega)]
theorem insPart_end {k n : Nat} (i : List Int) (a : Int) (hk : k < 4) (hz : ∀ j, n ≤ j → i.getD j 0 = 0) : (insPart k n i).set k a = ins k a i := by
  apply S.four_ext (by rw [List.length_set]; exact insPart_length ..) (ins_length ..)
  intro j hj
  rw [ins_get k a i hj]
  by_cases e : k = j
  · subst e
    rw [getD_set_self (by rw [insPart_length]; exact hk), if_neg (by omega), if_pos rfl]
  · rw [getD_set_other e, insPart_get k n i hj]
    by_cases h1 : j < k
    · rw [if_pos h1, if_pos h1]
      by_cases h2 : j < n
      · rw [if_pos h2]
      · rw [if_neg h2, hz j (by omega)]
    · have e' : ¬ j = k := fun h => e h.symm
      rw [if_neg h1, if_neg h1, if_neg e', if_neg e']
      by_cases h3 : j - 1 < n
      · rw [if_pos h3]
      · rw [if_neg h3, hz (j - 1) (by omega)]
theorem ins_idx {l : List Int} (hok : S.Ok l) {k : Nat} (hk : k < l.length) {a : Int} (ha0 : 0 ≤ a) (ha : a < l.getD k 0) {i : List Int} (h4 : i.length = 4) (hi : S.isL (l.eraseIdx k) i = true) : S.isL l (ins k a i) = true := by
  have hl := hok.1
  have hel := erase_length hk
  have hb := isL_iff (by omega) (erase_ok hok hk).2.1 hi
  refine isL_of _ _ (by rw [ins_length]; exact hl) (fun j hj => ?_) (fun j hj => ?_)
  · rw [ins_get k a i (by omega)]
    by_cases h1 : j < k
    · have := hb.1 j (by omega)
      rw [getD_erase hk, if_pos h1] at this
      rw [if_pos h1]
      exact this
    · rw [if_neg h1]
      by_cases h2 : j = k
      · subst h2; rw [if_pos rfl]; exact ⟨ha0, ha⟩
      · have := hb.1 (j - 1) (by omega)
        rw [getD_erase hk, if_neg (by omega), show j - 1 + 1 = j by omega] at this
        rw [if_neg h2]
        exact this
  · by_cases hj4 : j < 4
    · rw [ins_get k a i hj4, if_neg (by omega), if_neg (by omega)]
      exact hb.2 (j - 1) (by omega)
    · rw [List.getD_eq_getElem?_getD, List.getElem?_eq_none (by rw [ins_length]; omega)]; rfl
theorem sumR_lo {s i : List Int} {k : Nat} (a : Int) (hk : k < s.length) : ∀ m, m ≤ k → m ≤ 4 → sumR (s.eraseIdx k) i m = sumR s (ins k a i) m
  | 0, _, _ => rfl
  | m + 1, hm, h4 => by
    simp only [sumR]
    rw [sumR_lo a hk m (by omega) (by omega), getD_erase hk, if_pos (by omega), ins_get k a i (by omega), if_pos (by omega)]
theorem sumR_hi {s i : List Int} {k : Nat} (a : Int) (hk : k < s.length) : ∀ m, k ≤ m → m < 4 → sumR (s.eraseIdx k) i m = sumR s (ins k a i) (m + 1) - a * cut (s.getD k 0)
  | 0, hm, h4 => by
    obtain rfl : k = 0 := by omega
    simp only [sumR]
    rw [ins_get 0 a i (by omega), if_neg (by omega), if_pos rfl]
    omega
  | m + 1, hm, h4 => by
    by_cases e : k = m + 1
    · subst e
      rw [sumR_lo a hk (m + 1) (Nat.le_refl _) (by omega)]
      have : sumR s (ins (m + 1) a i) (m + 1 + 1) = sumR s (ins (m + 1) a i) (m + 1) + (ins (m + 1) a i).getD (m + 1) 0 * cut (s.getD (m + 1) 0) := rfl
      rw [this, ins_get (m + 1) a i h4, if_neg (by omega), if_pos rfl]
      omega
    · have ih := sumR_hi (i := i) a hk m (by omega) (by omega)
      have h1 : sumR (s.eraseIdx k) i (m + 1) = sumR (s.eraseIdx k) i m + i.getD m 0 * cut ((s.eraseIdx k).getD m 0) := rfl
      have h2 : sumR s (ins k a i) (m + 1 + 1) = sumR s (ins k a i) (m + 1) + (ins k a i).getD (m + 1) 0 * cut (s.getD (m + 1) 0) := rfl
      rw [h1, h2, ih, getD_erase hk, if_neg (by omega), ins_get k a i h4, if_neg (by omega), if_neg (by omega), Nat.add_sub_cancel]
      omega
theorem ins_cell {o : Int} {l s : List Int} (hq : check o l s 4096 = 0) {k : Nat} (hk : k < l.length) {a : Int} (ha0 : 0 ≤ a) (ha : a < l.getD k 0) (i : List Int) :
    cellR (slO o l s k a) (s.eraseIdx k) i (s.eraseIdx k).length = cellR o s (ins k a i) s.length := by
  obtain ⟨hls, hok, _⟩ := check_zero hq
  have hl := hok.1
  have hks : k < s.length := by omega
  have hg : slGood (l.getD k 0) a 1 1 := by
    have hsl : slT 1 1 = 1 := rfl
    unfold slGood
    rw [hsl]
    exact ⟨by omega, by omega, by omega, by omega, by omega, by omega, by omega, by omega, by omega⟩
  obtain ⟨b1, b2, b3, b4, b5, b6, b7, b8, b9, b10, b11⟩ := slBound hq hk hg
  unfold cellR slO
  rw [erase_length hks, sumR_hi a hks (s.length - 1) (by omega) (by omega), show s.length - 1 + 1 = s.length by omega, cut_near (n := o + a * jumpOf l s k) (by omega) (by omega), cut_near (n := o) (by omega) (by omega)]
  have e : a * cut (s.getD k 0) = a * jumpOf l s k := by
    by_cases h1 : 1 < l.getD k 0
    · have hq' := revO_bound hq hk h1
      rw [(b10 h1).1, cut_near (by omega) (by omega)]
    · obtain ⟨_, h0, _, _⟩ := b11 h1
      rw [h0, Int.zero_mul, Int.zero_mul]
  omega
theorem pk_check {o : Int} {l s : List Int} (hq : check o l s 4096 = 0) {k : Nat} (hk : k < l.length) {a : Int} (ha0 : 0 ≤ a) (ha : a < l.getD k 0) : check (slO o l s k a) (l.eraseIdx k) (s.eraseIdx k) 4096 = 0 := by
  obtain ⟨hls, hok, _⟩ := check_zero hq
  have hl := hok.1
  have hks : k < s.length := by omega
  have hel := erase_length hk
  refine check_idx hq (by rw [erase_length hk, erase_length hks, hls]) (erase_ok hok hk) (ins k a) (fun i h4 hi => ?_) (fun i j hi4 hj4 hi hj he => ?_)
  · exact ⟨ins_length .., ins_idx hok hk ha0 ha h4 hi, ins_cell hq hk ha0 ha i⟩
  · apply S.four_ext hi4 hj4
    intro m hm
    by_cases h1 : m < k
    · have : (ins k a i).getD m 0 = (ins k a j).getD m 0 := by rw [he]
      rw [ins_get k a i hm, ins_get k a j hm, if_pos h1, if_pos h1] at this
      exact this
    · by_cases h2 : m + 1 < 4
      · have : (ins k a i).getD (m + 1) 0 = (ins k a j).getD (m + 1) 0 := by rw [he]
        rw [ins_get k a i h2, ins_get k a j h2, if_neg (by omega), if_neg (by omega), if_neg (by omega), if_neg (by omega), Nat.add_sub_cancel] at this
        exact this
      · rw [(isL_iff (by omega) (erase_ok hok hk).2.1 hi).2 m (by omega), (isL_iff (by omega) (erase_ok hok hk).2.1 hj).2 m (by omega)]
end V
end Go.Proofs.Ytdaajncfhcpecaa
