/- Plain words of chapter 8: a view sliced on an axis can be, where the view can. No condition. -/
import Derived.Test.YtdaajncfhcpecaaVIdx
namespace Go.Proofs.Ytdaajncfhcpecaa
set_option linter.unusedVariables false
set_option linter.unusedSimpArgs false
/-- The step that counts: of one index alone it is 1. -/
def slT (step count : Int) : Int := if count = 1 then 1 else step
/-- So many indexes of n, from one on, by steps, are indexes. -/
def slGood (n fr step count : Int) : Prop := 1 ≤ count ∧ count ≤ n ∧ 0 ≤ fr ∧ fr < n ∧ slT step count ≠ 0 ∧ -n < slT step count ∧ (1 < n → slT step count < n) ∧ 0 ≤ fr + (count - 1) * slT step count ∧ fr + (count - 1) * slT step count < n
def jumpOf (l s : List Int) (k : Nat) : Int := if l.getD k 0 = 1 then 0 else s.getD k 0
def slO (o : Int) (l s : List Int) (k : Nat) (fr : Int) : Int := o + fr * jumpOf l s k
def slS (s : List Int) (k : Nat) (step count : Int) : List Int := s.set k (s.getD k 0 * slT step count)
theorem slS_length (s : List Int) (k : Nat) (step count : Int) : (slS s k step count).length = s.length := by simp [slS]
namespace V
theorem prod_set : ∀ (l : List Int) (k : Nat) (c : Int), (∀ r ∈ l, 1 ≤ r) → k < l.length → 1 ≤ c → c ≤ l.getD k 0 → S.prod (l.set k c) ≤ S.prod l ∧ ∀ r ∈ l.set k c, 1 ≤ r
  | [], k, c, _, hk, _, _ => by simp at hk
  | r :: rs, 0, c, h, _, h1, h2 => by
    have h2' : c ≤ r := by simpa using h2
    have hp := S.prod_pos rs fun x hx => h x (by simp [hx])
    simp only [List.set_cons_zero, S.prod]
    refine ⟨Int.mul_le_mul_of_nonneg_right h2' (by omega), fun x hx => ?_⟩
    rcases List.mem_cons.1 hx with rfl | hx
    · exact h1
    · exact h x (by simp [hx])
  | r :: rs, k + 1, c, h, hk, h1, h2 => by
    have ih := prod_set rs k c (fun x hx => h x (by simp [hx])) (by simpa using hk) h1 (by simpa using h2)
    have hr := h r (by simp)
    simp only [List.set_cons_succ, S.prod]
    refine ⟨Int.mul_le_mul_of_nonneg_left ih.1 (by omega), fun x hx => ?_⟩
    rcases List.mem_cons.1 hx with rfl | hx
    · exact hr
    · exact ih.2 x hx
/-- Where the index stands in the view before. -/
def slIdx (k : Nat) (fr step count : Int) (i : List Int) : List Int := i.set k (fr + i.getD k 0 * slT step count)
theorem slOk {l : List Int} (hok : S.Ok l) {k : Nat} (hk : k < l.length) {fr step count : Int} (hg : slGood (l.getD k 0) fr step count) : S.Ok (l.set k count) := by
  have h := prod_set l k count hok.2.1 hk hg.1 hg.2.1
  exact ⟨by rw [List.length_set]; exact hok.1, h.2, by have := h.1; have := hok.2.2; omega⟩
theorem between {fr x t c n : Int} (h0 : 0 ≤ fr) (h1 : fr < n) (h2 : 0 ≤ fr + (c - 1) * t) (h3 : fr + (c - 1) * t < n) (hx0 : 0 ≤ x) (hx : x < c) : 0 ≤ fr + x * t ∧ fr + x * t < n := by
  rcases Int.le_total 0 t with ht | ht
  · have a := Int.mul_le_mul_of_nonneg_right (show x ≤ c - 1 by omega) ht
    have b := Int.mul_nonneg hx0 ht
    omega
  · have a := Int.mul_le_mul_of_nonpos_right (show x ≤ c - 1 by omega) ht
    have b := Int.mul_nonpos_of_nonneg_of_nonpos hx0 ht
    omega
theorem slIdx_ok {l : List Int} (hok : S.Ok l) {k : Nat} (hk : k < l.length) {fr step count : Int} (hg : slGood (l.getD k 0) fr step count) {i : List Int} (h4 : i.length = 4) (hi : S.isL (l.set k count) i = true) :
    (slIdx k fr step count i).length = 4 ∧ S.isL l (slIdx k fr step count i) = true ∧ 0 ≤ i.getD k 0 ∧ i.getD k 0 < count := by
  have hl := hok.1
  have hok' := slOk hok hk hg
  have hb := isL_iff (by rw [List.length_set]; omega) hok'.2.1 hi
  have hbk := hb.1 k (by rw [List.length_set]; exact hk)
  rw [getD_set_self hk] at hbk
  have hki : k < i.length := by omega
  unfold slIdx
  refine ⟨by rw [List.length_set]; exact h4, isL_of _ _ (by rw [List.length_set]; omega) (fun m hm => ?_) (fun m hm => ?_), hbk⟩
  · by_cases e : k = m
    · subst e
      rw [getD_set_self hki]
      exact between hg.2.2.1 hg.2.2.2.1 hg.2.2.2.2.2.2.2.1 hg.2.2.2.2.2.2.2.2 hbk.1 hbk.2
    · rw [getD_set_other e]
      have := hb.1 m (by rw [List.length_set]; exact hm)
      rw [getD_set_other e] at this
      exact this
  · rw [getD_set_other (by omega)]
    exact hb.2 m (by rw [List.length_set]; exact hm)
theorem slBound {o : Int} {l s : List Int} (hq : check o l s 4096 = 0) {k : Nat} (hk : k < l.length) {fr step count : Int} (hg : slGood (l.getD k 0) fr step count) :
    l.getD k 0 ≤ 4096 ∧ -4096 < slT step count ∧ slT step count < 4096 ∧ -4096 < jumpOf l s k ∧ jumpOf l s k < 4096 ∧ 0 ≤ o ∧ o < 4096 ∧ -16777216 ≤ fr * jumpOf l s k ∧ fr * jumpOf l s k ≤ 16777216 ∧
    (1 < l.getD k 0 → jumpOf l s k = s.getD k 0 ∧ -16777216 ≤ s.getD k 0 * slT step count ∧ s.getD k 0 * slT step count ≤ 16777216) ∧ (¬ 1 < l.getD k 0 → count = 1 ∧ fr = 0 ∧ slT step count = 1 ∧ jumpOf l s k = 0) := by
  obtain ⟨hls, hok, _, _, _, _, hn⟩ := check_zero hq
  have hp := get_le_prod l k hok.2.1
  have hle := hok.2.2
  have h5 := hn.1
  have h6 := hn.2.1
  obtain ⟨g1, g2, g3, g4, g5, g6, g7, g8, g9⟩ := hg
  by_cases h1 : 1 < l.getD k 0
  · have hq' := revO_bound hq hk h1
    have hj : jumpOf l s k = s.getD k 0 := by unfold jumpOf; rw [if_neg (by omega)]
    have h7 := g7 h1
    have hm := mul_bound (x := fr) (y := s.getD k 0) (X := 4096) (Y := 4096) (by omega) (by omega) (by omega) (by omega) (by omega)
    have hm2 : -16777216 ≤ s.getD k 0 * slT step count ∧ s.getD k 0 * slT step count ≤ 16777216 := by
      generalize slT step count = t at *
      generalize s.getD k 0 = y at *
      rcases Int.le_total 0 y with hy | hy
      · have := mul_bound (x := y) (y := t) (X := 4096) (Y := 4096) hy (by omega) (by omega) (by omega) (by omega)
        omega
      · have := mul_bound (x := -y) (y := t) (X := 4096) (Y := 4096) (by omega) (by omega) (by omega) (by omega) (by omega)
        rw [Int.neg_mul] at this
        omega
    rw [hj]
    exact ⟨by omega, by omega, by omega, by omega, by omega, h5, h6, by omega, by omega, fun _ => ⟨rfl, hm2⟩, fun h => absurd h1 h⟩
  · have hc : count = 1 := by omega
    have ht : slT step count = 1 := by unfold slT; rw [if_pos hc]
    have hj : jumpOf l s k = 0 := by unfold jumpOf; rw [if_pos (by omega)]
    rw [hj, ht, Int.mul_zero]
    exact ⟨by omega, by omega, by omega, by omega, by omega, h5, h6, by omega, by omega, fun h => absurd h h1, fun _ => ⟨hc, by omega, rfl, rfl⟩⟩
theorem slCell {o : Int} {l s : List Int} (hq : check o l s 4096 = 0) {k : Nat} (hk : k < l.length) {fr step count : Int} (hg : slGood (l.getD k 0) fr step count) {i : List Int} (h4 : i.length = 4) (hi : S.isL (l.set k count) i = true) :
    cellR (slO o l s k fr) (slS s k step count) i (slS s k step count).length = cellR o s (slIdx k fr step count i) s.length := by
  obtain ⟨hls, hok, _⟩ := check_zero hq
  have hl := hok.1
  have hx := slIdx_ok hok hk hg h4 hi
  obtain ⟨b1, b2, b3, b4, b5, b6, b7, b8, b9, b10, b11⟩ := slBound hq hk hg
  have hks : k < s.length := by omega
  have hki : k < i.length := by omega
  by_cases h1 : 1 < l.getD k 0
  · obtain ⟨hj, b12, b13⟩ := b10 h1
    have hq' := revO_bound hq hk h1
    unfold slO slS cellR slIdx
    rw [hj] at b8 b9
    rw [hj, List.length_set, sumR_set s i k _ (fr + i.getD k 0 * slT step count) hks hki, if_pos hks, cut_near (n := s.getD k 0) (by omega) (by omega), cut_near (n := s.getD k 0 * slT step count) (by omega) (by omega), cut_near (n := o + fr * s.getD k 0) (by omega) (by omega), cut_near (n := o) (by omega) (by omega)]
    have e : i.getD k 0 * (s.getD k 0 * slT step count) - (fr + i.getD k 0 * slT step count) * s.getD k 0 = -(fr * s.getD k 0) := by
      rw [Int.add_mul, Int.mul_assoc, Int.mul_comm (slT step count) (s.getD k 0)]; omega
    omega
  · obtain ⟨hc, hf, ht, hj⟩ := b11 h1
    have hi0 : i.getD k 0 = 0 := by omega
    have e1 : slIdx k fr step count i = i := by
      unfold slIdx
      apply S.four_ext (by rw [List.length_set]; exact h4) h4
      intro m _
      by_cases e : k = m
      · subst e; rw [getD_set_self hki, hf, hi0]; omega
      · rw [getD_set_other e]
    have e2 : slS s k step count = s := by
      unfold slS
      rw [ht, Int.mul_one]
      apply List.ext_getElem (by simp)
      intro m h1 h2
      rw [List.getElem_set]
      split
      · rename_i e; subst e; rw [List.getD_eq_getElem?_getD, List.getElem?_eq_getElem h2]; rfl
      · rfl
    have e3 : slO o l s k fr = o := by unfold slO; rw [hf]; omega
    rw [e1, e2, e3]
theorem sl_check {o : Int} {l s : List Int} (hq : check o l s 4096 = 0) {k : Nat} (hk : k < l.length) {fr step count : Int} (hg : slGood (l.getD k 0) fr step count) : check (slO o l s k fr) (l.set k count) (slS s k step count) 4096 = 0 := by
  obtain ⟨hls, hok, _⟩ := check_zero hq
  have hl := hok.1
  refine check_idx hq (by rw [slS_length, List.length_set, hls]) (slOk hok hk hg) (slIdx k fr step count) (fun i h4 hi => ?_) (fun i j hi4 hj4 hi hj he => ?_)
  · have hx := slIdx_ok hok hk hg h4 hi
    exact ⟨hx.1, hx.2.1, slCell hq hk hg h4 hi⟩
  · apply S.four_ext hi4 hj4
    intro m _
    have hem : (slIdx k fr step count i).getD m 0 = (slIdx k fr step count j).getD m 0 := by rw [he]
    unfold slIdx at hem
    by_cases e : k = m
    · subst e
      rw [getD_set_self (by omega), getD_set_self (by omega)] at hem
      have hne := hg.2.2.2.2.1
      exact Int.eq_of_mul_eq_mul_right hne (by omega)
    · rw [getD_set_other e, getD_set_other e] at hem
      exact hem
end V
end Go.Proofs.Ytdaajncfhcpecaa
