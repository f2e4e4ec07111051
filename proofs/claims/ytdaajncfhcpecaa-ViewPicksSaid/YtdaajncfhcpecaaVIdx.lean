/- Plain words of chapter 8: a view whose indexes stand for indexes of another one can be, where that one can; turned about an axis, and permuted. No condition. -/
import Derived.Test.YtdaajncfhcpecaaVRev
import Derived.Test.YtdaajncfhcpecaaVTwo
namespace Go.Proofs.Ytdaajncfhcpecaa
set_option linter.unusedVariables false
set_option linter.unusedSimpArgs false
namespace V
open Classical
/-- The number of an index. -/
def numOf (l i : List Int) : Nat := (S.sumL l i).toNat
theorem idx_at {l : List Int} (hok : S.Ok l) {n : Nat} (hn : n < sizeN l) : (S.pad (S.atL l n)).length = 4 ∧ S.isL l (S.pad (S.atL l n)) = true ∧ numOf l (S.pad (S.atL l n)) = n := by
  have hN := sizeN_ok hok
  have h := S.num_at hok (n := n) (by omega) (by omega)
  refine ⟨S.pad_length (by rw [S.atL_length]; exact hok.1), h.1, ?_⟩
  unfold numOf
  rw [h.2]
  omega
theorem at_idx {l i : List Int} (hok : S.Ok l) (h4 : i.length = 4) (hi : S.isL l i = true) : numOf l i < sizeN l ∧ S.pad (S.atL l (numOf l i)) = i := by
  have hN := sizeN_ok hok
  have hl := hok.1
  have hb := S.sumL_bound l i (by omega) hok.2.1 hi
  have hc : ((numOf l i : Nat) : Int) = S.sumL l i := by unfold numOf; omega
  refine ⟨by omega, ?_⟩
  rw [hc]
  exact S.at_num hok h4 hi
theorem dup_no {f : Nat → Int} {m : Nat} (h : dupB f m = false) {i j : Nat} (hi : i < m) (hj : j < m) (he : f i = f j) : i = j := by
  unfold dupB at h
  have h' := of_decide_eq_false h
  rcases Nat.lt_trichotomy i j with hlt | heq | hgt
  · exact absurd ⟨i, j, hlt, hj, he⟩ h'
  · exact heq
  · exact absurd ⟨j, i, hgt, hi, he.symm⟩ h'
theorem check_idx {o o' : Int} {l s l' s' : List Int} {c : Int} (hq : check o l s c = 0) (hlen : l'.length = s'.length) (hok' : S.Ok l') (T : List Int → List Int)
    (hT : ∀ i, i.length = 4 → S.isL l' i = true → (T i).length = 4 ∧ S.isL l (T i) = true ∧ cellR o' s' i s'.length = cellR o s (T i) s.length)
    (hinj : ∀ i j, i.length = 4 → j.length = 4 → S.isL l' i = true → S.isL l' j = true → T i = T j → i = j) : check o' l' s' c = 0 := by
  obtain ⟨h1, hok, h0, hc, hin, hdup, _⟩ := check_zero hq
  have key : ∀ n, n < sizeN l' → numOf l (T (S.pad (S.atL l' n))) < sizeN l ∧ cellOf o' l' s' n = cellOf o l s (numOf l (T (S.pad (S.atL l' n)))) := fun n hn => by
    have hi := idx_at hok' hn
    have ht := hT _ hi.1 hi.2.1
    have ha := at_idx hok ht.1 ht.2.1
    refine ⟨ha.1, ?_⟩
    unfold cellOf
    rw [ha.2, ht.2.2]
  refine check_ok hlen h0 hc hok' rfl (fun n hn => ?_) (fun j hj i hi he => ?_)
  · rw [(key n hn).2]; exact hin _ (key n hn).1
  · have ki := key i (by omega)
    have kj := key j hj
    rw [ki.2, kj.2] at he
    have hm := dup_no hdup ki.1 kj.1 he
    have ii := idx_at hok' (n := i) (by omega)
    have ij := idx_at hok' hj
    have ti := hT _ ii.1 ii.2.1
    have tj := hT _ ij.1 ij.2.1
    have hTT : T (S.pad (S.atL l' i)) = T (S.pad (S.atL l' j)) := by
      rw [← (at_idx hok ti.1 ti.2.1).2, ← (at_idx hok tj.1 tj.2.1).2, hm]
    have := hinj _ _ ii.1 ij.1 ii.2.1 ij.2.1 hTT
    have h := ii.2.2
    rw [this, ij.2.2] at h
    omega
theorem cut_neg (n : Int) : cut (-n) = -cut n := by
  unfold cut
  split <;> (try split) <;> (try split) <;> (try split) <;> omega
/-- One axis's summand turned. -/
theorem sumR_set (s i : List Int) (k : Nat) (y x : Int) (hk : k < s.length) (hki : k < i.length) : ∀ m, sumR (s.set k y) i m = sumR s (i.set k x) m + if k < m then i.getD k 0 * cut y - x * cut (s.getD k 0) else 0
  | 0 => by simp [sumR]
  | m + 1 => by
    have ih := sumR_set s i k y x hk hki m
    simp only [sumR]
    rw [ih]
    by_cases e : k = m
    · subst e
      have h1 : (s.set k y).getD k 0 = y := by simp [List.getD_eq_getElem?_getD, List.getElem?_set, hk]
      have h2 : (i.set k x).getD k 0 = x := by simp [List.getD_eq_getElem?_getD, List.getElem?_set, hki]
      rw [h1, h2, if_neg (by omega), if_pos (by omega)]
      omega
    · have h1 : (s.set k y).getD m 0 = s.getD m 0 := by rw [List.getD_eq_getElem?_getD, List.getElem?_set_ne e, ← List.getD_eq_getElem?_getD]
      have h2 : (i.set k x).getD m 0 = i.getD m 0 := by rw [List.getD_eq_getElem?_getD, List.getElem?_set_ne e, ← List.getD_eq_getElem?_getD]
      rw [h1, h2]
      by_cases hlt : k < m
      · rw [if_pos hlt, if_pos (by omega)]; omega
      · rw [if_neg hlt, if_neg (by omega)]; omega
theorem getD_set_self {i : List Int} {k : Nat} (h : k < i.length) (x : Int) : (i.set k x).getD k 0 = x := by simp [List.getD_eq_getElem?_getD, List.getElem?_set, h]
theorem getD_set_other {i : List Int} {k m : Nat} (e : k ≠ m) (x : Int) : (i.set k x).getD m 0 = i.getD m 0 := by rw [List.getD_eq_getElem?_getD, List.getElem?_set_ne e, ← List.getD_eq_getElem?_getD]
theorem isL_iff {l i : List Int} (hl : l.length ≤ i.length) (h1 : ∀ r ∈ l, 1 ≤ r) (h : S.isL l i = true) : (∀ k, k < l.length → 0 ≤ i.getD k 0 ∧ i.getD k 0 < l.getD k 0) ∧ ∀ k, l.length ≤ k → i.getD k 0 = 0 := by
  refine ⟨fun k hk => ?_, fun k hk => ?_⟩
  · have hg := isL_get l i h k
    have hp := h1 _ (S.getD_mem hk)
    refine ⟨hg.1, ?_⟩
    by_cases h0 : 0 < i.getD k 0
    · exact hg.2 h0
    · omega
  · have hg := isL_get l i h k
    have hz : l.getD k 0 = 0 := by rw [List.getD_eq_getElem?_getD, List.getElem?_eq_none hk]; rfl
    rw [hz] at hg
    omega
/-- The index on the other way round. -/
def turn (l : List Int) (k : Nat) (i : List Int) : List Int := i.set k (l.getD k 0 - 1 - i.getD k 0)
theorem turn_idx {l : List Int} {k : Nat} (hok : S.Ok l) (hk : k < l.length) {i : List Int} (h4 : i.length = 4) (hi : S.isL l i = true) : (turn l k i).length = 4 ∧ S.isL l (turn l k i) = true ∧ turn l k (turn l k i) = i := by
  have hl := hok.1
  have hb := isL_iff (by omega) hok.2.1 hi
  have hki : k < i.length := by omega
  unfold turn
  refine ⟨by rw [List.length_set]; exact h4, isL_of _ _ (by rw [List.length_set]; omega) (fun m hm => ?_) (fun m hm => ?_), ?_⟩
  · by_cases e : k = m
    · subst e
      have := hb.1 k hk
      rw [getD_set_self hki]
      omega
    · rw [getD_set_other e]
      exact hb.1 m hm
  · rw [getD_set_other (by omega)]
    exact hb.2 m hm
  · rw [getD_set_self hki, List.set_set, show l.getD k 0 - 1 - (l.getD k 0 - 1 - i.getD k 0) = i.getD k 0 by omega]
    apply S.four_ext (by rw [List.length_set]; exact h4) h4
    intro m _
    by_cases e : k = m
    · subst e; rw [getD_set_self hki]
    · rw [getD_set_other e]
theorem turn_cell {o : Int} {l s : List Int} (hq : check o l s 4096 = 0) {k : Nat} (hk : k < l.length) {i : List Int} (h4 : i.length = 4) (hi : S.isL l i = true) :
    cellR (revO o l s k) (revS l s k) i (revS l s k).length = cellR o s (turn l k i) s.length := by
  obtain ⟨hls, hok, _⟩ := check_zero hq
  have hl := hok.1
  have hb := isL_iff (by omega) hok.2.1 hi
  have hks : k < s.length := by omega
  have hki : k < i.length := by omega
  by_cases h1 : 1 < l.getD k 0
  · have hq' := revO_bound hq hk h1
    have hm := mul_bound (x := l.getD k 0 - 1) (y := s.getD k 0) (X := 4096) (Y := 4096) (by omega) (by omega) (by omega) (by omega) (by omega)
    unfold revO revS cellR turn
    rw [if_pos h1, if_pos h1, List.length_set, sumR_set s i k _ (l.getD k 0 - 1 - i.getD k 0) hks hki, if_pos hks, cut_neg, cut_near (n := s.getD k 0) (by omega) (by omega), cut_near (by omega) (by omega), cut_near (n := o) (by omega) (by omega)]
    have e : i.getD k 0 * -(s.getD k 0) - (l.getD k 0 - 1 - i.getD k 0) * s.getD k 0 = -((l.getD k 0 - 1) * s.getD k 0) := by
      rw [Int.mul_neg, Int.sub_mul (l.getD k 0 - 1)]; omega
    omega
  · have hik := hb.1 k hk
    have hx : turn l k i = i := by
      unfold turn
      apply S.four_ext (by rw [List.length_set]; exact h4) h4
      intro m _
      by_cases e : k = m
      · subst e; rw [getD_set_self hki]; omega
      · rw [getD_set_other e]
    unfold revO revS
    rw [if_neg h1, if_neg h1, hx]
theorem rev_check {o : Int} {l s : List Int} (hq : check o l s 4096 = 0) {k : Nat} (hk : k < l.length) : check (revO o l s k) l (revS l s k) 4096 = 0 := by
  obtain ⟨hls, hok, _⟩ := check_zero hq
  refine check_idx hq (by unfold revS; split <;> simp [hls]) hok (turn l k) (fun i h4 hi => ?_) (fun i j hi4 hj4 hi hj he => ?_)
  · have ht := turn_idx hok hk h4 hi
    exact ⟨ht.1, ht.2.1, turn_cell hq hk h4 hi⟩
  · rw [← (turn_idx hok hk hi4 hi).2.2, ← (turn_idx hok hk hj4 hj).2.2, he]
end V
end Go.Proofs.Ytdaajncfhcpecaa
