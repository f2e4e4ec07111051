/- Plain mathematics of chapter 9, second part: tables as they are filled, the reference's digits and their sum. No program in it. No condition. -/
import Derived.Test.YtmofdjddjkjogaaDMath
namespace Go.Proofs.Ytmofdjddjkjogaa.D
set_option linter.unusedVariables false
set_option linter.unusedSimpArgs false
/-- A table of n, its first k places filled by f. -/
def tab (f : Nat → Int) (n k : Nat) : List Int := (List.range n).map fun i => if i < k then f i else 0
theorem tab_length (f : Nat → Int) (n k : Nat) : (tab f n k).length = n := by simp [tab]
theorem tab_zero (f : Nat → Int) (n : Nat) : tab f n 0 = List.replicate n 0 := by
  apply List.ext_getElem?
  intro i
  by_cases h : i < n <;> simp [tab, h]
theorem tab_set (f : Nat → Int) (n k : Nat) : (tab f n k).set k (f k) = tab f n (k + 1) := by
  apply List.ext_getElem?
  intro i
  by_cases hi : i < n
  · by_cases h : k = i
    · subst h
      simp [tab, hi]
    · have e : (i < k + 1) = (i < k) := by simp; omega
      simp [tab, hi, h, e]
  · by_cases h : k = i
    · subst h
      simp [tab, hi]
    · simp [tab, hi, h]
theorem tab_full (f : Nat → Int) (n : Nat) : tab f n n = (List.range n).map f := by
  apply List.ext_getElem?
  intro i
  by_cases hi : i < n <;> simp [tab, hi]
theorem map_getD (f : Nat → Int) {n k : Nat} (h : k < n) : ((List.range n).map f).getD k 0 = f k := by
  simp [h]
/-! ### the reference's digits -/
theorem digs_length : ∀ (l : List Int) (i : Int), (digs i l).length = l.length
  | [], _ => rfl
  | r :: rs, i => by simp [digs, digs_length rs]
theorem digs_drop : ∀ (l : List Int) (i : Int) (j : Nat), ∃ x, (digs i l).drop j = digs x (l.drop j)
  | [], i, j => ⟨i, by cases j <;> rfl⟩
  | r :: rs, i, 0 => ⟨i, rfl⟩
  | r :: rs, i, j + 1 => by obtain ⟨x, h⟩ := digs_drop rs (i / r) j; exact ⟨x, h⟩
/-- The sum of digits, each times the radices behind it. -/
def sumD : List Int → List Int → Int
  | d :: ds, _ :: rs => d * prod rs + sumD ds rs
  | _, _ => 0
theorem sumD_digs : ∀ (l : List Int) (i : Int), sumD (digs i l) l = turnL 0 i l
  | [], _ => rfl
  | r :: rs, i => by
    rw [turnL_cons, ← sumD_digs rs]
    rfl
theorem prod_drop_le : ∀ (l : List Int) (j : Nat), (∀ r ∈ l, 2 ≤ r) → prod (l.drop j) ≤ prod l
  | [], j, _ => by cases j <;> exact Int.le_refl _
  | r :: rs, 0, _ => Int.le_refl _
  | r :: rs, j + 1, h => by
    have hr := h r (by simp)
    have hrs : ∀ x ∈ rs, 2 ≤ x := fun x hx => h x (by simp [hx])
    have ih := prod_drop_le rs j hrs
    have hp := prod_pos rs hrs
    have hg := mul_ge hp (show 1 ≤ r by omega)
    rw [Int.mul_comm] at hg
    show prod (rs.drop j) ≤ r * prod rs
    omega
theorem sumD_bound (l : List Int) (i : Int) (j : Nat) (h : ∀ r ∈ l, 2 ≤ r) : 0 ≤ sumD ((digs i l).drop j) (l.drop j) ∧ sumD ((digs i l).drop j) (l.drop j) < prod (l.drop j) := by
  obtain ⟨x, hx⟩ := digs_drop l i j
  rw [hx, sumD_digs]
  exact turnL_bound _ x fun r hr => h r (List.mem_of_mem_drop hr)
theorem digs_pos : ∀ (l : List Int) (i : Int), (∀ r ∈ l, 2 ≤ r) → ∀ d ∈ digs i l, 0 ≤ d
  | [], _, _, d, hd => by simp [digs] at hd
  | r :: rs, i, h, d, hd => by
    have hr := h r (by simp)
    simp only [digs, List.mem_cons] at hd
    rcases hd with rfl | hd
    · exact Int.emod_nonneg i (by omega)
    · exact digs_pos rs _ (fun x hx => h x (by simp [hx])) d hd
theorem take_snoc' {l : List Int} {k : Nat} {x : Int} {t : List Int} (h : l.drop k = x :: t) : l.take (k + 1) = l.take k ++ [x] := by
  have hk : k < l.length := by
    rcases Nat.lt_or_ge k l.length with h1 | h1
    · exact h1
    · rw [List.drop_eq_nil_of_le h1] at h; cases h
  rw [List.take_succ_eq_append_getElem hk]
  rw [List.drop_eq_getElem_cons hk] at h
  injection h with h1 _
  rw [h1]
end Go.Proofs.Ytmofdjddjkjogaa.D
