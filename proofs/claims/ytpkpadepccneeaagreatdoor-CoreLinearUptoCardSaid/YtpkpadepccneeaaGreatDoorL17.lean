/- Plain mathematics of chapter 7: sizes, strides, numbers and indexes of shapes, over lists of whole numbers. No program in it. No condition. -/
namespace Go.Proofs.YtpkpadepccneeaaGreatDoor.W.S
set_option maxRecDepth 100000
set_option linter.unusedVariables false
set_option linter.unusedSimpArgs false
def prod : List Int → Int
  | [] => 1
  | r :: rs => r * prod rs
def Ok (l : List Int) : Prop := l.length ≤ 4 ∧ (∀ r ∈ l, 1 ≤ r) ∧ prod l ≤ 4096
/-- shape.Size behind its test on the length. -/
def sizeL : Int → List Int → Int × Int
  | n, [] => (n, 0)
  | n, r :: rs => if r < 1 ∨ 4096 / n < r then (0, 5) else sizeL (n * r) rs
def sizeS (l : List Int) : Int × Int := if 4 < l.length then (0, 1) else sizeL 1 l
def refL : Int → List Int → Int × Int
  | n, [] => (n, 0)
  | n, r :: rs => if r < 1 ∨ 4096 < r then (0, 5) else if 4096 < n * r then (0, 5) else refL (n * r) rs
theorem mul_fits {n r : Int} (h1 : 1 ≤ n) (h : ¬ 4096 / n < r) : n * r ≤ 4096 := by
  have h2 : r ≤ 4096 / n := Int.not_lt.1 h
  have h3 : r * n ≤ 4096 := (Int.le_ediv_iff_mul_le (by omega)).1 h2
  rw [Int.mul_comm]; exact h3
theorem mul_over {n r : Int} (h1 : 1 ≤ n) (h : 4096 / n < r) : 4096 < n * r := by
  have h3 : ¬ r * n ≤ 4096 := fun h' => absurd ((Int.le_ediv_iff_mul_le (by omega)).2 h') (by omega)
  rw [Int.mul_comm]; omega
theorem mul_ge {a b : Int} (h1 : 1 ≤ a) (h2 : 1 ≤ b) : a ≤ a * b := by
  have := Int.mul_le_mul_of_nonneg_left h2 (show 0 ≤ a by omega); omega
theorem mul_pos' {a b : Int} (h1 : 1 ≤ a) (h2 : 1 ≤ b) : 1 ≤ a * b := by have := mul_ge h1 h2; omega
theorem prod_pos : ∀ (l : List Int), (∀ r ∈ l, 1 ≤ r) → 1 ≤ prod l
  | [], _ => by simp [prod]
  | r :: rs, h => mul_pos' (h r (by simp)) (prod_pos rs fun x hx => h x (by simp [hx]))
theorem refL_eq : ∀ (l : List Int) (n : Int), 1 ≤ n → n ≤ 4096 → refL n l = sizeL n l
  | [], n, _, _ => rfl
  | r :: rs, n, h1, h2 => by
    unfold refL sizeL
    by_cases h3 : r < 1
    · rw [if_pos (.inl h3), if_pos (.inl h3)]
    · by_cases h4 : 4096 / n < r
      · rw [if_pos (.inr h4 : r < 1 ∨ 4096 / n < r)]
        have ho := mul_over h1 h4
        by_cases h5 : 4096 < r
        · rw [if_pos (.inr h5)]
        · rw [if_neg (by omega), if_pos ho]
      · have hf := mul_fits h1 h4
        have hg : r ≤ n * r := by rw [Int.mul_comm]; exact mul_ge (by omega) h1
        rw [if_neg (by omega), if_neg (by omega), if_neg (by omega)]
        exact refL_eq rs (n * r) (mul_pos' h1 (by omega)) hf
theorem sizeL_ok : ∀ (l : List Int) (n : Int), 1 ≤ n → n ≤ 4096 → (∀ r ∈ l, 1 ≤ r) → n * prod l ≤ 4096 → sizeL n l = (n * prod l, 0)
  | [], n, _, _, _, _ => by simp [sizeL, prod]
  | r :: rs, n, h1, h2, h, hp => by
    have hr := h r (by simp)
    have hrs : ∀ x ∈ rs, 1 ≤ x := fun x hx => h x (by simp [hx])
    have hpp := prod_pos rs hrs
    have hnr := mul_pos' h1 hr
    have he : n * prod (r :: rs) = n * r * prod rs := (Int.mul_assoc n r _).symm
    rw [he] at hp ⊢
    have hg := mul_ge hnr hpp
    have h3 : ¬ (r < 1 ∨ 4096 / n < r) := by
      intro h4
      rcases h4 with h4 | h4
      · omega
      · have := mul_over h1 h4; omega
    unfold sizeL
    rw [if_neg h3, sizeL_ok rs (n * r) hnr (by omega) hrs hp]
theorem sizeL_bad : ∀ (l : List Int) (n : Int), 1 ≤ n → n ≤ 4096 → ¬ ((∀ r ∈ l, 1 ≤ r) ∧ n * prod l ≤ 4096) → sizeL n l = (0, 5)
  | [], n, h1, h2, h => absurd ⟨by simp, by simp [prod]; omega⟩ h
  | r :: rs, n, h1, h2, h => by
    unfold sizeL
    by_cases h3 : r < 1 ∨ 4096 / n < r
    · rw [if_pos h3]
    · rw [if_neg h3]
      have h5 : ¬ 4096 / n < r := fun h6 => h3 (.inr h6)
      have hf := mul_fits h1 h5
      have hr : 1 ≤ r := by omega
      refine sizeL_bad rs (n * r) (mul_pos' h1 hr) hf fun ⟨ha, hb⟩ => h ⟨?_, ?_⟩
      · intro x hx
        simp only [List.mem_cons] at hx
        rcases hx with rfl | hx
        · exact hr
        · exact ha x hx
      · rw [show n * prod (r :: rs) = n * r * prod rs from (Int.mul_assoc n r _).symm]; exact hb
theorem Ok.size {l : List Int} (h : Ok l) : sizeS l = (prod l, 0) := by
  unfold sizeS
  rw [if_neg (by have := h.1; omega), sizeL_ok l 1 (by omega) (by omega) h.2.1 (by rw [Int.one_mul]; exact h.2.2), Int.one_mul]
theorem size_cases (l : List Int) : Ok l ∨ (¬ Ok l ∧ sizeS l = (0, 1)) ∨ (¬ Ok l ∧ sizeS l = (0, 5)) := by
  by_cases h : 4 < l.length
  · exact .inr (.inl ⟨fun h1 => by have := h1.1; omega, by unfold sizeS; rw [if_pos h]⟩)
  · by_cases h2 : (∀ r ∈ l, 1 ≤ r) ∧ 1 * prod l ≤ 4096
    · exact .inl ⟨by omega, h2.1, by have := h2.2; rw [Int.one_mul] at this; exact this⟩
    · exact .inr (.inr ⟨fun h1 => h2 ⟨h1.2.1, by rw [Int.one_mul]; exact h1.2.2⟩, by unfold sizeS; rw [if_neg h, sizeL_bad l 1 (by omega) (by omega) h2]⟩)
theorem Ok.pos {l : List Int} (h : Ok l) : 1 ≤ prod l := prod_pos l h.2.1
theorem prod_drop_le : ∀ (l : List Int) (j : Nat), (∀ r ∈ l, 1 ≤ r) → prod (l.drop j) ≤ prod l
  | [], j, _ => by cases j <;> exact Int.le_refl _
  | r :: rs, 0, _ => Int.le_refl _
  | r :: rs, j + 1, h => by
    have hr := h r (by simp)
    have hrs : ∀ x ∈ rs, 1 ≤ x := fun x hx => h x (by simp [hx])
    have ih := prod_drop_le rs j hrs
    have hp := prod_pos rs hrs
    have hg := mul_ge hp hr
    rw [Int.mul_comm] at hg
    show prod (rs.drop j) ≤ r * prod rs
    omega
theorem prod_drop_pos (l : List Int) (j : Nat) (h : ∀ r ∈ l, 1 ≤ r) : 1 ≤ prod (l.drop j) := prod_pos _ fun r hr => h r (List.mem_of_mem_drop hr)
/-- Of an axis by how much a number is greater if that of the axis is. -/
def stride (l : List Int) (k : Nat) : Int := prod (l.drop (k + 1))
def strides (l : List Int) : List Int := (List.range l.length).map (stride l)
theorem drop_at (l : List Int) {k : Nat} (h : k < l.length) : l.drop k = l.getD k 0 :: l.drop (k + 1) := by
  rw [List.drop_eq_getElem_cons h, List.getD_eq_getElem?_getD, List.getElem?_eq_getElem h]; rfl
theorem getD_mem {l : List Int} {k : Nat} (h : k < l.length) : l.getD k 0 ∈ l := by
  rw [List.getD_eq_getElem?_getD, List.getElem?_eq_getElem h]; exact List.getElem_mem h
theorem prod_drop_at (l : List Int) {k : Nat} (h : k < l.length) : prod (l.drop k) = l.getD k 0 * stride l k := by
  rw [drop_at l h]; rfl
/-- A row filled from its end on: behind j the strides, before it zeros. -/
def sfill (l : List Int) (j : Nat) : List Int := (List.range l.length).map fun i => if j ≤ i then stride l i else 0
theorem sfill_length (l : List Int) (j : Nat) : (sfill l j).length = l.length := by simp [sfill]
theorem sfill_top (l : List Int) : sfill l l.length = List.replicate l.length 0 := by
  apply List.ext_getElem?
  intro i
  by_cases h : i < l.length
  · simp [sfill, h, show ¬ l.length ≤ i by omega]
  · simp [sfill, h]
theorem sfill_set (l : List Int) (k : Nat) (h : k < l.length) : (sfill l (k + 1)).set k (stride l k) = sfill l k := by
  apply List.ext_getElem?
  intro i
  by_cases hi : i < l.length
  · by_cases e : k = i
    · subst e; simp [sfill, hi]
    · have e2 : (k + 1 ≤ i) = (k ≤ i) := by simp; omega
      simp [sfill, hi, e, e2]
  · by_cases e : k = i
    · omega
    · simp [sfill, hi, e]
theorem sfill_zero (l : List Int) : sfill l 0 = strides l := by simp [sfill, strides]
theorem strides_length (l : List Int) : (strides l).length = l.length := by simp [strides]
theorem strides_getD (l : List Int) {k : Nat} (h : k < l.length) : (strides l).getD k 0 = stride l k := by simp [strides, h]

/-! ### indexes: lists of four -/
/-- Is it an index? -/
def isL : List Int → List Int → Bool
  | _, [] => true
  | [], i :: is => if i = 0 then isL [] is else false
  | s :: ss, i :: is => if 0 ≤ i ∧ i < s then isL ss is else false
/-- Its number, n having been reckoned. -/
def numL : Int → List Int → List Int → Int
  | n, s :: ss, i :: is => numL (n * s + i) ss is
  | n, _, _ => n
/-- The sum of all, each times its stride. -/
def sumL : List Int → List Int → Int
  | _ :: ss, i :: is => i * prod ss + sumL ss is
  | _, _ => 0
/-- The index of a number, as long as the shape. -/
def atL : List Int → Int → List Int
  | [], _ => []
  | s :: ss, n => n / prod ss % s :: atL ss n
def pad (x : List Int) : List Int := x ++ List.replicate (4 - x.length) 0
theorem atL_length : ∀ (l : List Int) (n : Int), (atL l n).length = l.length
  | [], _ => rfl
  | s :: ss, n => by simp [atL, atL_length ss]
theorem pad_length {x : List Int} (h : x.length ≤ 4) : (pad x).length = 4 := by simp [pad]; omega
theorem numL_sum : ∀ (l i : List Int) (n : Int), l.length ≤ i.length → numL n l i = n * prod l + sumL l i
  | [], i, n, _ => by simp [numL, sumL, prod]
  | s :: ss, [], n, h => by simp at h
  | s :: ss, i :: is, n, h => by
    simp only [numL, sumL, prod]
    rw [numL_sum ss is _ (by simpa using h), Int.add_mul, Int.mul_assoc, Int.add_assoc]
theorem sumL_bound : ∀ (l i : List Int), l.length ≤ i.length → (∀ r ∈ l, 1 ≤ r) → isL l i = true → 0 ≤ sumL l i ∧ sumL l i < prod l
  | [], i, _, _, _ => by simp [sumL, prod]
  | s :: ss, [], h, _, _ => by simp at h
  | s :: ss, i :: is, h, h1, hi => by
    unfold isL at hi
    by_cases hb : 0 ≤ i ∧ i < s
    · rw [if_pos hb] at hi
      have hrs : ∀ x ∈ ss, 1 ≤ x := fun x hx => h1 x (by simp [hx])
      have ih := sumL_bound ss is (by simpa using h) hrs hi
      have hp := prod_pos ss hrs
      have h3 : 0 ≤ i * prod ss := Int.mul_nonneg hb.1 (by omega)
      have h4 : (i + 1) * prod ss ≤ s * prod ss := Int.mul_le_mul_of_nonneg_right (by omega) (by omega)
      rw [Int.add_mul, Int.one_mul] at h4
      simp only [sumL, prod]
      omega
    · rw [if_neg hb] at hi; cases hi
theorem isL_zeros : ∀ (k : Nat), isL [] (List.replicate k 0) = true
  | 0 => rfl
  | k + 1 => by rw [List.replicate_succ]; simp [isL, isL_zeros k]
theorem isL_at : ∀ (l : List Int) (n : Int) (k : Nat), (∀ r ∈ l, 1 ≤ r) → isL l (atL l n ++ List.replicate k 0) = true
  | [], n, k, _ => isL_zeros k
  | s :: ss, n, k, h => by
    have hs := h s (by simp)
    simp only [atL, List.cons_append, isL]
    rw [if_pos ⟨Int.emod_nonneg _ (by omega), Int.emod_lt_of_pos _ (by omega)⟩]
    exact isL_at ss n k fun x hx => h x (by simp [hx])
theorem sumL_at : ∀ (l : List Int) (n : Int) (t : List Int), (∀ r ∈ l, 1 ≤ r) → sumL l (atL l n ++ t) = n % prod l
  | [], n, t, _ => by simp [sumL, prod, Int.emod_one]
  | s :: ss, n, t, h => by
    have hs := h s (by simp)
    have hrs : ∀ x ∈ ss, 1 ≤ x := fun x hx => h x (by simp [hx])
    have hp := prod_pos ss hrs
    simp only [atL, List.cons_append, sumL]
    rw [sumL_at ss n t hrs]
    show n / prod ss % s * prod ss + n % prod ss = n % (s * prod ss)
    have e : n / (s * prod ss) = n / prod ss / s := by rw [Int.mul_comm, Int.ediv_ediv_of_nonneg (by omega)]
    rw [Int.emod_def n (s * prod ss), Int.emod_def (n / prod ss) s, Int.emod_def n (prod ss), e, Int.sub_mul]
    have e2 : s * (n / prod ss / s) * prod ss = s * prod ss * (n / prod ss / s) := by ac_rfl
    have e3 : n / prod ss * prod ss = prod ss * (n / prod ss) := Int.mul_comm _ _
    omega
theorem at_sum : ∀ (l i : List Int), l.length ≤ i.length → (∀ r ∈ l, 1 ≤ r) → isL l i = true → atL l (sumL l i) = i.take l.length
  | [], i, _, _, _ => by simp [atL]
  | s :: ss, [], h, _, _ => by simp at h
  | s :: ss, i :: is, h, h1, hi => by
    unfold isL at hi
    by_cases hb : 0 ≤ i ∧ i < s
    · rw [if_pos hb] at hi
      have hrs : ∀ x ∈ ss, 1 ≤ x := fun x hx => h1 x (by simp [hx])
      have hp := prod_pos ss hrs
      have hsb := sumL_bound ss is (by simpa using h) hrs hi
      have ih := at_sum ss is (by simpa using h) hrs hi
      simp only [atL, sumL, List.length_cons, List.take_succ_cons]
      have e1 : (i * prod ss + sumL ss is) / prod ss = i := by
        rw [Int.add_comm, Int.add_mul_ediv_right _ _ (by omega), Int.ediv_eq_zero_of_lt hsb.1 hsb.2, Int.zero_add]
      rw [e1, Int.emod_eq_of_lt hb.1 hb.2]
      congr 1
      have e2 : ∀ (m : List Int) (q x : Int), (∀ r ∈ m, 1 ≤ r) → atL m (q * prod m + x) = atL m x := by
        intro m
        induction m with
        | nil => intro q x _; rfl
        | cons r m ih2 =>
          intro q x hm
          have hr := hm r (by simp)
          have hms : ∀ y ∈ m, 1 ≤ y := fun y hy => hm y (by simp [hy])
          have hpm := prod_pos m hms
          simp only [atL]
          have e3 : q * prod (r :: m) + x = (q * r) * prod m + x := by simp only [prod]; rw [Int.mul_assoc]
          rw [e3, ih2 (q * r) x hms]
          congr 1
          rw [Int.add_comm, Int.add_mul_ediv_right _ _ (by omega), Int.add_comm, Int.mul_comm q r]
          rw [Int.mul_add_emod_self_left]
      rw [e2 ss i _ hrs]
      exact ih
    · rw [if_neg hb] at hi; cases hi
theorem isL_tail : ∀ (l i : List Int), l.length ≤ i.length → isL l i = true → i = i.take l.length ++ List.replicate (i.length - l.length) 0
  | [], [], _, _ => rfl
  | [], i :: is, h, hi => by
    unfold isL at hi
    by_cases h0 : i = 0
    · rw [if_pos h0] at hi
      have ih := isL_tail [] is (by simp) hi
      simp only [List.length_nil, List.take_zero, List.nil_append, Nat.sub_zero] at ih ⊢
      rw [h0, List.length_cons, List.replicate_succ, ← ih]
    · rw [if_neg h0] at hi; cases hi
  | s :: ss, [], h, _ => by simp at h
  | s :: ss, i :: is, h, hi => by
    unfold isL at hi
    by_cases hb : 0 ≤ i ∧ i < s
    · rw [if_pos hb] at hi
      have ih := isL_tail ss is (by simpa using h) hi
      simp only [List.length_cons, List.take_succ_cons, List.cons_append, Nat.add_sub_add_right]
      rw [← ih]
    · rw [if_neg hb] at hi; cases hi
/-- Each index has a number, and that number the index. -/
theorem at_num {l i : List Int} (h : Ok l) (h4 : i.length = 4) (hi : isL l i = true) : pad (atL l (sumL l i)) = i := by
  have hl : l.length ≤ i.length := by have := h.1; omega
  rw [at_sum l i hl h.2.1 hi]
  unfold pad
  rw [List.length_take, Nat.min_eq_left hl]
  have := isL_tail l i hl hi
  rw [h4] at this
  exact this.symm
theorem num_at {l : List Int} (h : Ok l) {n : Int} (h0 : 0 ≤ n) (h1 : n < prod l) : isL l (pad (atL l n)) = true ∧ sumL l (pad (atL l n)) = n := by
  refine ⟨isL_at l n _ h.2.1, ?_⟩
  unfold pad
  rw [sumL_at l n _ h.2.1, Int.emod_eq_of_lt h0 h1]
/-- An index as it is filled: from j on. -/
def fillAt (l : List Int) (n : Int) (j : Nat) : List Int := (List.range 4).map fun i => if j ≤ i then (pad (atL l n)).getD i 0 else 0
theorem fillAt_getD (l : List Int) (n : Int) (j : Nat) {i : Nat} (h : i < 4) : (fillAt l n j).getD i 0 = if j ≤ i then (pad (atL l n)).getD i 0 else 0 := by
  simp [fillAt, h]
theorem pad_getD {x : List Int} {i : Nat} (h : x.length ≤ i) : (pad x).getD i 0 = 0 := by
  simp only [pad, List.getD_eq_getElem?_getD]
  rw [List.getElem?_append_right h, List.getElem?_replicate]
  by_cases h2 : i - x.length < 4 - x.length <;> simp [h2]
theorem pad_getD_lt {x : List Int} {i : Nat} (h : i < x.length) : (pad x).getD i 0 = x.getD i 0 := by
  simp only [pad, List.getD_eq_getElem?_getD]
  rw [List.getElem?_append_left h]
theorem four_ext {x y : List Int} (hx : x.length = 4) (hy : y.length = 4) (h : ∀ i, i < 4 → x.getD i 0 = y.getD i 0) : x = y := by
  apply List.ext_getElem (by rw [hx, hy])
  intro i h1 h2
  have := h i (by omega)
  simpa [List.getD_eq_getElem?_getD, List.getElem?_eq_getElem h1, List.getElem?_eq_getElem h2] using this
theorem fillAt_length (l : List Int) (n : Int) (j : Nat) : (fillAt l n j).length = 4 := by simp [fillAt]
theorem fillAt_top (l : List Int) (n : Int) (h : l.length ≤ 4) : fillAt l n l.length = [0, 0, 0, 0] := by
  refine four_ext (fillAt_length ..) rfl fun i hi => ?_
  rw [fillAt_getD l n _ hi]
  have h0 : ([0, 0, 0, 0] : List Int).getD i 0 = 0 := by
    match i, hi with
    | 0, _ => rfl
    | 1, _ => rfl
    | 2, _ => rfl
    | 3, _ => rfl
  rw [h0]
  by_cases hl : l.length ≤ i
  · rw [if_pos hl, pad_getD (by rw [atL_length]; exact hl)]
  · rw [if_neg hl]
theorem fillAt_zero (l : List Int) (n : Int) (h : l.length ≤ 4) : fillAt l n 0 = pad (atL l n) := by
  refine four_ext (fillAt_length ..) (pad_length (by rw [atL_length]; exact h)) fun i hi => ?_
  rw [fillAt_getD l n _ hi, if_pos (by omega)]
theorem atL_getD : ∀ (l : List Int) (n : Int) (k : Nat), k < l.length → (atL l n).getD k 0 = n / stride l k % l.getD k 0
  | [], n, k, h => by simp at h
  | s :: ss, n, 0, _ => by simp [atL, stride]
  | s :: ss, n, k + 1, h => by
    have := atL_getD ss n k (by simpa using h)
    simpa [atL, stride] using this
theorem fillAt_set (l : List Int) (n : Int) (k : Nat) (hk : k < l.length) (h4 : l.length ≤ 4) : (fillAt l n (k + 1)).set k (n / stride l k % l.getD k 0) = fillAt l n k := by
  refine four_ext (by simp [fillAt]) (fillAt_length ..) fun i hi => ?_
  rw [fillAt_getD l n _ hi]
  by_cases e : k = i
  · subst e
    rw [if_pos (Nat.le_refl _), pad_getD_lt (by rw [atL_length]; exact hk), atL_getD l n k hk]
    simp [List.getD_eq_getElem?_getD, fillAt_length, show k < 4 by omega]
  · have h5 : ((fillAt l n (k + 1)).set k (n / stride l k % l.getD k 0)).getD i 0 = (fillAt l n (k + 1)).getD i 0 := by
      simp [List.getD_eq_getElem?_getD, List.getElem?_set_ne e]
    rw [h5, fillAt_getD l n _ hi]
    by_cases h6 : k ≤ i
    · rw [if_pos h6, if_pos (by omega)]
    · rw [if_neg h6, if_neg (by omega)]
theorem div_stride (l : List Int) (n : Int) {k : Nat} (hk : k < l.length) (h : ∀ r ∈ l, 1 ≤ r) : n / stride l k / l.getD k 0 = n / prod (l.drop k) := by
  have hp := prod_drop_pos l (k + 1) h
  have hd := prod_drop_at l hk
  have hs : stride l k = prod (l.drop (k + 1)) := rfl
  rw [hd, Int.ediv_ediv_of_nonneg (by rw [hs]; omega), Int.mul_comm]
/-- The sum of the first k, each times its stride. -/
def sumTo (l i : List Int) (k : Nat) : Int := sumL l i - sumL (l.drop k) (i.drop k)
theorem sumTo_zero (l i : List Int) : sumTo l i 0 = 0 := by simp [sumTo]
theorem sumTo_all (l i : List Int) (h : l.length ≤ i.length) : sumTo l i l.length = sumL l i := by
  unfold sumTo
  rw [List.drop_length]
  simp [sumL]
theorem isL_drop : ∀ (l i : List Int) (k : Nat), k ≤ l.length → l.length ≤ i.length → isL l i = true → isL (l.drop k) (i.drop k) = true
  | l, i, 0, _, _, h => h
  | [], i, k + 1, h, _, _ => by simp at h
  | s :: ss, [], k + 1, _, h, _ => by simp at h
  | s :: ss, x :: xs, k + 1, h1, h2, h => by
    unfold isL at h
    by_cases hb : 0 ≤ x ∧ x < s
    · rw [if_pos hb] at h
      exact isL_drop ss xs k (by simpa using h1) (by simpa using h2) h
    · rw [if_neg hb] at h; cases h
/-- One summand more: all is in range. -/
theorem sum_step (l i : List Int) (k : Nat) (hk : k < l.length) (hl : l.length ≤ i.length) (h1 : ∀ r ∈ l, 1 ≤ r) (hi : isL l i = true) :
    0 ≤ i.getD k 0 * stride l k ∧ i.getD k 0 * stride l k ≤ prod l ∧ 0 ≤ sumTo l i k ∧ sumTo l i k ≤ prod l ∧ sumTo l i k + i.getD k 0 * stride l k = sumTo l i (k + 1) := by
  have hd := drop_at l hk
  have hdi := drop_at i (k := k) (by omega)
  have hik := isL_drop l i k (by omega) hl hi
  have hik1 := isL_drop l i (k + 1) (by omega) hl hi
  have hmem : ∀ j, ∀ r ∈ l.drop j, 1 ≤ r := fun j r hr => h1 r (List.mem_of_mem_drop hr)
  have b0 := sumL_bound l i hl h1 hi
  have bk := sumL_bound (l.drop k) (i.drop k) (by simp; omega) (hmem k) hik
  have bk1 := sumL_bound (l.drop (k + 1)) (i.drop (k + 1)) (by simp; omega) (hmem (k + 1)) hik1
  have e : sumL (l.drop k) (i.drop k) = i.getD k 0 * stride l k + sumL (l.drop (k + 1)) (i.drop (k + 1)) := by rw [hd, hdi]; rfl
  have hle := prod_drop_le l k h1
  have hxb : 0 ≤ i.getD k 0 := by
    rw [hd, hdi] at hik
    unfold isL at hik
    by_cases hb : 0 ≤ i.getD k 0 ∧ i.getD k 0 < l.getD k 0
    · exact hb.1
    · rw [if_neg hb] at hik; cases hik
  have hst : 1 ≤ stride l k := prod_drop_pos l (k + 1) h1
  have hns : 0 ≤ i.getD k 0 * stride l k := Int.mul_nonneg hxb (by omega)
  have hmono : ∀ j, sumL (l.drop j) (i.drop j) ≤ sumL l i := by
    intro j
    induction j with
    | zero => exact Int.le_refl _
    | succ j ih =>
      rcases Nat.lt_or_ge j l.length with hj | hj
      · have hik' := isL_drop l i j (by omega) hl hi
        have hdj := drop_at l hj
        have hdij := drop_at i (k := j) (by omega)
        have ej : sumL (l.drop j) (i.drop j) = i.getD j 0 * stride l j + sumL (l.drop (j + 1)) (i.drop (j + 1)) := by rw [hdj, hdij]; rfl
        have hxj : 0 ≤ i.getD j 0 := by
          rw [hdj, hdij] at hik'
          unfold isL at hik'
          by_cases hb : 0 ≤ i.getD j 0 ∧ i.getD j 0 < l.getD j 0
          · exact hb.1
          · rw [if_neg hb] at hik'; cases hik'
        have hsj : 1 ≤ stride l j := prod_drop_pos l (j + 1) h1
        have := Int.mul_nonneg hxj (show 0 ≤ stride l j by omega)
        omega
      · rw [List.drop_eq_nil_of_le (by omega)]
        have : sumL [] (i.drop (j + 1)) = 0 := by cases i.drop (j + 1) <;> rfl
        omega
  have hmk := hmono k
  unfold sumTo
  omega
end Go.Proofs.YtpkpadepccneeaaGreatDoor.W.S

/- Plain words of chapter 8: a number or one as far as matters, the cell of an index in both ways, what is near. No condition. -/
namespace Go.Proofs.YtpkpadepccneeaaGreatDoor.W.V
set_option maxRecDepth 100000
set_option linter.unusedVariables false
def cut (n : Int) : Int := if 1099511627776 < n then 1099511627776 else if n < -1099511627776 then -1099511627776 else n
theorem cut_bound (n : Int) : -1099511627776 ≤ cut n ∧ cut n ≤ 1099511627776 := by unfold cut; split <;> (try split) <;> omega
theorem cut_near {n : Int} (h : -1099511627776 ≤ n) (h1 : n ≤ 1099511627776) : cut n = n := by unfold cut; split <;> (try split) <;> omega
def sumR (s i : List Int) : Nat → Int
  | 0 => 0
  | k + 1 => sumR s i k + i.getD k 0 * cut (s.getD k 0)
def sumP (s i : List Int) : Nat → Int
  | 0 => 0
  | k + 1 => sumP s i k + if 0 < i.getD k 0 then i.getD k 0 * s.getD k 0 else 0
def cellR (o : Int) (s i : List Int) (k : Nat) : Int := cut o + sumR s i k
def cellP (o : Int) (s i : List Int) (k : Nat) : Int := o + sumP s i k
/-- No axis of more than one index has a stride that leads out at once. -/
def nearAt (l s : List Int) (c : Int) (k : Nat) : Prop := ¬ (1 < l.getD k 0 ∧ (s.getD k 0 ≤ -c ∨ c ≤ s.getD k 0))
def near (o : Int) (l s : List Int) (c : Int) : Prop := 0 ≤ o ∧ o < c ∧ ∀ k, k < s.length → nearAt l s c k
open Classical in
noncomputable def nearB (o : Int) (l s : List Int) (c : Int) : Bool := decide (near o l s c)
theorem nearB_true {o : Int} {l s : List Int} {c : Int} (h : near o l s c) : nearB o l s c = true := by simp [nearB, h]
theorem nearB_false {o : Int} {l s : List Int} {c : Int} (h : ¬ near o l s c) : nearB o l s c = false := by simp [nearB, h]
theorem mul_bound {x y X Y : Int} (hx0 : 0 ≤ x) (hx : x ≤ X) (hy0 : -Y ≤ y) (hy : y ≤ Y) (hY : 0 ≤ Y) : -(X * Y) ≤ x * y ∧ x * y ≤ X * Y := by
  have h1 : x * Y ≤ X * Y := Int.mul_le_mul_of_nonneg_right hx hY
  have h2 : x * y ≤ x * Y := Int.mul_le_mul_of_nonneg_left hy hx0
  have h3 : x * (-Y) ≤ x * y := Int.mul_le_mul_of_nonneg_left hy0 hx0
  rw [Int.mul_neg] at h3
  omega
/-- The numbers of an index are few: no sum of the reference grows out. -/
theorem sumR_bound (s i : List Int) (hi : ∀ k, 0 ≤ i.getD k 0 ∧ i.getD k 0 ≤ 4096) : ∀ k : Nat, -(4503599627370496 * (k : Int)) ≤ sumR s i k ∧ sumR s i k ≤ 4503599627370496 * (k : Int)
  | 0 => by simp [sumR]
  | k + 1 => by
    have ih := sumR_bound s i hi k
    have hc := cut_bound (s.getD k 0)
    have hm := mul_bound (hi k).1 (hi k).2 hc.1 hc.2 (by omega)
    simp only [sumR]
    push_cast
    omega
end Go.Proofs.YtpkpadepccneeaaGreatDoor.W.V
namespace Go.Proofs.YtpkpadepccneeaaGreatDoor.W.V
/-- One step of the reference's cell: nothing grows out. -/
theorem cellR_step (o : Int) (s i : List Int) (hi : ∀ k, 0 ≤ i.getD k 0 ∧ i.getD k 0 ≤ 4096) (k : Nat) (hk : k < 4) :
    -9223372036854775808 ≤ i.getD k 0 * cut (s.getD k 0) ∧ i.getD k 0 * cut (s.getD k 0) ≤ 9223372036854775807 ∧
    -9223372036854775808 ≤ cellR o s i k + i.getD k 0 * cut (s.getD k 0) ∧ cellR o s i k + i.getD k 0 * cut (s.getD k 0) ≤ 9223372036854775807 ∧
    cellR o s i k + i.getD k 0 * cut (s.getD k 0) = cellR o s i (k + 1) := by
  have hc := cut_bound (s.getD k 0)
  have ho := cut_bound o
  have hm := mul_bound (hi k).1 (hi k).2 hc.1 hc.2 (by omega)
  have hs := sumR_bound s i hi k
  refine ⟨by omega, by omega, ?_, ?_, ?_⟩
  · simp only [cellR]; omega
  · simp only [cellR]; omega
  · simp only [cellR, sumR]; omega
/-- Where all is near, the program's cell has small numbers. -/
theorem sumP_bound (l s i : List Int) (c : Int) (hc : 0 ≤ c) (hc2 : c ≤ 4096) (hn : ∀ k, k < s.length → nearAt l s c k) (hi : ∀ k, 0 ≤ i.getD k 0 ∧ i.getD k 0 ≤ 4096) (hil : ∀ k, k < s.length → 0 < i.getD k 0 → 1 < l.getD k 0) :
    ∀ k : Nat, k ≤ s.length → -(16777216 * (k : Int)) ≤ sumP s i k ∧ sumP s i k ≤ 16777216 * (k : Int)
  | 0, _ => by simp [sumP]
  | k + 1, hk => by
    have ih := sumP_bound l s i c hc hc2 hn hi hil k (by omega)
    simp only [sumP]
    by_cases h0 : 0 < i.getD k 0
    · have hs := hn k (by omega)
      have h1 := hil k (by omega) h0
      unfold nearAt at hs
      have hm := mul_bound (x := i.getD k 0) (y := s.getD k 0) (X := 4096) (Y := 4096) (hi k).1 (hi k).2 (by omega) (by omega) (by omega)
      rw [if_pos h0]
      push_cast
      omega
    · rw [if_neg h0]
      push_cast
      omega
theorem cellP_step (o : Int) (l s i : List Int) (c : Int) (hc : 0 ≤ c) (hc2 : c ≤ 4096) (hn : near o l s c) (hi : ∀ k, 0 ≤ i.getD k 0 ∧ i.getD k 0 ≤ 4096) (hil : ∀ k, k < s.length → 0 < i.getD k 0 → 1 < l.getD k 0) (k : Nat) (hk : k < s.length) (h4 : k < 4)
    (h0 : 0 < i.getD k 0) :
    -9223372036854775808 ≤ i.getD k 0 * s.getD k 0 ∧ i.getD k 0 * s.getD k 0 ≤ 9223372036854775807 ∧
    -9223372036854775808 ≤ cellP o s i k + i.getD k 0 * s.getD k 0 ∧ cellP o s i k + i.getD k 0 * s.getD k 0 ≤ 9223372036854775807 ∧
    cellP o s i k + i.getD k 0 * s.getD k 0 = cellP o s i (k + 1) := by
  have hs := hn.2.2 k hk
  have h1 := hil k hk h0
  unfold nearAt at hs
  have hm := mul_bound (x := i.getD k 0) (y := s.getD k 0) (X := 4096) (Y := 4096) (hi k).1 (hi k).2 (by omega) (by omega) (by omega)
  have hb := sumP_bound l s i c hc hc2 hn.2.2 hi hil k (by omega)
  have ho := hn.1
  have ho2 := hn.2.1
  refine ⟨by omega, by omega, ?_, ?_, ?_⟩
  · simp only [cellP]; omega
  · simp only [cellP]; omega
  · simp only [cellP, sumP, if_pos h0]; omega
theorem cellP_skip (o : Int) (s i : List Int) (k : Nat) (h0 : ¬ 0 < i.getD k 0) : cellP o s i k = cellP o s i (k + 1) := by
  simp only [cellP, sumP, if_neg h0]; omega
/-- Where all is near, both words for a cell say the same. -/
theorem cell_same (o : Int) (l s i : List Int) (c : Int) (hc2 : c ≤ 4096) (hn : near o l s c) (hi : ∀ k, 0 ≤ i.getD k 0) (hil : ∀ k, k < s.length → 0 < i.getD k 0 → 1 < l.getD k 0) :
    ∀ k : Nat, k ≤ s.length → cellP o s i k = cellR o s i k
  | 0, _ => by
    have h0 := hn.1
    have h1 := hn.2.1
    simp only [cellP, cellR, sumP, sumR]
    rw [cut_near (by omega) (by omega)]
  | k + 1, hk => by
    have ih := cell_same o l s i c hc2 hn hi hil k (by omega)
    have hp := hi k
    simp only [cellP, cellR, sumP, sumR] at ih ⊢
    by_cases h0 : 0 < i.getD k 0
    · have hs := hn.2.2 k (by omega)
      have h1 := hil k (by omega) h0
      unfold nearAt at hs
      rw [if_pos h0, cut_near (n := s.getD k 0) (by omega) (by omega)]
      omega
    · have hz : i.getD k 0 = 0 := by omega
      rw [if_neg h0, hz, Int.zero_mul]
      omega
end Go.Proofs.YtpkpadepccneeaaGreatDoor.W.V
