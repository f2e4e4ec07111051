/- Plain mathematics of chapter 9: what Size, Turn and Back reckon, over lists of whole numbers. No program in it. No condition. -/
namespace Go.Proofs.Ytmofdjddjkjogaa.D

/-- digits.Size behind its test on the length. -/
def sizeL : Int → Bool → List Int → Int × Int
  | n, long, [] => if long then (0, 13) else (n, 0)
  | n, long, r :: rs => if r < 2 then (0, 1) else if long = true ∨ 4096 / n < r then sizeL n true rs else sizeL (n * r) false rs
def sizeD (l : List Int) : Int × Int := if 12 < l.length then (0, 1) else sizeL 1 false l
/-- The reference's second loop. -/
def refL : Int → List Int → Int × Int
  | n, [] => (n, 0)
  | n, r :: rs => if 4096 < r then (0, 13) else if 4096 < n * r then (0, 13) else refL (n * r) rs
def prod : List Int → Int
  | [] => 1
  | r :: rs => r * prod rs
def small : List Int → Bool
  | [] => false
  | r :: rs => if r < 2 then true else small rs
def Ok (l : List Int) : Prop := l.length ≤ 12 ∧ (∀ r ∈ l, 2 ≤ r) ∧ prod l ≤ 4096
/-- digits.turn. -/
def turnL : Int → Int → List Int → Int
  | out, _, [] => out
  | out, i, r :: rs => turnL (out * r + i % r) (i / r) rs
def turnD (l : List Int) (i : Int) : Int := turnL 0 i l
/-- The reference's digits. -/
def digs : Int → List Int → List Int
  | _, [] => []
  | i, r :: rs => i % r :: digs (i / r) rs

theorem mul_fits {n r : Int} (h1 : 1 ≤ n) (h : ¬ 4096 / n < r) : n * r ≤ 4096 := by
  have h2 : r ≤ 4096 / n := Int.not_lt.1 h
  have h3 : r * n ≤ 4096 := (Int.le_ediv_iff_mul_le (by omega)).1 h2
  rw [Int.mul_comm]; exact h3
theorem mul_over {n r : Int} (h1 : 1 ≤ n) (h : 4096 / n < r) : 4096 < n * r := by
  have h3 : ¬ r * n ≤ 4096 := fun h' => absurd ((Int.le_ediv_iff_mul_le (by omega)).2 h') (by omega)
  rw [Int.mul_comm]; omega
theorem mul_ge {a b : Int} (h1 : 1 ≤ a) (h2 : 1 ≤ b) : a ≤ a * b := by
  have := Int.mul_le_mul_of_nonneg_left h2 (show 0 ≤ a by omega); omega
theorem mul_pos' {a b : Int} (h1 : 1 ≤ a) (h2 : 1 ≤ b) : 1 ≤ a * b := by have := mul_ge h1 h2; omega
theorem prod_pos : ∀ (l : List Int), (∀ r ∈ l, 2 ≤ r) → 1 ≤ prod l
  | [], _ => by simp [prod]
  | r :: rs, h => mul_pos' (by have := h r (by simp); omega) (prod_pos rs fun x hx => h x (by simp [hx]))
theorem small_false : ∀ (l : List Int), small l = false ↔ ∀ r ∈ l, 2 ≤ r
  | [] => by simp [small]
  | r :: rs => by
    unfold small
    have ih := small_false rs
    by_cases h : r < 2
    · rw [if_pos h]; simp; omega
    · rw [if_neg h, ih]; simp; omega
theorem sizeL_long : ∀ (l : List Int) (n : Int), sizeL n true l = if small l then (0, 1) else (0, 13)
  | [], n => by simp [sizeL, small]
  | r :: rs, n => by
    unfold sizeL small
    by_cases h : r < 2
    · simp [h]
    · rw [if_neg h, if_neg h, if_pos (.inl rfl), sizeL_long rs n]
theorem sizeL_eq : ∀ (l : List Int) (n : Int), 1 ≤ n → n ≤ 4096 → sizeL n false l = if small l then (0, 1) else if n * prod l ≤ 4096 then (n * prod l, 0) else (0, 13)
  | [], n, h1, h2 => by simp [sizeL, small, prod]; omega
  | r :: rs, n, h1, h2 => by
    unfold sizeL small
    by_cases h : r < 2
    · simp [h]
    · rw [if_neg h, if_neg h]
      by_cases h3 : 4096 / n < r
      · rw [if_pos (.inr h3), sizeL_long rs n]
        cases hs : small rs with
        | true => simp
        | false =>
          have hp := prod_pos rs ((small_false rs).1 hs)
          have ho := mul_over h1 h3
          have hg := mul_ge (show 1 ≤ n * r by omega) hp
          have hn : ¬ n * prod (r :: rs) ≤ 4096 := by show ¬ n * (r * prod rs) ≤ 4096; rw [← Int.mul_assoc]; omega
          rw [if_neg (by decide), if_neg (by decide), if_neg hn]
      · rw [if_neg (by simp [h3]), sizeL_eq rs (n * r) (mul_pos' h1 (by omega)) (mul_fits h1 h3)]
        rw [show n * prod (r :: rs) = n * r * prod rs from (Int.mul_assoc n r _).symm]
theorem sizeD_eq (l : List Int) : sizeD l = if 12 < l.length then (0, 1) else if small l then (0, 1) else if prod l ≤ 4096 then (prod l, 0) else (0, 13) := by
  unfold sizeD
  rw [sizeL_eq l 1 (by omega) (by omega), Int.one_mul]
theorem refL_eq : ∀ (l : List Int) (n : Int), 1 ≤ n → n ≤ 4096 → small l = false → refL n l = if n * prod l ≤ 4096 then (n * prod l, 0) else (0, 13)
  | [], n, h1, h2, _ => by simp [refL, prod]; omega
  | r :: rs, n, h1, h2, hs => by
    have hall := (small_false _).1 hs
    have hr := hall r (by simp)
    have hrs : ∀ x ∈ rs, 2 ≤ x := fun x hx => hall x (by simp [hx])
    have hp := prod_pos rs hrs
    have he : n * prod (r :: rs) = n * r * prod rs := (Int.mul_assoc n r _).symm
    have hnr := mul_pos' h1 (show 1 ≤ r by omega)
    have hg := mul_ge hnr hp
    have hg2 : r ≤ n * r := by rw [Int.mul_comm]; exact mul_ge (by omega) h1
    unfold refL
    by_cases h3 : 4096 < r
    · rw [if_pos h3, he, if_neg (by omega)]
    · rw [if_neg h3]
      by_cases h4 : 4096 < n * r
      · rw [if_pos h4, he, if_neg (by omega)]
      · rw [if_neg h4, he, refL_eq rs (n * r) hnr (by omega) ((small_false rs).2 hrs)]
theorem sizeD_ref (l : List Int) (h : ¬ 12 < l.length) (hs : small l = false) : sizeD l = refL 1 l := by
  rw [sizeD_eq, if_neg h, hs, refL_eq l 1 (by omega) (by omega) hs, Int.one_mul]; rfl
theorem sizeD_small (l : List Int) (hs : small l = true) : sizeD l = (0, 1) := by
  rw [sizeD_eq, hs]; simp
theorem sizeD_cases (l : List Int) : (Ok l ∧ sizeD l = (prod l, 0)) ∨ (¬ Ok l ∧ sizeD l = (0, 1)) ∨ (¬ Ok l ∧ sizeD l = (0, 13)) := by
  rw [sizeD_eq]
  by_cases h : 12 < l.length
  · exact .inr (.inl ⟨fun ⟨h1, _⟩ => by omega, by rw [if_pos h]⟩)
  · rw [if_neg h]
    cases hs : small l with
    | true =>
      refine .inr (.inl ⟨fun ⟨_, h2, _⟩ => ?_, by simp⟩)
      rw [(small_false l).2 h2] at hs; cases hs
    | false =>
      by_cases h3 : prod l ≤ 4096
      · exact .inl ⟨⟨by omega, (small_false l).1 hs, h3⟩, by rw [if_neg (by decide), if_pos h3]⟩
      · exact .inr (.inr ⟨fun ⟨_, _, h4⟩ => h3 h4, by rw [if_neg (by decide), if_neg h3]⟩)
theorem Ok.size {l : List Int} (h : Ok l) : sizeD l = (prod l, 0) := by
  rcases sizeD_cases l with h1 | h1 | h1
  · exact h1.2
  · exact absurd h h1.1
  · exact absurd h h1.1
theorem Ok.pos {l : List Int} (h : Ok l) : 1 ≤ prod l := prod_pos l h.2.1

/-! ### turned about -/
theorem turnL_out : ∀ (l : List Int) (out i : Int), turnL out i l = out * prod l + turnL 0 i l
  | [], out, i => by simp [turnL, prod]
  | r :: rs, out, i => by
    simp only [turnL, prod]
    rw [turnL_out rs (out * r + i % r), turnL_out rs (0 * r + i % r), Int.add_mul, Int.zero_mul, Int.zero_add, Int.mul_assoc, Int.add_assoc]
theorem turnL_cons (r : Int) (rs : List Int) (i : Int) : turnL 0 i (r :: rs) = (i % r) * prod rs + turnL 0 (i / r) rs := by
  simp only [turnL]
  rw [turnL_out, Int.zero_mul, Int.zero_add]
theorem turnL_bound : ∀ (l : List Int) (i : Int), (∀ r ∈ l, 2 ≤ r) → 0 ≤ turnL 0 i l ∧ turnL 0 i l < prod l
  | [], i, _ => by simp [turnL, prod]
  | r :: rs, i, h => by
    have hr := h r (by simp)
    have hrs : ∀ x ∈ rs, 2 ≤ x := fun x hx => h x (by simp [hx])
    have ih := turnL_bound rs (i / r) hrs
    have hp := prod_pos rs hrs
    have h1 := Int.emod_nonneg i (show r ≠ 0 by omega)
    have h2 := Int.emod_lt_of_pos i (show 0 < r by omega)
    rw [turnL_cons]
    have h3 : 0 ≤ (i % r) * prod rs := Int.mul_nonneg h1 (by omega)
    have h4 : (i % r + 1) * prod rs ≤ r * prod rs := Int.mul_le_mul_of_nonneg_right (by omega) (by omega)
    rw [Int.add_mul, Int.one_mul] at h4
    show _ ∧ _ < r * prod rs
    omega
theorem prod_append : ∀ (a b : List Int), prod (a ++ b) = prod a * prod b
  | [], b => by simp [prod]
  | r :: rs, b => by simp only [List.cons_append, prod, prod_append rs b, Int.mul_assoc]
theorem prod_reverse : ∀ (l : List Int), prod l.reverse = prod l
  | [] => rfl
  | r :: rs => by rw [List.reverse_cons, prod_append, prod_reverse rs]; simp [prod, Int.mul_comm]
theorem turnL_append : ∀ (a b : List Int) (out i : Int), (∀ r ∈ a, 2 ≤ r) → turnL out i (a ++ b) = turnL (turnL out i a) (i / prod a) b
  | [], b, out, i, _ => by simp [turnL, prod]
  | r :: rs, b, out, i, h => by
    have hr := h r (by simp)
    have hrs : ∀ x ∈ rs, 2 ≤ x := fun x hx => h x (by simp [hx])
    simp only [List.cons_append, turnL, prod]
    rw [turnL_append rs b _ _ hrs, Int.ediv_ediv_of_nonneg (by omega)]
theorem turnL_mod : ∀ (l : List Int) (i : Int), (∀ r ∈ l, 2 ≤ r) → turnL 0 (i % prod l) l = turnL 0 i l
  | [], i, _ => rfl
  | r :: rs, i, h => by
    have hr := h r (by simp)
    have hrs : ∀ x ∈ rs, 2 ≤ x := fun x hx => h x (by simp [hx])
    have hp := prod_pos rs hrs
    rw [turnL_cons, turnL_cons]
    have e1 : i % prod (r :: rs) % r = i % r := Int.emod_emod_of_dvd i ⟨prod rs, rfl⟩
    have e2 : i % prod (r :: rs) / r = i / r % prod rs := by
      show i % (r * prod rs) / r = _
      have hr0 : r ≠ 0 := by omega
      rw [Int.emod_def i (r * prod rs), Int.emod_def (i / r) (prod rs), Int.ediv_ediv_of_nonneg (by omega), Int.mul_assoc, Int.sub_eq_add_neg, Int.neg_mul_eq_mul_neg, Int.add_mul_ediv_left _ _ hr0]
      rfl
    rw [e1, e2, turnL_mod rs _ hrs]
theorem turn_back : ∀ (l : List Int) (i : Int), (∀ r ∈ l, 2 ≤ r) → 0 ≤ i → i < prod l → turnL 0 (turnL 0 i l) l.reverse = i
  | [], i, _, h0, h1 => by simp [turnL, prod] at *; omega
  | r :: rs, i, h, h0, h1 => by
    have hr := h r (by simp)
    have hrs : ∀ x ∈ rs, 2 ≤ x := fun x hx => h x (by simp [hx])
    have hrv : ∀ x ∈ rs.reverse, 2 ≤ x := fun x hx => hrs x (by simpa using hx)
    have hp := prod_pos rs hrs
    have hb := turnL_bound rs (i / r) hrs
    have hm0 := Int.emod_nonneg i (show r ≠ 0 by omega)
    have hm1 := Int.emod_lt_of_pos i (show 0 < r by omega)
    have hir : i / r < prod rs := (Int.ediv_lt_iff_lt_mul (by omega)).2 (by rw [Int.mul_comm]; exact h1)
    have hi0 : 0 ≤ i / r := Int.ediv_nonneg h0 (by omega)
    rw [List.reverse_cons, turnL_append _ _ _ _ hrv, prod_reverse, turnL_cons]
    have e1 : ((i % r) * prod rs + turnL 0 (i / r) rs) % prod rs = turnL 0 (i / r) rs := by
      rw [Int.add_comm, Int.add_mul_emod_self_right, Int.emod_eq_of_lt hb.1 hb.2]
    have e2 : ((i % r) * prod rs + turnL 0 (i / r) rs) / prod rs = i % r := by
      rw [Int.add_comm, Int.add_mul_ediv_right _ _ (by omega), Int.ediv_eq_zero_of_lt hb.1 hb.2, Int.zero_add]
    have e3 : turnL 0 ((i % r) * prod rs + turnL 0 (i / r) rs) rs.reverse = i / r := by
      rw [← turnL_mod _ _ hrv, prod_reverse, e1]
      exact turn_back rs (i / r) hrs hi0 hir
    rw [e2, e3]
    simp only [turnL]
    rw [Int.emod_eq_of_lt hm0 hm1]
    have := Int.mul_ediv_add_emod i r
    rw [Int.mul_comm] at this
    exact this
theorem Ok.reverse {l : List Int} (h : Ok l) : Ok l.reverse := ⟨by simpa using h.1, fun r hr => h.2.1 r (by simpa using hr), by rw [prod_reverse]; exact h.2.2⟩
theorem Ok.turn {l : List Int} (h : Ok l) (i : Int) : 0 ≤ turnD l i ∧ turnD l i < prod l := turnL_bound l i h.2.1
theorem Ok.back {l : List Int} (h : Ok l) {i : Int} (h0 : 0 ≤ i) (h1 : i < prod l) : turnD l.reverse (turnD l i) = i := turn_back l i h.2.1 h0 h1
end Go.Proofs.Ytmofdjddjkjogaa.D
