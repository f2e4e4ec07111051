/- Plain words of chapter 8: a number or one as far as matters, the cell of an index in both ways, what is near. No condition. -/
import Derived.Test.YtdaajncfhcpecaaSMath
namespace Go.Proofs.Ytdaajncfhcpecaa.V
set_option linter.unusedVariables false
def cut (n : Int) : Int := if 1099511627776 < n then 1099511627776 else if n < -1099511627776 then -1099511627776 else n
theorem cut_bound (n : Int) : -1099511627776 ≤ cut n ∧ cut n ≤ 1099511627776 := by unfold cut; split <;> (try split) <;> omega
theorem cut_near {n : Int} (h : -1099511627776 ≤ n) (h1 : n ≤ 1099511627776) : cut n = n := by unfold cut; split <;> (try split) <;> omega
def sumR (s i : List Int) : Nat → Int
  | 0 => 0
  | k + 1 => sumR s i k + i.getD k 0 * cut (s.getD k 0)
def sumP (s i : List Int) : Nat → Int
  | 0 => 0
  | k + 1 => sumP s i k + if 0 < i.getD k 0 then i.getD k 0 * s.getD k 0 else 0
def cellR (o : Int) (s i : List Int) (k : Nat) : Int := cut o + sumR s i k
def cellP (o : Int) (s i : List Int) (k : Nat) : Int := o + sumP s i k
/-- No axis of more than one index has a stride that leads out at once. -/
def nearAt (l s : List Int) (c : Int) (k : Nat) : Prop := ¬ (1 < l.getD k 0 ∧ (s.getD k 0 ≤ -c ∨ c ≤ s.getD k 0))
def near (o : Int) (l s : List Int) (c : Int) : Prop := 0 ≤ o ∧ o < c ∧ ∀ k, k < s.length → nearAt l s c k
open Classical in
noncomputable def nearB (o : Int) (l s : List Int) (c : Int) : Bool := decide (near o l s c)
theorem nearB_true {o : Int} {l s : List Int} {c : Int} (h : near o l s c) : nearB o l s c = true := by simp [nearB, h]
theorem nearB_false {o : Int} {l s : List Int} {c : Int} (h : ¬ near o l s c) : nearB o l s c = false := by simp [nearB, h]
theorem mul_bound {x y X Y : Int} (hx0 : 0 ≤ x) (hx : x ≤ X) (hy0 : -Y ≤ y) (hy : y ≤ Y) (hY : 0 ≤ Y) : -(X * Y) ≤ x * y ∧ x * y ≤ X * Y := by
  have h1 : x * Y ≤ X * Y := Int.mul_le_mul_of_nonneg_right hx hY
  have h2 : x * y ≤ x * Y := Int.mul_le_mul_of_nonneg_left hy hx0
  have h3 : x * (-Y) ≤ x * y := Int.mul_le_mul_of_nonneg_left hy0 hx0
  rw [Int.mul_neg] at h3
  omega
/-- The numbers of an index are few: no sum of the reference grows out. -/
theorem sumR_bound (s i : List Int) (hi : ∀ k, 0 ≤ i.getD k 0 ∧ i.getD k 0 ≤ 4096) : ∀ k : Nat, -(4503599627370496 * (k : Int)) ≤ sumR s i k ∧ sumR s i k ≤ 4503599627370496 * (k : Int)
  | 0 => by simp [sumR]
  | k + 1 => by
    have ih := sumR_bound s i hi k
    have hc := cut_bound (s.getD k 0)
    have hm := mul_bound (hi k).1 (hi k).2 hc.1 hc.2 (by omega)
    simp only [sumR]
    push_cast
    omega
end Go.Proofs.Ytdaajncfhcpecaa.V
namespace Go.Proofs.Ytdaajncfhcpecaa.V
/-- One step of the reference's cell: nothing grows out. -/
theorem cellR_step (o : Int) (s i : List Int) (hi : ∀ k, 0 ≤ i.getD k 0 ∧ i.getD k 0 ≤ 4096) (k : Nat) (hk : k < 4) :
    -9223372036854775808 ≤ i.getD k 0 * cut (s.getD k 0) ∧ i.getD k 0 * cut (s.getD k 0) ≤ 9223372036854775807 ∧
    -9223372036854775808 ≤ cellR o s i k + i.getD k 0 * cut (s.getD k 0) ∧ cellR o s i k + i.getD k 0 * cut (s.getD k 0) ≤ 9223372036854775807 ∧
    cellR o s i k + i.getD k 0 * cut (s.getD k 0) = cellR o s i (k + 1) := by
  have hc := cut_bound (s.getD k 0)
  have ho := cut_bound o
  have hm := mul_bound (hi k).1 (hi k).2 hc.1 hc.2 (by omega)
  have hs := sumR_bound s i hi k
  refine ⟨by omega, by omega, ?_, ?_, ?_⟩
  · simp only [cellR]; omega
  · simp only [cellR]; omega
  · simp only [cellR, sumR]; omega
/-- Where all is near, the program's cell has small numbers. -/
theorem sumP_bound (l s i : List Int) (c : Int) (hc : 0 ≤ c) (hc2 : c ≤ 4096) (hn : ∀ k, k < s.length → nearAt l s c k) (hi : ∀ k, 0 ≤ i.getD k 0 ∧ i.getD k 0 ≤ 4096) (hil : ∀ k, k < s.length → 0 < i.getD k 0 → 1 < l.getD k 0) :
    ∀ k : Nat, k ≤ s.length → -(16777216 * (k : Int)) ≤ sumP s i k ∧ sumP s i k ≤ 16777216 * (k : Int)
  | 0, _ => by simp [sumP]
  | k + 1, hk => by
    have ih := sumP_bound l s i c hc hc2 hn hi hil k (by omega)
    simp only [sumP]
    by_cases h0 : 0 < i.getD k 0
    · have hs := hn k (by omega)
      have h1 := hil k (by omega) h0
      unfold nearAt at hs
      have hm := mul_bound (x := i.getD k 0) (y := s.getD k 0) (X := 4096) (Y := 4096) (hi k).1 (hi k).2 (by omega) (by omega) (by omega)
      rw [if_pos h0]
      push_cast
      omega
    · rw [if_neg h0]
      push_cast
      omega
theorem cellP_step (o : Int) (l s i : List Int) (c : Int) (hc : 0 ≤ c) (hc2 : c ≤ 4096) (hn : near o l s c) (hi : ∀ k, 0 ≤ i.getD k 0 ∧ i.getD k 0 ≤ 4096) (hil : ∀ k, k < s.length → 0 < i.getD k 0 → 1 < l.getD k 0) (k : Nat) (hk : k < s.length) (h4 : k < 4)
    (h0 : 0 < i.getD k 0) :
    -9223372036854775808 ≤ i.getD k 0 * s.getD k 0 ∧ i.getD k 0 * s.getD k 0 ≤ 9223372036854775807 ∧
    -9223372036854775808 ≤ cellP o s i k + i.getD k 0 * s.getD k 0 ∧ cellP o s i k + i.getD k 0 * s.getD k 0 ≤ 9223372036854775807 ∧
    cellP o s i k + i.getD k 0 * s.getD k 0 = cellP o s i (k + 1) := by
  have hs := hn.2.2 k hk
  have h1 := hil k hk h0
  unfold nearAt at hs
  have hm := mul_bound (x := i.getD k 0) (y := s.getD k 0) (X := 4096) (Y := 4096) (hi k).1 (hi k).2 (by omega) (by omega) (by omega)
  have hb := sumP_bound l s i c hc hc2 hn.2.2 hi hil k (by omega)
  have ho := hn.1
  have ho2 := hn.2.1
  refine ⟨by omega, by omega, ?_, ?_, ?_⟩
  · simp only [cellP]; omega
  · simp only [cellP]; omega
  · simp only [cellP, sumP, if_pos h0]; omega
theorem cellP_skip (o : Int) (s i : List Int) (k : Nat) (h0 : ¬ 0 < i.getD k 0) : cellP o s i k = cellP o s i (k + 1) := by
  simp only [cellP, sumP, if_neg h0]; omega
/-- Where all is near, both words for a cell say the same. -/
theorem cell_same (o : Int) (l s i : List Int) (c : Int) (hc2 : c ≤ 4096) (hn : near o l s c) (hi : ∀ k, 0 ≤ i.getD k 0) (hil : ∀ k, k < s.length → 0 < i.getD k 0 → 1 < l.getD k 0) :
    ∀ k : Nat, k ≤ s.length → cellP o s i k = cellR o s i k
  | 0, _ => by
    have h0 := hn.1
    have h1 := hn.2.1
    simp only [cellP, cellR, sumP, sumR]
    rw [cut_near (by omega) (by omega)]
  | k + 1, hk => by
    have ih := cell_same o l s i c hc2 hn hi hil k (by omega)
    have hp := hi k
    simp only [cellP, cellR, sumP, sumR] at ih ⊢
    by_cases h0 : 0 < i.getD k 0
    · have hs := hn.2.2 k (by omega)
      have h1 := hil k (by omega) h0
      unfold nearAt at hs
      rw [if_pos h0, cut_near (n := s.getD k 0) (by omega) (by omega)]
      omega
    · have hz : i.getD k 0 = 0 := by omega
      rw [if_neg h0, hz, Int.zero_mul]
      omega
end Go.Proofs.Ytdaajncfhcpecaa.V
