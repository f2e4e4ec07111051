/- Plain numbers: of more numbers than places two share one; a number's powers come back to 1 modulo a prime that does not divide it. No program in it. No condition. -/
import Derived.Test.YtpkpadepccneeaaGreatDoorL01
namespace Go.Proofs.YtpkpadepccneeaaGreatDoor.Nt
set_option linter.unusedVariables false
theorem pigeon : ∀ (n : Nat) (f : Nat → Nat), (∀ i, i ≤ n → f i < n) → ∃ i j, i < j ∧ j ≤ n ∧ f i = f j
  | 0, f, h => absurd (h 0 (Nat.le_refl _)) (by omega)
  | n + 1, f, h => by
    by_cases hc : ∃ i, i ≤ n ∧ f i = f (n + 1)
    · obtain ⟨i, hi, e⟩ := hc
      exact ⟨i, n + 1, by omega, Nat.le_refl _, e⟩
    · have hne : ∀ i, i ≤ n → f i ≠ f (n + 1) := fun i hi e => hc ⟨i, hi, e⟩
      have hv := h (n + 1) (Nat.le_refl _)
      obtain ⟨i, j, h1, h2, h3⟩ := pigeon n (fun i => if f (n + 1) < f i then f i - 1 else f i) (fun i hi => by
        have := h i (by omega)
        have := hne i hi
        split <;> omega)
      refine ⟨i, j, h1, by omega, ?_⟩
      have a := hne i (by omega)
      have b := hne j h2
      split at h3 <;> split at h3 <;> omega
theorem pow_period {p g : Nat} (hp : Prime p) (hg : g % p ≠ 0) : ∃ k, 0 < k ∧ k < p ∧ g ^ k % p = 1 := by
  have hp1 := hp.1
  have hnz : ∀ i, g ^ i % p ≠ 0 := fun i h => hg (Nat.mod_eq_zero_of_dvd (hp.dvd_pow (Nat.dvd_of_mod_eq_zero h)))
  obtain ⟨i, j, h1, h2, h3⟩ := pigeon (p - 1) (fun i => g ^ i % p - 1) (fun i hi => by
    have h4 := Nat.mod_lt (g ^ i) (show 0 < p by omega)
    have h5 := hnz i
    show g ^ i % p - 1 < p - 1
    omega)
  have h6 := hnz i
  have h7 := hnz j
  have h8 : g ^ i % p = g ^ j % p := by
    have h3' : g ^ i % p - 1 = g ^ j % p - 1 := h3
    omega
  refine ⟨j - i, by omega, by omega, ?_⟩
  have e : g ^ j = g ^ i * g ^ (j - i) := by rw [← Nat.pow_add]; congr 1; omega
  have hg0 : 0 < g ^ (j - i) := Nat.pos_of_ne_zero fun h => by
    have := hnz (j - i)
    rw [h, Nat.zero_mod] at this
    exact this rfl
  have hd : p ∣ g ^ i * (g ^ (j - i) - 1) := by
    rw [Nat.mul_sub, Nat.mul_one, ← e]
    exact Nat.dvd_of_mod_eq_zero (Nat.sub_mod_eq_zero_of_mod_eq h8.symm)
  rcases hp.dvd_mul hd with h | h
  · exact absurd (Nat.mod_eq_zero_of_dvd h) h6
  · obtain ⟨c, hc⟩ := h
    rw [show g ^ (j - i) = 1 + p * c by omega, Nat.add_mul_mod_self_left, Nat.mod_eq_of_lt hp1]
end Go.Proofs.YtpkpadepccneeaaGreatDoor.Nt

/- Plain numbers: x ^ n - 1 has at most n roots modulo a prime. No program in it. No condition. -/
namespace Go.Proofs.YtpkpadepccneeaaGreatDoor.Nt
set_option linter.unusedVariables false
/-- A polynomial of degree n, its first coefficient L. -/
def Deg : Nat → Int → (Int → Int) → Prop
  | 0, L, f => ∀ x, f x = L
  | n + 1, L, f => ∃ c g, Deg n L g ∧ ∀ x, f x = c + x * g x
theorem Deg.low : ∀ (m : Nat) (L L' a : Int) (g q : Int → Int), Deg (m + 1) L g → Deg m L' q → Deg (m + 1) L fun x => g x + a * q x
  | 0, L, L', a, g, q, ⟨c, h, hh, hg⟩, hq => ⟨c + a * L', h, hh, fun x => by
      show g x + a * q x = c + a * L' + x * h x
      rw [hg x, hq x]; omega⟩
  | m + 1, L, L', a, g, q, ⟨c, g1, h1, hg⟩, ⟨c', q1, h2, hq⟩ => ⟨c + a * c', fun x => g1 x + a * q1 x, Deg.low m L L' a g1 q1 h1 h2, fun x => by
      show g x + a * q x = c + a * c' + x * (g1 x + a * q1 x)
      rw [hg x, hq x, Int.mul_add a, Int.mul_add x, Int.mul_left_comm a x]; omega⟩
theorem Deg.part : ∀ (n : Nat) (L : Int) (f : Int → Int), Deg (n + 1) L f → ∀ a, ∃ q, Deg n L q ∧ ∀ x, f x - f a = (x - a) * q x
  | 0, L, f, ⟨c, g, hg, hf⟩, a => ⟨g, hg, fun x => by rw [hf x, hf a, hg x, hg a, Int.sub_mul]; omega⟩
  | n + 1, L, f, ⟨c, g, hg, hf⟩, a => by
    obtain ⟨q', h1, h2⟩ := Deg.part n L g hg a
    refine ⟨fun x => g x + a * q' x, Deg.low n L L a g q' hg h1, fun x => ?_⟩
    have h := h2 x
    show f x - f a = (x - a) * (g x + a * q' x)
    have e : g a = g x - (x - a) * q' x := by omega
    rw [hf x, hf a, e, Int.mul_add, Int.mul_sub a, Int.sub_mul x a (g x), Int.mul_left_comm (x - a) a]
    omega
theorem Prime.dvd_mul_int {p : Nat} (hp : Prime p) {x y : Int} (h : (p : Int) ∣ x * y) : (p : Int) ∣ x ∨ (p : Int) ∣ y := by
  have h1 : p ∣ x.natAbs * y.natAbs := by
    rw [← Int.natAbs_mul]
    exact Int.ofNat_dvd_left.1 h
  rcases hp.dvd_mul h1 with h2 | h2
  · exact .inl (Int.ofNat_dvd_left.2 h2)
  · exact .inr (Int.ofNat_dvd_left.2 h2)
theorem roots_le {p : Nat} (hp : Prime p) {L : Int} (hL : ¬ (p : Int) ∣ L) : ∀ (n : Nat) (f : Int → Int) (rs : List Nat), Deg n L f → rs.Nodup → (∀ r ∈ rs, r < p) → (∀ r ∈ rs, (p : Int) ∣ f r) → rs.length ≤ n
  | 0, f, [], _, _, _, _ => Nat.le_refl _
  | 0, f, a :: rs, hd, _, _, h => by
    have := h a (by simp)
    rw [hd] at this
    exact absurd this hL
  | n + 1, f, [], _, _, _, _ => Nat.zero_le _
  | n + 1, f, a :: rs, hd, hn, hlt, h => by
    obtain ⟨q, hq, hf⟩ := Deg.part n L f hd a
    have hn' := List.nodup_cons.1 hn
    have := roots_le hp hL n q rs hq hn'.2 (fun r hr => hlt r (by simp [hr])) (fun r hr => by
      have h1 : (p : Int) ∣ ((r : Int) - a) * q r := by
        rw [← hf r]
        exact Int.dvd_sub (h r (by simp [hr])) (h a (by simp))
      rcases hp.dvd_mul_int h1 with h2 | h2
      · exfalso
        have l1 := hlt r (by simp [hr])
        have l2 := hlt a (by simp)
        have hne : r ≠ a := fun e => hn'.1 (e ▸ hr)
        obtain ⟨c, hc⟩ := h2
        rcases Int.lt_trichotomy c 0 with hc0 | hc0 | hc0
        · have : (p : Int) * c ≤ (p : Int) * (-1) := Int.mul_le_mul_of_nonneg_left (by omega) (by omega)
          omega
        · subst hc0; omega
        · have : (p : Int) * 1 ≤ (p : Int) * c := Int.mul_le_mul_of_nonneg_left (by omega) (by omega)
          omega
      · exact h2)
    simp only [List.length_cons]
    omega
theorem deg_pow : ∀ n : Nat, Deg n 1 fun x => x ^ n
  | 0 => fun x => by simp
  | n + 1 => ⟨0, fun x => x ^ n, deg_pow n, fun x => by
      show x ^ (n + 1) = 0 + x * x ^ n
      rw [Int.pow_succ, Int.mul_comm]; omega⟩
theorem deg_one : ∀ n : Nat, 0 < n → Deg n 1 fun x => x ^ n - 1
  | n + 1, _ => ⟨-1, fun x => x ^ n, deg_pow n, fun x => by
      show x ^ (n + 1) - 1 = -1 + x * x ^ n
      rw [Int.pow_succ, Int.mul_comm]; omega⟩
/-- Some number below p has no n-th power that is 1, if n is less than p - 1. -/
theorem some_not {p n : Nat} (hp : Prime p) (h0 : 0 < n) (h : n < p - 1) : ∃ a, 0 < a ∧ a < p ∧ a ^ n % p ≠ 1 := by
  by_cases hc : ∃ a, 0 < a ∧ a < p ∧ a ^ n % p ≠ 1
  · exact hc
  exfalso
  have hp1 := hp.1
  have := roots_le hp (L := 1) (fun h => by have := Int.le_of_dvd (by decide) h; omega) n _ (List.range' 1 (p - 1)) (deg_one n h0) List.nodup_range' (fun r hr => by
      have := List.mem_range'_1.1 hr; omega) (fun r hr => by
      have hi' := List.mem_range'_1.1 hr
      have e : r ^ n % p = 1 := Classical.byContradiction fun e => hc ⟨r, by omega, by omega, e⟩
      have e2 : ((r ^ n : Nat) : Int) = (p : Int) * ((r ^ n / p : Nat) : Int) + 1 := by
        have := Nat.div_add_mod (r ^ n) p
        rw [e] at this
        rw [← Int.natCast_mul]; omega
      refine ⟨((r ^ n / p : Nat) : Int), ?_⟩
      have e3 : (r : Int) ^ n = ((r ^ n : Nat) : Int) := by simp
      rw [e3, e2]; omega)
  simp at this
  omega
end Go.Proofs.YtpkpadepccneeaaGreatDoor.Nt

/- Plain numbers: a product of numbers of coprime orders is of the product's order; powers' orders. No program in it. No condition. -/
namespace Go.Proofs.YtpkpadepccneeaaGreatDoor.Nt
set_option linter.unusedVariables false
theorem pow_one_of {p a m k : Nat} (hp : 1 < p) (h : a ^ m % p = 1) (hk : m ∣ k) : a ^ k % p = 1 := by
  obtain ⟨c, rfl⟩ := hk
  rw [Nat.pow_mul, Nat.pow_mod, h, Nat.one_pow, Nat.mod_eq_of_lt hp]
theorem order_mul {p a b m n : Nat} (hp : 1 < p) (hm : ∀ k, a ^ k % p = 1 ↔ m ∣ k) (hn : ∀ k, b ^ k % p = 1 ↔ n ∣ k) (hc : Nat.gcd m n = 1) (k : Nat) : (a * b) ^ k % p = 1 ↔ m * n ∣ k := by
  constructor
  · intro h
    have h1 : m ∣ k := by
      have e : a ^ (k * n) % p = 1 := by
        have h2 : (a * b) ^ (k * n) % p = 1 := pow_one_of hp h (Nat.dvd_mul_right k n)
        rw [Nat.mul_pow, Nat.mul_mod, (hn (k * n)).2 (Nat.dvd_mul_left n k), Nat.mul_one, Nat.mod_mod] at h2
        exact h2
      exact Nat.Coprime.dvd_of_dvd_mul_right hc ((hm _).1 e)
    have h2 : n ∣ k := by
      have e : b ^ (k * m) % p = 1 := by
        have h2 : (a * b) ^ (k * m) % p = 1 := pow_one_of hp h (Nat.dvd_mul_right k m)
        rw [Nat.mul_pow, Nat.mul_mod, (hm (k * m)).2 (Nat.dvd_mul_left m k), Nat.one_mul, Nat.mod_mod] at h2
        exact h2
      have hc' : Nat.Coprime n m := by rw [Nat.Coprime, Nat.gcd_comm]; exact hc
      exact Nat.Coprime.dvd_of_dvd_mul_right hc' ((hn _).1 e)
    exact Nat.Coprime.mul_dvd_of_dvd_of_dvd hc h1 h2
  · intro h
    rw [Nat.mul_pow, Nat.mul_mod, (hm k).2 (Nat.dvd_trans (Nat.dvd_mul_right m n) h), (hn k).2 (Nat.dvd_trans (Nat.dvd_mul_left n m) h), Nat.mul_one, Nat.mod_eq_of_lt hp]
/-- A power's order, where the exponent divides. -/
theorem order_pow {p a m d : Nat} (hd : 0 < d) (hm : ∀ k, a ^ k % p = 1 ↔ (d * m) ∣ k) (k : Nat) : (a ^ d) ^ k % p = 1 ↔ m ∣ k := by
  rw [← Nat.pow_mul, hm]
  exact Nat.mul_dvd_mul_iff_left hd
end Go.Proofs.YtpkpadepccneeaaGreatDoor.Nt

/- Plain numbers: modulo a prime some number's powers are all: its order is p - 1. No program in it. No condition. -/
namespace Go.Proofs.YtpkpadepccneeaaGreatDoor.Nt
set_option linter.unusedVariables false
theorem val {q : Nat} (hq : 1 < q) : ∀ b : Nat, 0 < b → ∃ e c, b = q ^ e * c ∧ ¬ q ∣ c := by
  intro b
  induction b using Nat.strongRecOn with
  | ind b ih =>
    intro hb
    by_cases h : q ∣ b
    · obtain ⟨d, rfl⟩ := h
      have hd : 0 < d := Nat.pos_of_ne_zero fun e => by subst e; simp at hb
      have : d < q * d := by have := Nat.mul_lt_mul_of_pos_right hq hd; omega
      obtain ⟨e, c, h1, h2⟩ := ih d this hd
      exact ⟨e + 1, c, by rw [h1, Nat.pow_succ', Nat.mul_assoc], h2⟩
    · exact ⟨0, b, by simp, h⟩
theorem order_le {p g o : Nat} (hp : Prime p) (hg : g % p ≠ 0) (ho : ∀ k, g ^ k % p = 1 ↔ o ∣ k) : o ≤ p - 1 := by
  obtain ⟨k, h1, h2, h3⟩ := pow_period hp hg
  have := Nat.le_of_dvd h1 ((ho k).1 h3)
  omega
theorem nz_of {p g o : Nat} (hp : Prime p) (h0 : 0 < o) (ho : ∀ k, g ^ k % p = 1 ↔ o ∣ k) : g % p ≠ 0 := fun h => by
  have h1 := (ho o).2 (Nat.dvd_refl o)
  rw [Nat.pow_mod, h, Nat.zero_pow h0, Nat.zero_mod] at h1
  exact absurd h1 (by decide)
theorem gen_from {p : Nat} (hp : Prime p) : ∀ (d g o : Nat), p - 1 - o = d → 0 < o → (∀ k, g ^ k % p = 1 ↔ o ∣ k) → ∃ g', ∀ k, g' ^ k % p = 1 ↔ (p - 1) ∣ k := by
  intro d
  induction d using Nat.strongRecOn with
  | ind d ih =>
    intro g o hd h0 ho
    have hp1 := hp.1
    have hle := order_le hp (nz_of hp h0 ho) ho
    by_cases he : o = p - 1
    · exact ⟨g, by rw [← he]; exact ho⟩
    obtain ⟨a, ha0, hap, hne⟩ := some_not hp h0 (by omega)
    have hanz : a % p ≠ 0 := by rw [Nat.mod_eq_of_lt hap]; omega
    obtain ⟨k, hk0, hkp, hk1⟩ := pow_period hp hanz
    obtain ⟨b, hb0, hb⟩ := order hp1 hk0 hk1
    have hbo : ¬ b ∣ o := fun h => hne ((hb o).2 h)
    have hg0 : 0 < Nat.gcd b o := Nat.gcd_pos_of_pos_left _ hb0
    obtain ⟨u, hu⟩ := Nat.gcd_dvd_left b o
    have hu1 : 1 < u := by
      rcases Nat.lt_or_ge 1 u with h | h
      · exact h
      · exfalso
        have : u = 0 ∨ u = 1 := by omega
        rcases this with rfl | rfl
        · rw [Nat.mul_zero] at hu; omega
        · rw [Nat.mul_one] at hu; exact hbo (hu ▸ Nat.gcd_dvd_right b o)
    obtain ⟨q, hq, hqu⟩ := exists_prime u hu1
    obtain ⟨e, c, hbe, hqc⟩ := val hq.1 b hb0
    obtain ⟨f, o', hof, hqo⟩ := val hq.1 o h0
    have hef : f < e := Nat.lt_of_not_le fun h => by
      have h1 : q ^ e ∣ Nat.gcd b o := Nat.dvd_gcd ⟨c, hbe⟩ (Nat.dvd_trans (Nat.pow_dvd_pow q h) ⟨o', hof⟩)
      obtain ⟨t, ht⟩ := h1
      have h2 : q ^ e * (t * u) = q ^ e * c := by rw [← Nat.mul_assoc, ← ht, ← hu, ← hbe]
      have h3 := Nat.eq_of_mul_eq_mul_left (Nat.pow_pos hq.pos) h2
      exact hqc (h3 ▸ Nat.dvd_trans hqu (Nat.dvd_mul_left u t))
    have hc0 : 0 < c := Nat.pos_of_ne_zero fun e' => by subst e'; simp at hbe; omega
    have ho0 : 0 < o' := Nat.pos_of_ne_zero fun e' => by subst e'; simp at hof; omega
    have o1 := order_pow (p := p) (a := a) (m := q ^ e) (d := c) hc0 (by rw [Nat.mul_comm c, ← hbe]; exact hb)
    have o2 := order_pow (p := p) (a := g) (m := o') (d := q ^ f) (Nat.pow_pos hq.pos) (by rw [← hof]; exact ho)
    have hcop : Nat.gcd (q ^ e) o' = 1 := by
      have : Nat.Coprime q o' := by
        rcases hq.2 _ (Nat.gcd_dvd_left q o') with h | h
        · exact h
        · exact absurd (h ▸ Nat.gcd_dvd_right q o') hqo
      exact Nat.Coprime.pow_left e this
    have o3 := fun k => order_mul hp1 o1 o2 hcop k
    have hlt : o < q ^ e * o' := by
      rw [hof]
      exact Nat.mul_lt_mul_of_pos_right (Nat.pow_lt_pow_right hq.1 hef) ho0
    have hle2 := order_le hp (nz_of hp (by omega) o3) o3
    exact ih (p - 1 - q ^ e * o') (by omega) _ _ rfl (by omega) o3
/-- A generator. -/
theorem gen {p : Nat} (hp : Prime p) (h2 : 2 < p) : ∃ g, 0 < g ∧ g < p ∧ ∀ k, g ^ k % p = 1 ↔ (p - 1) ∣ k := by
  obtain ⟨g, hg⟩ := gen_from hp _ 1 1 rfl (by omega) (fun k => ⟨fun _ => Nat.one_dvd k, fun _ => by rw [Nat.one_pow, Nat.mod_eq_of_lt hp.1]⟩)
  have hnz := nz_of hp (by omega) hg
  exact ⟨g % p, by omega, Nat.mod_lt _ hp.pos, fun k => by rw [← hg k, ← Nat.pow_mod]⟩
end Go.Proofs.YtpkpadepccneeaaGreatDoor.Nt
