/- What makes 1 with a number modulo another one: the one that is, and the ways of Euclid to it. Plain. No condition. -/
import Derived.Test.YtpkpadepccneeaaGreatDoorP01
namespace Go.Proofs.YtpkpadepccneeaaGreatDoor
/-- t makes 1 with a, modulo m. -/
def InvOk (a m t : Nat) : Prop := t < m ∧ (m : Int) ∣ (t : Int) * a - 1
theorem InvOk.unique {a m t u : Nat} (h : InvOk a m t) (k : InvOk a m u) : t = u := by
  obtain ⟨h1, c, hc⟩ := h
  obtain ⟨k1, d, hd⟩ := k
  have e : (m : Int) ∣ (t : Int) - u := ⟨(t : Int) * (- d) + (u : Int) * c, by
    have e1 : (t : Int) * a = m * c + 1 := by omega
    have e2 : (u : Int) * a = m * d + 1 := by omega
    have e3 : (t : Int) * ((u : Int) * a) = u * (t * a) := by rw [Int.mul_left_comm]
    rw [e1, e2, Int.mul_add, Int.mul_add, Int.mul_one, Int.mul_one] at e3
    rw [Int.mul_add, Int.mul_left_comm, Int.mul_left_comm (m : Int) (u : Int) c]
    rw [Int.mul_neg, Int.mul_neg]
    omega⟩
  have e4 : (t : Int) % m = (u : Int) % m := Int.emod_eq_emod_iff_emod_sub_eq_zero.2 (Int.emod_eq_zero_of_dvd e)
  rw [Int.emod_eq_of_lt (by omega) (by omega), Int.emod_eq_of_lt (by omega) (by omega)] at e4
  omega
open Classical in
/-- What makes 1 with a modulo m (0: nothing does). -/
noncomputable def invN (a m : Nat) : Nat := if h : ∃ t, InvOk a m t then h.choose else 0
theorem invN_eq {a m t : Nat} (h : InvOk a m t) : invN a m = t := by
  unfold invN
  rw [dif_pos ⟨t, h⟩]
  exact (Exists.choose_spec (⟨t, h⟩ : ∃ t, InvOk a m t)).unique h
/-- What Euclid's way stands on: the rests r and n, and what of a they are; the greatest number that divides both. -/
structure Euc (a m r n t s : Nat) : Prop where
  rm : r ≤ m
  nr : n < r
  tm : t < m
  sm : s < m
  er : (m : Int) ∣ (t : Int) * a - r
  en : (m : Int) ∣ (s : Int) * a - n
  g : Nat.gcd r n = Nat.gcd m a
theorem Euc.start {a m : Nat} (hm : 2 ≤ m) : Euc a m m (a % m) 0 1 := by
  refine ⟨Nat.le_refl _, Nat.mod_lt _ (by omega), by omega, by omega, ⟨-1, by omega⟩, ?_, ?_⟩
  · have h := Nat.div_add_mod a m
    refine ⟨((a / m : Nat) : Int), ?_⟩
    have h' : (m : Int) * ((a / m : Nat) : Int) + ((a % m : Nat) : Int) = a := by exact_mod_cast h
    omega
  · rw [Nat.gcd_comm, ← Nat.gcd_rec]
theorem Euc.step {a m r n t s : Nat} (h : Euc a m r n t s) (hn : 0 < n) : Euc a m n (r % n) s ((t + (m - r / n * s % m % m)) % m) := by
  have hm : 0 < m := by have := h.tm; omega
  refine ⟨by have := h.rm; have := h.nr; omega, Nat.mod_lt _ hn, h.sm, Nat.mod_lt _ hm, h.en, ?_, ?_⟩
  · obtain ⟨c, hc⟩ := h.er
    obtain ⟨d, hd⟩ := h.en
    rw [Nat.mod_mod]
    have h1 := Nat.div_add_mod r n
    have h2 := Nat.div_add_mod (r / n * s) m
    have h3 := Nat.div_add_mod (t + (m - r / n * s % m)) m
    have h4 := Nat.mod_lt (r / n * s) hm
    generalize hq : r / n = q at *
    generalize hy : r % n = y at *
    generalize hA : (t + (m - q * s % m)) % m = A at *
    generalize hB : (t + (m - q * s % m)) / m = B at *
    generalize hC : q * s / m = C at *
    generalize hD : q * s % m = D at *
    have i1 : (n : Int) * q + y = r := by exact_mod_cast h1
    have i2 : (m : Int) * C + D = q * s := by exact_mod_cast h2
    have i3 : (m : Int) * B + A = t + (m - D) := by
      have : ((m * B + A : Nat) : Int) = ((t + (m - D) : Nat) : Int) := by rw [h3]
      rw [Int.natCast_add, Int.natCast_add, Int.natCast_mul, Int.natCast_sub (by omega)] at this
      exact this
    -- A = t + m - q s + m C - m B
    have iA : (A : Int) = t - q * s + m * (1 + C - B) := by
      rw [Int.mul_sub, Int.mul_add, Int.mul_one]; omega
    have iy : (y : Int) = r - n * q := by omega
    obtain ⟨z, hz⟩ : ∃ z : Int, z = 1 + C - B := ⟨_, rfl⟩
    rw [← hz] at iA
    refine ⟨c - q * d + z * a, ?_⟩
    rw [iA, iy, Int.add_mul, Int.sub_mul, Int.mul_add, Int.mul_sub, ← Int.mul_assoc (m : Int) z, ← hc]
    have e1 : (m : Int) * (q * d) = q * (s * a - n) := by rw [hd, Int.mul_left_comm]
    rw [e1, Int.mul_sub, ← Int.mul_assoc, Int.mul_comm (n : Int) q]
    omega
  · rw [← h.g, Nat.gcd_comm r n, Nat.gcd_rec n r, Nat.gcd_comm]
theorem Euc.done {a m r t s : Nat} (h : Euc a m r 0 t s) : r = Nat.gcd m a := by rw [← h.g, Nat.gcd_zero_right]
theorem Euc.one {a m r t s : Nat} (h : Euc a m r 0 t s) (hr : r = 1) : InvOk a m t := by
  subst hr
  exact ⟨h.tm, by have := h.er; exact_mod_cast this⟩
end Go.Proofs.YtpkpadepccneeaaGreatDoor
