/- Plain numbers: a number's factors as the sieve reckons them: primes, rising, that make the number. No program in it. No condition. -/
import Derived.Test.YtpkpadepccneeaaGreatDoorL07
import Derived.Test.YtpkpadepccneeaaGreatDoorL38
import Derived.Test.YtpkpadepccneeaaGreatDoorL39
namespace Go.Proofs.YtpkpadepccneeaaGreatDoor
set_option linter.unusedVariables false
set_option linter.unusedSimpArgs false
/-- A number without its factors d, and how many these are. -/
def strip (d : Nat) : Nat → Nat → Nat × Nat
  | 0, n => (n, 0)
  | k + 1, n => bif Nat.beq (n % d) 0 then (match strip d k (n / d) with | (m, e) => (m, e + 1)) else (n, 0)
theorem strip_yes {d k n : Nat} (h : n % d = 0) : strip d (k + 1) n = ((strip d k (n / d)).1, (strip d k (n / d)).2 + 1) := by
  rw [strip, h]; rfl
theorem strip_no {d k n : Nat} (h : n % d ≠ 0) : strip d (k + 1) n = (n, 0) := by
  rw [strip]
  have : Nat.beq (n % d) 0 = false := by
    cases hb : Nat.beq (n % d) 0 with
    | false => rfl
    | true => exact absurd (Nat.eq_of_beq_eq_true hb) h
  rw [this]; rfl
theorem strip_spec {d : Nat} (hd : 2 ≤ d) : ∀ (k n : Nat), 0 < n → n < 2 ^ k → n = (strip d k n).1 * d ^ (strip d k n).2 ∧ (strip d k n).1 % d ≠ 0
  | 0, n, h0, h => by rw [Nat.pow_zero] at h; omega
  | k + 1, n, h0, h => by
    by_cases hz : n % d = 0
    · rw [strip_yes hz]
      have hdv : d * (n / d) = n := Nat.mul_div_cancel' (Nat.dvd_of_mod_eq_zero hz)
      have h1 : 0 < n / d := Nat.pos_of_ne_zero fun e => by rw [e, Nat.mul_zero] at hdv; omega
      have h2 : n / d < 2 ^ k := by
        have : 2 * (n / d) ≤ d * (n / d) := Nat.mul_le_mul_right _ hd
        rw [Nat.pow_succ] at h; omega
      obtain ⟨e1, e2⟩ := strip_spec hd k (n / d) h1 h2
      refine ⟨?_, e2⟩
      show n = (strip d k (n / d)).1 * d ^ ((strip d k (n / d)).2 + 1)
      rw [Nat.pow_succ, ← Nat.mul_assoc, ← e1, Nat.mul_comm, hdv]
    · rw [strip_no hz]
      exact ⟨by simp, hz⟩
/-- The factors from a number on: k rounds at most. -/
def facsGo : Nat → Nat → Nat → List Fac
  | 0, _, _ => []
  | k + 1, n, d => bif Nat.ble n 1 then [] else bif Nat.blt n (d * d)
      then (match strip n 64 n with | (m, 0) => facsGo k m (n + 1) | (m, e + 1) => ⟨n, ((e + 1 : Nat) : Int)⟩ :: facsGo k m (n + 1))
      else (match strip d 64 n with | (m, 0) => facsGo k m (d + 1) | (m, e + 1) => ⟨d, ((e + 1 : Nat) : Int)⟩ :: facsGo k m (d + 1))
theorem facsGo_one (k d : Nat) : facsGo k 1 d = [] := by cases k <;> rfl
/-- One round's gain. -/
def gain (d : Nat) : Nat → List Fac | 0 => [] | e + 1 => [⟨d, ((e + 1 : Nat) : Int)⟩]
theorem ble_no {n : Nat} (h : 1 < n) : Nat.ble n 1 = false := by
  cases hb : Nat.ble n 1 with
  | false => rfl
  | true => have := Nat.le_of_ble_eq_true hb; omega
theorem blt_no {n m : Nat} (h : m ≤ n) : Nat.blt n m = false := by
  cases hb : Nat.blt n m with
  | false => rfl
  | true => have := Nat.le_of_ble_eq_true hb; omega
theorem blt_yes {n m : Nat} (h : n < m) : Nat.blt n m = true := Nat.ble_eq_true_of_le h
theorem facsGo_small {k n d : Nat} (h : 1 < n) (hd : d * d ≤ n) : facsGo (k + 1) n d = gain d (strip d 64 n).2 ++ facsGo k (strip d 64 n).1 (d + 1) := by
  rw [facsGo, ble_no h, blt_no hd]
  cases hs : strip d 64 n with
  | mk m e => cases e <;> rfl
theorem facsGo_great {k n d : Nat} (h : 1 < n) (hd : n < d * d) : facsGo (k + 1) n d = gain n (strip n 64 n).2 ++ facsGo k (strip n 64 n).1 (n + 1) := by
  rw [facsGo, ble_no h, blt_yes hd]
  cases hs : strip n 64 n with
  | mk m e => cases e <;> rfl
theorem strip_self {n : Nat} (h : 1 < n) : strip n 64 n = (1, 1) := by
  rw [strip_yes (Nat.mod_self n), Nat.div_self (by omega), strip_no (by rw [Nat.mod_eq_of_lt h]; decide)]
def facsN (n : Nat) : List Fac := facsGo 300 n 2
/-- What the factors are. -/
structure FS (n d : Nat) (l : List Fac) : Prop where
  all : ∀ f ∈ l, Nt.Prime f.q ∧ d ≤ f.q ∧ 1 ≤ f.e ∧ f.e ≤ 62
  prod : Nt.prodOf (facs l) = n
  up : l.Pairwise fun a b => a.q < b.q
theorem FS.one (d : Nat) : FS 1 d [] := ⟨fun f hf => (by cases hf), rfl, List.Pairwise.nil⟩
theorem exp_le {n d e m : Nat} (hd : 2 ≤ d) (hm : 0 < m) (h : n = m * d ^ e) (hn : n < 4611686018427387904) : e ≤ 62 := by
  have h1 : 2 ^ e ≤ d ^ e := Nat.pow_le_pow_left hd e
  have h2 : d ^ e ≤ m * d ^ e := Nat.le_mul_of_pos_left _ hm
  have h3 : 2 ^ e < 2 ^ 62 := by rw [show (2 : Nat) ^ 62 = 4611686018427387904 from rfl]; omega
  have := (Nat.pow_lt_pow_iff_right (show 1 < 2 by decide)).1 h3
  omega
theorem FS.more {n m d e : Nat} {l : List Fac} (h : FS m (d + 1) l) (hp : Nt.Prime d) (he : 1 ≤ e) (he2 : e ≤ 62) (hn : n = m * d ^ e) : FS n d (⟨d, (e : Int)⟩ :: l) := by
  refine ⟨fun f hf => ?_, ?_, ?_⟩
  · rcases List.mem_cons.1 hf with rfl | hf
    · exact ⟨hp, Nat.le_refl _, by show (1 : Int) ≤ (e : Int); omega, by show (e : Int) ≤ 62; omega⟩
    · obtain ⟨h1, h2, h3, h4⟩ := h.all f hf
      exact ⟨h1, by omega, h3, h4⟩
  · have := h.prod
    show d ^ ((e : Int).toNat) * Nt.prodOf (facs l) = n
    rw [this, Int.toNat_natCast, hn, Nat.mul_comm]
  · refine List.Pairwise.cons (fun f hf => ?_) h.up
    have := (h.all f hf).2.1
    show d < f.q
    omega
theorem facsGo_spec : ∀ (k n d : Nat), 0 < n → n < 4611686018427387904 → 2 ≤ d → (∀ e, 2 ≤ e → e < d → n % e ≠ 0) → (n = 1 ∨ ∃ j, k = j + 1 ∧ n < (d + j) * (d + j)) → FS n d (facsGo k n d)
  | 0, n, d, h0, hn, hd, hx, ha => by
    rcases ha with rfl | ⟨j, h, _⟩
    · exact FS.one d
    · omega
  | k + 1, n, d, h0, hn, hd, hx, ha => by
    by_cases h1 : n = 1
    · subst h1; rw [facsGo_one]; exact FS.one d
    have h1' : 1 < n := by omega
    have h64 : n < 2 ^ 64 := Nat.lt_trans hn (by decide)
    by_cases hdd : n < d * d
    · rw [facsGo_great h1' hdd, strip_self h1']
      have hp := prime_of_trials (by omega) hx hdd
      show FS n d (gain n 1 ++ facsGo k 1 (n + 1))
      rw [facsGo_one]
      have hdn : d ≤ n := Nat.le_of_not_lt fun h => hx n (by omega) h (Nat.mod_self n)
      have := FS.more (n := n) (m := 1) (e := 1) (FS.one (n + 1)) hp (by omega) (by omega) (by rw [Nat.pow_one, Nat.one_mul])
      exact ⟨fun f hf => by obtain ⟨a, b, c, e⟩ := this.all f hf; exact ⟨a, by omega, c, e⟩, this.prod, this.up⟩
    · have hdd' : d * d ≤ n := by omega
      rw [facsGo_small h1' hdd']
      obtain ⟨e1, e2⟩ := strip_spec hd 64 n h0 h64
      generalize (strip d 64 n).1 = m at *
      generalize (strip d 64 n).2 = e at *
      have hm : 0 < m := Nat.pos_of_ne_zero fun h => by subst h; simp at e2
      have hmn : m ≤ n := by rw [e1]; exact Nat.le_mul_of_pos_right _ (Nat.pow_pos (by omega))
      have hx2 : ∀ f, 2 ≤ f → f < d + 1 → m % f ≠ 0 := fun f hf1 hf2 hz => by
        by_cases hfd : f = d
        · subst hfd; exact e2 hz
        · refine hx f hf1 (by omega) (Nat.mod_eq_zero_of_dvd ?_)
          rw [e1]
          exact Nat.dvd_trans (Nat.dvd_of_mod_eq_zero hz) (Nat.dvd_mul_right m _)
      have ih := facsGo_spec k m (d + 1) hm (by omega) (by omega) hx2 (by
        rcases ha with h | ⟨j, hj, hlt⟩
        · omega
        · have hjk : j = k := by omega
          subst hjk
          rcases Nat.eq_zero_or_pos j with hj0 | hj0
          · subst hj0; rw [Nat.add_zero] at hlt; omega
          · exact .inr ⟨j - 1, by omega, by rw [show d + 1 + (j - 1) = d + j by omega]; omega⟩)
      cases e with
      | zero =>
        rw [Nat.pow_zero, Nat.mul_one] at e1
        subst e1
        show FS n d (facsGo k n (d + 1))
        exact ⟨fun f hf => by obtain ⟨a, b, c, e⟩ := ih.all f hf; exact ⟨a, by omega, c, e⟩, ih.prod, ih.up⟩
      | succ e =>
        have hz : n % d = 0 := by rw [e1, Nat.pow_succ, ← Nat.mul_assoc]; exact Nat.mul_mod_left _ _
        have hpd : Nt.Prime d := by
          refine ⟨by omega, fun c hc => ?_⟩
          by_cases hc1 : c = 1
          · exact .inl hc1
          by_cases hcd : c = d
          · exact .inr hcd
          exfalso
          have hle := Nat.le_of_dvd (by omega) hc
          have hc0 : c ≠ 0 := fun h => by subst h; have := Nat.eq_zero_of_zero_dvd hc; omega
          exact hx c (by omega) (by omega) (Nat.mod_eq_zero_of_dvd (Nat.dvd_trans hc (Nat.dvd_of_mod_eq_zero hz)))
        exact FS.more ih hpd (by omega) (exp_le hd hm e1 hn) e1
theorem facsN_spec {n : Nat} (h0 : 0 < n) (hn : n ≤ 65536) : FS n 2 (facsN n) :=
  facsGo_spec 300 n 2 h0 (by omega) (by omega) (fun e h1 h2 => by omega) (.inr ⟨299, rfl, by omega⟩)
theorem prodOf_pos : ∀ l : List Fac, (∀ f ∈ l, Nt.Prime f.q) → 0 < Nt.prodOf (facs l)
  | [], _ => Nat.one_pos
  | f :: r, h => Nat.mul_pos (Nat.pow_pos (h f (List.mem_cons_self ..)).pos) (prodOf_pos r fun g hg => h g (List.mem_cons_of_mem _ hg))
theorem dvd_prod : ∀ (l : List Fac) (f : Fac), f ∈ l → f.q ^ f.e.toNat ∣ Nt.prodOf (facs l)
  | [], f, h => by cases h
  | g :: r, f, h => by
    show f.q ^ f.e.toNat ∣ g.q ^ g.e.toNat * Nt.prodOf (facs r)
    rcases List.mem_cons.1 h with rfl | h
    · exact Nat.dvd_mul_right _ _
    · exact Nat.dvd_trans (dvd_prod r f h) (Nat.dvd_mul_left _ _)
theorem FS.dvd {n d : Nat} {l : List Fac} (h : FS n d l) {f : Fac} (hf : f ∈ l) : f.q ∣ n := by
  have h1 := (h.all f hf).2.2.1
  have : f.q ∣ f.q ^ f.e.toNat := by
    obtain ⟨k, hk⟩ : ∃ k, f.e.toNat = k + 1 := ⟨f.e.toNat - 1, by omega⟩
    rw [hk, Nat.pow_succ]; exact Nat.dvd_mul_left _ _
  rw [← h.prod]
  exact Nat.dvd_trans this (dvd_prod l f hf)
theorem FS.has {n d q : Nat} {l : List Fac} (h : FS n d l) (hq : Nt.Prime q) (hd : q ∣ n) : ∃ f ∈ l, f.q = q := by
  rw [← h.prod] at hd
  obtain ⟨f, hf, e⟩ := Nt.prime_in (facs l) (fun f hf => by
    simp only [facs, List.mem_map] at hf
    obtain ⟨a, ha, rfl⟩ := hf
    exact (h.all a ha).1) q hq hd
  simp only [facs, List.mem_map] at hf
  obtain ⟨a, ha, rfl⟩ := hf
  exact ⟨a, ha, e.symm⟩
/-- Of an even number 2 comes first. -/
theorem FS.head2 {n : Nat} {l : List Fac} (h : FS n 2 l) (he : n % 2 = 0) (h0 : 0 < n) : ∃ e r, l = ⟨2, e⟩ :: r ∧ 1 ≤ e ∧ e ≤ 62 ∧ ∀ f ∈ r, 2 < f.q := by
  obtain ⟨f, hf, hq⟩ := h.has two_prime (Nat.dvd_of_mod_eq_zero he)
  cases l with
  | nil => cases hf
  | cons a r =>
    have hu := h.up
    rw [List.pairwise_cons] at hu
    have ha := h.all a (List.mem_cons_self ..)
    have haq : a.q = 2 := by
      rcases List.mem_cons.1 hf with rfl | hf
      · exact hq
      · have := hu.1 f hf; omega
    refine ⟨a.e, r, by rw [← haq], ha.2.2.1, ha.2.2.2, fun g hg => ?_⟩
    have := hu.1 g hg
    omega
theorem FS.len {n d : Nat} {l : List Fac} (h : FS n d l) : 2 ^ l.length ≤ n := by
  have hp := h.prod
  have ha := h.all
  clear h
  induction l generalizing n with
  | nil => have : 1 = n := hp; rw [List.length_nil, Nat.pow_zero]; omega
  | cons f r ih =>
    have h1 := ih (n := Nt.prodOf (facs r)) rfl (fun g hg => ha g (List.mem_cons_of_mem _ hg))
    have hp' : f.q ^ f.e.toNat * Nt.prodOf (facs r) = n := hp
    obtain ⟨p1, _, p3, _⟩ := ha f (List.mem_cons_self ..)
    obtain ⟨k, hk⟩ : ∃ k, f.e.toNat = k + 1 := ⟨f.e.toNat - 1, by omega⟩
    have h2 : 2 ≤ f.q ^ f.e.toNat := by
      rw [hk, Nat.pow_succ]
      have := p1.1
      calc 2 ≤ f.q := by omega
        _ ≤ f.q ^ k * f.q := Nat.le_mul_of_pos_left _ (Nat.pow_pos p1.pos)
    rw [List.length_cons, Nat.pow_succ, Nat.mul_comm, ← hp']
    exact Nat.mul_le_mul h2 h1
end Go.Proofs.YtpkpadepccneeaaGreatDoor

/- Plain numbers: how many entries the sieve gathers for a prime: at most twelve up to 65536. No program in it. No condition. -/
namespace Go.Proofs.YtpkpadepccneeaaGreatDoor
set_option linter.unusedVariables false
set_option linter.unusedSimpArgs false
def tsum (f : Nat → Nat) : List Fac → Nat
  | [] => 0
  | x :: r => f x.q + tsum f r
/-- How many entries, at most: a prime's own, and those of the odd primes that divide p - 1. -/
def tc : Nat → Nat → Nat
  | 0, _ => 0
  | k + 1, p => bif Nat.beq p 2 then 0 else 1 + tsum (tc k) (facsN (p - 1))
theorem tc_two (k : Nat) : tc k 2 = 0 := by cases k <;> rfl
theorem tc_odd (k : Nat) {p : Nat} (h : p ≠ 2) : tc (k + 1) p = 1 + tsum (tc k) (facsN (p - 1)) := by
  have : Nat.beq p 2 = false := by
    cases hb : Nat.beq p 2 with
    | false => rfl
    | true => exact absurd (Nat.eq_of_beq_eq_true hb) h
  rw [tc, this]; rfl
theorem tsum_congr {f g : Nat → Nat} : ∀ l : List Fac, (∀ x ∈ l, f x.q = g x.q) → tsum f l = tsum g l
  | [], _ => rfl
  | x :: r, h => by rw [tsum, tsum, h x (List.mem_cons_self ..), tsum_congr r fun y hy => h y (List.mem_cons_of_mem _ hy)]
/-- The factors of p - 1, p an odd prime: 2, and others, of which each is at most half as great. -/
theorem pred_facs {p : Nat} (hp : Nt.Prime p) (h2 : 2 < p) (h : p ≤ 65536) : ∃ e r, facsN (p - 1) = ⟨2, e⟩ :: r ∧ (∀ f ∈ r, Nt.Prime f.q ∧ 2 < f.q ∧ 2 * f.q ≤ p - 1) ∧ 2 * Nt.prodOf (facs r) ≤ p - 1 := by
  have hodd : p % 2 = 1 := by
    rcases Nat.mod_two_eq_zero_or_one p with h0 | h0
    · rcases hp.2 2 (Nat.dvd_of_mod_eq_zero h0) with h | h <;> omega
    · exact h0
  have hs := facsN_spec (n := p - 1) (by omega) (by omega)
  obtain ⟨e, r, hl, he1, he2, hr⟩ := hs.head2 (by omega) (by omega)
  rw [hl] at hs
  refine ⟨e, r, hl, ?_, ?_⟩
  · intro f hf
    have ha := hs.all f (List.mem_cons_of_mem _ hf)
    refine ⟨ha.1, hr f hf, ?_⟩
    obtain ⟨c, hc⟩ := hs.dvd (List.mem_cons_of_mem _ hf)
    have hfo : f.q % 2 = 1 := by
      rcases Nat.mod_two_eq_zero_or_one f.q with h0 | h0
      · have := hr f hf
        rcases ha.1.2 2 (Nat.dvd_of_mod_eq_zero h0) with h | h <;> omega
      · exact h0
    have hc2 : 2 ≤ c := by
      rcases Nat.lt_or_ge c 2 with h | h
      · have : c = 0 ∨ c = 1 := by omega
        rcases this with rfl | rfl
        · rw [Nat.mul_zero] at hc; omega
        · rw [Nat.mul_one] at hc; omega
      · exact h
    rw [hc, Nat.mul_comm]
    exact Nat.mul_le_mul_left _ hc2
  · have hprod : 2 ^ e.toNat * Nt.prodOf (facs r) = p - 1 := hs.prod
    obtain ⟨k, hk⟩ : ∃ k, e.toNat = k + 1 := ⟨e.toNat - 1, by omega⟩
    rw [← hprod, hk, Nat.pow_succ]
    exact Nat.mul_le_mul_right _ (Nat.le_mul_of_pos_left _ (Nat.two_pow_pos _))
theorem tc_same : ∀ (k k' p : Nat), Nt.Prime p → p ≤ 65536 → p ≤ 2 ^ k → p ≤ 2 ^ k' → tc k p = tc k' p
  | 0, k', p, hp, hb, h, h' => by have := hp.1; rw [Nat.pow_zero] at h; omega
  | k + 1, 0, p, hp, hb, h, h' => by have := hp.1; rw [Nat.pow_zero] at h'; omega
  | k + 1, k' + 1, p, hp, hb, h, h' => by
    by_cases h2 : p = 2
    · subst h2; rw [tc_two, tc_two]
    have hp1 := hp.1
    obtain ⟨e, r, hl, hr, _⟩ := pred_facs hp (by omega) hb
    rw [tc_odd k h2, tc_odd k' h2, hl, tsum, tsum, tc_two, tc_two]
    have he : tsum (tc k) r = tsum (tc k') r := tsum_congr r fun x hx => by
      obtain ⟨a, b, c⟩ := hr x hx
      rw [Nat.pow_succ] at h h'
      exact tc_same k k' x.q a (by omega) (by omega) (by omega)
    rw [he]
/-- The least number that has so many. -/
def gB : Nat → Nat
  | 0 => 1 | 1 => 3 | 2 => 7 | 3 => 21 | 4 => 43 | 5 => 129 | 6 => 283 | 7 => 659 | 8 => 1319 | 9 => 3957
  | n + 10 => 8192 * 2 ^ n
theorem gB_ten (n : Nat) (h : 10 ≤ n) : gB n = 8 * 2 ^ n := by
  obtain ⟨m, rfl⟩ : ∃ m, n = m + 10 := ⟨n - 10, by omega⟩
  show 8192 * 2 ^ m = 8 * 2 ^ (m + 10)
  rw [Nat.pow_add]; omega
theorem gB_low : ∀ n, 2 ^ n ≤ gB n := fun n => by
  by_cases h : 10 ≤ n
  · rw [gB_ten n h]; have := Nat.two_pow_pos n; omega
  · have : ∀ m, m < 10 → 2 ^ m ≤ gB m := by decide
    exact this n (by omega)
theorem gB_mul (a b : Nat) : gB (a + b) ≤ gB a * gB b := by
  by_cases ha : 10 ≤ a
  · rw [gB_ten _ (by omega), gB_ten a ha, Nat.pow_add, ← Nat.mul_assoc]
    exact Nat.mul_le_mul_left _ (gB_low b)
  by_cases hb : 10 ≤ b
  · rw [gB_ten _ (by omega), gB_ten b hb, Nat.pow_add, show 8 * (2 ^ a * 2 ^ b) = 2 ^ a * (8 * 2 ^ b) by rw [← Nat.mul_assoc, Nat.mul_comm 8, Nat.mul_assoc]]
    exact Nat.mul_le_mul_right _ (gB_low a)
  · have : ∀ a, a < 10 → ∀ b, b < 10 → gB (a + b) ≤ gB a * gB b := by decide
    exact this a (by omega) b (by omega)
theorem gB_sum (f : Nat → Nat) : ∀ l : List Fac, (∀ x ∈ l, 1 ≤ x.e ∧ gB (f x.q) ≤ x.q) → gB (tsum f l) ≤ Nt.prodOf (facs l)
  | [], _ => Nat.le_refl 1
  | x :: r, h => by
    obtain ⟨h1, h2⟩ := h x (List.mem_cons_self ..)
    show gB (f x.q + tsum f r) ≤ x.q ^ x.e.toNat * Nt.prodOf (facs r)
    refine Nat.le_trans (gB_mul _ _) (Nat.mul_le_mul ?_ (gB_sum f r fun y hy => h y (List.mem_cons_of_mem _ hy)))
    refine Nat.le_trans h2 ?_
    obtain ⟨k, hk⟩ : ∃ k, x.e.toNat = k + 1 := ⟨x.e.toNat - 1, by omega⟩
    rw [hk, Nat.pow_succ]
    have : 0 < gB (f x.q) := Nat.lt_of_lt_of_le (Nat.two_pow_pos _) (gB_low _)
    exact Nat.le_mul_of_pos_left _ (Nat.pow_pos (by omega))
/-- Some small odd number divides it. -/
def divB (p : Nat) : List Nat → Bool
  | [] => false
  | d :: r => bif Nat.beq (p % d) 0 then (bif Nat.blt d p then true else divB p r) else divB p r
theorem divB_not {p : Nat} (hp : Nt.Prime p) : ∀ l : List Nat, (∀ d ∈ l, 1 < d) → divB p l = false
  | [], _ => rfl
  | d :: r, h => by
    have ih := divB_not hp r fun e he => h e (List.mem_cons_of_mem _ he)
    have hd := h d (List.mem_cons_self ..)
    rw [divB, ih]
    cases hb : Nat.beq (p % d) 0 with
    | false => rfl
    | true =>
      cases hc : Nat.blt d p with
      | false => rfl
      | true =>
        exfalso
        have h1 := Nat.eq_of_beq_eq_true hb
        have h2 : d < p := Nat.le_of_ble_eq_true hc
        rcases hp.2 d (Nat.dvd_of_mod_eq_zero h1) with h | h <;> omega
def smallOdd : List Nat := [3, 5, 7, 11, 13, 17, 19, 23, 29, 31, 37, 41, 43, 47, 53, 59, 61, 67, 71, 73, 79, 83, 89]
def chkUp : Nat → Nat → Bool
  | 0, _ => true
  | k + 1, p => bif (bif divB p smallOdd then true else Nat.ble (gB (tc 13 p)) p) then chkUp k (p + 2) else false
theorem chkUp_spec : ∀ (k p : Nat), chkUp k p = true → ∀ i, i < k → divB (p + 2 * i) smallOdd = true ∨ gB (tc 13 (p + 2 * i)) ≤ p + 2 * i
  | 0, p, _, i, hi => by omega
  | k + 1, p, h, i, hi => by
    rw [chkUp] at h
    cases hc : (bif divB p smallOdd then true else Nat.ble (gB (tc 13 p)) p) with
    | false => rw [hc] at h; cases h
    | true =>
      rw [hc] at h
      cases i with
      | zero =>
        cases hd : divB p smallOdd with
        | true => exact .inl rfl
        | false => rw [hd] at hc; exact .inr (Nat.le_of_ble_eq_true hc)
      | succ i =>
        have := chkUp_spec k (p + 2) h i (by omega)
        rw [show p + 2 * (i + 1) = p + 2 + 2 * i by omega]
        exact this
theorem chk0 : chkUp 512 3 = true := by kernel_rfl
theorem chk1 : chkUp 512 1027 = true := by kernel_rfl
theorem chk2 : chkUp 512 2051 = true := by kernel_rfl
theorem chk3 : chkUp 512 3075 = true := by kernel_rfl
theorem chk4 : chkUp 512 4099 = true := by kernel_rfl
theorem chk5 : chkUp 512 5123 = true := by kernel_rfl
theorem chk6 : chkUp 512 6147 = true := by kernel_rfl
theorem chk7 : chkUp 511 7171 = true := by kernel_rfl
theorem odd_of {p : Nat} (hp : Nt.Prime p) (h2 : 2 < p) : p % 2 = 1 := by
  rcases Nat.mod_two_eq_zero_or_one p with h0 | h0
  · rcases hp.2 2 (Nat.dvd_of_mod_eq_zero h0) with h | h <;> omega
  · exact h0
theorem small_gB {p : Nat} (hp : Nt.Prime p) (h2 : 2 < p) (h : p < 8192) : gB (tc 13 p) ≤ p := by
  have ho := odd_of hp h2
  have hn := divB_not hp smallOdd (by decide)
  have key : ∀ k q, chkUp k q = true → q % 2 = 1 → q ≤ p → p < q + 2 * k → gB (tc 13 p) ≤ p := fun k q hc hq h1 h2 => by
    have := chkUp_spec k q hc ((p - q) / 2) (by omega)
    rw [show q + 2 * ((p - q) / 2) = p by omega, hn] at this
    rcases this with h | h
    · cases h
    · exact h
  by_cases c0 : p < 1027
  · exact key _ _ chk0 (by decide) (by omega) (by omega)
  by_cases c1 : p < 2051
  · exact key _ _ chk1 (by decide) (by omega) (by omega)
  by_cases c2 : p < 3075
  · exact key _ _ chk2 (by decide) (by omega) (by omega)
  by_cases c3 : p < 4099
  · exact key _ _ chk3 (by decide) (by omega) (by omega)
  by_cases c4 : p < 5123
  · exact key _ _ chk4 (by decide) (by omega) (by omega)
  by_cases c5 : p < 6147
  · exact key _ _ chk5 (by decide) (by omega) (by omega)
  by_cases c6 : p < 7171
  · exact key _ _ chk6 (by decide) (by omega) (by omega)
  · exact key _ _ chk7 (by decide) (by omega) (by omega)
theorem tc_gB : ∀ (k p : Nat), Nt.Prime p → 2 < p → p ≤ 65536 → p ≤ 2 ^ k → gB (tc k p) ≤ p
  | 0, p, hp, h2, hb, h => by rw [Nat.pow_zero] at h; omega
  | k + 1, p, hp, h2, hb, h => by
    by_cases hs : p < 8192
    · rw [tc_same (k + 1) 13 p hp hb h (by rw [show (2 : Nat) ^ 13 = 8192 from rfl]; omega)]
      exact small_gB hp h2 hs
    obtain ⟨e, r, hl, hr, hpr⟩ := pred_facs hp h2 hb
    have hfs := facsN_spec (n := p - 1) (by omega) (by omega)
    rw [hl] at hfs
    rw [tc_odd k (by omega), hl, tsum, tc_two, Nat.zero_add]
    have hsum := gB_sum (tc k) r fun x hx => by
      obtain ⟨a, b, c⟩ := hr x hx
      rw [Nat.pow_succ] at h
      exact ⟨(hfs.all x (List.mem_cons_of_mem _ hx)).2.2.1, tc_gB k x.q a b (by omega) (by omega)⟩
    generalize tsum (tc k) r = s at *
    by_cases h9 : s < 10
    · have : ∀ s, s < 10 → gB (1 + s) ≤ 8192 := by decide
      have := this s h9
      omega
    · rw [gB_ten s (by omega)] at hsum
      rw [gB_ten (1 + s) (by omega), Nat.pow_add]
      omega
/-- At most twelve. -/
theorem tc_le {p : Nat} (hp : Nt.Prime p) (h2 : 2 < p) (hb : p ≤ 65536) : tc 16 p ≤ 12 := by
  have h := tc_gB 16 p hp h2 hb (by rw [show (2 : Nat) ^ 16 = 65536 from rfl]; omega)
  have ho := odd_of hp h2
  refine Nat.le_of_not_lt fun hlt => ?_
  rw [gB_ten _ (by omega)] at h
  have : 2 ^ 13 ≤ 2 ^ tc 16 p := Nat.pow_le_pow_right (by decide) hlt
  rw [show (2 : Nat) ^ 13 = 8192 from rfl] at this
  omega
end Go.Proofs.YtpkpadepccneeaaGreatDoor

/- Plain numbers: rows whose entries bear their factors as the sieve reckons them, and numbers of full order, are right; where the sieve's generator ends. No program in it. No condition. -/
namespace Go.Proofs.YtpkpadepccneeaaGreatDoor
set_option linter.unusedVariables false
set_option linter.unusedSimpArgs false
namespace Nt
theorem fermat {p g : Nat} (hp : Prime p) (h2 : 2 < p) (hg : g % p ≠ 0) : g ^ (p - 1) % p = 1 := by
  have hp1 := hp.1
  obtain ⟨c, hc0, hcp, hc⟩ := gen hp h2
  have hcnz : ∀ i, c ^ i % p ≠ 0 := fun i h => by
    have h1 : c % p ≠ 0 := by rw [Nat.mod_eq_of_lt hcp]; omega
    exact h1 (Nat.mod_eq_zero_of_dvd (hp.dvd_pow (Nat.dvd_of_mod_eq_zero h)))
  obtain ⟨i, j, h1, h3, h4⟩ := pigeon (p - 1) (fun i => if i = p - 1 then g % p - 1 else c ^ i % p - 1) (fun i hi => by
    have a1 := Nat.mod_lt (c ^ i) (show 0 < p by omega)
    have a2 := Nat.mod_lt g (show 0 < p by omega)
    have a3 := hcnz i
    show (if i = p - 1 then g % p - 1 else c ^ i % p - 1) < p - 1
    split <;> omega)
  have hi : ¬ i = p - 1 := by omega
  have h4' : (if i = p - 1 then g % p - 1 else c ^ i % p - 1) = (if j = p - 1 then g % p - 1 else c ^ j % p - 1) := h4
  rw [if_neg hi] at h4'
  have a1 := hcnz i
  have a2 := hcnz j
  by_cases hj : j = p - 1
  · rw [if_pos hj] at h4'
    have e : g % p = c ^ i % p := by omega
    rw [Nat.pow_mod, e, ← Nat.pow_mod, ← Nat.pow_mul]
    exact (hc (i * (p - 1))).2 (Nat.dvd_mul_left _ _)
  · exfalso
    rw [if_neg hj] at h4'
    have e : c ^ i % p = c ^ j % p := by omega
    have e2 : c ^ j = c ^ i * c ^ (j - i) := by rw [← Nat.pow_add]; congr 1; omega
    have hd : p ∣ c ^ i * (c ^ (j - i) - 1) := by
      rw [Nat.mul_sub, Nat.mul_one, ← e2]
      exact Nat.dvd_of_mod_eq_zero (Nat.sub_mod_eq_zero_of_mod_eq e.symm)
    rcases hp.dvd_mul hd with h | h
    · exact a1 (Nat.mod_eq_zero_of_dvd h)
    · obtain ⟨t, ht⟩ := h
      have hpos : 0 < c ^ (j - i) := Nat.pow_pos hc0
      have : c ^ (j - i) % p = 1 := by rw [show c ^ (j - i) = 1 + p * t by omega, Nat.add_mul_mod_self_left, Nat.mod_eq_of_lt hp1]
      have := Nat.le_of_dvd (by omega) ((hc _).1 this)
      omega
end Nt
/-- No factor of p - 1 gives a power 1. -/
def GenOk (p g : Nat) : Prop := ∀ f ∈ facsN (p - 1), g ^ ((p - 1) / f.q) % p ≠ 1
theorem gen_two {p c : Nat} (h2 : 2 < p) (hc : ∀ k, c ^ k % p = 1 ↔ (p - 1) ∣ k) (h0 : 0 < c) : 2 ≤ c := by
  rcases Nat.lt_or_ge c 2 with h | h
  · have : c = 1 := by omega
    subst this
    have := Nat.le_of_dvd (by decide) ((hc 1).1 (by rw [Nat.pow_one, Nat.mod_eq_of_lt (by omega)]))
    omega
  · exact h
theorem gen_ok {p c : Nat} (hp : Nt.Prime p) (h2 : 2 < p) (hb : p ≤ 65536) (hc : ∀ k, c ^ k % p = 1 ↔ (p - 1) ∣ k) : GenOk p c := fun f hf h => by
  have hs := facsN_spec (n := p - 1) (by omega) (by omega)
  have hq := (hs.all f hf).1.1
  have hd := (hc _).1 h
  obtain ⟨t, ht⟩ := hs.dvd hf
  have e : (p - 1) / f.q = t := by rw [ht]; exact Nat.mul_div_cancel_left _ (by omega)
  rw [e] at hd
  have ht0 : 0 < t := Nat.pos_of_ne_zero fun h => by subst h; omega
  have h3 := Nat.le_of_dvd ht0 hd
  have : 2 * t ≤ f.q * t := Nat.mul_le_mul_right _ hq
  omega
/-- An entry as the sieve makes it. -/
structure EntG (x : Ent) : Prop where
  prime : Nt.Prime x.p
  low : 2 < x.p
  high : x.p ≤ 65536
  g2 : 2 ≤ x.g
  gp : x.g < x.p
  gen : GenOk x.p x.g
  fs : x.fs = facsN (x.p - 1)
theorem mulUp_ok (q : Nat) (hq : 1 ≤ q) : ∀ (k n : Nat), n * q ^ k < Mg.R → mulUp q k n = some (n * q ^ k)
  | 0, n, h => by rw [mulUp, Nat.pow_zero, Nat.mul_one]
  | k + 1, n, h => by
    have e : n * q ^ (k + 1) = n * q * q ^ k := by rw [Nat.pow_succ, Nat.mul_comm (q ^ k), Nat.mul_assoc]
    have h1 : n * q ≤ n * q * q ^ k := Nat.le_mul_of_pos_right _ (Nat.pow_pos hq)
    rw [e] at h ⊢
    rw [mulUp, if_pos (by omega), mulUp_ok q hq k _ h]
theorem wholeL_ok (ah : List Ent) (p : Nat) (hp : p < Mg.R) : ∀ (fs : List Fac) (q0 n : Nat), (∀ f ∈ fs, 1 ≤ f.q ∧ 1 ≤ f.e ∧ f.e ≤ 62 ∧ claimed ah f.q = true) → (∀ f ∈ fs, q0 < f.q) → fs.Pairwise (fun a b => a.q < b.q) →
    (∀ f ∈ fs, 0 < f.q) → n * Nt.prodOf (facs fs) = p - 1 → 0 < p → wholeL ah p fs (some q0) n = true
  | [], q0, n, _, _, _, _, h, _ => by
    rw [wholeL, decide_eq_true_iff, ← h]
    exact (Nat.mul_one n).symm
  | f :: r, q0, n, h1, h2, h3, h4, h, h0 => by
    obtain ⟨a1, a2, a3, a4⟩ := h1 f (List.mem_cons_self ..)
    have b1 := h2 f (List.mem_cons_self ..)
    rw [List.pairwise_cons] at h3
    have hpr : n * (f.q ^ f.e.toNat * Nt.prodOf (facs r)) = p - 1 := h
    have hpos : 0 < Nt.prodOf (facs r) := by
      have : ∀ l : List Fac, (∀ f ∈ l, 0 < f.q) → 0 < Nt.prodOf (facs l) := fun l => by
        induction l with
        | nil => intro _; exact Nat.one_pos
        | cons g s ih => intro hh; exact Nat.mul_pos (Nat.pow_pos (hh g (List.mem_cons_self ..))) (ih fun x hx => hh x (List.mem_cons_of_mem _ hx))
      exact this r fun x hx => h4 x (List.mem_cons_of_mem _ hx)
    rw [← Nat.mul_assoc] at hpr
    have hlt : n * f.q ^ f.e.toNat < Mg.R := by
      have := Nat.le_mul_of_pos_right (n * f.q ^ f.e.toNat) hpos
      omega
    rw [wholeL, if_neg (by omega), if_neg (by simp [backs, a4]; omega), mulUp_ok _ a1 _ _ hlt]
    exact wholeL_ok ah p hp r f.q _ (fun g hg => h1 g (List.mem_cons_of_mem _ hg)) h3.1 h3.2 (fun g hg => h4 g (List.mem_cons_of_mem _ hg)) hpr h0
theorem fullL_ok (x : Ent) : ∀ fs : List Fac, (∀ f ∈ fs, x.g ^ ((x.p - 1) / f.q) % x.p ≠ 1) → fullL x fs = true
  | [], _ => rfl
  | f :: r, h => by
    rw [fullL, if_neg (h f (List.mem_cons_self ..))]
    exact fullL_ok x r fun g hg => h g (List.mem_cons_of_mem _ hg)
theorem right_ok {ah : List Ent} {x : Ent} (h : EntG x) (hl : ah.length ≠ 0 → (ah.getD (ah.length - 1) .z).p < x.p) (hc : ∀ f ∈ x.fs, f.q ≠ 2 → claimed ah f.q = true) : right ah x = true := by
  have ho := odd_of h.prime h.low
  have h1 := h.low
  have h2 := h.high
  have h3 := h.g2
  have h4 := h.gp
  have hs := facsN_spec (n := x.p - 1) (by omega) (by omega)
  rw [← h.fs] at hs
  obtain ⟨e, r, hfs, he1, he2, hr⟩ := hs.head2 (by omega) (by omega)
  have hlen : x.fs.length ≤ 16 := by
    have := hs.len
    have h5 : 2 ^ x.fs.length < 2 ^ 17 := by rw [show (2 : Nat) ^ 17 = 131072 from rfl]; omega
    have := (Nat.pow_lt_pow_iff_right (show 1 < 2 by decide)).1 h5
    omega
  have hR : x.p < Mg.R := by simp only [Mg.R]; omega
  unfold right
  rw [if_neg (by omega), if_neg (by omega), if_neg (by omega), if_neg (by omega), if_neg (by omega), if_neg (fun hh => by have := hl hh.1; omega), Bool.and_eq_true]
  constructor
  · unfold whole
    rw [if_neg (by rw [hfs]; simp), if_neg (by omega), if_neg (by rw [hfs]; simp)]
    have hu := hs.up
    have hp := hs.prod
    have ha := hs.all
    rw [hfs] at hu hp ha hc ⊢
    rw [List.pairwise_cons] at hu
    have hp' : 2 ^ e.toNat * Nt.prodOf (facs r) = x.p - 1 := hp
    have hlt : 1 * 2 ^ e.toNat < Mg.R := by
      rw [Nat.one_mul]
      have hpos := prodOf_pos r fun f hf => (ha f (List.mem_cons_of_mem _ hf)).1
      have := Nat.le_mul_of_pos_right (2 ^ e.toNat) hpos
      omega
    rw [wholeL, if_neg (by show ¬ (e < 1 ∨ 62 < e); omega), if_neg (by simp [backs]), mulUp_ok 2 (by decide) _ _ hlt]
    refine wholeL_ok ah x.p hR r 2 _ (fun f hf => ?_) hu.1 hu.2 (fun f hf => (ha f (List.mem_cons_of_mem _ hf)).1.pos) (by rw [Nat.one_mul]; exact hp') (by omega)
    obtain ⟨a, b, c, d⟩ := ha f (List.mem_cons_of_mem _ hf)
    have := hr f hf
    exact ⟨a.pos, c, d, hc f (List.mem_cons_of_mem _ hf) (by omega)⟩
  · unfold full
    rw [if_pos (Nt.fermat h.prime h.low (by rw [Nat.mod_eq_of_lt h4]; omega))]
    refine fullL_ok x x.fs ?_
    rw [h.fs]
    exact h.gen
theorem firstBad_none (l : List Ent) (h : ∀ j, j < l.length → right (l.take j) (l.getD j .z) = true) : ∀ (n i : Nat), l.length - i = n → firstBad l i = none
  | 0, i, hn => firstBad_end l i (by omega)
  | n + 1, i, hn => by
    rw [firstBad_at l i (by omega), if_pos (h i (by omega))]
    exact firstBad_none l h n (i + 1) (by omega)
/-- The row that the sieve makes is right. -/
theorem row_ok (l : List Ent) (h : ∀ i, i < l.length → EntG (l.getD i .z)) (hup : ∀ i j, i < j → j < l.length → (l.getD i .z).p < (l.getD j .z).p)
    (hc : ∀ i, i < l.length → ∀ f ∈ (l.getD i .z).fs, f.q ≠ 2 → ∃ j, j < l.length ∧ (l.getD j .z).p = f.q) (hn : l.length ≤ 32) : checkS l = (0, 0) := by
  have hr : ∀ j, j < l.length → right (l.take j) (l.getD j .z) = true := fun j hj => by
    have hg : ∀ i, i < j → (l.take j).getD i .z = l.getD i .z := fun i hi => by
      rw [List.getD_eq_getElem?_getD, List.getElem?_take_of_lt hi, ← List.getD_eq_getElem?_getD]
    have hlen : (l.take j).length = j := by rw [List.length_take]; omega
    refine right_ok (h j hj) (fun h0 => ?_) (fun f hf hq => ?_)
    · rw [hlen] at h0 ⊢
      rw [hg _ (by omega)]
      exact hup _ _ (by omega) hj
    · obtain ⟨i, hi, he⟩ := hc j hj f hf hq
      have hx := h j hj
      have hs := facsN_spec (n := (l.getD j .z).p - 1) (by have := hx.low; omega) (by have := hx.high; omega)
      rw [hx.fs] at hf
      have hle := Nat.le_of_dvd (by have := hx.low; omega) (hs.dvd hf)
      have hij : i < j := by
        refine Nat.lt_of_not_le fun hh => ?_
        have hx1 := hx.low
        rcases Nat.lt_or_ge j i with h5 | h5
        · have := hup j i h5 hi; omega
        · have : i = j := by omega
          subst this; omega
      exact (claimed_iff _ _).2 ⟨i, by rw [hlen]; exact hij, by rw [hg i hij]; exact he⟩
  unfold checkS
  rw [if_neg (by omega), firstBad_none l hr _ 0 rfl]
end Go.Proofs.YtpkpadepccneeaaGreatDoor

/- Plain lists: what the sieve's gathering leaves: numbers whose odd factors are there, too. No program in it. No condition. -/
namespace Go.Proofs.YtpkpadepccneeaaGreatDoor
set_option linter.unusedVariables false
set_option linter.unusedSimpArgs false
/-- What has come besides K is closed: the odd factors are there. -/
structure Ext (K K' : List Nat) : Prop where
  sub : ∀ x, x ∈ K → x ∈ K'
  new : ∀ x, x ∈ K' → x ∉ K → ∀ f ∈ facsN (x - 1), f.q ≠ 2 → f.q ∈ K'
theorem Ext.refl (K : List Nat) : Ext K K := ⟨fun _ h => h, fun x h1 h2 => absurd h1 h2⟩
theorem Ext.trans {K K1 K2 : List Nat} (h : Ext K K1) (k : Ext K1 K2) : Ext K K2 :=
  ⟨fun x hx => k.sub x (h.sub x hx), fun x h1 h2 f hf hq => by
    by_cases hx : x ∈ K1
    · exact k.sub _ (h.new x hx h2 f hf hq)
    · exact k.new x h1 hx f hf hq⟩
/-- As far as a number's factors are gathered. -/
structure Gat (K Ki : List Nat) (p : Nat) (fs : List Fac) (i : Nat) : Prop where
  ext : Ext (p :: K) Ki
  got : ∀ j, j < i → (fs.getD j .z).q ≠ 2 → (fs.getD j .z).q ∈ Ki
theorem Gat.start (K : List Nat) (p : Nat) (fs : List Fac) : Gat K (p :: K) p fs 0 := ⟨Ext.refl _, fun j hj => by omega⟩
theorem Gat.step {K Ki Kj : List Nat} {p i : Nat} {fs : List Fac} (h : Gat K Ki p fs i) (k : Ext Ki Kj) (hq : (fs.getD i .z).q = 2 ∨ (fs.getD i .z).q ∈ Kj) : Gat K Kj p fs (i + 1) :=
  ⟨h.ext.trans k, fun j hj hne => by
    by_cases e : j = i
    · subst e
      rcases hq with h | h
      · exact absurd h hne
      · exact h
    · exact k.sub _ (h.got j (by omega) hne)⟩
theorem Gat.done {K Ki : List Nat} {p : Nat} (h : Gat K Ki p (facsN (p - 1)) (facsN (p - 1)).length) : Ext K Ki ∧ p ∈ Ki :=
  ⟨⟨fun x hx => h.ext.sub x (List.mem_cons_of_mem _ hx), fun x h1 h2 f hf hq => by
    by_cases e : x = p
    · subst e
      obtain ⟨j, hj, rfl⟩ := List.getElem_of_mem hf
      have := h.got j hj
      rw [List.getD_eq_getElem?_getD, List.getElem?_eq_getElem hj] at this
      exact this hq
    · exact h.ext.new x h1 (fun hm => by rcases List.mem_cons.1 hm with h | h; exact e h; exact h2 h) f hf hq⟩, h.ext.sub p (List.mem_cons_self ..)⟩
theorem tsum_take (f : Nat → Nat) : ∀ (l : List Fac) (i : Nat), i < l.length → tsum f (l.take (i + 1)) = tsum f (l.take i) + f (l.getD i .z).q
  | [], i, h => by simp at h
  | x :: r, 0, h => by simp [tsum]
  | x :: r, i + 1, h => by
    have ih := tsum_take f r i (by simpa using h)
    rw [List.take_succ_cons, List.take_succ_cons, tsum, tsum, ih]
    simp [Nat.add_assoc]
theorem tsum_take_le (f : Nat → Nat) : ∀ (l : List Fac) (i : Nat), tsum f (l.take i) ≤ tsum f l
  | [], i => by simp [tsum]
  | x :: r, 0 => by simp [tsum]
  | x :: r, i + 1 => by rw [List.take_succ_cons, tsum, tsum]; have := tsum_take_le f r i; omega
end Go.Proofs.YtpkpadepccneeaaGreatDoor
