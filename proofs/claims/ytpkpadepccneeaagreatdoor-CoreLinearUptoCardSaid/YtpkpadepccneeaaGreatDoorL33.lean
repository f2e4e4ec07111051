/- Entries among a law's arguments, opened: rows of structs of any number of one-cell fields (turned from the kit's howto), factors, entries. No condition. -/
import Derived.Test.YtpkpadepccneeaaGreatDoorL09
import Derived.Deep.Slices
import Derived.Deep.Fields
import Derived.ChangeSame
import Derived.Test.YtpkpadepccneeaaGreatDoorL01
namespace Go.Proofs.YtpkpadepccneeaaGreatDoor
set_option linter.unusedVariables false
set_option linter.unusedSimpArgs false
open Go.ChangeShapes Go.WideShapes Go.Deep
section
variable {H : Type} {enc : TypeId × Value → H} {P : Program} {w : World} {base : Nat} {spare : Nat → Bool} {held : Bool}
theorem open_rows {t e : TypeId} {fs : Array Field} {fuel : Nat} {cs : List Value} {x : DataW H × List MemPlace} (ht : P.underlying t = some (.slice e)) (he : P.underlying e = some (.struct fs))
    (hone : oneCellFields P fs = true) (hC : P.cellsOf e = fs.size) (h : DataW.trod enc P w base spare held fuel t cs = some x) :
    cs = [.slice none 0 0] ∨
    ∃ (a : Addr) (len cap : Nat), cs = [.slice (some a) len cap] ∧ len ≤ cap ∧ cap ≤ maxLen ∧
      ∀ i, i < len → ∃ n : Nat, ∀ (j : Nat) (f : Field), fs[j]? = some f → ∃ (v : Value) (y : DataW H × List MemPlace), w.cell? (a.add (i * fs.size + j)) = some v ∧ DataW.trod enc P w base spare held n f.type [v] = some y := by
  rcases open_slice ht h with h0 | ⟨a, len, cap, m, n, D, Pl, hcs, hb, hl, hm, hmm, hx, hi⟩
  · exact .inl h0.1
  · refine .inr ⟨a, len, cap, hcs, hl, hm, fun i him => ?_⟩
    have him' : i < m := by rw [hmm]; split <;> omega
    obtain ⟨cs', hc, ht'⟩ := hi i him'
    rw [hC] at hc
    obtain ⟨ys, n', hn', hy, hlen, hyl, hf⟩ := DataW.trod_struct he ht'
    obtain ⟨_, hcl, hat⟩ := World.cells?_some hc
    refine ⟨n', fun j f hj => ?_⟩
    obtain ⟨ho, hk⟩ := hone_of hone j f hj
    have hjl : j < fs.size := (Array.getElem?_eq_some_iff.1 hj).1
    have hcell := hat j hjl
    have hv : cs'[j]? = some (cs'[j]'(by omega)) := List.getElem?_eq_getElem (by omega)
    have h1 := hf j f hj
    rw [ho, hk] at h1
    have hone' : (cs'.drop j).take 1 = [cs'[j]'(by omega)] := by
      rw [List.drop_eq_getElem_cons (by omega)]
      rfl
    rw [hone'] at h1
    have hys : ys[j]? = some (ys[j]'(by omega)) := List.getElem?_eq_getElem (by omega)
    refine ⟨_, _, ?_, h1.trans hys⟩
    rw [← Go.Deep.add_add, hcell, hv]
end
theorem wf_u64 {n : Int} (h : (Lit.int .u64 n).wf = true) : ∃ m : Nat, n = (m : Int) ∧ m < Mg.R := by
  simp [Lit.wf, IntKind.min, IntKind.max, IntKind.signed, IntKind.bits] at h
  exact ⟨n.toNat, by omega, by simp only [Mg.R]; omega⟩
theorem wf_i64 {n : Int} (h : (Lit.int .i64 n).wf = true) : -9223372036854775808 ≤ n ∧ n ≤ 9223372036854775807 := by
  simp [Lit.wf, IntKind.min, IntKind.max, IntKind.signed, IntKind.bits] at h
  omega
theorem list_of {α : Type} (d : α) (R : Nat → α → Prop) : ∀ n : Nat, (∀ i, i < n → ∃ x, R i x) → ∃ l : List α, l.length = n ∧ ∀ i, i < n → R i (l.getD i d)
  | 0, _ => ⟨[], rfl, fun i hi => absurd hi (by omega)⟩
  | n + 1, h => by
    obtain ⟨l, hl, hr⟩ := list_of d R n (fun i hi => h i (by omega))
    obtain ⟨x, hx⟩ := h n (by omega)
    refine ⟨l ++ [x], by simp [hl], fun i hi => ?_⟩
    by_cases e : i = n
    · subst e
      have : (l ++ [x]).getD i d = x := by simp [List.getD, hl]
      rw [this]; exact hx
    · have : (l ++ [x]).getD i d = l.getD i d := by
        simp only [List.getD_eq_getElem?_getD]
        rw [List.getElem?_append_left (by omega)]
      rw [this]; exact hr i (by omega)
theorem spot_zero {w : World} {a : Addr} {v : Value} (h : w.cell? (a.add 0) = some v) : a.spot = none := by
  have := World.cell?_spot h
  simpa [Addr.add] using this
section
variable {H : Type} {enc : TypeId × Value → H} {w : World} {base : Nat} {spare : Nat → Bool} {held : Bool}
theorem open_facs {fuel : Nat} {v : Value} {x : DataW H × List MemPlace} (h : DataW.trod enc Tryz.prog w base spare held fuel 63 [v] = some x) :
    ∃ (F : Option Addr) (fs : List Fac) (c : Nat), v = .slice F fs.length c ∧ fs.length ≤ c ∧ c ≤ maxLen ∧ FI w F fs ∧ ∀ f ∈ fs, f.q < Mg.R := by
  rcases open_rows Tryz.underlying63 Tryz.underlying129 (by kernel_rfl) (by kernel_rfl) h with h0 | ⟨a, len, cap, hcs, hl, hm, hi⟩
  · simp at h0
    exact ⟨none, [], 0, h0, by simp, by simp [maxLen], fun i hi => absurd hi (by simp), fun f hf => by simp at hf⟩
  · simp at hcs
    subst hcs
    obtain ⟨fs, hfl, hR⟩ := list_of Fac.z (fun i (f : Fac) => f.q < Mg.R ∧ w.cell? (a.add (i * 2)) = some (.int .u64 (f.q : Int)) ∧ w.cell? (a.add (i * 2 + 1)) = some (.int .i64 f.e)) len (fun i hlt => by
      obtain ⟨n, hf⟩ := hi i hlt
      obtain ⟨v0, y0, c0, t0⟩ := hf 0 _ rfl
      obtain ⟨v1, y1, c1, t1⟩ := hf 1 _ rfl
      obtain ⟨x0, e0, _, w0⟩ := DataW.trod_int Tryz.underlying22 t0
      obtain ⟨x1, e1, _, w1⟩ := DataW.trod_int Tryz.underlying3 t1
      simp at e0 e1
      subst e0 e1
      obtain ⟨m, rfl, hm'⟩ := wf_u64 w0
      exact ⟨⟨m, x1⟩, hm', c0, c1⟩)
    refine ⟨some a, fs, cap, by rw [hfl], by omega, hm, fun i hlt => ?_, fun f hf => ?_⟩
    · have hs := spot_zero (by have := (hR 0 (by omega)).2.1; simpa using this)
      obtain ⟨_, k0, k1⟩ := hR i (by omega)
      obtain ⟨b, o, s⟩ := a
      simp only at hs
      subst hs
      rw [add_plain] at k0 k1
      exact ⟨b, o, rfl, k0, k1⟩
    · obtain ⟨i, hlt, rfl⟩ := List.getElem_of_mem hf
      have := (hR i (by omega)).1
      rwa [List.getD_eq_getElem?_getD, List.getElem?_eq_getElem hlt] at this
theorem open_ents {fuel : Nat} {v : Value} {x : DataW H × List MemPlace} (h : DataW.trod enc Tryz.prog w base spare held fuel 23 [v] = some x) :
    ∃ (A : Option Addr) (l : List Ent) (c : Nat), v = .slice A l.length c ∧ l.length ≤ c ∧ c ≤ maxLen ∧ EI w A l ∧ Oks l := by
  rcases open_rows Tryz.underlying23 Tryz.underlying65 (by kernel_rfl) (by kernel_rfl) h with h0 | ⟨a, len, cap, hcs, hl, hm, hi⟩
  · simp at h0
    exact ⟨none, [], 0, h0, by simp, by simp [maxLen], fun i hi => absurd hi (by simp), ⟨fun i hi => absurd hi (by simp), fun i hi => absurd hi (by simp), fun i hi => absurd hi (by simp)⟩⟩
  · simp at hcs
    subst hcs
    obtain ⟨l, hfl, hR⟩ := list_of Ent.z (fun i (x : Ent) => x.ok ∧ x.fs.length ≤ maxLen ∧ w.cell? (a.add (i * 3)) = some (.int .u64 (x.p : Int)) ∧ w.cell? (a.add (i * 3 + 1)) = some (.int .u64 (x.g : Int)) ∧
        ∃ F c, w.cell? (a.add (i * 3 + 2)) = some (.slice F x.fs.length c) ∧ x.fs.length ≤ c ∧ FI w F x.fs) len (fun i hlt => by
      obtain ⟨n, hf⟩ := hi i hlt
      obtain ⟨v0, y0, c0, t0⟩ := hf 0 _ rfl
      obtain ⟨v1, y1, c1, t1⟩ := hf 1 _ rfl
      obtain ⟨v2, y2, c2, t2⟩ := hf 2 _ rfl
      obtain ⟨x0, e0, _, w0⟩ := DataW.trod_int Tryz.underlying22 t0
      obtain ⟨x1, e1, _, w1⟩ := DataW.trod_int Tryz.underlying22 t1
      obtain ⟨F, fs, c, rfl, hfc, hcm, hF, hq⟩ := open_facs t2
      simp at e0 e1
      subst e0 e1
      obtain ⟨p, rfl, hp⟩ := wf_u64 w0
      obtain ⟨g, rfl, hg⟩ := wf_u64 w1
      exact ⟨⟨p, g, fs⟩, ⟨hp, hg, hq⟩, by show fs.length ≤ maxLen; omega, c0, c1, F, c, c2, hfc, hF⟩)
    refine ⟨some a, l, cap, by rw [hfl], by omega, hm, fun i hlt => ?_, ?_⟩
    · have hs := spot_zero (by have := (hR 0 (by omega)).2.2.1; simpa using this)
      obtain ⟨_, _, k0, k1, F, c, k2, hfc, hF⟩ := hR i (by omega)
      obtain ⟨b, o, s⟩ := a
      simp only at hs
      subst hs
      rw [add_plain] at k0 k1 k2
      exact ⟨b, o, F, c, rfl, k0, k1, k2, hfc, hF⟩
    · have all := fun i (hlt : i < l.length) => hR i (by omega)
      refine ⟨fun i hlt => ⟨(all i hlt).1.1, (all i hlt).1.2.1⟩, fun i hlt => (all i hlt).1.2.2, fun i hlt => ?_⟩
      have := (all i hlt).2.1
      simp only [maxLen] at this
      omega
end
end Go.Proofs.YtpkpadepccneeaaGreatDoor

/- Plain numbers: sums; a transform by halves, both ways (from the whole down to pairs, from pairs up to the whole), is the sum that defines it. No program in it. No condition. -/
namespace Go.Proofs.YtpkpadepccneeaaGreatDoor.F
set_option linter.unusedVariables false
set_option linter.unusedSimpArgs false
def S (f : Nat → Nat) : Nat → Nat
  | 0 => 0
  | n + 1 => S f n + f n
theorem S_congr {p : Nat} {f g : Nat → Nat} : ∀ {n : Nat}, (∀ t, t < n → f t % p = g t % p) → S f n % p = S g n % p
  | 0, _ => rfl
  | n + 1, h => by
    show (S f n + f n) % p = (S g n + g n) % p
    rw [Nat.add_mod, S_congr (n := n) (fun t ht => h t (by omega)), h n (by omega), ← Nat.add_mod]
theorem S_eq {f g : Nat → Nat} : ∀ {n : Nat}, (∀ t, t < n → f t = g t) → S f n = S g n
  | 0, _ => rfl
  | n + 1, h => by
    show S f n + f n = S g n + g n
    rw [S_eq (n := n) (fun t ht => h t (by omega)), h n (by omega)]
theorem S_add (f g : Nat → Nat) : ∀ n : Nat, S (fun t => f t + g t) n = S f n + S g n
  | 0 => rfl
  | n + 1 => by
    show S (fun t => f t + g t) n + (f n + g n) = (S f n + f n) + (S g n + g n)
    rw [S_add f g n]; omega
theorem S_mul (c : Nat) (f : Nat → Nat) : ∀ n : Nat, S (fun t => c * f t) n = c * S f n
  | 0 => rfl
  | n + 1 => by
    show S (fun t => c * f t) n + c * f n = c * (S f n + f n)
    rw [S_mul c f n, Nat.mul_add]
theorem S_zero {f : Nat → Nat} : ∀ {n : Nat}, (∀ t, t < n → f t = 0) → S f n = 0
  | 0, _ => rfl
  | n + 1, h => by
    show S f n + f n = 0
    rw [S_zero (n := n) (fun t ht => h t (by omega)), h n (by omega)]
theorem S_split (f : Nat → Nat) (a : Nat) : ∀ b : Nat, S f (a + b) = S f a + S (fun t => f (a + t)) b
  | 0 => rfl
  | b + 1 => by
    show S f (a + b) + f (a + b) = S f a + (S (fun t => f (a + t)) b + f (a + b))
    rw [S_split f a b]; omega
theorem S_pair (f : Nat → Nat) : ∀ n : Nat, S f (2 * n) = S (fun t => f (2 * t) + f (2 * t + 1)) n
  | 0 => rfl
  | n + 1 => by
    show S f (2 * n) + f (2 * n) + f (2 * n + 1) = S (fun t => f (2 * t) + f (2 * t + 1)) n + (f (2 * n) + f (2 * n + 1))
    rw [S_pair f n]; omega
theorem S_swap (f : Nat → Nat → Nat) (m : Nat) : ∀ n : Nat, S (fun i => S (fun j => f i j) m) n = S (fun j => S (fun i => f i j) n) m
  | 0 => by rw [S_zero (f := fun j => S (fun i => f i j) 0) (fun _ _ => rfl)]; rfl
  | n + 1 => by
    show S (fun i => S (fun j => f i j) m) n + S (fun j => f n j) m = S (fun j => S (fun i => f i j) n + f n j) m
    rw [S_swap f m n, S_add]
/-- Only one place counts. -/
theorem S_one {f : Nat → Nat} {k : Nat} : ∀ {n : Nat}, k < n → (∀ t, t < n → t ≠ k → f t = 0) → S f n = f k
  | 0, h, _ => absurd h (by omega)
  | n + 1, h, h0 => by
    show S f n + f n = f k
    by_cases e : k = n
    · subst e
      rw [S_zero (fun t ht => h0 t (by omega) (by omega)), Nat.zero_add]
    · rw [S_one (n := n) (by omega) (fun t ht hne => h0 t (by omega) hne), h0 n (by omega) (fun e' => e e'.symm), Nat.add_zero]
theorem mulmod {p a b c d : Nat} (h1 : a % p = b % p) (h2 : c % p = d % p) : a * c % p = b * d % p := by rw [Nat.mul_mod, h1, h2, ← Nat.mul_mod]
theorem addmod {p a b c d : Nat} (h1 : a % p = b % p) (h2 : c % p = d % p) : (a + c) % p = (b + d) % p := by rw [Nat.add_mod, h1, h2, ← Nat.add_mod]
theorem one_pow_mod {p w n : Nat} (h : w ^ n % p = 1 % p) : ∀ m : Nat, w ^ (n * m) % p = 1 % p
  | 0 => by rw [Nat.mul_zero, Nat.pow_zero]
  | m + 1 => by
    rw [Nat.mul_succ, Nat.pow_add]
    have := mulmod (one_pow_mod h m) h
    rwa [Nat.one_mul] at this
/-- A number's bits, the k lowest, turned about. -/
def rv : Nat → Nat → Nat
  | 0, _ => 0
  | k + 1, b => 2 ^ k * (b % 2) + rv k (b / 2)
theorem rv_lt : ∀ (k b : Nat), rv k b < 2 ^ k
  | 0, _ => by simp [rv]
  | k + 1, b => by
    have := rv_lt k (b / 2)
    have h2 : b % 2 = 0 ∨ b % 2 = 1 := by omega
    rw [rv, Nat.pow_succ]
    rcases h2 with h | h <;> rw [h] <;> omega
theorem rv_even (k b : Nat) : rv (k + 1) (2 * b) = rv k b := by
  rw [rv, show 2 * b % 2 = 0 by omega, show 2 * b / 2 = b by omega, Nat.mul_zero, Nat.zero_add]
theorem rv_odd (k b : Nat) : rv (k + 1) (2 * b + 1) = 2 ^ k + rv k b := by
  rw [rv, show (2 * b + 1) % 2 = 1 by omega, show (2 * b + 1) / 2 = b by omega, Nat.mul_one]
theorem rv_low : ∀ (k b : Nat), rv (k + 1) b = 2 * rv k b + b / 2 ^ k % 2
  | 0, b => by simp [rv]
  | k + 1, b => by
    have e1 : rv (k + 1 + 1) b = 2 ^ (k + 1) * (b % 2) + rv (k + 1) (b / 2) := rfl
    have e2 : rv (k + 1) b = 2 ^ k * (b % 2) + rv k (b / 2) := rfl
    rw [e1, rv_low k (b / 2), e2, Nat.div_div_eq_div_mul, Nat.pow_succ', Nat.mul_add, Nat.mul_assoc, Nat.add_assoc]
theorem rv_rv : ∀ (k b : Nat), rv k (rv k b) = b % 2 ^ k
  | 0, b => by simp [rv, Nat.mod_one]
  | k + 1, b => by
    have e : rv (k + 1) (rv (k + 1) b) = 2 ^ k * (rv (k + 1) b % 2) + rv k (rv (k + 1) b / 2) := rfl
    have h2 : b / 2 ^ k % 2 < 2 := Nat.mod_lt _ (by decide)
    rw [e, rv_low k b, show (2 * rv k b + b / 2 ^ k % 2) % 2 = b / 2 ^ k % 2 by omega, show (2 * rv k b + b / 2 ^ k % 2) / 2 = rv k b by omega, rv_rv k b, Nat.pow_succ, Nat.mod_mul, Nat.add_comm]
/-- From the whole down to pairs: what the blocks hold. -/
def DI (p w K k : Nat) (x y : Nat → Nat) : Prop := ∀ b, b < 2 ^ k → ∀ m, m < 2 ^ (K - k) →
  S (fun t => y (b * 2 ^ (K - k) + t) * w ^ (2 ^ k * (t * m))) (2 ^ (K - k)) % p = S (fun t => x t * w ^ (t * (m * 2 ^ k + rv k b))) (2 ^ K) % p
theorem DI.start (p w K : Nat) (x : Nat → Nat) : DI p w K 0 x x := by
  intro b hb m hm
  have hb0 : b = 0 := by simpa using hb
  subst hb0
  refine congrArg (· % p) (S_eq fun t _ => ?_)
  simp [rv]
theorem DI.step {p w K k h : Nat} {x y y' : Nat → Nat} (hk : k < K) (hh : 2 ^ (K - k) = 2 * h) (hw : w ^ (2 ^ K) % p = 1 % p) (hi : DI p w K k x y)
    (h1 : ∀ b, b < 2 ^ k → ∀ j, j < h → y' (b * (2 * h) + j) % p = (y (b * (2 * h) + j) + y (b * (2 * h) + j + h)) % p)
    (h2 : ∀ b, b < 2 ^ k → ∀ j, j < h → y' (b * (2 * h) + h + j) % p = ((y (b * (2 * h) + j) + w ^ (2 ^ k * h) * y (b * (2 * h) + j + h)) * w ^ (2 ^ k * j)) % p) : DI p w K (k + 1) x y' := by
  intro b' hb' m hm
  have eh : 2 ^ (K - (k + 1)) = h := by
    have : 2 ^ (K - k) = 2 ^ (K - (k + 1)) * 2 := by rw [← Nat.pow_succ]; congr 1; omega
    omega
  have en : 2 ^ K = 2 ^ k * (2 * h) := by rw [← hh, ← Nat.pow_add]; congr 1; omega
  rw [eh] at hm ⊢
  have hpk : 2 ^ (k + 1) = 2 ^ k * 2 := Nat.pow_succ ..
  obtain ⟨b, hb⟩ : ∃ b, b' = 2 * b ∨ b' = 2 * b + 1 := ⟨b' / 2, by omega⟩
  have hbl : b < 2 ^ k := by omega
  have H := fun m hm => hi b hbl m (by rw [hh]; exact hm)
  rw [hh] at H
  rcases hb with rfl | rfl
  · have hH := H (2 * m) (by omega)
    rw [show rv (k + 1) (2 * b) = rv k b from rv_even k b, show m * 2 ^ (k + 1) = 2 * m * 2 ^ k by rw [hpk, Nat.mul_comm (2 ^ k) 2, ← Nat.mul_assoc, Nat.mul_comm m 2], ← hH]
    rw [show 2 * h = h + h by omega, S_split, ← S_add]
    refine S_congr fun t ht => ?_
    have e1 := h1 b hbl t ht
    have e2 : 2 * b * h + t = b * (2 * h) + t := by rw [Nat.mul_comm 2 b, Nat.mul_assoc]
    have e3 : b * (h + h) + t = b * (2 * h) + t := by rw [show h + h = 2 * h by omega]
    have e4 : b * (h + h) + (h + t) = b * (2 * h) + t + h := by rw [show h + h = 2 * h by omega]; omega
    rw [e2, e3, e4]
    have e5 : 2 ^ (k + 1) * (t * m) = 2 ^ k * (t * (2 * m)) := by rw [hpk, Nat.mul_assoc, Nat.mul_left_comm 2 t m]
    have e6 : w ^ (2 ^ k * ((h + t) * (2 * m))) % p = w ^ (2 ^ k * (t * (2 * m))) % p := by
      have : 2 ^ k * ((h + t) * (2 * m)) = 2 ^ K * m + 2 ^ k * (t * (2 * m)) := by
        rw [en, Nat.add_mul, Nat.mul_add]
        congr 1
        simp only [Nat.mul_assoc, Nat.mul_comm, Nat.mul_left_comm]
      rw [this, Nat.pow_add]
      have := mulmod (c := w ^ (2 ^ k * (t * (2 * m)))) (one_pow_mod hw m) rfl
      rwa [Nat.one_mul] at this
    rw [e5]
    refine (mulmod e1 rfl).trans ?_
    rw [Nat.add_mul]
    exact addmod rfl (mulmod rfl e6.symm)
  · have hH := H (2 * m + 1) (by omega)
    rw [show rv (k + 1) (2 * b + 1) = 2 ^ k + rv k b from rv_odd k b, show m * 2 ^ (k + 1) + (2 ^ k + rv k b) = (2 * m + 1) * 2 ^ k + rv k b by
      rw [hpk, Nat.add_mul, Nat.one_mul, Nat.mul_comm (2 ^ k) 2, ← Nat.mul_assoc, Nat.mul_comm m 2, Nat.add_assoc], ← hH]
    rw [show 2 * h = h + h by omega, S_split, ← S_add]
    refine S_congr fun t ht => ?_
    have e1 := h2 b hbl t ht
    have e2 : (2 * b + 1) * h + t = b * (2 * h) + h + t := by rw [Nat.add_mul, Nat.one_mul, Nat.mul_comm 2 b, Nat.mul_assoc]
    have e3 : b * (h + h) + t = b * (2 * h) + t := by rw [show h + h = 2 * h by omega]
    have e4 : b * (h + h) + (h + t) = b * (2 * h) + t + h := by rw [show h + h = 2 * h by omega]; omega
    rw [e2, e3, e4]
    have e5 : 2 ^ k * (t * (2 * m + 1)) = 2 ^ k * t + 2 ^ (k + 1) * (t * m) := by
      rw [hpk, Nat.mul_add, Nat.mul_one, Nat.mul_add, Nat.mul_assoc, Nat.mul_left_comm 2 t m, Nat.add_comm]
    have e6 : w ^ (2 ^ k * ((h + t) * (2 * m + 1))) % p = w ^ (2 ^ k * h) * w ^ (2 ^ k * (t * (2 * m + 1))) % p := by
      have : 2 ^ k * ((h + t) * (2 * m + 1)) = 2 ^ K * m + (2 ^ k * h + 2 ^ k * (t * (2 * m + 1))) := by
        rw [en, Nat.add_mul, Nat.mul_add, ← Nat.add_assoc]
        congr 1
        rw [Nat.mul_add h, Nat.mul_one, Nat.mul_add]
        congr 1
        simp only [Nat.mul_assoc, Nat.mul_comm, Nat.mul_left_comm]
      rw [this, Nat.pow_add]
      have := mulmod (c := w ^ (2 ^ k * h + 2 ^ k * (t * (2 * m + 1)))) (one_pow_mod hw m) rfl
      rw [Nat.one_mul] at this
      rw [this, Nat.pow_add]
    refine (mulmod e1 rfl).trans ?_
    rw [Nat.mul_assoc, ← Nat.pow_add, ← e5, Nat.add_mul]
    refine addmod rfl ?_
    rw [Nat.mul_comm (w ^ (2 ^ k * h)), Nat.mul_assoc]
    exact mulmod rfl e6.symm
theorem DI.done {p w K : Nat} {x y : Nat → Nat} (h : DI p w K K x y) (b : Nat) (hb : b < 2 ^ K) : y b % p = S (fun t => x t * w ^ (t * rv K b)) (2 ^ K) % p := by
  have := h b hb 0 (by rw [Nat.sub_self]; decide)
  rw [Nat.sub_self, Nat.pow_zero] at this
  simpa [S] using this
/-- From pairs up to the whole: what the blocks hold. -/
def UI (p w K k : Nat) (x y : Nat → Nat) : Prop := ∀ b, b < 2 ^ (K - k) → ∀ m, m < 2 ^ k →
  y (b * 2 ^ k + m) % p = S (fun t => x (t * 2 ^ (K - k) + rv (K - k) b) * w ^ (2 ^ (K - k) * (t * m))) (2 ^ k) % p
theorem UI.start {p w K : Nat} {x y : Nat → Nat} (h : ∀ b, b < 2 ^ K → y b = x (rv K b)) : UI p w K 0 x y := by
  intro b hb m hm
  have hm0 : m = 0 := by simpa using hm
  subst hm0
  simp only [Nat.sub_zero] at hb ⊢
  have := h b hb
  simp [S, this]
theorem UI.step {p w K k h : Nat} {x y y' : Nat → Nat} (hk : k < K) (hh : 2 ^ k = h) (hw : w ^ (2 ^ K) % p = 1 % p) (hi : UI p w K k x y)
    (h1 : ∀ b, b < 2 ^ (K - (k + 1)) → ∀ j, j < h → y' (b * (2 * h) + j) % p = (y (b * (2 * h) + j) + w ^ (2 ^ (K - (k + 1)) * j) * y (b * (2 * h) + j + h)) % p)
    (h2 : ∀ b, b < 2 ^ (K - (k + 1)) → ∀ j, j < h → y' (b * (2 * h) + h + j) % p = (y (b * (2 * h) + j) + w ^ (2 ^ (K - (k + 1)) * h) * (w ^ (2 ^ (K - (k + 1)) * j) * y (b * (2 * h) + j + h))) % p) : UI p w K (k + 1) x y' := by
  have eq : 2 ^ (K - k) = 2 * 2 ^ (K - (k + 1)) := by
    have : 2 ^ (K - k) = 2 ^ (K - (k + 1)) * 2 := by rw [← Nat.pow_succ]; congr 1; omega
    omega
  have ek : K - k = (K - (k + 1)) + 1 := by omega
  have eK : 2 ^ K = 2 * 2 ^ (K - (k + 1)) * h := by rw [← hh, ← eq, ← Nat.pow_add]; congr 1; omega
  have hpk : 2 ^ (k + 1) = 2 * h := by rw [Nat.pow_succ, hh, Nat.mul_comm]
  intro b hb m hm
  rw [hpk] at hm ⊢
  have H0 := fun m (hm : m < h) => hi (2 * b) (by omega) m (by omega)
  have H1 := fun m (hm : m < h) => hi (2 * b + 1) (by omega) m (by omega)
  rw [ek, rv_even, ← ek, eq, hh] at H0
  rw [ek, rv_odd, ← ek, eq, hh] at H1
  generalize 2 ^ (K - (k + 1)) = q at *
  generalize rv (K - (k + 1)) b = r at *
  -- the sum parted
  have HS : ∀ m, S (fun t => x (t * q + r) * w ^ (q * (t * m))) (2 * h) % p =
      (S (fun t => x (t * (2 * q) + r) * w ^ (2 * q * (t * m))) h + w ^ (q * m) * S (fun t => x (t * (2 * q) + (q + r)) * w ^ (2 * q * (t * m))) h) % p := by
    intro m
    rw [S_pair, S_add, ← S_mul]
    refine addmod (congrArg (· % p) (S_eq fun t _ => ?_)) (congrArg (· % p) (S_eq fun t _ => ?_))
    · rw [show 2 * t * q = t * (2 * q) by simp only [Nat.mul_assoc, Nat.mul_comm, Nat.mul_left_comm], show q * (2 * t * m) = 2 * q * (t * m) by simp only [Nat.mul_assoc, Nat.mul_comm, Nat.mul_left_comm]]
    · rw [show (2 * t + 1) * q + r = t * (2 * q) + (q + r) by rw [Nat.add_mul, Nat.one_mul, Nat.add_assoc]; congr 1; simp only [Nat.mul_assoc, Nat.mul_comm, Nat.mul_left_comm],
        show q * ((2 * t + 1) * m) = q * m + 2 * q * (t * m) by
          rw [Nat.add_mul, Nat.one_mul, Nat.mul_add, Nat.add_comm]; congr 1; simp only [Nat.mul_assoc, Nat.mul_comm, Nat.mul_left_comm], Nat.pow_add]
      simp only [Nat.mul_assoc, Nat.mul_comm, Nat.mul_left_comm]
  rw [HS]
  by_cases hlt : m < h
  · refine (h1 b hb m hlt).trans (addmod ?_ (mulmod rfl ?_))
    · have := H0 m hlt
      rwa [show 2 * b * h = b * (2 * h) by rw [Nat.mul_comm 2 b, Nat.mul_assoc]] at this
    · have := H1 m hlt
      rwa [show (2 * b + 1) * h + m = b * (2 * h) + m + h by rw [Nat.add_mul, Nat.one_mul, Nat.mul_comm 2 b, Nat.mul_assoc]; omega] at this
  · obtain ⟨j, rfl⟩ : ∃ j, m = h + j := ⟨m - h, by omega⟩
    have hj : j < h := by omega
    have ep : ∀ t, w ^ (2 * q * (t * (h + j))) % p = w ^ (2 * q * (t * j)) % p := by
      intro t
      have : 2 * q * (t * (h + j)) = 2 ^ K * t + 2 * q * (t * j) := by
        rw [eK, Nat.mul_add, Nat.mul_add]
        congr 1
        simp only [Nat.mul_assoc, Nat.mul_comm, Nat.mul_left_comm]
      rw [this, Nat.pow_add]
      have := mulmod (c := w ^ (2 * q * (t * j))) (one_pow_mod hw t) rfl
      rwa [Nat.one_mul] at this
    rw [← Nat.add_assoc]
    refine (h2 b hb j hj).trans (addmod ?_ ?_)
    · have := H0 j hj
      rw [show 2 * b * h = b * (2 * h) by rw [Nat.mul_comm 2 b, Nat.mul_assoc]] at this
      exact this.trans (S_congr fun t _ => mulmod rfl (ep t).symm)
    · rw [Nat.mul_add q h j, Nat.pow_add, Nat.mul_assoc]
      refine mulmod rfl (mulmod rfl ?_)
      have := H1 j hj
      rw [show (2 * b + 1) * h + j = b * (2 * h) + j + h by rw [Nat.add_mul, Nat.one_mul, Nat.mul_comm 2 b, Nat.mul_assoc]; omega] at this
      exact this.trans (S_congr fun t _ => mulmod rfl (ep t).symm)
theorem UI.done {p w K : Nat} {x y : Nat → Nat} (h : UI p w K K x y) (m : Nat) (hm : m < 2 ^ K) : y m % p = S (fun t => x t * w ^ (t * m)) (2 ^ K) % p := by
  have := h 0 (by rw [Nat.sub_self]; decide) m hm
  simpa [rv] using this
/-- Half the order's power is the opposite of 1. -/
theorem half {p w h : Nat} (hp : Nt.Prime p) (h0 : 0 < h) (hw : ∀ q, w ^ q % p = 1 ↔ (2 * h) ∣ q) : (w ^ h + 1) % p = 0 := by
  have hp1 := hp.1
  have h1 : w ^ (2 * h) % p = 1 := (hw _).2 (Nat.dvd_refl _)
  have h2 : ¬ w ^ h % p = 1 := fun e => by have := Nat.le_of_dvd h0 ((hw h).1 e); omega
  have hz : 1 ≤ w ^ h := by
    rcases Nat.eq_zero_or_pos (w ^ h) with e | e
    · rw [Nat.mul_comm, Nat.pow_mul, e] at h1
      simp at h1
    · exact e
  have hd : p ∣ (w ^ h - 1) * (w ^ h + 1) := by
    have e : (w ^ h - 1) * (w ^ h + 1) = w ^ (2 * h) - 1 := by
      rw [Nat.mul_comm 2 h, Nat.pow_mul, Nat.pow_two, Nat.mul_add, Nat.mul_one, Nat.sub_mul, Nat.one_mul]
      have : w ^ h ≤ w ^ h * w ^ h := Nat.le_mul_of_pos_left _ hz
      omega
    rw [e]
    exact Nat.dvd_of_mod_eq_zero (Nat.sub_mod_eq_zero_of_mod_eq (h1.trans (Nat.mod_eq_of_lt hp1).symm))
  rcases hp.dvd_mul hd with h3 | h3
  · refine absurd ?_ h2
    obtain ⟨k, hk⟩ := h3
    rw [show w ^ h = 1 + p * k by omega, Nat.add_mul_mod_self_left, Nat.mod_eq_of_lt hp1]
  · exact Nat.mod_eq_zero_of_dvd h3
/-- A difference, as a sum. -/
theorem sub_as {p z u v : Nat} (hp : 0 < p) (hz : (z + 1) % p = 0) : (u + (p - v % p)) % p = (u + z * v) % p := by
  have hv := Nat.mod_lt v hp
  have e1 : ((p - v % p) + v) % p = 0 := by
    have : (p - v % p) + v = p + p * (v / p) := by have := Nat.div_add_mod v p; omega
    rw [this, Nat.add_mul_mod_self_left, Nat.mod_self]
  have e2 : (z * v + v) % p = 0 := by
    have : z * v + v = (z + 1) * v := by rw [Nat.add_mul, Nat.one_mul]
    rw [this, Nat.mul_mod, hz, Nat.zero_mul, Nat.zero_mod]
  have e3 : (p - v % p) % p = z * v % p := by
    have h : ((p - v % p) + v) % p = (z * v + v) % p := e1.trans e2.symm
    have h1 : ((p - v % p) + v + (p - v % p)) % p = (z * v + v + (p - v % p)) % p := addmod h rfl
    rw [Nat.add_mod, e1, Nat.zero_add, Nat.mod_mod, Nat.add_assoc (z * v), Nat.add_comm v, Nat.add_mod (z * v), e1, Nat.add_zero, Nat.mod_mod] at h1
    exact h1
  exact addmod rfl e3
/-- A stage: each block's halves. -/
def bf (h : Nat) (f g : Nat → Nat → Nat → Nat) (old : Nat → Nat) (i : Nat) : Nat := if i % (2 * h) < h then f (i % (2 * h)) (old i) (old (i + h)) else g (i % (2 * h) - h) (old (i - h)) (old i)
theorem bf_top {h : Nat} (f g : Nat → Nat → Nat → Nat) (old : Nat → Nat) (b j : Nat) (hj : j < h) : bf h f g old (b * (2 * h) + j) = f j (old (b * (2 * h) + j)) (old (b * (2 * h) + j + h)) := by
  have e : (b * (2 * h) + j) % (2 * h) = j := by rw [Nat.mul_comm b, Nat.mul_add_mod, Nat.mod_eq_of_lt (by omega)]
  unfold bf
  rw [e, if_pos hj]
theorem bf_low {h : Nat} (f g : Nat → Nat → Nat → Nat) (old : Nat → Nat) (b j : Nat) (hj : j < h) : bf h f g old (b * (2 * h) + j + h) = g j (old (b * (2 * h) + j)) (old (b * (2 * h) + j + h)) := by
  have e : (b * (2 * h) + j + h) % (2 * h) = j + h := by rw [Nat.add_assoc, Nat.mul_comm b, Nat.mul_add_mod, Nat.mod_eq_of_lt (by omega)]
  unfold bf
  rw [e, if_neg (by omega), Nat.add_sub_cancel, Nat.add_sub_cancel]
def did (h b j i : Nat) : Bool := decide (i < b * (2 * h) + j) || (decide (b * (2 * h) + h ≤ i) && decide (i < b * (2 * h) + h + j))
/-- A row, as far as a stage has come. -/
def stL (n h b j : Nat) (new old : Nat → Nat) : List Nat := (List.range n).map fun i => if did h b j i then new i else old i
theorem stL_len (n h b j : Nat) (new old : Nat → Nat) : (stL n h b j new old).length = n := by simp [stL]
theorem stL_get {n h b j i : Nat} (new old : Nat → Nat) (hi : i < n) : (stL n h b j new old).getD i 0 = if did h b j i then new i else old i := by
  simp [stL, List.getD_eq_getElem?_getD, hi]
theorem stL_u {n h b j : Nat} (new old : Nat → Nat) (hj : j < h) (hn : b * (2 * h) + 2 * h ≤ n) : (stL n h b j new old).getD (b * (2 * h) + j) 0 = old (b * (2 * h) + j) := by
  rw [stL_get _ _ (by omega), if_neg]
  simp [did] <;> omega
theorem stL_v {n h b j : Nat} (new old : Nat → Nat) (hj : j < h) (hn : b * (2 * h) + 2 * h ≤ n) : (stL n h b j new old).getD (b * (2 * h) + j + h) 0 = old (b * (2 * h) + j + h) := by
  rw [stL_get _ _ (by omega), if_neg]
  simp [did] <;> omega
theorem stL_set {n h b j : Nat} (new old : Nat → Nat) (hj : j < h) (hn : b * (2 * h) + 2 * h ≤ n) :
    ((stL n h b j new old).set (b * (2 * h) + j) (new (b * (2 * h) + j))).set (b * (2 * h) + j + h) (new (b * (2 * h) + j + h)) = stL n h b (j + 1) new old := by
  refine List.ext_getElem (by simp [stL]) fun i h1 h2 => ?_
  have hi : i < n := by simpa [stL] using h2
  simp only [stL, List.getElem_set, List.getElem_map, List.getElem_range]
  by_cases e1 : b * (2 * h) + j + h = i
  · subst e1
    rw [if_pos rfl, if_pos (by simp [did] <;> omega)]
  · rw [if_neg e1]
    by_cases e2 : b * (2 * h) + j = i
    · subst e2
      rw [if_pos rfl, if_pos (by simp [did] <;> omega)]
    · rw [if_neg e2]
      have : did h b j i = did h b (j + 1) i := by
        rw [Bool.eq_iff_iff]; simp [did] <;> omega
      rw [this]
theorem stL_next {n h b : Nat} (new old : Nat → Nat) : stL n h b h new old = stL n h (b + 1) 0 new old := by
  unfold stL
  refine List.map_congr_left fun i hi => ?_
  have : did h b h i = did h (b + 1) 0 i := by
    rw [Bool.eq_iff_iff]; simp [did, Nat.add_mul] <;> omega
  rw [this]
theorem stL_zero (n h : Nat) (new old : Nat → Nat) : stL n h 0 0 new old = (List.range n).map old := by
  unfold stL
  refine List.map_congr_left fun i hi => ?_
  rw [if_neg]
  simp [did] <;> omega
theorem stL_full {n h b : Nat} (new old : Nat → Nat) (hb : n ≤ b * (2 * h)) : stL n h b 0 new old = (List.range n).map new := by
  unfold stL
  refine List.map_congr_left fun i hi => ?_
  have := List.mem_range.1 hi
  rw [if_pos]
  simp [did] <;> omega
end Go.Proofs.YtpkpadepccneeaaGreatDoor.F

/- Plain numbers: a transform's product, transformed back, is the product straight on, if that is no longer than the transform. No program in it. No condition. -/
namespace Go.Proofs.YtpkpadepccneeaaGreatDoor.F
set_option linter.unusedVariables false
set_option linter.unusedSimpArgs false
theorem geo {p q n : Nat} (hp : Nt.Prime p) (hn : 0 < n) (h1 : q ^ n % p = 1) (h2 : q % p ≠ 1) : S (fun t => q ^ t) n % p = 0 := by
  have hid : ∀ n : Nat, 1 + q * S (fun t => q ^ t) n = S (fun t => q ^ t) n + q ^ n := by
    intro n
    induction n with
    | zero => simp [S]
    | succ n ih =>
      show 1 + q * (S (fun t => q ^ t) n + q ^ n) = (S (fun t => q ^ t) n + q ^ n) + q ^ (n + 1)
      rw [Nat.mul_add, ← Nat.add_assoc, ih, Nat.pow_succ, Nat.mul_comm q]
  have h := hid n
  generalize S (fun t => q ^ t) n = G at *
  have hp1 := hp.1
  have hq : 1 ≤ q := by
    rcases Nat.eq_zero_or_pos q with rfl | h0
    · rw [Nat.zero_pow hn, Nat.zero_mod] at h1; exact absurd h1 (by decide)
    · exact h0
  have e : q * G % p = G % p := by
    obtain ⟨k, hk⟩ : ∃ k, q ^ n = p * k + 1 := ⟨q ^ n / p, by have := Nat.div_add_mod (q ^ n) p; omega⟩
    have : q * G = G + p * k := by omega
    rw [this, Nat.add_mul_mod_self_left]
  have hd : p ∣ (q - 1) * G := by
    rw [Nat.sub_mul, Nat.one_mul]
    exact Nat.dvd_of_mod_eq_zero (Nat.sub_mod_eq_zero_of_mod_eq e)
  rcases hp.dvd_mul hd with h3 | h3
  · refine absurd ?_ h2
    obtain ⟨k, hk⟩ := h3
    rw [show q = 1 + p * k by omega, Nat.add_mul_mod_self_left, Nat.mod_eq_of_lt hp1]
  · exact Nat.mod_eq_zero_of_dvd h3
theorem vw_pow {p v w : Nat} (hp : 1 < p) (h : v * w % p = 1) (d : Nat) : v ^ d * w ^ d % p = 1 := by
  rw [← Nat.mul_pow, Nat.pow_mod, h, Nat.one_pow, Nat.mod_eq_of_lt hp]
theorem root_sum {p w v n i j m : Nat} (hp : Nt.Prime p) (hn : 0 < n) (hw : ∀ q, w ^ q % p = 1 ↔ n ∣ q) (hv : v * w % p = 1) (hij : i + j < n) (hm : m < n) :
    S (fun t => (w ^ (i + j) * v ^ m) ^ t) n % p = if i + j = m then n % p else 0 := by
  have hp1 := hp.1
  have hwn : w ^ n % p = 1 := (hw n).2 (Nat.dvd_refl n)
  have hvn : v ^ n % p = 1 := by
    have := vw_pow hp1 hv n
    rw [Nat.mul_mod, hwn, Nat.mul_one, Nat.mod_mod] at this
    exact this
  by_cases e : i + j = m
  · rw [if_pos e, e]
    have h1 : w ^ m * v ^ m % p = 1 := by rw [Nat.mul_comm]; exact vw_pow hp1 hv m
    have : ∀ t, (w ^ m * v ^ m) ^ t % p = 1 % p := fun t => by rw [Nat.pow_mod, h1, Nat.one_pow]
    rw [S_congr (g := fun _ => 1) (fun t _ => this t)]
    have hs : ∀ n, S (fun _ => 1) n = n := by
      intro n
      induction n with
      | zero => rfl
      | succ n ih => show S (fun _ => 1) n + 1 = n + 1; rw [ih]
    rw [hs]
  · rw [if_neg e]
    refine geo hp hn ?_ ?_
    · rw [Nat.mul_pow, ← Nat.pow_mul, ← Nat.pow_mul, Nat.mul_comm (i + j), Nat.mul_comm m, Nat.pow_mul, Nat.pow_mul, Nat.mul_mod, Nat.pow_mod, hwn, Nat.one_pow, Nat.pow_mod (v ^ n), hvn, Nat.one_pow, Nat.mod_eq_of_lt hp1, Nat.mul_one, Nat.mod_eq_of_lt hp1]
    · intro h1
      rcases Nat.lt_or_gt_of_ne e with hlt | hgt
      · -- v ^ (m - (i + j)) would be 1
        obtain ⟨d, rfl⟩ : ∃ d, m = (i + j) + d := ⟨m - (i + j), by omega⟩
        have h2 : v ^ d % p = 1 := by
          rw [Nat.pow_add v, ← Nat.mul_assoc, Nat.mul_mod, Nat.mul_comm (w ^ (i + j)), vw_pow hp1 hv, Nat.one_mul, Nat.mod_mod] at h1
          exact h1
        have h3 : w ^ d % p = 1 := by
          have := vw_pow hp1 hv d
          rw [Nat.mul_mod, h2, Nat.one_mul, Nat.mod_mod] at this
          exact this
        have := Nat.le_of_dvd (by omega) ((hw d).1 h3)
        omega
      · obtain ⟨d, hd⟩ : ∃ d, i + j = m + d := ⟨i + j - m, by omega⟩
        rw [hd] at h1
        have h3 : w ^ d % p = 1 := by
          rw [Nat.pow_add, Nat.mul_comm (w ^ m), Nat.mul_assoc, Nat.mul_mod, Nat.mul_comm (w ^ m), vw_pow hp1 hv, Nat.mul_one, Nat.mod_mod] at h1
          exact h1
        have := Nat.le_of_dvd (by omega) ((hw d).1 h3)
        omega
/-- The product straight on, at a place. -/
def conv (a b : Nat → Nat) (n m : Nat) : Nat := S (fun i => S (fun j => if i + j = m then a i * b j else 0) n) n
theorem S_mul_S (f g : Nat → Nat) (n : Nat) : S f n * S g n = S (fun i => S (fun j => f i * g j) n) n := by
  rw [Nat.mul_comm, ← S_mul]
  refine S_eq fun i _ => ?_
  rw [S_mul, Nat.mul_comm]
theorem conv_back {p w v n la lb m : Nat} {a b : Nat → Nat} (hp : Nt.Prime p) (hn : 0 < n) (hw : ∀ q, w ^ q % p = 1 ↔ n ∣ q) (hv : v * w % p = 1) (hm : m < n)
    (ha : ∀ i, la ≤ i → a i = 0) (hb : ∀ i, lb ≤ i → b i = 0) (hl : la + lb ≤ n + 1) :
    S (fun t => (S (fun i => a i * w ^ (i * t)) n * S (fun j => b j * w ^ (j * t)) n) * v ^ (t * m)) n % p = n * conv a b n m % p := by
  have e1 : S (fun t => (S (fun i => a i * w ^ (i * t)) n * S (fun j => b j * w ^ (j * t)) n) * v ^ (t * m)) n = S (fun i => S (fun j => a i * b j * S (fun t => (w ^ (i + j) * v ^ m) ^ t) n) n) n := by
    have : ∀ t, (S (fun i => a i * w ^ (i * t)) n * S (fun j => b j * w ^ (j * t)) n) * v ^ (t * m) = S (fun i => S (fun j => a i * b j * (w ^ (i + j) * v ^ m) ^ t) n) n := by
      intro t
      rw [S_mul_S, Nat.mul_comm, ← S_mul]
      refine S_eq fun i _ => ?_
      rw [← S_mul]
      refine S_eq fun j _ => ?_
      rw [Nat.mul_pow, ← Nat.pow_mul, ← Nat.pow_mul, Nat.add_mul, Nat.pow_add, Nat.mul_comm m t]
      simp only [Nat.mul_assoc, Nat.mul_comm, Nat.mul_left_comm]
    rw [S_eq (fun t _ => this t), S_swap]
    refine S_eq fun i _ => ?_
    rw [S_swap]
    refine S_eq fun j _ => ?_
    rw [S_mul]
  rw [e1, conv, ← S_mul]
  refine S_congr fun i hi => ?_
  rw [← S_mul]
  refine S_congr fun j hj => ?_
  by_cases h : i < la ∧ j < lb
  · have hs := root_sum (i := i) (j := j) (m := m) hp hn hw hv (by omega) hm
    by_cases e : i + j = m
    · rw [if_pos e] at hs ⊢
      refine (mulmod rfl hs).trans ?_
      rw [Nat.mul_comm]
    · rw [if_neg e] at hs ⊢
      refine (mulmod rfl (hs.trans (Nat.zero_mod p).symm)).trans ?_
      rw [Nat.mul_zero, Nat.mul_zero]
  · have h0 : a i * b j = 0 := by
      by_cases h1 : i < la
      · rw [hb j (by omega), Nat.mul_zero]
      · rw [ha i (by omega), Nat.zero_mul]
    rw [h0, Nat.zero_mul]
    split <;> simp [h0]
end Go.Proofs.YtpkpadepccneeaaGreatDoor.F
