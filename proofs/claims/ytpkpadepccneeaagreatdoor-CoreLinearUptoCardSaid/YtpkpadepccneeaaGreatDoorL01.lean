/- What the walks of this seat share: a slice of whole numbers that is read (nil, empty or other), facts that hold behind new memory. No condition. -/
import Derived.Test.YtpkpadepccneeaaGreatDoorProg
import Derived.Below
import Derived.Deep.Draws
import Derived.OwnWalk
import Derived.Laws.OwnMore
import Derived.Laws.MakeOwn
import Derived.Laws.Rows
import Derived.Tactics
import Derived.WalkKit
import Derived.KernelRfl
import Derived.RowKit3
import Derived.RowKit
import Derived.Deep.LoopGhost
import Derived.Deep.QuietTactic
import Derived.BigQuiet
import Derived.Deep.AppendLies
import Derived.Maps.AppendAt
import Derived.Lib.Hide
import Derived.Outline
namespace Go.Proofs.YtpkpadepccneeaaGreatDoor
open Go.RowKit

/-- The world is the old one, some orders having been drawn. -/
def Drawn (w w' : World) : Prop := ∃ n, w' = w.drewN n
theorem Drawn.refl (w : World) : Drawn w w := ⟨0, rfl⟩
theorem Drawn.step {w w' : World} (h : Drawn w w') (n : Nat) : Drawn w (w'.drewN n) := by
  obtain ⟨m, rfl⟩ := h
  exact ⟨m + n, World.drewN_drewN ..⟩
theorem Drawn.below {w w' : World} (h : Drawn w w') (B : Nat) : Below B w w' := by
  obtain ⟨n, rfl⟩ := h
  induction n with
  | zero => exact Below.refl _ _
  | succ n ih => rw [← World.drew_drewN]; exact ih.drew
theorem below_drewN {B : Nat} {a w : World} (h : Below B a w) (n : Nat) : Below B a (w.drewN n) := ⟨h.os, h.tape, h.output, h.size, h.block⟩
theorem bcell {w w1 : World} (h : Below w.heap.size w w1) {a : Addr} {v : Value} (hc : w.cell? a = some v) : w1.cell? a = some v := (h.cell (World.block_lt_of_cell? w a hc)).trans hc
theorem below_then {B : Nat} {w w1 w2 : World} (h : Below B w w1) (hB : B ≤ w1.heap.size) (k : Below w1.heap.size w1 w2) : Below B w w2 :=
  h.trans ⟨k.os, k.tape, k.output, k.size, fun i hi => k.block i (Nat.lt_of_lt_of_le hi hB)⟩

/-- A slice of whole numbers reads as a list: nil, empty and other slices alike. -/
def RI (k : IntKind) (w : World) (A : Option Addr) (l : List Int) : Prop := ∀ i, i < l.length → ∃ ad, A = some ad ∧ w.cell? (ad.add i) = some (.int k (l.getD i 0))
theorem RI.at_ {k : IntKind} {w : World} {A : Option Addr} {l : List Int} (h : RI k w A l) {i : Nat} (hi : i < l.length) :
    ∃ ad, A = some ad ∧ w.cell? (ad.add i) = some (.int k (l.getD i 0)) := h i hi
theorem RI.below {k : IntKind} {w w1 : World} {A : Option Addr} {l : List Int} (h : RI k w A l) (hb : Below w.heap.size w w1) : RI k w1 A l := fun i hi => by
  obtain ⟨ad, e, hc⟩ := h i hi
  exact ⟨ad, e, bcell hb hc⟩
theorem RI.drawn {k : IntKind} {w w1 : World} {A : Option Addr} {l : List Int} (h : RI k w A l) (hb : Drawn w w1) : RI k w1 A l := h.below (hb.below _)
theorem RI.nil (k : IntKind) (w : World) (A : Option Addr) : RI k w A [] := fun i hi => absurd hi (by simp)

theorem drop_at (l : List Int) {k : Nat} (h : k < l.length) : l.drop k = l.getD k 0 :: l.drop (k + 1) := by
  rw [List.drop_eq_getElem_cons h, List.getD_eq_getElem?_getD, List.getElem?_eq_getElem h]; rfl
theorem ret_int {k : IntKind} {a b : Int} (h : a = b) : Ending.returned (.int k a) = .returned (.int k b) := by rw [h]
theorem ret_bool {a b : Bool} (h : a = b) : Ending.returned (.bool a) = .returned (.bool b) := by rw [h]
theorem ret2_int {k k' : IntKind} {a b a' b' : Int} (h : a = b) (h' : a' = b') : Ending.returned (.tuple #[.int k a, .int k' a']) = .returned (.tuple #[.int k b, .int k' b']) := by rw [h, h']

/-! ### A row of the call's own that reads as a list of whole numbers -/
def ints (k : IntKind) (l : List Int) : List Value := l.map fun x => .int k x
theorem ints_length (k : IntKind) (l : List Int) : (ints k l).length = l.length := by simp [ints]
theorem ints_at (k : IntKind) (l : List Int) {i : Nat} (h : i < l.length) : (ints k l)[i]? = some (.int k (l.getD i 0)) := by
  simp [ints, List.getElem?_eq_getElem h, List.getD_eq_getElem?_getD]
theorem ints_set (k : IntKind) (l : List Int) (i : Nat) (y : Int) : (ints k l).set i (.int k y) = ints k (l.set i y) := by simp [ints, List.map_set]
def OI (k : IntKind) (e : TypeId) (w : World) (B : Nat) (v : Value) (l : List Int) : Prop := w.ownsRow B e 1 v l.length (ints k l)
section
variable {k : IntKind} {e : TypeId} {w w1 : World} {B : Nat} {v : Value} {l : List Int}
theorem OI.nil (k : IntKind) (e : TypeId) (w : World) (B : Nat) : OI k e w B (.slice none 0 0) [] := World.ownsRow_nil w B e 1
theorem OI.lt (h : OI k e w B v l) : ∀ g, v.ownBlock = some g → B ≤ g ∧ g < w.heap.size := World.ownsRow.lt h
theorem OI.alloc (h : OI k e w B v l) (o : Obj) : OI k e (w.alloc o) B v l := World.ownsRow.alloc h o
theorem OI.drewN (h : OI k e w B v l) (n : Nat) : OI k e (w.drewN n) B v l := h
theorem OI.below (h : OI k e w B v l) (hb : Below w.heap.size w w1) : OI k e w1 B v l :=
  World.ownsRow.kept h (row := none) ⟨hb.os, hb.tape, hb.output, hb.size, fun i hi _ => hb.block i hi⟩ (by cases v.ownBlock <;> simp)
theorem OI.mono {B' : Nat} (h : OI k e w B v l) (hB : B' ≤ B) : OI k e w B' v l := by
  refine ⟨h.1, ?_⟩
  rcases h.2 with h1 | ⟨g, cap, cur, h1, h2, h3⟩
  · exact .inl h1
  · exact .inr ⟨g, cap, cur, h1, Nat.le_trans hB h2, h3⟩
theorem OI.form (h : OI k e w B v l) : ∃ A c, v = .slice A l.length c ∧ RI k w A l := by
  rcases h.2 with ⟨rfl, hn⟩ | ⟨g, cap, cur, rfl, hb, hh, hnc, hcm, hcs, htake⟩
  · exact ⟨none, 0, by rw [hn], fun i hi => by omega⟩
  · refine ⟨_, cap, rfl, fun i hi => ⟨_, rfl, ?_⟩⟩
    exact World.ownsRow.cells h (g := g) rfl i _ (ints_at k l hi)
theorem OI.len (h : OI k e w B v l) : l.length ≤ maxLen := by
  rcases h.2 with ⟨rfl, hn⟩ | ⟨g, cap, cur, rfl, hb, hh, hnc, hcm, hcs, htake⟩
  · omega
  · omega
/-- A row that lies: its cells are its own from a block's head on. -/
theorem OI.cellAt {g c : Nat} (h : OI k e w B (.slice (some ⟨g, 0, none⟩) l.length c) l) {i : Nat} (hi : i < l.length) : w.cell? ⟨g, i, none⟩ = some (.int k (l.getD i 0)) := by
  rw [World.ownsRow.cellAt h i (by omega), ints_at k l hi]
theorem OI.frozenAt {g n c : Nat} (hn : n = l.length) (h : OI k e w B (.slice (some ⟨g, 0, none⟩) n c) l) (i : Nat) : w.frozen? ⟨g, i, none⟩ = false := by
  subst hn; exact World.ownsRow.frozenAt h i
theorem OI.stored {g n c : Nat} (hn : n = l.length) (h : OI k e w B (.slice (some ⟨g, 0, none⟩) n c) l) (i : Nat) (y : Int) :
    OI k e (w.setCell ⟨g, i, none⟩ (.int k y)) B (.slice (some ⟨g, 0, none⟩) n c) (l.set i y) := by
  subst hn
  have := (World.ownsRow.stored h i (.int k y)).1
  unfold OI
  rw [← ints_set, List.length_set]
  exact this
theorem OI.base {g n c : Nat} (h : OI k e w B (.slice (some ⟨g, 0, none⟩) n c) l) : B ≤ g ∧ g < w.heap.size := h.lt g rfl
end
section
variable {P : Program}
/-- 'append(out, x)' of one number, out a row of the call's own: it owns one more. -/
theorem wpList_append1 {W : World} {ops : Array Oper} {rest : List Oper} {o : Oper} {a : Act} {Q : Exit → Act → World → Prop} (hgd : o.guard = none) (s x : Operand) (t : TypeId)
    (ho : o.op = .call { callee := .builtin .append, args := #[s, x], argTypes := #[t, t] }) (B : Nat) (e : TypeId) (k : IntKind) (bytes : Nat) (ht : P.underlying t = some (.slice e))
    (hi : (P.info? e).map (fun i => (i.zero, i.size, i.bytes)) = some (some (.int k 0), 1, bytes)) (hby : bytes ≤ 8)
    (v : Value) (l : List Int) (y : Int) (hs : a.eval s = v) (hx : a.eval x = .slice (some ⟨W.heap.size, 0, none⟩) 1 1) (hown : OI k e W B v l) (hlen : l.length + 1 ≤ 17592186044416) (hB : B ≤ W.heap.size)
    (h : ∀ v' w', OI k e w' B v' (l ++ [y]) → Below B W w' → wpList P ops Q rest (a.put o.dst v') w') :
    wpList P ops Q (o :: rest) a (W.alloc (.cells #[.int k y] e)) := by
  obtain ⟨i0, h1, h2, h3, h4⟩ := info_parts hi
  refine wpList_append_own _ hgd s x t ho B e i0 (.int k 0) 1 bytes ht h1 h2 h3 h4 rfl (by decide) v l.length (ints k l) hs (OI.alloc hown _) ⟨W.heap.size, 0, none⟩ 1 1 [.int k y] hx rfl ?_ ?_ ?_ ?_ ?_ ?_
  · exact cell_one_new _ _ _
  · intro u hu; simp at hu; subst hu; rfl
  · unfold maxLen; omega
  · calc (l.length + 1) * bytes ≤ (l.length + 1) * 8 := Nat.mul_le_mul_left _ hby
      _ ≤ 140737488355328 := by omega
  · simp; omega
  · intro v' w' hown' hg _
    refine h v' w' ?_ ?_
    · unfold OI; simpa [ints] using hown'
    · exact ((Below.refl _ _).alloc hB _).grown hg (by simp; omega) (fun g hg' => (hown.lt g hg').1)
/-- 'make([]T, n)' of whole numbers: n zeros are owned. -/
theorem wpList_makeI {w : World} {ops : Array Oper} {rest : List Oper} {o : Oper} {a : Act} {Q : Exit → Act → World → Prop} (hg : o.guard = none) (l c : Operand) (t : TypeId) (hop : o.op = Op.makeSlice t l c)
    (B : Nat) (e : TypeId) (k : IntKind) (bytes : Nat) (ht : P.underlying t = some (.slice e)) (hi : (P.info? e).map (fun i => (i.zero, i.size, i.bytes)) = some (some (.int k 0), 1, bytes)) (hby : bytes ≤ 8)
    (kl kc : IntKind) (n : Nat) (hl : a.eval l = .int kl n) (hc : a.eval c = .int kc n) (hn : n ≤ 35184372088832) (hB : B ≤ w.heap.size)
    (h : ∀ w', OI k e w' B (.slice (some ⟨w.heap.size, 0, none⟩) n n) (List.replicate n 0) → Below B w w' → w.heap.size < w'.heap.size → wpList P ops Q rest (a.put o.dst (.slice (some ⟨w.heap.size, 0, none⟩) n n)) w') :
    wpList P ops Q (o :: rest) a w := by
  obtain ⟨i0, h1, h2, h3, h4⟩ := info_parts hi
  refine wpList_make_full w hg l c t hop B e i0 (.int k 0) 1 ht h1 h2 h3 kl kc n n n hl hc rfl rfl ?_ ?_ hB ?_
  · rw [h4]
    calc bytes * n ≤ 8 * n := Nat.mul_le_mul_right _ hby
      _ ≤ 281474976710656 := by omega
  · unfold maxLen; omega
  · intro w' hown hgr
    have hown' : OI k e w' B (.slice (some ⟨w.heap.size, 0, none⟩) n n) (List.replicate n 0) := by
      unfold OI
      rw [show (madeCells (Value.int k 0).cells (n * 1)).toList = ints k (List.replicate n 0) by
        rw [Nat.mul_one]; show (madeCells #[.int k 0] n).toList = _; rw [toList_madeCells_one]; simp [ints]] at hown
      simpa using hown
    exact h w' hown' ((Below.refl _ _).grown hgr hB (fun _ hk => by cases hk)) (hown'.lt _ rfl).2
end

/-! ### Calls in a region that draws: whatever was drawn before -/
theorem quiet0 {P : Program} {f : FuncId} {args : Array Value} {w : World} {v : Value}
    (h : Calls P f args w fun e w' => e = .returned v ∧ w = w') : Calls P f args w fun e w'' => e = .returned v ∧ ∃ m, w'' = w.drewN m :=
  h.mono fun _ _ ⟨he, hm⟩ => ⟨he, 0, hm.symm⟩
theorem quietN {P : Program} {f : FuncId} {args : Array Value} {w : World} {a n : Nat} {v : Value}
    (h : Calls P f args (w.drewN (a + n)) fun e w' => e = .returned v ∧ w.drewN (a + n) = w') :
    Calls P f args (w.drewN (a + n)) fun e w'' => e = .returned v ∧ ∃ m, w'' = w.drewN (a + m) :=
  h.mono fun _ _ ⟨he, hm⟩ => ⟨he, n, hm.symm⟩
theorem RI.drewN {k : IntKind} {w : World} {A : Option Addr} {l : List Int} (h : RI k w A l) (n : Nat) : RI k (w.drewN n) A l := h
/-- A part of a slice, from a place on. -/
theorem RI.cut {k : IntKind} {w : World} {A : Option Addr} {l : List Int} (h : RI k w A l) {m c : Nat} (hm : m ≤ l.length) (hc : l.length ≤ c) :
    RI k w (if c = m then A else A.map (·.add m)) (l.drop m) := fun i hi => by
  rw [List.length_drop] at hi
  obtain ⟨ad, rfl, hcell⟩ := h (m + i) (by omega)
  rw [if_neg (by omega)]
  refine ⟨ad.add m, rfl, ?_⟩
  have e : (ad.add m).add i = ad.add (m + i) := by
    unfold Addr.add
    by_cases h1 : m = 0 <;> by_cases h2 : i = 0 <;> simp [h1, h2, Nat.add_assoc]
  rw [e, hcell, List.getD_eq_getElem?_getD, List.getD_eq_getElem?_getD, List.getElem?_drop]
end Go.Proofs.YtpkpadepccneeaaGreatDoor

/- Plain numbers: the order of a number modulo another one, primes by Lucas' test. No program in it. No condition. -/
namespace Go.Proofs.YtpkpadepccneeaaGreatDoor.Nt
set_option linter.unusedVariables false
set_option linter.unusedSimpArgs false
def Prime (p : Nat) : Prop := 1 < p ∧ ∀ d, d ∣ p → d = 1 ∨ d = p
theorem Prime.pos {p : Nat} (h : Prime p) : 0 < p := by have := h.1; omega
/-- A number above 1 has a prime factor. -/
theorem exists_prime : ∀ (n : Nat), 1 < n → ∃ p, Prime p ∧ p ∣ n := fun n => by
  induction n using Nat.strongRecOn with
  | _ n ih =>
    intro h
    by_cases hp : ∃ d, d ∣ n ∧ d ≠ 1 ∧ d ≠ n
    · obtain ⟨d, hd, h1, h2⟩ := hp
      have hle := Nat.le_of_dvd (by omega) hd
      have h0 : d ≠ 0 := fun e => by subst e; have := Nat.eq_zero_of_zero_dvd hd; omega
      obtain ⟨p, hp, hpd⟩ := ih d (by omega) (by omega)
      exact ⟨p, hp, Nat.dvd_trans hpd hd⟩
    · refine ⟨n, ⟨h, fun d hd => ?_⟩, Nat.dvd_refl n⟩
      by_cases h1 : d = 1
      · exact .inl h1
      · by_cases h2 : d = n
        · exact .inr h2
        · exact absurd ⟨d, hd, h1, h2⟩ hp
theorem Prime.dvd_mul {p a b : Nat} (hp : Prime p) (h : p ∣ a * b) : p ∣ a ∨ p ∣ b := by
  rcases hp.2 (Nat.gcd p a) (Nat.gcd_dvd_left p a) with h1 | h1
  · exact .inr (Nat.Coprime.dvd_of_dvd_mul_left h1 h)
  · left
    rw [← h1]
    exact Nat.gcd_dvd_right p a
theorem Prime.dvd_pow {p a : Nat} (hp : Prime p) : ∀ {n : Nat}, p ∣ a ^ n → p ∣ a
  | 0, h => by
    rw [Nat.pow_zero] at h
    have := Nat.le_of_dvd (by omega) h
    have := hp.1
    omega
  | n + 1, h => by
    rw [Nat.pow_succ] at h
    rcases hp.dvd_mul h with h1 | h1
    · exact hp.dvd_pow h1
    · exact h1
theorem Prime.eq_of_dvd {p q : Nat} (hp : Prime p) (hq : Prime q) (h : p ∣ q) : p = q := by
  rcases hq.2 p h with h1 | h1
  · have := hp.1; omega
  · exact h1
/-- The product of so many powers. -/
def prodOf : List (Nat × Nat) → Nat
  | [] => 1
  | (q, e) :: l => q ^ e * prodOf l
theorem prime_in : ∀ (l : List (Nat × Nat)), (∀ f ∈ l, Prime f.1) → ∀ r, Prime r → r ∣ prodOf l → ∃ f ∈ l, r = f.1
  | [], _, r, hr, h => by
    have h' : r ∣ 1 := h
    have := Nat.le_of_dvd (by decide) h'
    have := hr.1
    omega
  | (q, e) :: l, hl, r, hr, h => by
    rcases hr.dvd_mul h with h1 | h1
    · exact ⟨(q, e), by simp, hr.eq_of_dvd (hl (q, e) (by simp)) (hr.dvd_pow h1)⟩
    · obtain ⟨f, hf, he⟩ := prime_in l (fun f hf => hl f (by simp [hf])) r hr h1
      exact ⟨f, by simp [hf], he⟩
theorem pow_mod_mul (g a b p : Nat) : g ^ (a + b) % p = (g ^ a % p) * (g ^ b % p) % p := by rw [Nat.pow_add, Nat.mul_mod]
/-- The least power that is 1. -/
theorem least {P : Nat → Prop} (h : ∃ n, P n) : ∃ n, P n ∧ ∀ m, m < n → ¬ P m := by
  obtain ⟨n, hn⟩ := h
  induction n using Nat.strongRecOn with
  | _ n ih =>
    by_cases hm : ∃ m, m < n ∧ P m
    · obtain ⟨m, h1, h2⟩ := hm
      exact ih m h1 h2
    · exact ⟨n, hn, fun m h1 h2 => hm ⟨m, h1, h2⟩⟩
theorem order {p g n : Nat} (hp : 1 < p) (hn : 0 < n) (h : g ^ n % p = 1) : ∃ o, 0 < o ∧ ∀ k, g ^ k % p = 1 ↔ o ∣ k := by
  obtain ⟨o, ⟨ho, h1⟩, hmin⟩ := least (P := fun k => 0 < k ∧ g ^ k % p = 1) ⟨n, hn, h⟩
  have hmul : ∀ j, g ^ (o * j) % p = 1 := fun j => by
    rw [Nat.pow_mul, Nat.pow_mod, h1, Nat.one_pow, Nat.mod_eq_of_lt hp]
  refine ⟨o, ho, fun k => ⟨fun hk => ?_, fun ⟨j, hj⟩ => by rw [hj]; exact hmul j⟩⟩
  have hr : g ^ (k % o) % p = 1 := by
    rw [← Nat.div_add_mod k o, pow_mod_mul, hmul, Nat.one_mul, Nat.mod_mod] at hk
    exact hk
  have hlt := Nat.mod_lt k ho
  by_cases h0 : k % o = 0
  · exact Nat.dvd_of_mod_eq_zero h0
  · exact absurd ⟨by omega, hr⟩ (hmin _ hlt)
/-- Whose factors are all tried: its order is p - 1. -/
theorem full_order {p g : Nat} {l : List (Nat × Nat)} (hp : 2 < p) (hl : ∀ f ∈ l, Prime f.1) (hprod : prodOf l = p - 1) (h1 : g ^ (p - 1) % p = 1) (h2 : ∀ f ∈ l, g ^ ((p - 1) / f.1) % p ≠ 1) :
    ∀ k, g ^ k % p = 1 ↔ (p - 1) ∣ k := by
  obtain ⟨o, ho, hord⟩ := order (by omega) (by omega : 0 < p - 1) h1
  have hdvd := (hord (p - 1)).1 h1
  obtain ⟨m, hm⟩ := hdvd
  by_cases hm1 : m = 1
  · subst hm1
    rw [Nat.mul_one] at hm
    rw [hm]
    exact hord
  · exfalso
    have hm0 : m ≠ 0 := fun e => by subst e; omega
    obtain ⟨r, hr, hrm⟩ := exists_prime m (by omega)
    have hrp : r ∣ prodOf l := by
      rw [hprod, hm]
      exact Nat.dvd_trans hrm (Nat.dvd_mul_left m o)
    obtain ⟨f, hf, he⟩ := prime_in l hl r hr hrp
    apply h2 f hf
    rw [hord, ← he]
    obtain ⟨t, ht⟩ := hrm
    refine ⟨t, ?_⟩
    rw [hm, ht, show o * (r * t) = r * (o * t) by rw [← Nat.mul_assoc, Nat.mul_comm o r, Nat.mul_assoc], Nat.mul_div_cancel_left _ hr.pos]
theorem inv_of {p a b d : Nat} (h : a * b % p = 1) (hd : d ∣ p) (ha : d ∣ a) : d = 1 := by
  have h1 : d ∣ a * b := Nat.dvd_trans ha (Nat.dvd_mul_right a b)
  have h2 : a * b = p * (a * b / p) + 1 := by have := Nat.div_add_mod (a * b) p; omega
  rw [h2] at h1
  have h3 : d ∣ p * (a * b / p) := Nat.dvd_trans hd (Nat.dvd_mul_right p _)
  have h4 : d ∣ 1 := (Nat.dvd_add_right h3).1 h1
  exact Nat.eq_one_of_dvd_one h4
/-- Lucas: p is a prime. -/
theorem prime_of_order {p g : Nat} (hp : 2 < p) (h : ∀ k, g ^ k % p = 1 ↔ (p - 1) ∣ k) : Prime p := by
  have hone : g ^ (p - 1) % p = 1 := (h _).2 (Nat.dvd_refl _)
  -- each power has what makes 1 with it
  have hinv : ∀ i, i ≤ p - 1 → (g ^ i % p) * (g ^ (p - 1 - i) % p) % p = 1 := fun i hi => by
    rw [← pow_mod_mul, show i + (p - 1 - i) = p - 1 by omega]; exact hone
  have hinj : ∀ i j, i < j → j < p - 1 → g ^ i % p ≠ g ^ j % p := fun i j hij hj he => by
    have h1 : g ^ (j + (p - 1 - i)) % p = 1 := by
      rw [pow_mod_mul, ← he]; exact hinv i (by omega)
    have h2 := (h _).1 h1
    obtain ⟨t, ht⟩ := h2
    have : t ≠ 0 := fun e => by subst e; omega
    have : t ≠ 1 := fun e => by subst e; omega
    have h3 : 2 * (p - 1) ≤ (p - 1) * t := by rw [Nat.mul_comm 2]; exact Nat.mul_le_mul_left _ (by omega)
    omega
  let L := (List.range (p - 1)).map fun i => g ^ i % p
  have hL : L.length = p - 1 := by simp [L]
  have hnd : L.Nodup := by
    rw [List.Nodup, List.pairwise_iff_getElem]
    intro i j hi hj hij
    simp only [L, List.getElem_map, List.getElem_range]
    exact hinj i j hij (by rw [hL] at hj; exact hj)
  have hsub : ∀ x ∈ L, 0 < x ∧ x < p := fun x hx => by
    simp only [L, List.mem_map, List.mem_range] at hx
    obtain ⟨i, hi, rfl⟩ := hx
    refine ⟨?_, Nat.mod_lt _ (by omega)⟩
    rcases Nat.eq_zero_or_pos (g ^ i % p) with h0 | h0
    · have := hinv i (by omega)
      rw [h0, Nat.zero_mul, Nat.zero_mod] at this
      omega
    · exact h0
  have hall : ∀ r, 0 < r → r < p → r ∈ L := fun r h0 h1 => Classical.byContradiction fun hno => by
    have hn2 : (r :: L).Nodup := List.nodup_cons.2 ⟨hno, hnd⟩
    have hs2 : (r :: L) ⊆ (List.range (p - 1)).map (· + 1) := fun x hx => by
      have hx' : 0 < x ∧ x < p := by
        rcases List.mem_cons.1 hx with rfl | hx
        · exact ⟨h0, h1⟩
        · exact hsub x hx
      rw [List.mem_map]
      exact ⟨x - 1, List.mem_range.2 (by omega), by omega⟩
    have hlen := hn2.length_le_of_subset hs2
    simp only [List.length_cons, hL, List.length_map, List.length_range] at hlen
    omega
  refine ⟨by omega, fun d hd => ?_⟩
  have hle := Nat.le_of_dvd (by omega) hd
  have h0 : d ≠ 0 := fun e => by subst e; have := Nat.eq_zero_of_zero_dvd hd; omega
  by_cases hdp : d = p
  · exact .inr hdp
  · left
    have hm := hall d (by omega) (by omega)
    simp only [L, List.mem_map, List.mem_range] at hm
    obtain ⟨i, hi, he⟩ := hm
    have h1 := hinv i (by omega)
    rw [he] at h1
    exact inv_of h1 hd (Nat.dvd_refl d)
/-- The power whose order is n. -/
theorem root_order {p g n : Nat} (hp : 2 < p) (h : ∀ k, g ^ k % p = 1 ↔ (p - 1) ∣ k) (hn : n ∣ p - 1) (k : Nat) : (g ^ ((p - 1) / n) % p) ^ k % p = 1 ↔ n ∣ k := by
  obtain ⟨m, hm⟩ := hn
  have hn0 : 0 < n := Nat.pos_of_ne_zero fun e => by subst e; omega
  have hm0 : 0 < m := Nat.pos_of_ne_zero fun e => by subst e; omega
  rw [← Nat.pow_mod, ← Nat.pow_mul, h, hm, Nat.mul_div_cancel_left m hn0, Nat.mul_comm n m]
  exact Nat.mul_dvd_mul_iff_left hm0
end Go.Proofs.YtpkpadepccneeaaGreatDoor.Nt

/- Plain numbers: products modulo an odd number without a division (Montgomery's way). No program in it. No condition. -/
namespace Go.Proofs.YtpkpadepccneeaaGreatDoor.Mg
set_option linter.unusedVariables false
set_option linter.unusedSimpArgs false
/-- 2^64. -/
def R : Nat := 18446744073709551616
theorem low_sum {low t m : Nat} (hl : low < R) (ht : (t * m + 1) % R = 0) : low + low * t % R * m % R = 0 ∨ low + low * t % R * m % R = R := by
  have h : (low + low * t % R * m % R) % R = 0 := by
    rw [Nat.add_mod, Nat.mod_mod, Nat.mod_mul_mod, ← Nat.add_mod, show low + low * t * m = low * (t * m + 1) by rw [Nat.mul_add, Nat.mul_one, Nat.mul_assoc, Nat.add_comm], Nat.mul_mod, ht]
    simp
  have hlt : low * t % R * m % R < R := Nat.mod_lt _ (by decide)
  generalize low * t % R * m % R = x at *
  simp only [R] at *
  omega
/-- What 'reduce' comes to. -/
def redc (m t high low : Nat) : Nat :=
  let q := low * t % R
  let r := high + q * m / R + (if R ≤ low + q * m % R then 1 else 0)
  if m ≤ r then r - m else r
theorem redc_sum {m t high low : Nat} (hl : low < R) (ht : (t * m + 1) % R = 0) :
    (high + low * t % R * m / R + (if R ≤ low + low * t % R * m % R then 1 else 0)) * R = high * R + low + low * t % R * m := by
  have h := low_sum (m := m) hl ht
  have hd := Nat.div_add_mod (low * t % R * m) R
  generalize low * t % R * m = qm at *
  generalize hA : qm / R = A at *
  generalize hL : qm % R = L at *
  rcases h with h | h
  · rw [if_neg (by omega)]; simp only [R] at *; omega
  · rw [if_pos (by omega)]; simp only [R] at *; omega
theorem redc_spec {m t high low : Nat} (hl : low < R) (hh : high < m) (ht : (t * m + 1) % R = 0) : redc m t high low < m ∧ redc m t high low * R % m = (high * R + low) % m := by
  have hs := redc_sum (m := m) (high := high) hl ht
  have hq : low * t % R < R := Nat.mod_lt _ (by decide)
  have hqm : low * t % R * m < R * m := Nat.mul_lt_mul_of_pos_right hq (by omega)
  have hT : high * R + low < R * m := by
    have : (high + 1) * R ≤ m * R := Nat.mul_le_mul_right _ (by omega)
    rw [Nat.mul_comm R m]
    simp only [R] at *
    omega
  unfold redc
  simp only
  generalize hr : high + low * t % R * m / R + (if R ≤ low + low * t % R * m % R then 1 else 0) = r at *
  have hr2 : r < 2 * m := by
    have : r * R < 2 * m * R := by
      rw [hs, show 2 * m * R = R * m + R * m by rw [Nat.mul_assoc, Nat.two_mul, Nat.mul_comm m R]]
      omega
    exact Nat.lt_of_mul_lt_mul_right this
  have hmod : r * R % m = (high * R + low) % m := by
    rw [hs, Nat.add_mul_mod_self_right]
  split
  · rename_i hge
    refine ⟨by omega, ?_⟩
    rw [← hmod]
    have e : r * R = (r - m) * R + R * m := by
      rw [Nat.mul_comm R m, ← Nat.add_mul, Nat.sub_add_cancel hge]
    rw [e, Nat.add_mul_mod_self_right]
  · exact ⟨by omega, hmod⟩
/-- Newton's step: twice as many bits. -/
theorem newton {k : Nat} {m x : Int} (h : (2 : Int) ^ k ∣ 1 - m * x) : (2 : Int) ^ (2 * k) ∣ 1 - m * (x * (2 - m * x)) := by
  obtain ⟨c, hc⟩ := h
  refine ⟨c * c, ?_⟩
  have e : 1 - m * (x * (2 - m * x)) = (1 - m * x) * (1 - m * x) := by
    simp only [Int.mul_sub, Int.sub_mul, Int.mul_one, Int.one_mul]
    have e1 : m * (x * 2) = m * x + m * x := by rw [← Int.mul_assoc, Int.mul_comm _ 2, Int.two_mul]
    have e2 : m * (x * (m * x)) = m * x * (m * x) := by rw [Int.mul_assoc]
    omega
  rw [e, hc, Nat.two_mul, Int.pow_add]
  simp only [Int.mul_assoc, Int.mul_left_comm, Int.mul_comm]
theorem odd_square {m : Int} (h : m % 2 = 1) : (2 : Int) ^ 3 ∣ 1 - m * m := by
  have h8 : m % 8 = 1 ∨ m % 8 = 3 ∨ m % 8 = 5 ∨ m % 8 = 7 := by omega
  refine Int.dvd_of_emod_eq_zero ?_
  rw [Int.sub_emod, Int.mul_emod]
  show (1 % 8 - m % 8 * (m % 8) % 8) % 8 = 0
  rcases h8 with h | h | h | h <;> rw [h] <;> decide
/-- What stands for a number. -/
def mform (m a : Nat) : Nat := a * R % m
theorem mform_lt {m : Nat} (hm : 0 < m) (a : Nat) : mform m a < m := Nat.mod_lt _ hm
/-- 2^64 can be struck modulo an odd number. -/
theorem cancel {m x y : Nat} (hodd : Nat.Coprime R m) (hx : x < m) (hy : y < m) (h : x * R % m = y * R % m) : x = y := by
  have key : ∀ {u v : Nat}, u ≤ v → v < m → u * R % m = v * R % m → u = v := fun {u v} huv hv he => by
    have hd : m ∣ (v - u) * R := by
      have h2 : (v * R - u * R) % m = 0 := Nat.sub_mod_eq_zero_of_mod_eq he.symm
      rw [← Nat.sub_mul] at h2
      exact Nat.dvd_of_mod_eq_zero h2
    have h3 : m ∣ v - u := Nat.Coprime.dvd_of_dvd_mul_right (Nat.Coprime.symm hodd) hd
    by_cases h0 : v - u = 0
    · omega
    · have := Nat.le_of_dvd (by omega) h3; omega
  rcases Nat.le_total x y with hxy | hxy
  · exact key hxy hy h
  · exact (key hxy hx h.symm).symm
/-- The product of what stands for two numbers stands for their product. -/
theorem mul_form {m a b r : Nat} (hm : 0 < m) (hodd : Nat.Coprime R m) (hr : r < m) (h : r * R % m = mform m a * mform m b % m) : r = mform m (a * b) := by
  refine cancel hodd hr (mform_lt hm _) ?_
  rw [h]
  unfold mform
  rw [← Nat.mul_mod, Nat.mod_mul_mod, show a * R * (b * R) = a * b * R * R by simp only [Nat.mul_assoc, Nat.mul_left_comm]]
end Go.Proofs.YtpkpadepccneeaaGreatDoor.Mg
