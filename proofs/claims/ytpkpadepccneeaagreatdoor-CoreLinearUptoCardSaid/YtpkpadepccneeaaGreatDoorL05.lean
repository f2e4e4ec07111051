/- The kit's tactics for regions that draw, together. No condition. -/
import Derived.Test.YtpkpadepccneeaaGreatDoorL03
import Derived.Deep.RegionHeld3
import Derived.Deep.CutRange
import Derived.Deep.RegionWith
import Derived.Deep.RegionLaw
import Derived.StillTailTactics
import Derived.Test.YtpkpadepccneeaaGreatDoorL01
namespace Go.Proofs.YtpkpadepccneeaaGreatDoor
end Go.Proofs.YtpkpadepccneeaaGreatDoor

/- Rows of entries (a prime, a generator, the factors), as values and in memory. No condition. -/
namespace Go.Proofs.YtpkpadepccneeaaGreatDoor
open Go.RowKit
set_option linter.unusedVariables false
structure Fac where
  q : Nat
  e : Int
deriving Inhabited
structure Ent where
  p : Nat
  g : Nat
  fs : List Fac
deriving Inhabited
def Fac.z : Fac := ⟨0, 0⟩
def Ent.z : Ent := ⟨0, 0, []⟩
/-- Factors that lie. -/
def FI (w : World) (F : Option Addr) (fs : List Fac) : Prop := ∀ i, i < fs.length → ∃ b o, F = some ⟨b, o, none⟩ ∧ w.cell? ⟨b, o + i * 2, none⟩ = some (.int .u64 ((fs.getD i .z).q : Int)) ∧ w.cell? ⟨b, o + i * 2 + 1, none⟩ = some (.int .i64 (fs.getD i .z).e)
/-- Entries that lie, and their factors. -/
def EI (w : World) (A : Option Addr) (l : List Ent) : Prop := ∀ i, i < l.length → ∃ b o F c, A = some ⟨b, o, none⟩ ∧ w.cell? ⟨b, o + i * 3, none⟩ = some (.int .u64 ((l.getD i .z).p : Int)) ∧ w.cell? ⟨b, o + i * 3 + 1, none⟩ = some (.int .u64 ((l.getD i .z).g : Int)) ∧
  w.cell? ⟨b, o + i * 3 + 2, none⟩ = some (.slice F (l.getD i .z).fs.length c) ∧ (l.getD i .z).fs.length ≤ c ∧ FI w F (l.getD i .z).fs
theorem FI.below {w w1 : World} {F : Option Addr} {fs : List Fac} (h : FI w F fs) (hb : Below w.heap.size w w1) : FI w1 F fs := fun i hi => by
  obtain ⟨b, o, e, c1, c2⟩ := h i hi
  exact ⟨b, o, e, bcell hb c1, bcell hb c2⟩
theorem EI.below {w w1 : World} {A : Option Addr} {l : List Ent} (h : EI w A l) (hb : Below w.heap.size w w1) : EI w1 A l := fun i hi => by
  obtain ⟨b, o, F, c, e, c1, c2, c3, hl, hf⟩ := h i hi
  exact ⟨b, o, F, c, e, bcell hb c1, bcell hb c2, bcell hb c3, hl, hf.below hb⟩
theorem EI.take {w : World} {A : Option Addr} {l : List Ent} (h : EI w A l) (k : Nat) : EI w A (l.take k) := fun i hi => by
  rw [List.length_take] at hi
  have e : (l.take k).getD i .z = l.getD i .z := by
    rw [List.getD_eq_getElem?_getD, List.getD_eq_getElem?_getD, List.getElem?_take_of_lt (by omega)]
  rw [e]
  exact h i (by omega)
def Ent.val (x : Ent) (F : Option Addr) (c : Nat) : Value := .agg #[.int .u64 x.p, .int .u64 x.g, .slice F x.fs.length c]
def indexOf (l : List Ent) (q : Nat) : Nat → Int
  | i => if i < l.length then (if (l.getD i .z).p = q then (i : Int) else indexOf l q (i + 1)) else -1
termination_by i => l.length - i
theorem indexOf_at (l : List Ent) (q i : Nat) (h : i < l.length) : indexOf l q i = if (l.getD i .z).p = q then (i : Int) else indexOf l q (i + 1) := by rw [indexOf, if_pos h]
theorem indexOf_end (l : List Ent) (q i : Nat) (h : ¬ i < l.length) : indexOf l q i = -1 := by rw [indexOf, if_neg h]
theorem closure_any (F : Option Addr) (n c : Nat) (g : Nat) (p gg q : Nat) (w : World) (hc : w.cell? ⟨g, 0, none⟩ = some (.int .u64 q)) :
    Calls Tryz.prog 215 #[.agg #[.int .u64 p, .int .u64 gg, .slice F n c], .pointer (some ⟨g, 0, none⟩)] w fun e w' => e = .returned (.bool (decide (p = q))) ∧ Below w.heap.size w w' := by
  have hg := World.block_lt_of_cell? w _ hc
  have hgb : g < w.heap.size := hg
  clear hg
  by_cases h : p = q
  · subst h
    go_enter Tryz.func215, Tryz.ntmps215
    go_wp2_with fail
    go_ret
    simp
    exact (Below.refl _ _).alloc (Nat.le_refl _) _
  · have g1 : ((p : Int) == (q : Int)) = false := by simp; omega
    go_enter Tryz.func215, Tryz.ntmps215
    go_wp2_with fail
    go_ret
    simp [h]
    exact (Below.refl _ _).alloc (Nat.le_refl _) _
theorem IndexFunc_any (A : Option Addr) (c : Nat) (l : List Ent) (g q : Nat) (w : World) (hl : EI w A l) (hm : l.length ≤ 9223372036854775806) (hc : w.cell? ⟨g, 0, none⟩ = some (.int .u64 q)) :
    Calls Tryz.prog 252 #[.slice A l.length c, .func (.func 215) #[] #[.pointer (some ⟨g, 0, none⟩)]] w fun e w' => e = .returned (.int .i64 (indexOf l q 0)) ∧ Below w.heap.size w w' := by
  have HL := Lib.hid hl
  have HC := Lib.hid hc
  clear hl hc
  go_enter Tryz.func252, Tryz.ntmps252
  go_wp2_with fail
  go_loopw [8] (fun i wr => ∃ k : Nat, k ≤ l.length ∧ i = .int .i64 k ∧ Hid (indexOf l q 0 = indexOf l q k) ∧ Hid (Below w.heap.size w wr)) (fun i _ => l.length - (intOf i).toNat)
  case atStart => exact ⟨0, by omega, rfl, Lib.hid rfl, Lib.hid (Below.refl _ _)⟩
  case round =>
    obtain ⟨k, hk, rfl, HI, HB⟩ := hrel
    by_cases hlt : k < l.length
    · obtain ⟨b, o, F, cf, rfl, c1, c2, c3, hfl, hf⟩ := HL.out k hlt
      have k1 := bcell HB.out c1
      have k2 := bcell HB.out c2
      have k3 := bcell HB.out c3
      have CC := Lib.hid (closure_any F (l.getD k .z).fs.length cf g (l.getD k .z).p (l.getD k .z).g q wr (bcell HB.out HC.out))
      have HS := Lib.hid (indexOf_at l q k hlt)
      clear c1 c2 c3 hfl hf
      generalize (l.getD k .z).fs.length = nf at *
      generalize (l.getD k .z).g = gg at *
      generalize (l.getD k .z).p = p at *
      by_cases hq : p = q
      · rw [decide_eq_true hq] at CC
        rw [if_pos hq] at HS
        clear hq
        go_wp2_with fail
        with_reducible refine CC.out.mono ?_
        rintro e w' ⟨rfl, hb⟩
        have HB2 := Lib.hid (below_then HB.out HB.out.size hb)
        clear hb
        go_wp2_with fail
        go_ret
        exact ⟨by rw [HI.out, HS.out]; rfl, HB2.out⟩
      · rw [decide_eq_false hq] at CC
        rw [if_neg hq] at HS
        go_wp2_with fail
        with_reducible refine CC.out.mono ?_
        rintro e w' ⟨rfl, hb⟩
        have HB2 := Lib.hid (below_then HB.out HB.out.size hb)
        clear hb
        go_wp2_with fail
        go_roundw
        case rel => exact ⟨k + 1, by omega, by go_num, Lib.hid (HI.out.trans HS.out), HB2⟩
        case measure => simp [intOf]; omega
    · have HS := Lib.hid (indexOf_end l q k hlt)
      go_wp2_with fail
      go_ret
      exact ⟨by rw [HI.out, HS.out]; rfl, HB.out⟩
theorem indexOf_nonneg (l : List Ent) (q : Nat) : ∀ i, (0 ≤ indexOf l q i ↔ ∃ j, i ≤ j ∧ j < l.length ∧ (l.getD j .z).p = q) := by
  intro i
  induction h : l.length - i generalizing i with
  | zero =>
    rw [indexOf_end l q i (by omega)]
    constructor
    · intro h; omega
    · rintro ⟨j, h1, h2, _⟩; omega
  | succ n ih =>
    rw [indexOf_at l q i (by omega)]
    by_cases hq : (l.getD i .z).p = q
    · rw [if_pos hq]
      exact ⟨fun _ => ⟨i, Nat.le_refl _, by omega, hq⟩, fun _ => by omega⟩
    · rw [if_neg hq, ih (i + 1) (by omega)]
      constructor
      · rintro ⟨j, h1, h2, h3⟩; exact ⟨j, by omega, h2, h3⟩
      · rintro ⟨j, h1, h2, h3⟩
        refine ⟨j, ?_, h2, h3⟩
        rcases Nat.lt_or_ge i j with h4 | h4
        · exact h4
        · exact absurd (by rw [show i = j by omega]; exact h3) hq
/-- Whether an entry claims a prime. -/
def claimed (l : List Ent) (q : Nat) : Bool := decide (0 ≤ indexOf l q 0)
theorem claimed_iff (l : List Ent) (q : Nat) : claimed l q = true ↔ ∃ j, j < l.length ∧ (l.getD j .z).p = q := by
  unfold claimed
  rw [decide_eq_true_iff, indexOf_nonneg]
  simp
theorem ContainsFunc_any (A : Option Addr) (c : Nat) (l : List Ent) (g q : Nat) (w : World) (hl : EI w A l) (hm : l.length ≤ 9223372036854775806) (hc : w.cell? ⟨g, 0, none⟩ = some (.int .u64 q)) :
    Calls Tryz.prog 214 #[.slice A l.length c, .func (.func 215) #[] #[.pointer (some ⟨g, 0, none⟩)]] w fun e w' => e = .returned (.bool (claimed l q)) ∧ Below w.heap.size w w' := by
  have C := Lib.hid (IndexFunc_any A c l g q w hl hm hc)
  unfold claimed
  clear hl hc
  generalize indexOf l q 0 = i at *
  go_enter Tryz.func214, Tryz.ntmps214
  go_wp2_with fail
  with_reducible refine C.out.mono ?_
  rintro e w' ⟨rfl, hb⟩
  go_wp2_with fail
  go_ret
  exact ⟨rfl, hb⟩
theorem claimed_any (A : Option Addr) (c : Nat) (l : List Ent) (q : Nat) (w : World) (hl : EI w A l) (hm : l.length ≤ 9223372036854775806) :
    Calls Tryz.prog 154 #[.slice A l.length c, .int .u64 q] w fun e w' => e = .returned (.bool (claimed l q)) ∧ Below w.heap.size w w' := by
  have hb0 := (Below.refl w.heap.size w).alloc (Nat.le_refl _) (.cells #[.int .u64 (q : Int)] 22)
  have C := Lib.hid (ContainsFunc_any A c l w.heap.size q (w.alloc (.cells #[.int .u64 (q : Int)] 22)) (hl.below hb0) hm ((Blk.new w 22 #[.int .u64 (q : Int)]).cell 0))
  have HB := Lib.hid hb0
  clear hl hb0
  go_enter Tryz.func154, Tryz.ntmps154
  go_wp2_with fail
  with_reducible refine C.out.mono ?_
  rintro e w' ⟨rfl, hb⟩
  have HB2 := Lib.hid (below_then HB.out HB.out.size hb)
  clear hb
  go_wp2_with fail
  go_ret
  exact ⟨rfl, HB2.out⟩
end Go.Proofs.YtpkpadepccneeaaGreatDoor

/- Rows of entries that are right: what the code asks, as a function. No condition. -/
namespace Go.Proofs.YtpkpadepccneeaaGreatDoor
set_option linter.unusedVariables false
/-- n, so often times q; none: more than 64 bits. -/
def mulUp (q : Nat) : Nat → Nat → Option Nat
  | 0, n => some n
  | k + 1, n => if n * q < Mg.R then mulUp q k (n * q) else none
/-- Whether the walk turns back at a factor: it isn't greater than the one ahead, or nothing claims it. -/
def backs (ahead : List Ent) : Option Nat → Nat → Bool
  | none, _ => false
  | some q0, q => decide (q ≤ q0) || !claimed ahead q
def wholeL (ahead : List Ent) (p : Nat) : List Fac → Option Nat → Nat → Bool
  | [], _, n => decide (n = p - 1)
  | f :: r, prev, n =>
    if f.e < 1 ∨ 62 < f.e then false
    else if backs ahead prev f.q then false
    else match mulUp f.q f.e.toNat n with
      | none => false
      | some n' => wholeL ahead p r (some f.q) n'
def whole (ahead : List Ent) (x : Ent) : Bool :=
  if x.fs.length = 0 then false else if 16 < x.fs.length then false else if (x.fs.getD 0 .z).q ≠ 2 then false else wholeL ahead x.p x.fs none 1
def fullL (x : Ent) : List Fac → Bool
  | [] => true
  | f :: r => if x.g ^ ((x.p - 1) / f.q) % x.p = 1 then false else fullL x r
def full (x : Ent) : Bool := if x.g ^ (x.p - 1) % x.p = 1 then fullL x x.fs else false
def right (ahead : List Ent) (x : Ent) : Bool :=
  if x.p % 2 = 0 then false else if x.p < 3 then false else if 9223372036854775808 ≤ x.p then false else if x.g < 2 then false else if x.p ≤ x.g then false
  else if ahead.length ≠ 0 ∧ x.p ≤ (ahead.getD (ahead.length - 1) .z).p then false
  else whole ahead x && full x
/-- The first entry from a place on that isn't right. -/
def firstBad (l : List Ent) : Nat → Option Nat
  | i => if i < l.length then (if right (l.take i) (l.getD i .z) then firstBad l (i + 1) else some i) else none
termination_by i => l.length - i
theorem firstBad_at (l : List Ent) (i : Nat) (h : i < l.length) : firstBad l i = if right (l.take i) (l.getD i .z) then firstBad l (i + 1) else some i := by rw [firstBad, if_pos h]
theorem firstBad_end (l : List Ent) (i : Nat) (h : ¬ i < l.length) : firstBad l i = none := by rw [firstBad, if_neg h]
/-- What Check answers. -/
def checkS (l : List Ent) : Int × Int := if 32 < l.length then (0, 13) else match firstBad l 0 with | none => (0, 0) | some i => (i, 3)
def Fac.ok (f : Fac) : Prop := f.q < Mg.R
def Ent.ok (x : Ent) : Prop := x.p < Mg.R ∧ x.g < Mg.R ∧ ∀ f ∈ x.fs, f.q < Mg.R
theorem getD_mem {α : Type} (l : List α) (d : α) {i : Nat} (h : i < l.length) : l.getD i d ∈ l := by
  rw [List.getD_eq_getElem?_getD, List.getElem?_eq_getElem h]
  exact List.getElem_mem h
theorem drop_getD {α : Type} (l : List α) (d : α) {k : Nat} (h : k < l.length) : l.drop k = l.getD k d :: l.drop (k + 1) := by
  rw [List.drop_eq_getElem_cons h, List.getD_eq_getElem?_getD, List.getElem?_eq_getElem h]; rfl
theorem fullL_at (x : Ent) (k : Nat) (h : k < x.fs.length) : fullL x (x.fs.drop k) = if x.g ^ ((x.p - 1) / (x.fs.getD k .z).q) % x.p = 1 then false else fullL x (x.fs.drop (k + 1)) := by
  rw [drop_getD x.fs .z h, fullL]
theorem fullL_end (x : Ent) (k : Nat) (h : ¬ k < x.fs.length) : fullL x (x.fs.drop k) = true := by
  rw [List.drop_eq_nil_of_le (by omega), fullL]
end Go.Proofs.YtpkpadepccneeaaGreatDoor
