/- What a call leaves as it was: all blocks but some; maps whose elements are read as they stand. No condition. -/
import Derived.Test.YtpkpadepccneeaaGreatDoorP12
import Derived.Test.YtpkpadepccneeaaGreatDoorP10
import Derived.Maps.OwnSet
import Derived.Maps.OwnOps
namespace Go.Proofs.YtpkpadepccneeaaGreatDoor
open Go.RowKit
set_option linter.unusedVariables false
/-- All blocks that lay are as they were, but those of S. -/
structure Fr (S : Nat → Prop) (w w' : World) : Prop where
  os : w'.os = w.os
  tape : w'.tape = w.tape
  output : w'.output = w.output
  size : w.heap.size ≤ w'.heap.size
  block : ∀ i, i < w.heap.size → ¬ S i → w'.heap[i]? = w.heap[i]?
section
variable {S : Nat → Prop} {w w1 w2 : World}
theorem Fr.refl (S : Nat → Prop) (w : World) : Fr S w w := ⟨rfl, rfl, rfl, Nat.le_refl _, fun _ _ _ => rfl⟩
theorem Fr.trans (h : Fr S w w1) (k : Fr S w1 w2) : Fr S w w2 :=
  ⟨k.os.trans h.os, k.tape.trans h.tape, k.output.trans h.output, Nat.le_trans h.size k.size, fun i hi hs => (k.block i (Nat.lt_of_lt_of_le hi h.size) hs).trans (h.block i hi hs)⟩
theorem Fr.mono {T : Nat → Prop} (h : Fr S w w1) (hT : ∀ i, i < w.heap.size → S i → T i) : Fr T w w1 := ⟨h.os, h.tape, h.output, h.size, fun i hi hs => h.block i hi (fun k => hs (hT i hi k))⟩
theorem Fr.of_below (S : Nat → Prop) (h : Below w.heap.size w w1) : Fr S w w1 := ⟨h.os, h.tape, h.output, h.size, fun i hi _ => h.block i hi⟩
theorem Fr.of_grown {row : Option Nat} (h : w.grownBy w1 row) (hr : ∀ r, row = some r → S r) : Fr S w w1 := ⟨h.os, h.tape, h.output, h.size, fun i hi hs => h.block i hi (fun e => hs (hr i e.symm))⟩
theorem Fr.alloc (S : Nat → Prop) (w : World) (o : Obj) : Fr S w (w.alloc o) := .of_below S ((Below.refl _ _).alloc (Nat.le_refl _) o)
theorem Fr.drewN (S : Nat → Prop) (w : World) (n : Nat) : Fr S w (w.drewN n) := .of_below S (below_drewN (Below.refl _ _) n)
theorem Fr.setCell {p : Addr} (hp : S p.block) (w : World) (v : Value) : Fr S w (w.setCell p v) := ⟨rfl, rfl, rfl, by simp [World.setCell], fun i hi hs => Below.heap_setCell w p v i (fun e => hs (e ▸ hp))⟩
theorem Fr.to_below (h : Fr S w w1) {B : Nat} (hB : B ≤ w.heap.size) (hS : ∀ i, i < B → ¬ S i) : Below B w w1 := ⟨h.os, h.tape, h.output, h.size, fun i hi => h.block i (Nat.lt_of_lt_of_le hi hB) (hS i hi)⟩
theorem Fr.heap (h : Fr S w w1) {g : Nat} {o : Obj} (hg : w.heap[g]? = some o) (hS : ¬ S g) : w1.heap[g]? = some o := (h.block g (Array.getElem?_eq_some_iff.1 hg).1 hS).trans hg
theorem Fr.blk (h : Fr S w w1) {g : Nat} {t : TypeId} {cs : Array Value} (hg : Blk w g t cs) (hS : ¬ S g) : Blk w1 g t cs := h.heap hg hS
theorem Fr.cell (h : Fr S w w1) {a : Addr} {v : Value} (hc : w.cell? a = some v) (hS : ¬ S a.block) : w1.cell? a = some v :=
  (World.cell?_of_block (h.block a.block (World.block_lt_of_cell? w a hc) hS)).trans hc
theorem Fr.map {H : Type} {k : TypeId} {R : Value → Option (DataW H × List MemPlace)} {b n : Nat} {D : DataW H} (h : Fr S w w1) (hm : w.ownsMap Tryz.prog k R b n D) (hS : ¬ S b) : w1.ownsMap Tryz.prog k R b n D := by
  obtain ⟨es, clock, hb, F, hs, hD⟩ := hm
  exact ⟨es, clock, h.heap hb hS, F, hs, hD⟩
end
/-- An element as it stands. -/
def tok : Value → Option (DataW Value × List MemPlace) := fun v => some (.held v, [])
theorem tok_eq {v z : Value} {ps : List MemPlace} (h : tok v = some (.held z, ps)) : v = z := by
  unfold tok at h; injection h with h; injection h with h _; injection h
theorem FB.fr {S : Nat → Prop} {lo hi : Nat} {w w1 : World} {gf p g : Nat} (h : FB lo hi w gf p g) (hf : Fr S w w1) (hS : ∀ i, lo ≤ i → i < hi → ¬ S i) : FB lo hi w1 gf p g := by
  obtain ⟨gc, h1, h2, hc, c0⟩ := h.mc
  obtain ⟨t, t1, t2, d0, d1, d2, d3⟩ := hc.cells
  have n1 := hS gf h.above h.under
  have n2 := hS gc h1 h2
  exact ⟨h.above, h.under, ⟨gc, h1, h2, ⟨hc.odd, hc.low, hc.high, t, t1, t2, hf.cell d0 n2, hf.cell d1 n2, hf.cell d2 n2, hf.cell d3 n2⟩, hf.cell c0 n1⟩, hf.cell h.cp n1, hf.cell h.cg n1⟩
theorem FB.below {lo hi : Nat} {w w1 : World} {gf p g : Nat} (h : FB lo hi w gf p g) (hb : Below w.heap.size w w1) : FB lo hi w1 gf p g :=
  h.fr (.of_below (fun _ => False) hb) (fun _ _ _ h => h)
end Go.Proofs.YtpkpadepccneeaaGreatDoor
