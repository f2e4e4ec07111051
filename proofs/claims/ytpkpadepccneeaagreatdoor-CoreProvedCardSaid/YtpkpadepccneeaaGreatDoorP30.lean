/- What the caller of All owes, in parts: blocks and 'below' abide what the iterator turns; what a round keeps. No condition. -/
import Derived.Test.YtpkpadepccneeaaGreatDoorP26
import Derived.Test.YtpkpadepccneeaaGreatDoorP29
namespace Go.Proofs.YtpkpadepccneeaaGreatDoor.W
set_option maxRecDepth 100000
set_option linter.unusedVariables false
open Go Go.RowKit Go.Shelf
/-- What the iterator may turn, seen from the caller. -/
def Turns (B G : Nat) (W : World) (row : Option Nat) : Prop := ∀ r, row = some r → r = G ∨ (B ≤ r ∧ ∃ o : Obj, W.heap[r]? = some o ∧ o.isCells = false)
theorem Blk.kept {W W' : World} {B G b : Nat} {t : TypeId} {cs : Array Value} {row : Option Nat} (h : Blk W b t cs) (hg : W.grownBy W' row) (hr : Turns B G W row) (hb : b < B) (hG : B ≤ G) : Blk W' b t cs :=
  (hg.block b h.lt (fun e => by rcases hr b e.symm with h' | ⟨h', _⟩ <;> omega)).trans h
theorem below_kept {V W W' : World} {B G n : Nat} {row : Option Nat} (h : Below n V W) (hn : n ≤ V.heap.size) (hg : W.grownBy W' row) (hr : Turns B G W row) (hb : n ≤ B) (hG : B ≤ G) : Below n V W' :=
  h.trans ⟨hg.os, hg.tape, hg.output, hg.size, fun i hi => hg.block i (Nat.lt_of_lt_of_le hi (Nat.le_trans hn h.size)) (fun e => by rcases hr i e.symm with h' | ⟨h', _⟩ <;> omega)⟩
theorem below_putObj (n : Nat) (W : World) (l : Nat) (o : Obj) (h : n ≤ l) : Below n W (W.putObj l o) :=
  ⟨rfl, rfl, rfl, by simp [World.putObj], fun k hk => World.putObj_heap_other (by omega)⟩
theorem keep_putObj (n bx G l : Nat) (W : World) (o : Obj) (h : n ≤ l) (hx : bx ≠ l) (hG : G ≠ l) : Keep n bx G W (W.putObj l o) :=
  ⟨below_putObj n W l o h, fun _ ho => (World.putObj_heap_other hx).trans ho, fun _ ho => (World.putObj_heap_other hG).trans ho⟩
theorem keep_of_below {n bx G B : Nat} {W W' : World} (h : Below B W W') (hn : n ≤ B) (hx : bx < B) (hG : G < B) : Keep n bx G W W' :=
  ⟨⟨h.os, h.tape, h.output, h.size, fun k hk => h.block k (by omega)⟩, fun _ ho => (h.block bx hx).trans ho, fun _ ho => (h.block G hG).trans ho⟩
theorem keep_of_all {n bx G : Nat} {W W' : World} (h : Below W.heap.size W W') (hn : n ≤ W.heap.size) : Keep n bx G W W' :=
  ⟨⟨h.os, h.tape, h.output, h.size, fun k hk => h.block k (by omega)⟩, fun _ ho => (h.block bx (Array.getElem?_eq_some_iff.1 ho).1).trans ho, fun _ ho => (h.block G (Array.getElem?_eq_some_iff.1 ho).1).trans ho⟩
theorem keepsFrom_of_all {B : Nat} {W W' : World} (h : Below W.heap.size W W') : KeepsFrom B W W' :=
  ⟨h.size, fun k o _ hk ho => (h.block k (Array.getElem?_eq_some_iff.1 hk).1).trans hk⟩
theorem Keep.of_grown {n bx G : Nat} {W : World} {p : Addr} (hn : n ≤ p.block) (hx : bx ≠ p.block) (hG : G ≠ p.block) (v : Value) : Keep n bx G W (W.setCell p v) :=
  ⟨(Below.refl n W).setCell hn v, fun _ ho => (Below.heap_setCell _ _ _ _ hx).trans ho, fun _ ho => (Below.heap_setCell _ _ _ _ hG).trans ho⟩
theorem Keep.alloc (n bx G : Nat) (W : World) (hn : n ≤ W.heap.size) (o : Obj) : Keep n bx G W (W.alloc o) :=
  ⟨(Below.refl n W).alloc hn o, fun _ ho => (Below.heap_alloc _ _ _ (Array.getElem?_eq_some_iff.1 ho).1).trans ho, fun _ ho => (Below.heap_alloc _ _ _ (Array.getElem?_eq_some_iff.1 ho).1).trans ho⟩
/-- A cell block is none of the loop's records. -/
theorem Blk.record {W : World} {g l : Nat} {t : TypeId} {cs : Array Value} {o o' : Obj} (h : Blk W g t cs) (hl : W.heap[l]? = some o) (ho : o.isCells = false) : Blk (W.putObj l o') g t cs :=
  (World.putObj_heap_other (fun e => by
    rw [← e, show W.heap[g]? = _ from h] at hl
    cases hl
    exact absurd ho (by simp [Obj.isCells]))).trans h
end Go.Proofs.YtpkpadepccneeaaGreatDoor.W
