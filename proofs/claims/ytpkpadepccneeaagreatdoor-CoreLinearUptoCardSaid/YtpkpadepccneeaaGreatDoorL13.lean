/- What the caller of an iterator owes, in parts; own rows that are kept; append as a run. No condition. -/
import Derived.Test.YtpkpadepccneeaaGreatDoorL08
import Derived.Test.YtpkpadepccneeaaGreatDoorL12
import Derived.Shelf.Abstract
namespace Go.Proofs.YtpkpadepccneeaaGreatDoor
set_option linter.unusedVariables false
set_option linter.unusedSimpArgs false
open Go Go.RowKit Go.Shelf
/-- What the iterator may turn, seen from the caller. -/
def Turns (B G : Nat) (W : World) (row : Option Nat) : Prop := ∀ r, row = some r → r = G ∨ (B ≤ r ∧ ∃ o : Obj, W.heap[r]? = some o ∧ o.isCells = false)
theorem Blk.kept {W W' : World} {B G b : Nat} {t : TypeId} {cs : Array Value} {row : Option Nat} (h : Blk W b t cs) (hg : W.grownBy W' row) (hr : Turns B G W row) (hb : b < B) (hG : B ≤ G) : Blk W' b t cs :=
  (hg.block b h.lt (fun e => by rcases hr b e.symm with h' | ⟨h', _⟩ <;> omega)).trans h
theorem below_kept {V W W' : World} {B G n : Nat} {row : Option Nat} (h : Below n V W) (hn : n ≤ V.heap.size) (hg : W.grownBy W' row) (hr : Turns B G W row) (hb : n ≤ B) (hG : B ≤ G) : Below n V W' :=
  h.trans ⟨hg.os, hg.tape, hg.output, hg.size, fun i hi => hg.block i (Nat.lt_of_lt_of_le hi (Nat.le_trans hn h.size)) (fun e => by rcases hr i e.symm with h' | ⟨h', _⟩ <;> omega)⟩
theorem below_putObj (n : Nat) (W : World) (l : Nat) (o : Obj) (h : n ≤ l) : Below n W (W.putObj l o) :=
  ⟨rfl, rfl, rfl, by simp [World.putObj], fun k hk => World.putObj_heap_other (by omega)⟩
theorem keepsFrom_of_all {B : Nat} {W W' : World} (h : Below W.heap.size W W') : KeepsFrom B W W' :=
  ⟨h.size, fun k o _ hk ho => (h.block k (Array.getElem?_eq_some_iff.1 hk).1).trans hk⟩
/-- A cell block is none of the loop's records. -/
theorem Blk.record {W : World} {g l : Nat} {t : TypeId} {cs : Array Value} {o o' : Obj} (h : Blk W g t cs) (hl : W.heap[l]? = some o) (ho : o.isCells = false) : Blk (W.putObj l o') g t cs :=
  (World.putObj_heap_other (fun e => by
    rw [← e, show W.heap[g]? = _ from h] at hl
    cases hl
    exact absurd ho (by simp [Obj.isCells]))).trans h
theorem OI.kept {k : IntKind} {e : TypeId} {w w1 : World} {B : Nat} {v : Value} {l : List Int} {row : Option Nat} (h : OI k e w B v l) (hg : w.grownBy w1 row) (hne : ∀ g, v.ownBlock = some g → row ≠ some g) : OI k e w1 B v l :=
  World.ownsRow.kept h hg (by
    cases hv : v.ownBlock with
    | none => exact .inl rfl
    | some g => exact .inr (fun e => hne g hv e.symm))
/-- An own row's block is cells. -/
theorem OI.cells {k : IntKind} {e : TypeId} {w : World} {B : Nat} {v : Value} {l : List Int} (h : OI k e w B v l) (g : Nat) (o : Obj) (hv : v.ownBlock = some g) (ho : w.heap[g]? = some o) : o.isCells = true := by
  rcases h.2 with ⟨rfl, _⟩ | ⟨g', cap, cur, rfl, _, hgg, _⟩
  · simp [Value.ownBlock] at hv
  · have : g' = g := by simpa [Value.ownBlock] using hv
    subst this
    rw [hgg] at ho
    cases ho
    rfl
theorem OI.turned {k : IntKind} {e : TypeId} {w w1 : World} {B B0 G : Nat} {v : Value} {l : List Int} {row : Option Nat} (h : OI k e w B v l) (hg : w.grownBy w1 row) (hr : Turns B0 G w row) (hG : G < B) : OI k e w1 B v l :=
  h.kept hg fun g hv e => by
    have hb := h.lt g hv
    rcases hr g e with h' | ⟨_, o, ho, hc⟩
    · omega
    · rw [h.cells g o hv ho] at hc; cases hc
theorem OI.some {k : IntKind} {e : TypeId} {w : World} {B : Nat} {A : Option Addr} {n c : Nat} {l : List Int} (h : OI k e w B (.slice A n c) l) {i : Nat} (hi : i < l.length) : ∃ g, A = some ⟨g, 0, none⟩ := by
  rcases h.2 with ⟨h1, h2⟩ | ⟨g, cap, cur, h1, _⟩
  · omega
  · injection h1 with h1 _ _
    exact ⟨g, h1⟩
/-- 'append(out, x)' as a run, its value written out. -/
theorem append_runG (W : World) (T e : TypeId) (k : IntKind) (bytes : Nat) (ht : Tryz.prog.underlying T = some (.slice e)) (hi : (Tryz.prog.info? e).map (fun i => (i.zero, i.size, i.bytes)) = some (some (.int k 0), 1, bytes)) (hby : bytes ≤ 8)
    (B : Nat) (v : Value) (l : List Int) (y : Int) (hown : OI k e W B v l) (hlen : l.length + 1 ≤ 17592186044) (hB : B ≤ W.heap.size) :
    ∃ g cap W', (Builtin.append_ #[T, T] T #[v, .slice (some ⟨W.heap.size, 0, none⟩) 1 1]).run Tryz.prog (W.alloc (.cells #[.int k y] e)) = .ok (.slice (some ⟨g, 0, none⟩) (l.length + 1) cap) W' ∧
      OI k e W' B (.slice (some ⟨g, 0, none⟩) (l.length + 1) cap) (l ++ [y]) ∧ Below B W W' ∧ KeepsOthers W W' ∧ (∀ row, v.ownBlock = row → W.grownBy W' row) := by
  obtain ⟨i0, h1, h2, h3, h4⟩ := info_parts hi
  obtain ⟨g, cap, W', hr, ho, hg, _, _⟩ := run_append_lies (P := Tryz.prog) (W.alloc (.cells #[.int k y] e)) T T B e i0 (.int k 0) 1 bytes ht h1 h2 h3 h4 rfl (by decide) v l.length (ints k l) (OI.alloc hown _)
    ⟨W.heap.size, 0, none⟩ 1 1 [.int k y] rfl (cell_one_new _ _ _) (by intro u hu; simp at hu; subst hu; rfl) (by decide) (by unfold maxLen; omega) (by
      calc (l.length + 1) * bytes ≤ (l.length + 1) * 8 := Nat.mul_le_mul_left _ hby
        _ ≤ 140737488355328 := by omega) (by simp; omega) _ rfl
  refine ⟨_, _, W', hr, ?_, ?_, ?_, ?_⟩
  · unfold OI; simpa [ints] using ho
  · exact ((Below.refl _ _).alloc hB _).grown hg (by simp; omega) (fun g hg' => (hown.lt g hg').1)
  · exact (KeepsOthers.alloc _ _).trans (KeepsOthers.of_grownBy hg fun j o hj ho => (OI.alloc hown _).cells j o hj ho)
  · rintro row rfl
    exact (World.grownBy_alloc W _ _).trans hg
end Go.Proofs.YtpkpadepccneeaaGreatDoor
