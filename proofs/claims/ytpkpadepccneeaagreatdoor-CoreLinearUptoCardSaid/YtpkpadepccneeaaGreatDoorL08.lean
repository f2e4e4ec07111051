/- Rows of the call's own whose elements are of several cells: what they hold, appending one, cloning. No condition. -/
import Derived.Test.YtpkpadepccneeaaGreatDoorL03
import Derived.Laws.AppendOwnNone
namespace Go.Proofs.YtpkpadepccneeaaGreatDoor
open Go.RowKit
set_option linter.unusedVariables false
/-- A row of the call's own that holds a list, each element of sz cells. -/
def OX {α : Type} (enc : α → List Value) (sz : Nat) (e : TypeId) (w : World) (B : Nat) (v : Value) (l : List α) : Prop := w.ownsRow B e sz v l.length (l.flatMap enc)
section
variable {α : Type} {enc : α → List Value} {sz : Nat} {e : TypeId} {w w1 : World} {B : Nat} {v : Value} {l : List α}
theorem OX.nil (enc : α → List Value) (sz : Nat) (e : TypeId) (w : World) (B : Nat) : OX enc sz e w B (.slice none 0 0) [] := World.ownsRow_nil w B e sz
theorem OX.lt (h : OX enc sz e w B v l) : ∀ g, v.ownBlock = some g → B ≤ g ∧ g < w.heap.size := World.ownsRow.lt h
theorem OX.alloc (h : OX enc sz e w B v l) (o : Obj) : OX enc sz e (w.alloc o) B v l := World.ownsRow.alloc h o
theorem OX.drewN (h : OX enc sz e w B v l) (n : Nat) : OX enc sz e (w.drewN n) B v l := h
theorem OX.below (h : OX enc sz e w B v l) (hb : Below w.heap.size w w1) : OX enc sz e w1 B v l :=
  World.ownsRow.kept h (row := none) ⟨hb.os, hb.tape, hb.output, hb.size, fun i hi _ => hb.block i hi⟩ (by cases v.ownBlock <;> simp)
theorem OX.mono {B' : Nat} (h : OX enc sz e w B v l) (hB : B' ≤ B) : OX enc sz e w B' v l := by
  refine ⟨h.1, ?_⟩
  rcases h.2 with h1 | ⟨g, cap, cur, h1, h2, h3⟩
  · exact .inl h1
  · exact .inr ⟨g, cap, cur, h1, Nat.le_trans hB h2, h3⟩
theorem flat_at (hs : ∀ x, (enc x).length = sz) : ∀ (l : List α) (i j : Nat), i < l.length → j < sz → (l.flatMap enc)[i * sz + j]? = (l[i]?).bind fun x => (enc x)[j]?
  | [], i, j, hi, hj => by simp at hi
  | x :: r, 0, j, hi, hj => by
    rw [List.flatMap_cons, Nat.zero_mul, Nat.zero_add, List.getElem?_append_left (by rw [hs]; exact hj)]
    rfl
  | x :: r, i + 1, j, hi, hj => by
    rw [List.flatMap_cons, List.getElem?_append_right (by rw [hs, Nat.add_mul]; omega), hs, show (i + 1) * sz + j - sz = i * sz + j by rw [Nat.add_mul]; omega, flat_at hs r i j (by simpa using hi) hj]
    simp
theorem flat_len (hs : ∀ x, (enc x).length = sz) (l : List α) : (l.flatMap enc).length = l.length * sz := by
  induction l with
  | nil => simp
  | cons x r ih => rw [List.flatMap_cons, List.length_append, hs, ih, List.length_cons, Nat.add_mul]; omega
/-- What it reads as: nil, or from a block's head on. -/
theorem OX.form (h : OX enc sz e w B v l) (hs : ∀ x, (enc x).length = sz) : (v = .slice none 0 0 ∧ l = []) ∨ ∃ g c, v = .slice (some ⟨g, 0, none⟩) l.length c ∧ B ≤ g ∧ g < w.heap.size ∧ l.length ≤ c ∧ c ≤ maxLen ∧
    ∀ i j, i < l.length → j < sz → w.cell? ⟨g, i * sz + j, none⟩ = (l[i]?).bind fun x => (enc x)[j]? := by
  have h' := h
  rcases h.2 with ⟨rfl, hn⟩ | ⟨g, cap, cur, rfl, hb, hh, hnc, hcm, hcs, htake⟩
  · exact .inl ⟨rfl, List.eq_nil_of_length_eq_zero hn⟩
  · refine .inr ⟨g, cap, rfl, hb, (OX.lt h' g rfl).2, hnc, hcm, fun i j hi hj => ?_⟩
    have hlt : i * sz + j < l.length * sz := by
      have : (i + 1) * sz ≤ l.length * sz := Nat.mul_le_mul_right _ hi
      rw [Nat.add_mul] at this; omega
    rw [World.ownsRow.cellAt h' (i * sz + j) hlt, flat_at hs l i j hi hj]
end
section
variable {P : Program} {α : Type}
/-- 'append(out, x)' of one element of several cells, out a row of the call's own. -/
theorem wpList_appendX1 {W : World} {ops : Array Oper} {rest : List Oper} {o : Oper} {a : Act} {Q : Exit → Act → World → Prop} (hgd : o.guard = none) (s x : Operand) (t : TypeId)
    (ho : o.op = .call { callee := .builtin .append, args := #[s, x], argTypes := #[t, t] }) (enc : α → List Value) (sz : Nat) (B : Nat) (e : TypeId) (z : Value) (bytes : Nat) (ht : P.underlying t = some (.slice e))
    (hi : (P.info? e).map (fun i => (i.zero, i.size, i.bytes)) = some (some z, sz, bytes)) (hby : bytes ≤ 64) (hz : z.cells.size = sz) (hsz : 0 < sz)
    (v : Value) (l : List α) (y : α) (cs : Array Value) (hcs : cs.toList = enc y) (hs : a.eval s = v) (hx : a.eval x = .slice (some ⟨W.heap.size, 0, none⟩) 1 1) (hown : OX enc sz e W B v l) (hys : (enc y).length = sz) (h1c : ∀ u ∈ enc y, u.oneCell' = true)
    (hlen : l.length + 1 ≤ 17592186044) (hB : B ≤ W.heap.size)
    (h : ∀ v' w', OX enc sz e w' B v' (l ++ [y]) → Below B W w' → W.heap.size < w'.heap.size → wpList P ops Q rest (a.put o.dst v') w') :
    wpList P ops Q (o :: rest) a (W.alloc (.cells cs e)) := by
  obtain ⟨i0, h1, h2, h3, h4⟩ := info_parts hi
  refine wpList_append_own _ hgd s x t ho B e i0 z sz bytes ht h1 h2 h3 h4 hz hsz v l.length (l.flatMap enc) hs (OX.alloc hown _) ⟨W.heap.size, 0, none⟩ 1 1 (enc y) hx (by rw [hys, Nat.one_mul]) ?_ h1c ?_ ?_ ?_ ?_
  · intro j u hj
    rw [← hcs] at hj
    have hb : Blk (W.alloc (.cells cs e)) W.heap.size e cs := Blk.new W e cs
    have := hb.cell j
    rw [show (⟨W.heap.size, 0, none⟩ : Addr).add j = ⟨W.heap.size, j, none⟩ by unfold Addr.add; by_cases h : j = 0 <;> simp [h]]
    rw [this, ← hj]
    simp
  · unfold maxLen; omega
  · calc (l.length + 1) * bytes ≤ (l.length + 1) * 64 := Nat.mul_le_mul_left _ hby
      _ ≤ 140737488355328 := by omega
  · simp; omega
  · intro v' w' hown' hg _
    refine h v' w' ?_ ?_ ?_
    · unfold OX; simpa using hown'
    · exact ((Below.refl _ _).alloc hB _).grown hg (by simp; omega) (fun g hg' => (hown.lt g hg').1)
    · have := hg.size; simp at this; omega
end
end Go.Proofs.YtpkpadepccneeaaGreatDoor
