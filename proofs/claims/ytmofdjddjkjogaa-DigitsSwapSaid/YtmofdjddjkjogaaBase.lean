/- What the walks of this seat share: a slice of whole numbers that is read (nil, empty or other), facts that hold behind new memory. No condition. -/
import Derived.Test.YtmofdjddjkjogaaProg
import Derived.Below
import Derived.Deep.Draws
import Derived.OwnWalk
import Derived.Laws.OwnMore
import Derived.Laws.MakeOwn
import Derived.Laws.Rows
import Derived.Tactics
import Derived.WalkKit
import Derived.KernelRfl
import Derived.RowKit3
import Derived.RowKit
import Derived.Deep.LoopGhost
import Derived.Deep.QuietTactic
import Derived.BigQuiet
import Derived.Deep.AppendLies
import Derived.Maps.AppendAt
import Derived.Lib.Hide
import Derived.Outline
namespace Go.Proofs.Ytmofdjddjkjogaa
open Go.RowKit

/-- The world is the old one, some orders having been drawn. -/
def Drawn (w w' : World) : Prop := ∃ n, w' = w.drewN n
theorem Drawn.refl (w : World) : Drawn w w := ⟨0, rfl⟩
theorem Drawn.step {w w' : World} (h : Drawn w w') (n : Nat) : Drawn w (w'.drewN n) := by
  obtain ⟨m, rfl⟩ := h
  exact ⟨m + n, World.drewN_drewN ..⟩
theorem Drawn.below {w w' : World} (h : Drawn w w') (B : Nat) : Below B w w' := by
  obtain ⟨n, rfl⟩ := h
  induction n with
  | zero => exact Below.refl _ _
  | succ n ih => rw [← World.drew_drewN]; exact ih.drew
theorem below_drewN {B : Nat} {a w : World} (h : Below B a w) (n : Nat) : Below B a (w.drewN n) := ⟨h.os, h.tape, h.output, h.size, h.block⟩
theorem bcell {w w1 : World} (h : Below w.heap.size w w1) {a : Addr} {v : Value} (hc : w.cell? a = some v) : w1.cell? a = some v := (h.cell (World.block_lt_of_cell? w a hc)).trans hc
theorem below_then {B : Nat} {w w1 w2 : World} (h : Below B w w1) (hB : B ≤ w1.heap.size) (k : Below w1.heap.size w1 w2) : Below B w w2 :=
  h.trans ⟨k.os, k.tape, k.output, k.size, fun i hi => k.block i (Nat.lt_of_lt_of_le hi hB)⟩

/-- A slice of whole numbers reads as a list: nil, empty and other slices alike. -/
def RI (k : IntKind) (w : World) (A : Option Addr) (l : List Int) : Prop := ∀ i, i < l.length → ∃ ad, A = some ad ∧ w.cell? (ad.add i) = some (.int k (l.getD i 0))
theorem RI.at_ {k : IntKind} {w : World} {A : Option Addr} {l : List Int} (h : RI k w A l) {i : Nat} (hi : i < l.length) :
    ∃ ad, A = some ad ∧ w.cell? (ad.add i) = some (.int k (l.getD i 0)) := h i hi
theorem RI.below {k : IntKind} {w w1 : World} {A : Option Addr} {l : List Int} (h : RI k w A l) (hb : Below w.heap.size w w1) : RI k w1 A l := fun i hi => by
  obtain ⟨ad, e, hc⟩ := h i hi
  exact ⟨ad, e, bcell hb hc⟩
theorem RI.drawn {k : IntKind} {w w1 : World} {A : Option Addr} {l : List Int} (h : RI k w A l) (hb : Drawn w w1) : RI k w1 A l := h.below (hb.below _)
theorem RI.nil (k : IntKind) (w : World) (A : Option Addr) : RI k w A [] := fun i hi => absurd hi (by simp)

theorem drop_at (l : List Int) {k : Nat} (h : k < l.length) : l.drop k = l.getD k 0 :: l.drop (k + 1) := by
  rw [List.drop_eq_getElem_cons h, List.getD_eq_getElem?_getD, List.getElem?_eq_getElem h]; rfl
theorem ret_int {k : IntKind} {a b : Int} (h : a = b) : Ending.returned (.int k a) = .returned (.int k b) := by rw [h]
theorem ret_bool {a b : Bool} (h : a = b) : Ending.returned (.bool a) = .returned (.bool b) := by rw [h]
theorem ret2_int {k k' : IntKind} {a b a' b' : Int} (h : a = b) (h' : a' = b') : Ending.returned (.tuple #[.int k a, .int k' a']) = .returned (.tuple #[.int k b, .int k' b']) := by rw [h, h']

/-! ### A row of the call's own that reads as a list of whole numbers -/
def ints (k : IntKind) (l : List Int) : List Value := l.map fun x => .int k x
theorem ints_length (k : IntKind) (l : List Int) : (ints k l).length = l.length := by simp [ints]
theorem ints_at (k : IntKind) (l : List Int) {i : Nat} (h : i < l.length) : (ints k l)[i]? = some (.int k (l.getD i 0)) := by
  simp [ints, List.getElem?_eq_getElem h, List.getD_eq_getElem?_getD]
theorem ints_set (k : IntKind) (l : List Int) (i : Nat) (y : Int) : (ints k l).set i (.int k y) = ints k (l.set i y) := by simp [ints, List.map_set]
def OI (k : IntKind) (e : TypeId) (w : World) (B : Nat) (v : Value) (l : List Int) : Prop := w.ownsRow B e 1 v l.length (ints k l)
section
variable {k : IntKind} {e : TypeId} {w w1 : World} {B : Nat} {v : Value} {l : List Int}
theorem OI.nil (k : IntKind) (e : TypeId) (w : World) (B : Nat) : OI k e w B (.slice none 0 0) [] := World.ownsRow_nil w B e 1
theorem OI.lt (h : OI k e w B v l) : ∀ g, v.ownBlock = some g → B ≤ g ∧ g < w.heap.size := World.ownsRow.lt h
theorem OI.alloc (h : OI k e w B v l) (o : Obj) : OI k e (w.alloc o) B v l := World.ownsRow.alloc h o
theorem OI.drewN (h : OI k e w B v l) (n : Nat) : OI k e (w.drewN n) B v l := h
theorem OI.below (h : OI k e w B v l) (hb : Below w.heap.size w w1) : OI k e w1 B v l :=
  World.ownsRow.kept h (row := none) ⟨hb.os, hb.tape, hb.output, hb.size, fun i hi _ => hb.block i hi⟩ (by cases v.ownBlock <;> simp)
theorem OI.mono {B' : Nat} (h : OI k e w B v l) (hB : B' ≤ B) : OI k e w B' v l := by
  refine ⟨h.1, ?_⟩
  rcases h.2 with h1 | ⟨g, cap, cur, h1, h2, h3⟩
  · exact .inl h1
  · exact .inr ⟨g, cap, cur, h1, Nat.le_trans hB h2, h3⟩
theorem OI.form (h : OI k e w B v l) : ∃ A c, v = .slice A l.length c ∧ RI k w A l := by
  rcases h.2 with ⟨rfl, hn⟩ | ⟨g, cap, cur, rfl, hb, hh, hnc, hcm, hcs, htake⟩
  · exact ⟨none, 0, by rw [hn], fun i hi => by omega⟩
  · refine ⟨_, cap, rfl, fun i hi => ⟨_, rfl, ?_⟩⟩
    exact World.ownsRow.cells h (g := g) rfl i _ (ints_at k l hi)
theorem OI.len (h : OI k e w B v l) : l.length ≤ maxLen := by
  rcases h.2 with ⟨rfl, hn⟩ | ⟨g, cap, cur, rfl, hb, hh, hnc, hcm, hcs, htake⟩
  · omega
  · omega
/-- A row that lies: its cells are its own from a block's head on. -/
theorem OI.cellAt {g c : Nat} (h : OI k e w B (.slice (some ⟨g, 0, none⟩) l.length c) l) {i : Nat} (hi : i < l.length) : w.cell? ⟨g, i, none⟩ = some (.int k (l.getD i 0)) := by
  rw [World.ownsRow.cellAt h i (by omega), ints_at k l hi]
theorem OI.frozenAt {g n c : Nat} (hn : n = l.length) (h : OI k e w B (.slice (some ⟨g, 0, none⟩) n c) l) (i : Nat) : w.frozen? ⟨g, i, none⟩ = false := by
  subst hn; exact World.ownsRow.frozenAt h i
theorem OI.stored {g n c : Nat} (hn : n = l.length) (h : OI k e w B (.slice (some ⟨g, 0, none⟩) n c) l) (i : Nat) (y : Int) :
    OI k e (w.setCell ⟨g, i, none⟩ (.int k y)) B (.slice (some ⟨g, 0, none⟩) n c) (l.set i y) := by
  subst hn
  have := (World.ownsRow.stored h i (.int k y)).1
  unfold OI
  rw [← ints_set, List.length_set]
  exact this
theorem OI.base {g n c : Nat} (h : OI k e w B (.slice (some ⟨g, 0, none⟩) n c) l) : B ≤ g ∧ g < w.heap.size := h.lt g rfl
end
section
variable {P : Program}
/-- 'append(out, x)' of one number, out a row of the call's own: it owns one more. -/
theorem wpList_append1 {W : World} {ops : Array Oper} {rest : List Oper} {o : Oper} {a : Act} {Q : Exit → Act → World → Prop} (hgd : o.guard = none) (s x : Operand) (t : TypeId)
    (ho : o.op = .call { callee := .builtin .append, args := #[s, x], argTypes := #[t, t] }) (B : Nat) (e : TypeId) (k : IntKind) (bytes : Nat) (ht : P.underlying t = some (.slice e))
    (hi : (P.info? e).map (fun i => (i.zero, i.size, i.bytes)) = some (some (.int k 0), 1, bytes)) (hby : bytes ≤ 8)
    (v : Value) (l : List Int) (y : Int) (hs : a.eval s = v) (hx : a.eval x = .slice (some ⟨W.heap.size, 0, none⟩) 1 1) (hown : OI k e W B v l) (hlen : l.length + 1 ≤ 17592186044416) (hB : B ≤ W.heap.size)
    (h : ∀ v' w', OI k e w' B v' (l ++ [y]) → Below B W w' → wpList P ops Q rest (a.put o.dst v') w') :
    wpList P ops Q (o :: rest) a (W.alloc (.cells #[.int k y] e)) := by
  obtain ⟨i0, h1, h2, h3, h4⟩ := info_parts hi
  refine wpList_append_own _ hgd s x t ho B e i0 (.int k 0) 1 bytes ht h1 h2 h3 h4 rfl (by decide) v l.length (ints k l) hs (OI.alloc hown _) ⟨W.heap.size, 0, none⟩ 1 1 [.int k y] hx rfl ?_ ?_ ?_ ?_ ?_ ?_
  · exact cell_one_new _ _ _
  · intro u hu; simp at hu; subst hu; rfl
  · unfold maxLen; omega
  · calc (l.length + 1) * bytes ≤ (l.length + 1) * 8 := Nat.mul_le_mul_left _ hby
      _ ≤ 140737488355328 := by omega
  · simp; omega
  · intro v' w' hown' hg _
    refine h v' w' ?_ ?_
    · unfold OI; simpa [ints] using hown'
    · exact ((Below.refl _ _).alloc hB _).grown hg (by simp; omega) (fun g hg' => (hown.lt g hg').1)
/-- 'make([]T, n)' of whole numbers: n zeros are owned. -/
theorem wpList_makeI {w : World} {ops : Array Oper} {rest : List Oper} {o : Oper} {a : Act} {Q : Exit → Act → World → Prop} (hg : o.guard = none) (l c : Operand) (t : TypeId) (hop : o.op = Op.makeSlice t l c)
    (B : Nat) (e : TypeId) (k : IntKind) (bytes : Nat) (ht : P.underlying t = some (.slice e)) (hi : (P.info? e).map (fun i => (i.zero, i.size, i.bytes)) = some (some (.int k 0), 1, bytes)) (hby : bytes ≤ 8)
    (kl kc : IntKind) (n : Nat) (hl : a.eval l = .int kl n) (hc : a.eval c = .int kc n) (hn : n ≤ 35184372088832) (hB : B ≤ w.heap.size)
    (h : ∀ w', OI k e w' B (.slice (some ⟨w.heap.size, 0, none⟩) n n) (List.replicate n 0) → Below B w w' → w.heap.size < w'.heap.size → wpList P ops Q rest (a.put o.dst (.slice (some ⟨w.heap.size, 0, none⟩) n n)) w') :
    wpList P ops Q (o :: rest) a w := by
  obtain ⟨i0, h1, h2, h3, h4⟩ := info_parts hi
  refine wpList_make_full w hg l c t hop B e i0 (.int k 0) 1 ht h1 h2 h3 kl kc n n n hl hc rfl rfl ?_ ?_ hB ?_
  · rw [h4]
    calc bytes * n ≤ 8 * n := Nat.mul_le_mul_right _ hby
      _ ≤ 281474976710656 := by omega
  · unfold maxLen; omega
  · intro w' hown hgr
    have hown' : OI k e w' B (.slice (some ⟨w.heap.size, 0, none⟩) n n) (List.replicate n 0) := by
      unfold OI
      rw [show (madeCells (Value.int k 0).cells (n * 1)).toList = ints k (List.replicate n 0) by
        rw [Nat.mul_one]; show (madeCells #[.int k 0] n).toList = _; rw [toList_madeCells_one]; simp [ints]] at hown
      simpa using hown
    exact h w' hown' ((Below.refl _ _).grown hgr hB (fun _ hk => by cases hk)) (hown'.lt _ rfl).2
end

/-! ### Calls in a region that draws: whatever was drawn before -/
theorem quiet0 {P : Program} {f : FuncId} {args : Array Value} {w : World} {v : Value}
    (h : Calls P f args w fun e w' => e = .returned v ∧ w = w') : Calls P f args w fun e w'' => e = .returned v ∧ ∃ m, w'' = w.drewN m :=
  h.mono fun _ _ ⟨he, hm⟩ => ⟨he, 0, hm.symm⟩
theorem quietN {P : Program} {f : FuncId} {args : Array Value} {w : World} {a n : Nat} {v : Value}
    (h : Calls P f args (w.drewN (a + n)) fun e w' => e = .returned v ∧ w.drewN (a + n) = w') :
    Calls P f args (w.drewN (a + n)) fun e w'' => e = .returned v ∧ ∃ m, w'' = w.drewN (a + m) :=
  h.mono fun _ _ ⟨he, hm⟩ => ⟨he, n, hm.symm⟩
theorem RI.drewN {k : IntKind} {w : World} {A : Option Addr} {l : List Int} (h : RI k w A l) (n : Nat) : RI k (w.drewN n) A l := h
/-- A part of a slice, from a place on. -/
theorem RI.cut {k : IntKind} {w : World} {A : Option Addr} {l : List Int} (h : RI k w A l) {m c : Nat} (hm : m ≤ l.length) (hc : l.length ≤ c) :
    RI k w (if c = m then A else A.map (·.add m)) (l.drop m) := fun i hi => by
  rw [List.length_drop] at hi
  obtain ⟨ad, rfl, hcell⟩ := h (m + i) (by omega)
  rw [if_neg (by omega)]
  refine ⟨ad.add m, rfl, ?_⟩
  have e : (ad.add m).add i = ad.add (m + i) := by
    unfold Addr.add
    by_cases h1 : m = 0 <;> by_cases h2 : i = 0 <;> simp [h1, h2, Nat.add_assoc]
  rw [e, hcell, List.getD_eq_getElem?_getD, List.getD_eq_getElem?_getD, List.getElem?_drop]
end Go.Proofs.Ytmofdjddjkjogaa
