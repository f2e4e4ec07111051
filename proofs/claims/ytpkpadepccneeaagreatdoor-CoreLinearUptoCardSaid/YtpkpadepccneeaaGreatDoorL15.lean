/- A range over a function whose iterator keeps a state of its own in one block of cells, the first that it lays: its contract, and one law for the caller.
   The iterator is told that a round that stops kept the loops' records from its own on. The iterator may turn that block between two rounds; the caller's invariant does not speak of it; a round keeps it. No condition. -/
import Derived.RangeFuncNested
import Derived.RangeFuncBound
import Derived.RangeFuncCalls
import Derived.RangeFuncLeaves
import Derived.Shelf.Abstract
import Derived.Shelf.RegionOpen
import Derived.WalkKit
import Derived.OwnWalkIn
import Derived.TacticsInMore
import Derived.LoopNIn
import Derived.LoopIn
namespace Go.Proofs.YtpkpadepccneeaaGreatDoor.RangeE
set_option linter.unusedVariables false
open Go Go.RowKit Go.Shelf
variable {F : Fence} {n : Nat} {P : Program}

/-- What the iterator may turn: its own block G, if it has one; what is no cells, from G on. -/
def May (own : Prop) (G : Nat) (W : World) (row : Option Nat) : Prop := ∀ r, row = some r → (own ∧ r = G) ∨ (G ≤ r ∧ ∃ o : Obj, W.heap[r]? = some o ∧ o.isCells = false)
theorem May.none {own : Prop} {G : Nat} {W : World} : May own G W none := fun r e => by cases e
/-- What is said of a world stands, whatever the iterator does to what it may turn. -/
def Abides {α : Type} (own : Prop) (G : Nat) (J : List α → World → Prop) : Prop :=
  ∀ s W W' row, J s W → W.grownBy W' row → May own G W row → J s W'
/-- The iterator's contract: block number W.heap.size, of the world W in which it begins, is its own. -/
def Stops {α : Type} (own : Prop) (F : Fence) (n : Nat) (P : Program) (g : Nat) (lb : Array Value) (encs : α → Array Value) (Kp : Nat → World → World → Prop) (S Sp : List α → Prop) (N : List α → α → Prop) (w : World) : Prop :=
  ∀ (l : Nat) (J Jx : List α → World → Prop) (W : World), Below w.heap.size w W → Abides own W.heap.size J → Abides own W.heap.size Jx →
    (∀ pre x W1, J pre W1 → N pre x → W.heap.size < W1.heap.size → YieldAt F (n - 1) P l (encs x) W1 fun e W' =>
      (e = .returned (.bool true) ∧ J (pre ++ [x]) W' ∧ Kp W.heap.size W1 W') ∨ (e = .returned (.bool false) ∧ Jx (pre ++ [x]) W' ∧ KeepsFrom W.heap.size W1 W')) →
    J [] W →
    CallsIn F n P g (#[.func (.yield l) #[] #[]] ++ lb) W fun e W' => (∃ v, e = .returned v) ∧ ((∃ xs, S xs ∧ J xs W') ∨ (∃ pre, Sp pre ∧ Jx pre W'))
/-- The caller's word: it speaks neither of what is no cells from B on, nor of block G. -/
def Mine {β : Type} (own : Prop) (B G : Nat) (I : β → World → Prop) : Prop :=
  ∀ s W W' row, I s W → W.grownBy W' row → (∀ r, row = some r → (own ∧ r = G) ∨ (B ≤ r ∧ ∃ o : Obj, W.heap[r]? = some o ∧ o.isCells = false)) → I s W'
theorem Mine.putObj {β : Type} {own : Prop} {B G : Nat} {I : β → World → Prop} (h : Mine own B G I) {s : β} {W : World} {l : Nat} {o : Obj} (o' : Obj) (hs : I s W) (hB : B ≤ l) (hl : W.heap[l]? = some o) (ho : o.isCells = false) : I s (W.putObj l o') :=
  h s W _ (some l) hs (grownBy_putObj' W l o') (fun r e => by cases e; exact .inr ⟨hB, o, hl, ho⟩)
theorem Mine.alloc {β : Type} {own : Prop} {B G : Nat} {I : β → World → Prop} (h : Mine own B G I) {s : β} {W : World} (o : Obj) (hs : I s W) : I s (W.alloc o) :=
  h s W _ none hs (World.grownBy_alloc W o none) (fun r e => by cases e)
theorem other_block {own : Prop} {W W' : World} {G k : Nat} {o : Obj} {row : Option Nat} (hg : W.grownBy W' row) (hr : May own G W row) (hk : k < G) (h : W.heap[k]? = some o) : W'.heap[k]? = some o :=
  (hg.block k (Array.getElem?_eq_some_iff.1 h).1 (fun e => by rcases hr k e.symm with ⟨_, h⟩ | ⟨h, _⟩ <;> omega)).trans h

/-- One law for the caller of such an iterator. -/
theorem range_law {α : Type} (own : Prop) {g : Operand} {ps : Array Tmp} {assign body : Code} {Q : Exit → Act → World → Prop} {a : Act} {w : World}
    (hro : F.round = none) (h1 : 1 ≤ n) {gf : Nat} {lb : Array Value} (hg : a.eval g = .func (.func gf) #[] lb) (hFg : F.fn gf) (eg : ∀ args w, (callFunc gf args).run P w = .ok (.enter gf args) w)
    {encs : α → Array Value} {Kp : Nat → World → World → Prop} {S Sp : List α → Prop} {N : List α → α → Prop} {w0 : World} (hseq : Stops own F (n - 1) P gf lb encs Kp S Sp N w0)
    (hKt : ∀ {G : Nat} {A B C : World}, Kp G A B → Kp G B C → Kp G A C)
    (hKb : ∀ (W : World) (o o' : Obj), W.heap[w.heap.size + 1]? = some o → Kp (w.heap.size + 2) W (W.putObj (w.heap.size + 1) o')) (hb0 : Below w0.heap.size w0 w) (hps : ∀ x, (encs x).size = ps.size)
    (I : List α → World → Prop) (Ix : Code → List α → World → Prop) (hI : Mine own w.heap.size (w.heap.size + 2) I) (hIx : ∀ c, Mine own w.heap.size (w.heap.size + 2) (Ix c)) (h0 : I [] w)
    (Ax : α → Act → World → Prop) (hAx : ∀ x a' (W : World) (o o' : Obj), W.heap[w.heap.size + 1]? = some o → o.isCells = false → Ax x a' W → Ax x a' (W.putObj (w.heap.size + 1) o'))
    (hassign : ∀ (l : Nat) (pre : List α) (x : α) (W : World) (K : Act → World → Prop), I pre W → (∃ o, W.heap[w.heap.size + 1]? = some o) →
      (∀ a' W', KeepsFrom w.heap.size W W' → Kp (w.heap.size + 2) W W' → I pre W' → Ax x a' W' → K a' W') →
      assign.wpIn (F.inRound l) (n - 1 - 1) P (Exit.then K (fun _ _ _ => False)) { tmps := (ps.zip (encs x)).foldl (fun t (p, v) => t.setIfInBounds p v) a.tmps, defers := [] } W)
    (hbody : ∀ (l : Nat) (pre : List α) (x : α) (a' : Act) (W : World), (∃ o, W.heap[w.heap.size + 1]? = some o) → I pre W → Ax x a' W → N pre x → w.heap.size + 2 < W.heap.size →
      body.wpIn (F.inRound l) (n - 1 - 1) P (ownPostG w.heap.size (Kp (w.heap.size + 2)) I Ix (pre ++ [x]) W) a' W)
    (hdone : ∀ (D : Nat) (xs : List α) (W : World), w.heap.size ≤ D → S xs → I xs W → W.heap[D]? = some (.deferred (some [])) → Q .normal { a with defers := { target := .collected D, args := #[] } :: a.defers } W)
    (hstop : ∀ (D : Nat) (c : Code) (pre : List α) (W : World), w.heap.size ≤ D → Sp pre → Ix c pre W → W.heap[D]? = some (.deferred (some [])) → c.wpIn F n P Q { a with defers := { target := .collected D, args := #[] } :: a.defers } W) :
    (Code.rangeFunc g ps assign body).wpIn F n P Q a w := by
  refine wpIn_rangeFunc fun fn hfn => ?_
  rw [hro]
  -- the loop's record, and the two blocks of book-keeping
  obtain ⟨rec, hrec⟩ : ∃ rec : LoopState → Option Code → Loop, rec = fun st pe => { state := st, pending := pe, fn, tmps := a.tmps, params := ps, assign, body, defers := w.heap.size } := ⟨_, rfl⟩
  obtain ⟨V, hV⟩ : ∃ V, (w.alloc (.deferred (some []))).alloc (.loop (rec .ready none)) = V := ⟨_, rfl⟩
  have hsz : V.heap.size = w.heap.size + 2 := by rw [← hV]; simp
  have vl : V.heap[w.heap.size + 1]? = some (.loop (rec .ready none)) := by
    have h := World.alloc_heap_new (w.alloc (.deferred (some []))) (.loop (rec .ready none))
    rw [World.size_alloc] at h
    rw [← hV]; exact h
  have vk : V.heap[w.heap.size]? = some (.deferred (some [])) := by
    rw [← hV]; exact (Below.heap_alloc _ _ _ (by simp)).trans (World.alloc_heap_new w _)
  have vi : I [] V := by rw [← hV]; exact hI.alloc _ (hI.alloc _ h0)
  have vb : Below w0.heap.size w0 V := by
    rw [← hV]; exact hb0.trans ((((Below.refl _ w).alloc (Nat.le_refl _) _).alloc (by simp) _).mono hb0.size)
  have far : ∀ {A : World} {row : Option Nat}, May own V.heap.size A row → (∀ r, row = some r → (own ∧ r = w.heap.size + 2) ∨ (w.heap.size ≤ r ∧ ∃ o : Obj, A.heap[r]? = some o ∧ o.isCells = false)) :=
    fun hr r e => by
      rcases hr r e with ⟨h0, h⟩ | ⟨h, h'⟩
      · exact .inl ⟨h0, h.trans hsz⟩
      · exact .inr ⟨by omega, h'⟩
  refine ⟨w.heap.size + 1, [{ target := .collected w.heap.size, args := #[] }], V, { target := .fn (.func gf) lb, args := #[.func (.yield (w.heap.size + 1)) #[] #[]] }, V, gf,
    #[.func (.yield (w.heap.size + 1)) #[] #[]] ++ lb, V, ?_, ?_, ?_, ?_, fun _ => h1, ?_⟩
  · rw [← hV, hrec]; exact run_enterLoop_outer _ _ _ _ _
  · simp only [resolve, hg]
    simp [go_sem]
  · intro f' hf'; simp [Target.leads] at hf'; subst hf'; exact hFg
  · simp [invoke, go_sem, eg]
  refine (hseq (w.heap.size + 1)
    (fun pre W => I pre W ∧ W.heap[w.heap.size + 1]? = some (.loop (rec .ready none)) ∧ W.heap[w.heap.size]? = some (.deferred (some [])))
    (fun pre W => ∃ c, Ix c pre W ∧ W.heap[w.heap.size + 1]? = some (.loop (rec .done (some c))) ∧ W.heap[w.heap.size]? = some (.deferred (some [])))
    V vb
    (fun s A B row hs hgr hr => ⟨hI s A B row hs.1 hgr (far hr), other_block hgr hr (by omega) hs.2.1, other_block hgr hr (by omega) hs.2.2⟩)
    (fun s A B row ⟨c, hc, hl, hk⟩ hgr hr => ⟨c, hIx c s A B row hc hgr (far hr), other_block hgr hr (by omega) hl, other_block hgr hr (by omega) hk⟩)
    ?round ⟨vi, vl, vk⟩).mono ?behind
  case behind =>
    rintro e X ⟨⟨v, rfl⟩, (⟨xs, hS, hi, hl, hk⟩ | ⟨pre, hSp, c, hi, hl, hk⟩)⟩
    · refine ⟨none, _, by have := run_endLoop (P := P) hl (by rw [hrec]; simp); rw [hrec] at this; exact this, ?_⟩
      exact hdone _ xs _ (Nat.le_refl _) hS (hI.putObj _ hi (by omega) hl rfl) ((World.putObj_heap_other (by omega)).trans hk)
    · refine ⟨some c, _, by have := run_endLoop (P := P) hl (by rw [hrec]; simp); rw [hrec] at this; exact this, ?_⟩
      exact hstop _ c pre _ (Nat.le_refl _) hSp ((hIx c).putObj _ hi (by omega) hl rfl) ((World.putObj_heap_other (by omega)).trans hk)
  case round =>
    rintro pre x X ⟨hi, hl, hk⟩ hlen hgx
    rw [hsz] at hgx ⊢
    have hy := run_yield (P := P) (args := encs x) hl (by rw [hrec]; exact hps x)
    rw [hrec] at hy
    refine ⟨fn, _, assign, body, hy, roundIn_of_wpIn hfn (hassign _ pre x X _ hi ⟨_, hl⟩ fun a' Y hkf hkp hiy hay => ?_)⟩
    have yl := hkf.same _ _ (by omega) hl rfl
    have yk := hkf.same _ _ (Nat.le_refl _) hk rfl
    have ylt : w.heap.size + 1 < Y.heap.size := (Array.getElem?_eq_some_iff.1 yl).1
    refine ⟨_, run_beginRound yl (by rw [hrec]), ?_⟩
    obtain ⟨Z, hZ⟩ : ∃ Z, Y.putObj (w.heap.size + 1) (.loop { rec .ready none with state := .busy }) = Z := ⟨_, rfl⟩
    have zl : Z.heap[w.heap.size + 1]? = some (.loop { rec .ready none with state := .busy }) := by rw [← hZ]; exact World.putObj_heap_same ylt
    have zk : Z.heap[w.heap.size]? = some (.deferred (some [])) := by rw [← hZ]; exact (World.putObj_heap_other (by omega)).trans yk
    have zp : Kp (w.heap.size + 2) Y Z := by rw [← hZ]; exact hKb _ _ _ yl
    have zi : I pre Z := by rw [← hZ]; exact hI.putObj _ hiy (by omega) yl rfl
    have za : Ax x a' Z := by rw [← hZ]; exact hAx x a' _ _ _ yl rfl hay
    rw [hZ]
    have zg : w.heap.size + 2 < Z.heap.size := by
      have h1 := hkf.size
      have h2 : Z.heap.size = Y.heap.size := by rw [← hZ]; simp [World.putObj]
      omega
    refine wpIn_mono (hbody _ pre x a' _ ⟨_, zl⟩ zi za hlen zg) ?_
    have fin : ∀ (jump : Option Code) (U : World), KeepsFrom w.heap.size Z U →
        (Instr.endRound (w.heap.size + 1) jump).run P U = .ok (.bool jump.isNone) (U.putObj (w.heap.size + 1) (.loop (rec (if jump.isNone then .ready else .done) jump))) ∧
        U.heap[w.heap.size + 1]? = some (.loop { rec .ready none with state := .busy }) ∧
        (U.putObj (w.heap.size + 1) (.loop (rec (if jump.isNone then .ready else .done) jump))).heap[w.heap.size + 1]? = some (.loop (rec (if jump.isNone then .ready else .done) jump)) ∧
        (U.putObj (w.heap.size + 1) (.loop (rec (if jump.isNone then .ready else .done) jump))).heap[w.heap.size]? = some (.deferred (some [])) := fun jump U hu => by
      have ul := hu.same _ _ (by omega) zl rfl
      have h := run_endRound (P := P) jump ul
      rw [hrec] at h ⊢
      rw [hrec] at ul
      exact ⟨h, ul, World.putObj_heap_same (Array.getElem?_eq_some_iff.1 ul).1, (World.putObj_heap_other (by omega)).trans (hu.same _ _ (Nat.le_refl _) zk rfl)⟩
    have kput : ∀ (A : World) (o : Obj), KeepsFrom (w.heap.size + 2) A (A.putObj (w.heap.size + 1) o) := fun A o =>
      ⟨by simp [World.putObj], fun k o' hB hk _ => (World.putObj_heap_other (by omega)).trans hk⟩
    have kup : ∀ {A C : World}, KeepsFrom w.heap.size A C → KeepsFrom (w.heap.size + 2) A C := fun h => ⟨h.size, fun k o hB hk ho => h.same k o (by omega) hk ho⟩
    have kfin : ∀ (U : World), KeepsFrom w.heap.size Z U → ∀ o, KeepsFrom (w.heap.size + 2) X (U.putObj (w.heap.size + 1) o) := fun U hu o =>
      ((kup hkf).trans (show KeepsFrom _ Y Z from hZ ▸ kput Y _)).trans ((kup hu).trans (kput _ _))
    rintro e a3 U hp
    cases e with
    | normal =>
      obtain ⟨hu, hkp3, hi3⟩ := hp
      obtain ⟨hr, ul, ul2, uk2⟩ := fin none U hu
      exact ⟨_, _, hr, .inl ⟨rfl, ⟨hI.putObj _ hi3 (by omega) ul rfl, ul2, uk2⟩, hKt hkp (hKt (hKt zp hkp3) (hKb _ _ _ ul))⟩⟩
    | ret =>
      obtain ⟨hu, hi3⟩ := hp
      obtain ⟨hr, ul, ul2, uk2⟩ := fin (some .ret) U hu
      exact ⟨_, _, hr, .inr ⟨rfl, ⟨.ret, (hIx _).putObj _ hi3 (by omega) ul rfl, ul2, uk2⟩, kfin U hu _⟩⟩
    | exit id =>
      obtain ⟨hu, hi3⟩ := hp
      obtain ⟨hr, ul, ul2, uk2⟩ := fin (some (.exit id)) U hu
      exact ⟨_, _, hr, .inr ⟨rfl, ⟨.exit id, (hIx _).putObj _ hi3 (by omega) ul rfl, ul2, uk2⟩, kfin U hu _⟩⟩
    | goto t =>
      obtain ⟨hu, hi3⟩ := hp
      obtain ⟨hr, ul, ul2, uk2⟩ := fin (some (.goto t)) U hu
      exact ⟨_, _, hr, .inr ⟨rfl, ⟨.goto t, (hIx _).putObj _ hi3 (by omega) ul rfl, ul2, uk2⟩, kfin U hu _⟩⟩
    | panic ch => exact hp.elim
    | outgrown => exact hp.elim
end Go.Proofs.YtpkpadepccneeaaGreatDoor.RangeE
