/- Plain words of chapter 8's Check: flags of what has been seen, whether a cell comes twice. No condition. -/
import Derived.Test.YtdaajncfhcpecaaVMath
import Derived.Test.YtdaajncfhcpecaaAllWalk
namespace Go.Proofs.Ytdaajncfhcpecaa.V
set_option linter.unusedVariables false
open Classical
noncomputable def dupB (f : Nat → Int) (m : Nat) : Bool := decide (∃ i j, i < j ∧ j < m ∧ f i = f j)
noncomputable def chk (f : Nat → Int) (N : Nat) (c : Int) : Int := if ∃ n, n < N ∧ ¬ (0 ≤ f n ∧ f n < c) then 6 else if dupB f N = true then 7 else 0
def Seen (f : Nat → Int) (m : Nat) (fs : List Bool) : Prop := ∀ x : Nat, fs.getD x false = true ↔ ∃ n, n < m ∧ f n = (x : Int)
theorem Seen.zero (f : Nat → Int) (N : Nat) : Seen f 0 (List.replicate N false) := fun x => by
  rw [List.getD_eq_getElem?_getD, List.getElem?_replicate]
  constructor
  · intro h; split at h <;> simp at h
  · rintro ⟨n, hn, _⟩; omega
theorem Seen.step {f : Nat → Int} {m : Nat} {fs : List Bool} (h : Seen f m fs) {x : Nat} (hx : f m = (x : Int)) (hl : x < fs.length) : Seen f (m + 1) (fs.set x true) := fun y => by
  rw [List.getD_eq_getElem?_getD, List.getElem?_set]
  by_cases e : x = y
  · subst e
    rw [if_pos rfl, if_pos hl]
    simp only [Option.getD_some, true_iff]
    exact ⟨m, by omega, hx⟩
  · rw [if_neg e, ← List.getD_eq_getElem?_getD, h y]
    constructor
    · rintro ⟨n, hn, hf⟩; exact ⟨n, by omega, hf⟩
    · rintro ⟨n, hn, hf⟩
      by_cases hnm : n = m
      · subst hnm; rw [hx] at hf; omega
      · exact ⟨n, by omega, hf⟩
theorem dup_zero (f : Nat → Int) : dupB f 0 = false := by
  unfold dupB
  exact decide_eq_false (by rintro ⟨i, j, _, h, _⟩; omega)
theorem dup_step {f : Nat → Int} {m : Nat} {fs : List Bool} (h : Seen f m fs) {x : Nat} (hx : f m = (x : Int)) : dupB f (m + 1) = (dupB f m || fs.getD x false) := by
  rw [Bool.eq_iff_iff, Bool.or_eq_true, h x]
  unfold dupB
  rw [decide_eq_true_iff, decide_eq_true_iff]
  constructor
  · rintro ⟨i, j, h1, h2, h3⟩
    by_cases e : j = m
    · subst e; exact .inr ⟨i, h1, h3.trans hx⟩
    · exact .inl ⟨i, j, h1, by omega, h3⟩
  · rintro (⟨i, j, h1, h2, h3⟩ | ⟨n, h1, h2⟩)
    · exact ⟨i, j, h1, by omega, h3⟩
    · exact ⟨n, m, h1, by omega, h2.trans hx.symm⟩
theorem chk_out {f : Nat → Int} {N : Nat} {c : Int} {n : Nat} (hn : n < N) (h : ¬ (0 ≤ f n ∧ f n < c)) : chk f N c = 6 := if_pos ⟨n, hn, h⟩
theorem chk_in {f : Nat → Int} {N : Nat} {c : Int} (h : ∀ n, n < N → 0 ≤ f n ∧ f n < c) : chk f N c = if dupB f N = true then 7 else 0 := if_neg (fun ⟨n, hn, hno⟩ => hno (h n hn))
/-- The cell of a number. -/
def cellOf (o : Int) (l s : List Int) (n : Nat) : Int := cellR o s (S.pad (S.atL l n)) s.length
noncomputable def check (o : Int) (l s : List Int) (c : Int) : Int :=
  if l.length ≠ s.length ∨ c < 0 ∨ 4096 < c then 1 else if (S.sizeS l).2 ≠ 0 then (S.sizeS l).2 else chk (cellOf o l s) (sizeN l) c
theorem isL_get : ∀ (l i : List Int), S.isL l i = true → ∀ k, 0 ≤ i.getD k 0 ∧ (0 < i.getD k 0 → i.getD k 0 < l.getD k 0)
  | [], [], _, k => by simp
  | [], x :: is, h, k => by
    simp only [S.isL] at h
    split at h
    · rename_i hx
      cases k with
      | zero => simp [hx]
      | succ k => simpa using isL_get [] is h k
    · simp at h
  | s :: ss, [], _, k => by simp
  | s :: ss, x :: is, h, k => by
    simp only [S.isL] at h
    split at h
    · rename_i hx
      cases k with
      | zero => simp; omega
      | succ k => simpa using isL_get ss is h k
    · simp at h
theorem get_le_prod : ∀ (l : List Int) (k : Nat), (∀ r ∈ l, 1 ≤ r) → l.getD k 0 ≤ S.prod l
  | [], k, _ => by simp [S.prod]
  | r :: rs, k, h => by
    have h1 := h r (by simp)
    have h2 := S.prod_pos rs fun x hx => h x (by simp [hx])
    have ih := get_le_prod rs
    simp only [S.prod]
    cases k with
    | zero =>
      have := S.mul_ge h1 h2
      simpa using this
    | succ k =>
      have h3 := ih k fun x hx => h x (by simp [hx])
      have h4 := S.mul_ge h2 h1
      rw [Int.mul_comm] at h4
      have : (r :: rs).getD (k + 1) 0 = rs.getD k 0 := by simp
      omega
/-- The numbers of an index of a shape that is one. -/
theorem pad_small {l : List Int} (h : S.Ok l) {n : Nat} (hn : n < sizeN l) (k : Nat) : 0 ≤ (S.pad (S.atL l n)).getD k 0 ∧ (S.pad (S.atL l n)).getD k 0 ≤ 4096 ∧ (0 < (S.pad (S.atL l n)).getD k 0 → 1 < l.getD k 0) := by
  have hN := sizeN_ok h
  have hi := (S.num_at h (n := (n : Int)) (by omega) (by omega)).1
  have hg := isL_get l _ hi k
  have hl := get_le_prod l k h.2.1
  have h3 := h.2.2
  refine ⟨hg.1, ?_, fun h0 => by have := hg.2 h0; omega⟩
  by_cases h0 : 0 < (S.pad (S.atL l n)).getD k 0
  · have := hg.2 h0; omega
  · omega
/-- Of whatever number: the numbers of its index are small. -/
theorem pad_small_any {l : List Int} (h : S.Ok l) (n : Nat) (k : Nat) : 0 ≤ (S.pad (S.atL l n)).getD k 0 ∧ (S.pad (S.atL l n)).getD k 0 ≤ 4096 ∧ (0 < (S.pad (S.atL l n)).getD k 0 → 1 < l.getD k 0) := by
  have hi : S.isL l (S.pad (S.atL l n)) = true := S.isL_at l n _ h.2.1
  have hg := isL_get l _ hi k
  have hl := get_le_prod l k h.2.1
  have h3 := h.2.2
  refine ⟨hg.1, ?_, fun h0 => by have := hg.2 h0; omega⟩
  by_cases h0 : 0 < (S.pad (S.atL l n)).getD k 0
  · have := hg.2 h0; omega
  · omega
/-- What the numbers that came say. -/
def through (f : Nat → Int) (pre : List Nat) (j : Nat) : Int := f (pre.getD j 0)
theorem through_old (f : Nat → Int) (pre : List Nat) (x : Nat) {j : Nat} (hj : j < pre.length) : through f (pre ++ [x]) j = through f pre j := by
  unfold through
  rw [List.getD_eq_getElem?_getD, List.getD_eq_getElem?_getD, List.getElem?_append_left hj]
theorem through_new (f : Nat → Int) (pre : List Nat) (x : Nat) : through f (pre ++ [x]) pre.length = f x := by
  unfold through
  rw [List.getD_eq_getElem?_getD, List.getElem?_append_right (Nat.le_refl _)]; simp
theorem through_range (f : Nat → Int) (m : Nat) {j : Nat} (hj : j < m) : through f (List.range m) j = f j := by
  unfold through
  rw [List.getD_eq_getElem?_getD, List.getElem?_range hj]; rfl
theorem dup_congr {f g : Nat → Int} {m : Nat} (h : ∀ j, j < m → f j = g j) : dupB f m = dupB g m := by
  unfold dupB
  rw [decide_eq_decide]
  constructor
  · rintro ⟨i, j, h1, h2, h3⟩; exact ⟨i, j, h1, h2, by rw [← h i (by omega), ← h j h2]; exact h3⟩
  · rintro ⟨i, j, h1, h2, h3⟩; exact ⟨i, j, h1, h2, by rw [h i (by omega), h j h2]; exact h3⟩
theorem Seen.congr {f g : Nat → Int} {m : Nat} {fs : List Bool} (hs : Seen f m fs) (h : ∀ j, j < m → f j = g j) : Seen g m fs := fun x => by
  rw [hs x]
  constructor
  · rintro ⟨n, h1, h2⟩; exact ⟨n, h1, by rw [← h n h1]; exact h2⟩
  · rintro ⟨n, h1, h2⟩; exact ⟨n, h1, by rw [h n h1]; exact h2⟩
/-- One more has come. -/
theorem more_seen {f : Nat → Int} {pre : List Nat} {fs : List Bool} (h : Seen (through f pre) pre.length fs) {n x : Nat} (hx : f n = (x : Int)) (hl : x < fs.length) : Seen (through f (pre ++ [n])) (pre ++ [n]).length (fs.set x true) := by
  rw [List.length_append]
  exact (h.congr (g := through f (pre ++ [n])) fun j hj => (through_old f pre n hj).symm).step ((through_new f pre n).trans hx) hl
theorem more_dup {f : Nat → Int} {pre : List Nat} {fs : List Bool} (h : Seen (through f pre) pre.length fs) {n x : Nat} (hx : f n = (x : Int)) : dupB (through f (pre ++ [n])) (pre ++ [n]).length = (dupB (through f pre) pre.length || fs.getD x false) := by
  rw [List.length_append]
  show dupB _ (pre.length + 1) = _
  rw [dup_step (h.congr (g := through f (pre ++ [n])) fun j hj => (through_old f pre n hj).symm) ((through_new f pre n).trans hx)]
  rw [dup_congr fun j hj => through_old f pre n hj]
theorem more_in {f : Nat → Int} {pre : List Nat} {c : Int} (h : ∀ j, j < pre.length → 0 ≤ through f pre j ∧ through f pre j < c) {n : Nat} (hn : 0 ≤ f n ∧ f n < c) : ∀ j, j < (pre ++ [n]).length → 0 ≤ through f (pre ++ [n]) j ∧ through f (pre ++ [n]) j < c := fun j hj => by
  rw [List.length_append] at hj
  by_cases e : j = pre.length
  · subst e; rw [through_new]; exact hn
  · have hj' : j < pre.length := by simp at hj; omega
    rw [through_old f pre n hj']; exact h j hj'
theorem more_out {f : Nat → Int} {pre : List Nat} {c : Int} {n : Nat} (hn : ¬ (0 ≤ f n ∧ f n < c)) : ∃ j, j < (pre ++ [n]).length ∧ ¬ (0 ≤ through f (pre ++ [n]) j ∧ through f (pre ++ [n]) j < c) :=
  ⟨pre.length, by simp, by rw [through_new]; exact hn⟩
theorem out_range {f : Nat → Int} {m N : Nat} {c : Int} (hm : m ≤ N) (h : ∃ j, j < (List.range m).length ∧ ¬ (0 ≤ through f (List.range m) j ∧ through f (List.range m) j < c)) : chk f N c = 6 := by
  obtain ⟨j, hj, hno⟩ := h
  rw [List.length_range] at hj
  rw [through_range f m hj] at hno
  exact chk_out (by omega) hno
theorem in_range {f : Nat → Int} {N : Nat} {c : Int} (h : ∀ j, j < (List.range N).length → 0 ≤ through f (List.range N) j ∧ through f (List.range N) j < c) : chk f N c = if dupB (through f (List.range N)) (List.range N).length = true then 7 else 0 := by
  rw [List.length_range, dup_congr fun j hj => through_range f N hj]
  exact chk_in fun n hn => by
    have := h n (by rw [List.length_range]; exact hn)
    rw [through_range f N hn] at this
    exact this
end Go.Proofs.Ytdaajncfhcpecaa.V
