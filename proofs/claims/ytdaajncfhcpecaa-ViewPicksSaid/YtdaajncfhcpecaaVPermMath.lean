/- Plain words of chapter 8: a permuted view can be, where the view can. No condition. -/
import Derived.Test.YtdaajncfhcpecaaVIdx
namespace Go.Proofs.Ytdaajncfhcpecaa
set_option linter.unusedVariables false
set_option linter.unusedSimpArgs false
namespace V
/-- The axes as numbers from 0 on. -/
def nats (axes : List Int) : List Nat := axes.map Int.toNat
theorem nats_get (axes : List Int) {j : Nat} (hj : j < axes.length) : (nats axes).getD j 0 = (axes.getD j 0).toNat := by
  simp [nats, List.getD_eq_getElem?_getD, List.getElem?_eq_getElem hj]
theorem nats_nodup : ∀ {axes : List Int} {n : Nat}, goodAx n axes → ∀ i j, i < j → j < axes.length → (axes.getD i 0).toNat ≠ (axes.getD j 0).toNat := fun {axes n} h i j hij hj he => by
  have hi' := h i (by omega)
  have hj' := h j hj
  have heq : axes.getD i 0 = axes.getD j 0 := by omega
  apply hj'.2.2
  rw [← heq, List.getD_eq_getElem?_getD, List.getElem?_eq_getElem (by omega : i < axes.length), Option.getD_some]
  rw [List.mem_take_iff_getElem]
  exact ⟨i, by omega, rfl⟩
theorem nodup {axes : List Int} {n : Nat} (h : goodAx n axes) : (nats axes).Nodup := by
  rw [List.Nodup, List.pairwise_iff_getElem]
  intro i j hi hj hij
  simp only [nats, List.length_map] at hi hj
  have := nats_nodup h i j hij hj
  simpa [nats, List.getD_eq_getElem?_getD, List.getElem?_eq_getElem hi, List.getElem?_eq_getElem hj] using this
theorem below_n {axes : List Int} {n : Nat} (h : goodAx n axes) : ∀ a ∈ nats axes, a < n := fun a ha => by
  simp only [nats, List.mem_map] at ha
  obtain ⟨x, hx, rfl⟩ := ha
  obtain ⟨i, hi, rfl⟩ := List.getElem_of_mem hx
  have := h i hi
  rw [List.getD_eq_getElem?_getD, List.getElem?_eq_getElem hi, Option.getD_some] at this
  omega
theorem all_there {ax : List Nat} {n : Nat} (hn : ax.Nodup) (hb : ∀ a ∈ ax, a < n) (hl : ax.length = n) {a : Nat} (ha : a < n) : a ∈ ax := Classical.byContradiction fun hno => by
  have h1 : (a :: ax).Nodup := List.nodup_cons.2 ⟨hno, hn⟩
  have h2 : (a :: ax) ⊆ List.range n := fun x hx => by
    rw [List.mem_range]
    rcases List.mem_cons.1 hx with rfl | hx
    · exact ha
    · exact hb x hx
  have h3 := h1.length_le_of_subset h2
  simp at h3
  omega
theorem perm_range {ax : List Nat} {n : Nat} (hn : ax.Nodup) (hb : ∀ a ∈ ax, a < n) (hl : ax.length = n) : ax.Perm (List.range n) := by
  rw [List.perm_iff_count]
  intro a
  rw [hn.count, List.nodup_range.count]
  by_cases ha : a < n
  · rw [if_pos (all_there hn hb hl ha), if_pos (List.mem_range.2 ha)]
  · rw [if_neg (fun h => ha (hb a h)), if_neg (fun h => ha (List.mem_range.1 h))]
def isum : List Int → Int
  | [] => 0
  | x :: xs => x + isum xs
theorem isum_perm {a b : List Int} (h : a.Perm b) : isum a = isum b := by
  induction h with
  | nil => rfl
  | cons x _ ih => simp only [isum, ih]
  | swap x y l => simp only [isum]; omega
  | trans _ _ h1 h2 => exact h1.trans h2
theorem isum_append (a b : List Int) : isum (a ++ b) = isum a + isum b := by
  induction a with
  | nil => simp [isum]
  | cons x xs ih => simp only [List.cons_append, isum, ih]; omega
theorem prod_perm {a b : List Int} (h : a.Perm b) : S.prod a = S.prod b := by
  induction h with
  | nil => rfl
  | cons x _ ih => simp only [S.prod, ih]
  | swap x y l => simp only [S.prod]; rw [← Int.mul_assoc, ← Int.mul_assoc, Int.mul_comm x y]
  | trans _ _ h1 h2 => exact h1.trans h2
theorem sumR_isum (s i : List Int) : ∀ m, sumR s i m = isum ((List.range m).map fun k => i.getD k 0 * cut (s.getD k 0))
  | 0 => rfl
  | m + 1 => by
    rw [List.range_succ, List.map_append, isum_append, ← sumR_isum s i m]
    simp [sumR, isum]
theorem pick_nats (l axes : List Int) : pick l axes = (nats axes).map fun k => l.getD k 0 := by simp [pick, nats]
theorem range_map (l : List Int) : (List.range l.length).map (fun k => l.getD k 0) = l := by
  apply List.ext_getElem (by simp)
  intro i h1 h2
  simp [List.getElem?_eq_getElem h2]
theorem pick_perm {l axes : List Int} (h : goodAx l.length axes) (hl : axes.length = l.length) : (pick l axes).Perm l := by
  have hp := perm_range (nodup h) (below_n h) (by simp [nats, hl])
  have := hp.map fun k => l.getD k 0
  rw [range_map, ← pick_nats] at this
  exact this
theorem pick_ok {l axes : List Int} (hok : S.Ok l) (h : goodAx l.length axes) (hl : axes.length = l.length) : S.Ok (pick l axes) := by
  have hp := pick_perm h hl
  refine ⟨by rw [hp.length_eq]; exact hok.1, fun r hr => hok.2.1 r (hp.mem_iff.1 hr), ?_⟩
  rw [prod_perm hp]
  exact hok.2.2
/-- The index in the order of the axes before. -/
def undo (axes i : List Int) : List Int := (List.range 4).map fun k => if k ∈ nats axes then i.getD ((nats axes).idxOf k) 0 else 0
theorem undo_get (axes i : List Int) {k : Nat} (hk : k < 4) : (undo axes i).getD k 0 = if k ∈ nats axes then i.getD ((nats axes).idxOf k) 0 else 0 := by
  simp [undo, List.getD_eq_getElem?_getD, hk]
theorem undo_at {l axes : List Int} (h : goodAx l.length axes) (i : List Int) {j : Nat} (hj : j < axes.length) (h4 : l.length ≤ 4) : (undo axes i).getD (axes.getD j 0).toNat 0 = i.getD j 0 := by
  have hg := h j hj
  have hjn : j < (nats axes).length := by simp [nats, hj]
  have he : (axes.getD j 0).toNat = (nats axes)[j] := by
    rw [← nats_get axes hj, List.getD_eq_getElem?_getD, List.getElem?_eq_getElem hjn, Option.getD_some]
  rw [undo_get axes i (by omega), he, if_pos (List.getElem_mem hjn), (nodup h).idxOf_getElem]
theorem pick_get (l axes : List Int) {j : Nat} (hj : j < axes.length) : (pick l axes).getD j 0 = l.getD (axes.getD j 0).toNat 0 := by
  simp [pick, List.getD_eq_getElem?_getD, List.getElem?_eq_getElem hj]
theorem undo_idx {l axes : List Int} (hok : S.Ok l) (h : goodAx l.length axes) (hl : axes.length = l.length) {i : List Int} (h4 : i.length = 4) (hi : S.isL (pick l axes) i = true) : (undo axes i).length = 4 ∧ S.isL l (undo axes i) = true := by
  have hok' := pick_ok hok h hl
  have hlen : (pick l axes).length = l.length := (pick_perm h hl).length_eq
  have hl4 := hok.1
  have hb := isL_iff (by omega) hok'.2.1 hi
  refine ⟨by simp [undo], isL_of _ _ (by simp [undo]; omega) (fun k hk => ?_) (fun k hk => ?_)⟩
  · have hm := all_there (nodup h) (below_n h) (by simp [nats, hl]) hk
    have hj := List.idxOf_lt_length_of_mem hm
    have hj' : (nats axes).idxOf k < axes.length := by simpa [nats] using hj
    have hb' := hb.1 _ (by omega : (nats axes).idxOf k < (pick l axes).length)
    rw [undo_get axes i (by omega), if_pos hm]
    have hx : (nats axes).getD ((nats axes).idxOf k) 0 = k := by rw [List.getD_eq_getElem?_getD, List.getElem?_eq_getElem hj, Option.getD_some, List.getElem_idxOf]
    rw [pick_get l axes hj', ← nats_get axes hj', hx] at hb'
    exact hb'
  · by_cases hk4 : k < 4
    · rw [undo_get axes i hk4, if_neg (fun hm => by have := below_n h k hm; omega)]
    · rw [List.getD_eq_getElem?_getD, List.getElem?_eq_none (by simp [undo]; omega)]; rfl
theorem undo_cell {o : Int} {l s axes : List Int} (hls : l.length = s.length) (hok : S.Ok l) (h : goodAx l.length axes) (hl : axes.length = l.length) (i : List Int) :
    cellR o (pick s axes) i (pick s axes).length = cellR o s (undo axes i) s.length := by
  have hl4 := hok.1
  have hlen : (pick s axes).length = axes.length := by simp [pick]
  unfold cellR
  rw [hlen, sumR_isum, sumR_isum, ← hls]
  have hp := (perm_range (nodup h) (below_n h) (by simp [nats, hl])).map fun k => (undo axes i).getD k 0 * cut (s.getD k 0)
  rw [← isum_perm hp]
  congr 2
  apply List.ext_getElem (by simp [nats])
  intro j h1 h2
  have hj : j < axes.length := by simpa using h1
  have e1 := undo_at (l := l) h i hj hl4
  have e2 := pick_get s axes hj
  have e3 := nats_get axes hj
  have hjn : j < (nats axes).length := by simp [nats, hj]
  rw [List.getD_eq_getElem?_getD, List.getElem?_eq_getElem hjn, Option.getD_some] at e3
  rw [List.getElem_map, List.getElem_map, List.getElem_range, e3, e1, e2]
theorem pick_check {o : Int} {l s axes : List Int} (hq : check o l s 4096 = 0) (h : goodAx l.length axes) (hl : axes.length = l.length) : check o (pick l axes) (pick s axes) 4096 = 0 := by
  obtain ⟨hls, hok, _⟩ := check_zero hq
  have hok' := pick_ok hok h hl
  have hlen : (pick l axes).length = l.length := (pick_perm h hl).length_eq
  have hl4 := hok.1
  refine check_idx hq (by simp [pick]) hok' (undo axes) (fun i h4 hi => ?_) (fun i j hi4 hj4 hi hj he => ?_)
  · have ht := undo_idx hok h hl h4 hi
    exact ⟨ht.1, ht.2, undo_cell hls hok h hl i⟩
  · apply S.four_ext hi4 hj4
    intro m _
    by_cases hm : m < axes.length
    · rw [← undo_at h i hm hl4, ← undo_at h j hm hl4, he]
    · rw [(isL_iff (by omega) hok'.2.1 hi).2 m (by omega), (isL_iff (by omega) hok'.2.1 hj).2 m (by omega)]
end V
end Go.Proofs.Ytdaajncfhcpecaa
