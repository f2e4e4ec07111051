/- The walk of slices.Delete, on a row of the caller's own. No condition. -/
import Derived.Test.YtdaajncfhcpecaaVRev
import Derived.Shelf.RegionOpenPlain
import Derived.Deep.RegionLaw
import Derived.Lib.SliceRun
namespace Go.Proofs.Ytdaajncfhcpecaa
set_option linter.unusedVariables false
set_option linter.unusedSimpArgs false
open Go.RowKit Go.Lib
/-- A row with another one written over it from a place on. -/
def layL : List Int → Nat → List Int → List Int
  | l, _, [] => l
  | l, o, y :: ys => layL (l.set o y) (o + 1) ys
theorem layL_length : ∀ (ys l : List Int) (o : Nat), (layL l o ys).length = l.length
  | [], l, o => rfl
  | y :: ys, l, o => by rw [layL, layL_length ys, List.length_set]
theorem layL_get : ∀ (ys l : List Int) (o m : Nat), o + ys.length ≤ l.length → (layL l o ys).getD m 0 = if o ≤ m ∧ m < o + ys.length then ys.getD (m - o) 0 else l.getD m 0
  | [], l, o, m, _ => by rw [layL, if_neg (by simp)]
  | y :: ys, l, o, m, h => by
    simp only [List.length_cons] at h
    rw [layL, layL_get ys _ _ _ (by rw [List.length_set]; omega)]
    by_cases h1 : o + 1 ≤ m ∧ m < o + 1 + ys.length
    · rw [if_pos h1, if_pos (by simp; omega), show m - o = (m - (o + 1)) + 1 by omega]
      simp
    · rw [if_neg h1]
      by_cases e : o = m
      · subst e
        rw [if_pos (by simp), Nat.sub_self]
        simp [List.getD_eq_getElem?_getD, List.getElem?_set, show o < l.length by omega]
      · rw [if_neg (by simp; omega), List.getD_eq_getElem?_getD, List.getElem?_set_ne e, ← List.getD_eq_getElem?_getD]
theorem laidI {B g n c : Nat} : ∀ (ys l : List Int) (o : Nat) (w : World), n = l.length → OI .i64 3 w B (.slice (some ⟨g, 0, none⟩) n c) l →
    OI .i64 3 (w.setCells g o (ints .i64 ys)) B (.slice (some ⟨g, 0, none⟩) n c) (layL l o ys) ∧ w.grownBy (w.setCells g o (ints .i64 ys)) (some g)
  | [], l, o, w, hn, h => ⟨h, ⟨rfl, rfl, rfl, Nat.le_refl _, fun _ _ _ => rfl⟩⟩
  | y :: ys, l, o, w, hn, h => by
    have h1 := OI.stored hn h o y
    have ih := laidI ys (l.set o y) (o + 1) _ (by rw [List.length_set]; exact hn) h1
    have hg := set_grown w g o (.int .i64 y)
    refine ⟨ih.1, ?_⟩
    have hg2 := ih.2
    exact ⟨hg2.os.trans hg.os, hg2.tape.trans hg.tape, hg2.output.trans hg.output, Nat.le_trans hg.size hg2.size, fun i hi hne => (hg2.block i (Nat.lt_of_lt_of_le hi hg.size) hne).trans (hg.block i hi hne)⟩
theorem cutI {B g n c : Nat} {w : World} {l : List Int} (h : OI .i64 3 w B (.slice (some ⟨g, 0, none⟩) n c) l) (hn : n = l.length) (m : Nat) (hm : m ≤ n) : OI .i64 3 w B (.slice (some ⟨g, 0, none⟩) m c) (l.take m) := by
  subst hn
  rcases h.2 with ⟨h1, _⟩ | ⟨g', cap, cur, h1, h2, h3, h4, h5, h6, h7⟩
  · cases h1
  · injection h1 with e1 _ e3
    injection e1 with e1
    injection e1 with e1 _ _
    subst e1
    subst e3
    have hl : (l.take m).length = m := by rw [List.length_take]; omega
    refine ⟨by simp [ints], .inr ⟨_, _, cur, by rw [hl], h2, h3, by omega, h5, h6, ?_⟩⟩
    rw [hl, Nat.mul_one] at *
    have : (cur.toList.take l.length).take m = (ints .i64 l).take m := by rw [h7]
    rw [List.take_take, Nat.min_eq_left hm] at this
    rw [this]
    simp [ints, List.map_take]
set_option maxHeartbeats 4000000 in
theorem Delete_walk (blk off cap n i j : Nat) (news : List Value) (w : World) (hlt : i < j) (hj : j ≤ n) (hcap : n ≤ cap) (hm : cap ≤ 9223372036854775807) (hlen : news.length = n - j)
    (hs : ∀ t u, news[t]? = some u → w.cell? ⟨blk, off + (j + t), none⟩ = some u) (h1c : ∀ u ∈ news, u.oneCell' = true)
    (hcell : ∀ t, t < n → (w.cell? ⟨blk, off + t, none⟩).isSome = true ∧ w.frozen? ⟨blk, off + t, none⟩ = false)
    (hcell1 : ∀ t, t < n → ((w.drew.setCells blk (off + i * 1) news).cell? ⟨blk, off + t, none⟩).isSome = true ∧ (w.drew.setCells blk (off + i * 1) news).frozen? ⟨blk, off + t, none⟩ = false) :
    Calls Try.prog 53 #[.slice (some ⟨blk, off, none⟩) n cap, .int .i64 i, .int .i64 j] w fun e w' => e = .returned (.slice (some ⟨blk, off, none⟩) (i + (n - j)) cap) ∧
      w' = (w.drew.setCells blk (off + i * 1) news).setCells blk (off + (i + (n - j))) (List.replicate (n - (i + (n - j))) (.int .i64 0)) := by
  obtain ⟨i0, hi0, hz0, hz1, hz2⟩ := info_parts info3
  have t22 := under22
  have v3 : ∀ W, (zeroValue 3).run Try.prog W = .ok (.int .i64 0) W := fun W => by kernel_rfl
  obtain ⟨A, hA, hsrc⟩ : ∃ A : Addr, (if cap = j then (some (⟨blk, off, none⟩ : Addr)) else some ⟨blk, off + j, none⟩) = some A ∧ Hid (∀ t u, news[t]? = some u → w.drew.cell? (A.add t) = some u) := by
    by_cases h : cap = j
    · refine ⟨⟨blk, off, none⟩, by simp [h], fun t u hu => ?_⟩
      have h0 : news.length = 0 := by rw [hlen]; omega
      rw [List.length_eq_zero_iff.1 h0] at hu
      simp at hu
    · refine ⟨⟨blk, off + j, none⟩, by simp [h], fun t u hu => ?_⟩
      have := hs t u hu
      rw [show off + (j + t) = off + j + t by omega] at this
      by_cases ht0 : t = 0
      · subst ht0; simpa [Addr.add] using this
      · simpa [Addr.add, ht0] using this
  have s1 : Hid (news.length = (n - j) * 1) := by rw [Nat.mul_one]; exact hlen
  have s2 : Hid (∀ u ∈ news, u.oneCell' = true) := h1c
  have s3 : Hid (∀ t, t < news.length → (w.drew.cell? ⟨blk, off + i * 1 + t, none⟩).isSome = true ∧ w.drew.frozen? ⟨blk, off + i * 1 + t, none⟩ = false) := by
    intro t ht
    rw [hlen] at ht
    rw [Nat.mul_one, Nat.add_assoc]
    exact hcell (i + t) (by omega)
  obtain ⟨W1, hW1⟩ : ∃ W1, W1 = w.drew.setCells blk (off + i * 1) news := ⟨_, rfl⟩
  rw [← hW1] at hcell1
  have hcl : ∀ ty, (Builtin.clear_ #[22] ty #[.slice (some ⟨blk, off + (i + (n - j)), none⟩) (n - (i + (n - j))) (cap - (i + (n - j)))]).run Try.prog W1 = .ok (.tuple #[]) (W1.setCells blk (off + (i + (n - j))) (List.replicate (n - (i + (n - j))) (.int .i64 0))) :=
    fun ty => Lib.run_clear_slice W1 _ _ ty _ t22 v3 rfl rfl blk (off + (i + (n - j))) _ _ (by omega) (fun t ht => by rw [show off + (i + (n - j)) + t = off + (i + (n - j) + t) by omega]; exact (hcell1 _ (by omega)).1) (fun t ht => by rw [show off + (i + (n - j)) + t = off + (i + (n - j) + t) by omega]; exact (hcell1 _ (by omega)).2)
  have hW : Hid (W1 = w.drew.setCells blk (off + i * 1) news) := hW1
  have hic : i ≤ cap := by omega
  have hjc : j ≤ cap := by omega
  rw [← hW1]
  clear hW1 hcell1 hcell hlen hs h1c
  have mixed : Try.prog.follows .mixedOrders = true := by kernel_rfl
  go_enter Try.func53, Try.ntmps53
  go_wp2_with fail
  go_region_law_o (refine step_append_room rfl (.tmp 22) (.tmp 25) 22 rfl 3 i0 1 t22 hi0 hz1 blk off i cap (by simp [Act.eval, Act.put]) A (n - j) (cap - j) news (by simp [Act.eval, Act.put]) s1.out hsrc.out s2.out (by omega) s3.out ?_; rw [← hW.out])
  go_wp2
  go_ret
  exact ⟨rfl, rfl⟩
theorem getD_of {l : List Int} {m : Nat} (h : m < l.length) : l[m] = l.getD m 0 := by rw [List.getD_eq_getElem?_getD, List.getElem?_eq_getElem h, Option.getD_some]
theorem del_row (l : List Int) (k : Nat) (hk : k < l.length) : (layL (layL l k (l.drop (k + 1))) (l.length - 1) [0]).take (l.length - 1) = l.eraseIdx k := by
  have h1 : (layL (layL l k (l.drop (k + 1))) (l.length - 1) [0]).length = l.length := by rw [layL_length, layL_length]
  have h2 : (l.eraseIdx k).length = l.length - 1 := by rw [List.length_eraseIdx, if_pos hk]
  apply List.ext_getElem (by rw [List.length_take, h1, h2]; omega)
  intro m hm1 hm2
  rw [List.getElem_take, getD_of, layL_get _ _ _ _ (by rw [layL_length]; simp; omega), if_neg (by omega), layL_get _ _ _ _ (by simp; omega), List.getElem_eraseIdx]
  rw [h2] at hm2
  by_cases hmk : m < k
  · rw [dif_pos hmk, if_neg (by omega), getD_of]
  · rw [dif_neg hmk, if_pos (by simp; omega), getD_of, List.getD_eq_getElem?_getD, List.getElem?_drop, ← List.getD_eq_getElem?_getD]
    congr 1
    omega
theorem grown_trans {w w1 w2 : World} {g : Nat} (h : w.grownBy w1 (some g)) (h2 : w1.grownBy w2 (some g)) : w.grownBy w2 (some g) :=
  ⟨h2.os.trans h.os, h2.tape.trans h.tape, h2.output.trans h.output, Nat.le_trans h.size h2.size, fun i hi hne => (h2.block i (Nat.lt_of_lt_of_le hi h.size) hne).trans (h.block i hi hne)⟩
theorem Delete_own (g c k B : Nat) (l : List Int) (w : World) (ho : OI .i64 3 w B (.slice (some ⟨g, 0, none⟩) l.length c) l) (hk : k < l.length) :
    Calls Try.prog 53 #[.slice (some ⟨g, 0, none⟩) l.length c, .int .i64 (k : Int), .int .i64 ((k : Int) + 1)] w fun e w' => e = .returned (.slice (some ⟨g, 0, none⟩) (l.length - 1) c) ∧
      OI .i64 3 w' B (.slice (some ⟨g, 0, none⟩) (l.length - 1) c) (l.eraseIdx k) ∧ w.grownBy w' (some g) := by
  have hcap : l.length ≤ c ∧ c ≤ maxLen := by
    rcases ho.2 with ⟨h1, _⟩ | ⟨g', cap, cur, h1, _, _, h4, h5, _⟩
    · cases h1
    · injection h1 with _ _ e3
      subst e3
      exact ⟨h4, h5⟩
  have hd : (ints .i64 (l.drop (k + 1))).length = l.length - (k + 1) := by simp [ints]
  have hL := laidI (B := B) (g := g) (n := l.length) (c := c) (l.drop (k + 1)) l k w.drew rfl (ho.drewN 1)
  have hcells : ∀ (W : World) (l' : List Int), OI .i64 3 W B (.slice (some ⟨g, 0, none⟩) l.length c) l' → l'.length = l.length → ∀ t, t < l.length → (W.cell? ⟨g, 0 + t, none⟩).isSome = true ∧ W.frozen? ⟨g, 0 + t, none⟩ = false := fun W l' h hl t ht => by
    rw [Nat.zero_add]
    have h' := h
    rw [← hl] at h'
    exact ⟨by rw [h'.cellAt (by omega)]; rfl, h.frozenAt hl.symm t⟩
  have hw := Delete_walk g 0 c l.length k (k + 1) (ints .i64 (l.drop (k + 1))) w (by omega) (by omega) hcap.1 (by have := hcap.2; simp only [maxLen] at this; omega) hd
    (fun t u hu => by
      have ht := (List.getElem?_eq_some_iff.1 hu).1
      rw [hd] at ht
      rw [ints_at .i64 _ (by simp; omega)] at hu
      rw [Nat.zero_add, ho.cellAt (by omega), ← hu, List.getD_eq_getElem?_getD, List.getD_eq_getElem?_getD, List.getElem?_drop])
    (fun u hu => by
      simp only [ints, List.mem_map] at hu
      obtain ⟨y, _, rfl⟩ := hu
      rfl)
    (hcells w l ho rfl) (by
      rw [Nat.mul_one, Nat.zero_add]
      exact hcells _ _ hL.1 (layL_length ..))
  refine (show Calls Try.prog 53 #[.slice (some ⟨g, 0, none⟩) l.length c, .int .i64 (k : Int), .int .i64 ((k : Int) + 1)] w _ from hw).mono ?_
  rintro e w' ⟨rfl, rfl⟩
  have hn : k + (l.length - (k + 1)) = l.length - 1 := by omega
  rw [hn, show l.length - (l.length - 1) = 1 by omega, Nat.mul_one, Nat.zero_add, Nat.zero_add]
  have h2 := laidI (B := B) (g := g) (n := l.length) (c := c) [0] _ (l.length - 1) _ (by rw [layL_length]) hL.1
  refine ⟨rfl, ?_, grown_trans (grown_trans (w1 := w.drew) ⟨rfl, rfl, rfl, Nat.le_refl _, fun _ _ _ => rfl⟩ hL.2) h2.2⟩
  have h3 := cutI h2.1 (by rw [layL_length, layL_length]) (l.length - 1) (by omega)
  rw [del_row l k hk] at h3
  exact h3
end Go.Proofs.Ytdaajncfhcpecaa
