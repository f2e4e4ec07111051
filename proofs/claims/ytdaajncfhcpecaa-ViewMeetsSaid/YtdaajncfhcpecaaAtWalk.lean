/- The walk of chapter 7's At. No condition. -/
import Derived.Test.YtdaajncfhcpecaaSLaw
namespace Go.Proofs.Ytdaajncfhcpecaa
set_option linter.unusedVariables false
set_option linter.unusedSimpArgs false
open Go.RowKit
/-- A block known whole. -/
def Blk (w : World) (g : Nat) (t : TypeId) (cs : Array Value) : Prop := w.heap[g]? = some (.cells cs t (0, 0))
section
variable {w w' : World} {g : Nat} {t : TypeId} {cs : Array Value}
theorem Blk.lt (h : Blk w g t cs) : g < w.heap.size := by
  rcases Nat.lt_or_ge g w.heap.size with hlt | hge
  · exact hlt
  · unfold Blk at h; rw [Array.getElem?_eq_none hge] at h; cases h
theorem Blk.cell (h : Blk w g t cs) (i : Nat) : w.cell? ⟨g, i, none⟩ = cs[i]? := cell_of_row w g i cs t (0, 0) h
theorem Blk.frozen (h : Blk w g t cs) (i : Nat) : w.frozen? ⟨g, i, none⟩ = false := frozen_of_row w g i cs t h
theorem Blk.new (w : World) (t : TypeId) (cs : Array Value) : Blk (w.alloc (.cells cs t)) w.heap.size t cs := heap_alloc_new w _
theorem Blk.drewN (h : Blk w g t cs) (n : Nat) : Blk (w.drewN n) g t cs := h
theorem Blk.alloc (h : Blk w g t cs) (o : Obj) : Blk (w.alloc o) g t cs := (Below.heap_alloc w o g h.lt).trans h
theorem Blk.set_ (h : Blk w g t cs) (i : Nat) (u : Value) : Blk (w.setCell ⟨g, i, none⟩ u) g t (cs.setIfInBounds i u) := heap_setCell_same w g i cs t u h
theorem Blk.far (h : Blk w g t cs) {p : Addr} (hp : g ≠ p.block) (u : Value) : Blk (w.setCell p u) g t cs := (Below.heap_setCell w p u g hp).trans h
theorem Blk.below {B : Nat} (h : Blk w g t cs) (hb : Below B w w') (hg : g < B) : Blk w' g t cs := (hb.block g hg).trans h
end
theorem four_set (x : List Int) (a b c d : Int) (hx : [a, b, c, d] = x) (k : Nat) (hk : k < 4) (v : Int) :
    ∃ a' b' c' d', (four a b c d).setIfInBounds k (.int .i64 v) = four a' b' c' d' ∧ [a', b', c', d'] = x.set k v := by
  subst hx
  match k, hk with
  | 0, _ => exact ⟨v, b, c, d, rfl, rfl⟩
  | 1, _ => exact ⟨a, v, c, d, rfl, rfl⟩
  | 2, _ => exact ⟨a, b, v, d, rfl, rfl⟩
  | 3, _ => exact ⟨a, b, c, v, rfl, rfl⟩
theorem four_get (a b c d : Int) (k : Nat) (hk : k < 4) : (four a b c d)[k]? = some (.int .i64 ([a, b, c, d].getD k 0)) := by
  match k, hk with
  | 0, _ => rfl
  | 1, _ => rfl
  | 2, _ => rfl
  | 3, _ => rfl
theorem list_four {x : List Int} (h : x.length = 4) : ∃ a b c d, x = [a, b, c, d] := by
  match x, h with
  | [a, b, c, d], _ => exact ⟨a, b, c, d, rfl⟩
set_option maxHeartbeats 1000000 in
theorem At_yes (A : Option Addr) (cp : Nat) (l : List Int) (n a b c d : Int) (w : World) (hr : RI .i64 w A l) (hok : S.Ok l) (h0 : 0 ≤ n) (h1 : n < S.prod l) (hx : S.pad (S.atL l n) = [a, b, c, d]) :
    Calls Try.prog 20 #[.slice A l.length cp, .int .i64 n] w fun e w' => e = .returned (.tuple #[.agg (four a b c d), .bool true]) ∧ Below w.heap.size w w' := by
  have hl := hok.1
  have hp := hok.2.2
  have C1 := Lib.hid fun (W : World) (h : RI .i64 W A l) => size_any A cp l W h (by omega)
  rw [hok.size] at C1
  have HB := Lib.hid fun (o : Obj) => (Below.refl w.heap.size w).alloc (Nat.le_refl _) o
  have hr' := Lib.hid hr
  have HK := Lib.hid hok
  have HX := Lib.hid hx
  clear hr hok hx
  generalize S.prod l = p at C1 h1 hp
  go_enter Try.func20, Try.ntmps20
  go_wp2_with fail
  with_reducible refine (C1.out _ ?_).mono ?_
  · exact hr'.out.below (HB.out _)
  rintro e w' ⟨rfl, rfl⟩
  have B4 : Blk ((w.alloc (.cells (four 0 0 0 0) 33)).alloc (.cells (four 0 0 0 0) 33)) w.heap.size 33 (four 0 0 0 0) := (Blk.new w 33 _).alloc _
  have B8 : Blk ((w.alloc (.cells (four 0 0 0 0) 33)).alloc (.cells (four 0 0 0 0) 33)) (w.heap.size + 1) 33 (four 0 0 0 0) := by
    have h := Blk.new (w.alloc (.cells (four 0 0 0 0) 33)) 33 (four 0 0 0 0)
    rw [World.size_alloc] at h
    exact h
  have HB4 := Lib.hid B4
  have HB8 := Lib.hid B8
  have HB2 := Lib.hid (show Below w.heap.size w ((w.alloc (.cells (four 0 0 0 0) 33)).alloc (.cells (four 0 0 0 0) 33)) from (HB.out _).alloc (by simp) _)
  clear B4 B8
  go_wp2_with fail
  go_loopw [1, 9] (fun m i wr => ∃ (j : Nat) (x y z u : Int), j ≤ l.length ∧ i = .int .i64 ((j : Int) - 1) ∧ m = .int .i64 (n / S.prod (l.drop j)) ∧ Hid ([x, y, z, u] = S.fillAt l n j) ∧ Hid (Blk wr w.heap.size 33 (four 0 0 0 0)) ∧ Hid (Blk wr (w.heap.size + 1) 33 (four x y z u)) ∧ Hid (Below w.heap.size w wr)) (fun _ i _ => (intOf i + 1).toNat)
  case atStart => exact ⟨l.length, 0, 0, 0, 0, by omega, rfl, by rw [List.drop_length]; simp [S.prod], Lib.hid (S.fillAt_top l n hl).symm, HB4, HB8, HB2⟩
  case round =>
    obtain ⟨j, x, y, z, u, hj, rfl, rfl, HF, H4, H8, HBW⟩ := hrel
    by_cases hlt : 1 ≤ j
    · obtain ⟨k, rfl⟩ : ∃ k, j = k + 1 := ⟨j - 1, by omega⟩
      have hk : k < l.length := by omega
      obtain ⟨ad, rfl, hcl⟩ := (hr'.out.below HBW.out).at_ hk
      have hr1 := HK.out.2.1 _ (S.getD_mem hk)
      have hq1 := S.prod_drop_pos l (k + 1) HK.out.2.1
      have hdv : 0 ≤ n / S.prod (l.drop (k + 1)) := Int.ediv_nonneg h0 (by omega)
      have hdv2 : n / S.prod (l.drop (k + 1)) ≤ n := Int.ediv_le_self _ h0
      have hc8 := (H8.out.cell k).trans (four_get x y z u k (by omega))
      have hf8 := H8.out.frozen k
      have hstr : S.stride l k = S.prod (l.drop (k + 1)) := rfl
      have hset := four_set (S.fillAt l n (k + 1)) x y z u HF.out k (by omega) (n / S.stride l k % l.getD k 0)
      rw [S.fillAt_set l n k hk hl, hstr] at hset
      have hdvs := S.div_stride l n hk HK.out.2.1
      rw [hstr] at hdvs
      have HDV := Lib.hid hdvs
      clear hstr hdvs
      obtain ⟨x', y', z', u', hs1, hs2⟩ := hset
      generalize S.prod (l.drop (k + 1)) = q at *
      generalize n / q = m at *
      have h8 := H8.out.set_ k (.int .i64 (m % l.getD k 0))
      rw [hs1] at h8
      have h4 := H4.out.far (p := ⟨w.heap.size + 1, k, none⟩) (by simp) (.int .i64 (m % l.getD k 0))
      have hbw := HBW.out.setCell (p := ⟨w.heap.size + 1, k, none⟩) (by simp) (.int .i64 (m % l.getD k 0))
      have H8' := Lib.hid h8
      have H4' := Lib.hid h4
      have HBW' := Lib.hid hbw
      have HF' := Lib.hid hs2
      obtain ⟨ad2, had, hcl2⟩ := (hr'.out.below hbw).at_ hk
      obtain rfl : ad = ad2 := by injection had
      clear had hs1 hs2 h8 h4 hbw
      generalize [x, y, z, u].getD k 0 = old at *
      generalize l.getD k 0 = s at *
      have hm0 := Int.emod_nonneg m (show s ≠ 0 by omega)
      have hi0 : ((k + 1 : Nat) : Int) - 1 = (k : Int) := by omega
      rw [hi0]
      go_wp2_with fail
      go_roundw
      case rel => exact ⟨k, x', y', z', u', by omega, by go_num, by rw [← HDV.out], HF', H4', H8', HBW'⟩
      case measure => simp [intOf]
    · obtain rfl : j = 0 := by omega
      have hxx : [x, y, z, u] = [a, b, c, d] := by rw [HF.out, S.fillAt_zero l n hl, HX.out]
      injection hxx with e1 e2
      injection e2 with e2 e3
      injection e3 with e3 e4
      injection e4 with e4 e5
      subst e1
      subst e2
      subst e3
      subst e4
      have a0 := H8.out.cell 0
      have a1 := H8.out.cell 1
      have a2 := H8.out.cell 2
      have a3 := H8.out.cell 3
      have c0 := H4.out.cell 0
      have c1 := H4.out.cell 1
      have c2 := H4.out.cell 2
      have c3 := H4.out.cell 3
      have f0 := H4.out.frozen 0
      have f1 := H4.out.frozen 1
      have f2 := H4.out.frozen 2
      have f3 := H4.out.frozen 3
      have D := (((H4.out.set_ 0 (.int .i64 x)).set_ 1 (.int .i64 y)).set_ 2 (.int .i64 z)).set_ 3 (.int .i64 u)
      have d0 := D.cell 0
      have d1 := D.cell 1
      have d2 := D.cell 2
      have d3 := D.cell 3
      have HD := Lib.hid (show Below w.heap.size w ((((wr.setCell ⟨w.heap.size, 0, none⟩ (.int .i64 x)).setCell ⟨w.heap.size, 1, none⟩ (.int .i64 y)).setCell ⟨w.heap.size, 2, none⟩ (.int .i64 z)).setCell ⟨w.heap.size, 3, none⟩ (.int .i64 u)) from (((HBW.out.setCell (by simp) _).setCell (by simp) _).setCell (by simp) _).setCell (by simp) _)
      clear D
      go_wp2_with fail
      exact bodyPost_ret (v := .tuple #[.agg (four x y z u), .bool true]) (by simp [results, Try.results20, go_sem, d0, d1, d2, d3]) rfl ⟨rfl, HD.out⟩
end Go.Proofs.Ytdaajncfhcpecaa
