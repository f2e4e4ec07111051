/- The walks of chapter 8's cell of an index: the reference's and the program's. No condition. -/
import Derived.Test.YtdaajncfhcpecaaVWalk
namespace Go.Proofs.Ytdaajncfhcpecaa
set_option linter.unusedVariables false
set_option linter.unusedSimpArgs false
open Go.RowKit
set_option maxHeartbeats 1000000 in
theorem Cell_any (o : Int) (A B : Option Addr) (cp cq : Nat) (l s : List Int) (a b c d : Int) (w : World) (hs : RI .i64 w B s) (hls : s.length = l.length) (h4 : l.length ≤ 4) (hi : ∀ k, 0 ≤ [a, b, c, d].getD k 0 ∧ [a, b, c, d].getD k 0 ≤ 4096) :
    Calls Try.prog 37 #[.agg (view o A l.length cp B s.length cq), .agg (four a b c d)] w fun e w' => e = .returned (.int .i64 (V.cellR o s [a, b, c, d] s.length)) ∧ Below w.heap.size w w' := by
  have Z1 := Blk.new w 47 (view o A l.length cp B s.length cq)
  have Z2 := Blk.new (w.alloc (.cells (view o A l.length cp B s.length cq) 47)) 32 (four a b c d)
  rw [World.size_alloc] at Z2
  have H1 := Lib.hid (Z1.alloc (.cells (four a b c d) 32))
  have H2 := Lib.hid Z2
  have HB := Lib.hid (show Below w.heap.size w ((w.alloc (.cells (view o A l.length cp B s.length cq) 47)).alloc (.cells (four a b c d) 32)) from ((Below.refl _ _).alloc (Nat.le_refl _) _).alloc (by simp) _)
  have HS := Lib.hid (hs.below HB.out)
  have C := Lib.hid fun (n : Int) (W : World) => cut_any n W
  have HG := Lib.hid fun (k : Nat) (hk : k < 4) => (H2.out.cell k).trans (four_get a b c d k hk)
  have HT := Lib.hid (V.cellR_step o s [a, b, c, d] hi)
  have HZ := Lib.hid (show V.cellR o s [a, b, c, d] 0 = V.cut o by simp [V.cellR, V.sumR])
  have HLS := Lib.hid hls
  clear hs hi Z1 Z2 hls
  have h4s : s.length ≤ 4 := by rw [HLS.out]; exact h4
  go_enter Try.func37, Try.ntmps37
  go_wp2_with fail
  with_reducible refine (C.out _ _).mono ?_
  rintro e w' ⟨rfl, rfl⟩
  go_wp2_with fail
  go_loopw [5, 13] (fun n j wr => ∃ (k m : Nat), k ≤ s.length ∧ j = .int .i64 k ∧ n = .int .i64 (V.cellR o s [a, b, c, d] k) ∧ wr = ((w.alloc (.cells (view o A l.length cp B s.length cq) 47)).alloc (.cells (four a b c d) 32)).drewN m) (fun _ j _ => s.length - (intOf j).toNat)
  case atStart => exact ⟨0, 0, by omega, rfl, by rw [HZ.out], rfl⟩
  case round =>
    obtain ⟨k, m, hk, rfl, rfl, rfl⟩ := hrel
    by_cases hlt : k < s.length
    · have hkl : k < l.length := by rw [← HLS.out]; exact hlt
      have hg := HG.out k (by omega)
      obtain ⟨h1, h2, h3, h5, h6⟩ := HT.out k (by omega)
      have H6 := Lib.hid h6
      obtain ⟨bd, rfl, hcs⟩ := HS.out.at_ hlt
      have c47 := H1.out.cell 2
      clear h6
      generalize [a, b, c, d].getD k 0 = x at *
      generalize s.getD k 0 = y at *
      have C5 := Lib.hid fun (n : Nat) => C.out y (((w.alloc (.cells (view o A l.length cp (some bd) s.length cq) 47)).alloc (.cells (four a b c d) 32)).drewN n)
      generalize V.cut y = z at *
      generalize V.cellR o s [a, b, c, d] k = r at *
      have hi0 : (0 : Int) ≤ (k : Int) := by omega
      have hi1 : (k : Int) < 4 := by omega
      go_wp2_with fail
      go_quiet ((go_at_call 49; exact quietN (C5.out _)))
      go_wp2_with fail
      go_roundw
      case rel => exact ⟨k + 1, _, by omega, by go_num, by rw [← H6.out], rfl⟩
      case measure => simp [intOf]; omega
    · obtain rfl : k = s.length := by omega
      have hkl : ¬ (s.length : Int) < (l.length : Int) := by rw [HLS.out]; omega
      go_wp2_with fail
      go_ret
      exact ⟨rfl, below_drewN HB.out m⟩
set_option maxHeartbeats 1000000 in
theorem cell_any (o : Int) (A B : Option Addr) (cp cq : Nat) (l s : List Int) (cs a b c d : Int) (w : World) (hs : RI .i64 w B s) (h4 : s.length ≤ 4) (hc : 0 ≤ cs) (hc2 : cs ≤ 4096) (hn : V.near o l s cs)
    (hi : ∀ k, 0 ≤ [a, b, c, d].getD k 0 ∧ [a, b, c, d].getD k 0 ≤ 4096) (hil : ∀ k, k < s.length → 0 < [a, b, c, d].getD k 0 → 1 < l.getD k 0) :
    Calls Try.prog 45 #[.agg (view o A l.length cp B s.length cq), .agg (four a b c d)] w fun e w' => e = .returned (.int .i64 (V.cellP o s [a, b, c, d] s.length)) ∧ Below w.heap.size w w' := by
  have Z1 := Blk.new w 49 (view o A l.length cp B s.length cq)
  have Z2 := Blk.new (w.alloc (.cells (view o A l.length cp B s.length cq) 49)) 33 (four a b c d)
  rw [World.size_alloc] at Z2
  have H1 := Lib.hid (Z1.alloc (.cells (four a b c d) 33))
  have H2 := Lib.hid Z2
  have HB := Lib.hid (show Below w.heap.size w ((w.alloc (.cells (view o A l.length cp B s.length cq) 49)).alloc (.cells (four a b c d) 33)) from ((Below.refl _ _).alloc (Nat.le_refl _) _).alloc (by simp) _)
  have HS := Lib.hid (hs.below HB.out)
  have HG := Lib.hid fun (k : Nat) (hk : k < 4) => (H2.out.cell k).trans (four_get a b c d k hk)
  have HT := Lib.hid (V.cellP_step o l s [a, b, c, d] cs hc hc2 hn hi hil)
  have HW := Lib.hid (V.cellP_skip o s [a, b, c, d])
  have HZ := Lib.hid (show V.cellP o s [a, b, c, d] 0 = o by simp [V.cellP, V.sumP])
  clear hs hi Z1 Z2 hil hn
  go_enter Try.func45, Try.ntmps45
  go_wp2_with fail
  go_loop [5, 13] (fun n j => ∃ k : Nat, k ≤ s.length ∧ j = .int .i64 k ∧ n = .int .i64 (V.cellP o s [a, b, c, d] k)) (fun _ j => s.length - (intOf j).toNat)
  case atStart => exact ⟨0, by omega, rfl, by rw [HZ.out]⟩
  case round =>
    obtain ⟨k, hk, rfl, rfl⟩ := hrel
    by_cases hlt : k < s.length
    · have hg := HG.out k (by omega)
      obtain ⟨bd, rfl, hcs⟩ := HS.out.at_ hlt
      have hi0 : (0 : Int) ≤ (k : Int) := by omega
      have hi1 : (k : Int) < 4 := by omega
      by_cases h0 : 0 < [a, b, c, d].getD k 0
      · obtain ⟨h1, h2, h3, h5, h6⟩ := HT.out k hlt (by omega) h0
        have H6 := Lib.hid h6
        clear h6
        generalize [a, b, c, d].getD k 0 = x at *
        generalize s.getD k 0 = y at *
        generalize V.cellP o s [a, b, c, d] k = r at *
        go_wp2_with fail
        go_round
        case rel => exact ⟨k + 1, by omega, by go_num, by rw [← H6.out]⟩
        case measure => simp [intOf]; omega
      · have H6 := Lib.hid (HW.out k (by omega))
        generalize [a, b, c, d].getD k 0 = x at *
        generalize s.getD k 0 = y at *
        generalize V.cellP o s [a, b, c, d] k = r at *
        go_wp2_with fail
        go_round
        case rel => exact ⟨k + 1, by omega, by go_num, by rw [← H6.out]⟩
        case measure => simp [intOf]; omega
    · obtain rfl : k = s.length := by omega
      go_wp2_with fail
      go_ret
      exact ⟨rfl, HB.out⟩
end Go.Proofs.Ytdaajncfhcpecaa
