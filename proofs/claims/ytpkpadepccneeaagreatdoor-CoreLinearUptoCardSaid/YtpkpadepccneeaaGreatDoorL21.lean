/- The walks of chapter 8's small functions: cut, Cell, near, cell. No condition. -/
import Derived.Test.YtpkpadepccneeaaGreatDoorL17
import Derived.Test.YtpkpadepccneeaaGreatDoorL19
namespace Go.Proofs.YtpkpadepccneeaaGreatDoor.W
set_option maxRecDepth 100000
set_option linter.unusedVariables false
set_option linter.unusedSimpArgs false
open Go.RowKit
theorem cut_any (n : Int) (w : World) : Calls Tryz.prog 86 #[.int .i64 n] w fun e w' => e = .returned (.int .i64 (V.cut n)) ∧ w = w' := by
  have HC := Lib.hid (show V.cut n = if 1099511627776 < n then 1099511627776 else if n < -1099511627776 then -1099511627776 else n from rfl)
  generalize V.cut n = c at *
  go_enter Tryz.func86, Tryz.ntmps86
  by_cases h1 : 1099511627776 < n
  · have h2 := HC.out
    rw [if_pos h1] at h2
    have h2' := Lib.hid h2
    clear HC h2
    go_wp2_with fail
    go_ret
    exact ⟨ret_int h2'.out.symm, rfl⟩
  by_cases h3 : n < -1099511627776
  · have h2 := HC.out
    rw [if_neg h1, if_pos h3] at h2
    have h2' := Lib.hid h2
    clear HC h2
    go_wp2_with fail
    go_ret
    exact ⟨ret_int h2'.out.symm, rfl⟩
  · have h2 := HC.out
    rw [if_neg h1, if_neg h3] at h2
    have h2' := Lib.hid h2
    clear HC h2
    go_wp2_with fail
    go_ret
    exact ⟨ret_int h2'.out.symm, rfl⟩
/-- A view as a value. -/
abbrev view (o : Int) (A : Option Addr) (n c : Nat) (B : Option Addr) (m d : Nat) : Array Value := #[.int .i64 o, .slice A n c, .slice B m d]
set_option maxHeartbeats 1000000 in
theorem near_any (o : Int) (A B : Option Addr) (cp cq : Nat) (l s : List Int) (c : Int) (w : World) (hr : RI .i64 w A l) (hs : RI .i64 w B s) (hls : s.length = l.length) (hm : s.length ≤ 9223372036854775807) (h0 : 0 ≤ c) (h1 : c ≤ 4096) :
    Calls Tryz.prog 129 #[.agg (view o A l.length cp B s.length cq), .int .i64 c] w fun e w' => e = .returned (.bool (V.nearB o l s c)) ∧ Below w.heap.size w w' := by
  have HB := Lib.hid ((Below.refl w.heap.size w).alloc (Nat.le_refl _) (.cells (view o A l.length cp B s.length cq) 41))
  have HR := Lib.hid (hr.below HB.out)
  have HS := Lib.hid (hs.below HB.out)
  have HK := Lib.hid (Blk.new w 41 (view o A l.length cp B s.length cq))
  have HN := Lib.hid (show ∀ r, (∀ k, k < s.length → V.nearAt l s c k) → 0 ≤ o → o < c → r = true → r = V.nearB o l s c from fun r h h0 h1 e => e.trans (V.nearB_true ⟨h0, h1, h⟩).symm)
  have HF := Lib.hid (show ¬ V.near o l s c → false = V.nearB o l s c from fun h => (V.nearB_false h).symm)
  have HF1 := Lib.hid (show ∀ k, k < s.length → ¬ V.nearAt l s c k → false = V.nearB o l s c from fun k hk h => (V.nearB_false fun hn => h (hn.2.2 k hk)).symm)
  have HLS := Lib.hid hls
  clear hr hs hls
  go_enter Tryz.func129, Tryz.ntmps129
  by_cases ho : o < 0
  · have hf := Lib.hid (HF.out (fun h => by have := h.1; omega))
    go_wp2_with fail
    go_ret
    exact ⟨ret_bool hf.out, HB.out⟩
  by_cases ho2 : c ≤ o
  · have hf := Lib.hid (HF.out (fun h => by have := h.2.1; omega))
    go_wp2_with fail
    go_ret
    exact ⟨ret_bool hf.out, HB.out⟩
  have hob : (decide (c ≤ o)) = false := by simp; omega
  go_wp2_with fail
  go_loop [19] (fun i => ∃ k : Nat, k ≤ s.length ∧ i = .int .i64 k ∧ Hid (∀ j, j < k → V.nearAt l s c j)) (fun i => s.length - (intOf i).toNat)
  case atStart => exact ⟨0, by omega, rfl, Lib.hid fun j hj => absurd hj (by omega)⟩
  case round =>
    obtain ⟨k, hk, rfl, HP⟩ := hrel
    by_cases hlt : k < s.length
    · obtain ⟨bd, rfl, hcs⟩ := HS.out.at_ hlt
      have hkl : k < l.length := by rw [← HLS.out]; exact hlt
      obtain ⟨ad, rfl, hcl⟩ := HR.out.at_ hkl
      have hfar := Lib.hid (HF1.out k hlt)
      have hnx := Lib.hid (show V.nearAt l s c k → ∀ j, j < k + 1 → V.nearAt l s c j from fun h j hj => by
        by_cases e : j = k
        · rw [e]; exact h
        · exact HP.out j (by omega))
      have hdef : V.nearAt l s c k = ¬ (1 < l.getD k 0 ∧ (s.getD k 0 ≤ -c ∨ c ≤ s.getD k 0)) := rfl
      rw [hdef] at hfar hnx
      clear hdef HF HF1
      generalize l.getD k 0 = x at *
      generalize s.getD k 0 = y at *
      have c1 := HK.out.cell 1
      by_cases hx : 1 < x
      · by_cases hy : y ≤ -c
        · have hf := Lib.hid (hfar.out (fun h => h ⟨hx, .inl hy⟩))
          go_wp2_with fail
          go_ret
          exact ⟨ret_bool hf.out, HB.out⟩
        · by_cases hy2 : c ≤ y
          · have hf := Lib.hid (hfar.out (fun h => h ⟨hx, .inr hy2⟩))
            go_wp2_with fail
            go_ret
            exact ⟨ret_bool hf.out, HB.out⟩
          · have hn := Lib.hid (hnx.out (fun h => by omega))
            go_wp2_with fail
            go_round
            case rel => exact ⟨k + 1, by omega, by go_num, hn⟩
            case measure => simp [intOf]; omega
      · have hn := Lib.hid (hnx.out (fun h => by omega))
        go_wp2_with fail
        go_round
        case rel => exact ⟨k + 1, by omega, by go_num, hn⟩
        case measure => simp [intOf]; omega
    · have ht := Lib.hid (HN.out true (fun j hj => HP.out j (by omega)) (by omega) (by omega) rfl)
      go_wp2_with fail
      go_ret
      exact ⟨ret_bool ht.out, HB.out⟩
end Go.Proofs.YtpkpadepccneeaaGreatDoor.W

/- The walks of chapter 8's cell of an index: the reference's and the program's. No condition. -/
namespace Go.Proofs.YtpkpadepccneeaaGreatDoor.W
set_option maxRecDepth 100000
set_option linter.unusedVariables false
set_option linter.unusedSimpArgs false
open Go.RowKit
set_option maxHeartbeats 1000000 in
theorem Cell_any (o : Int) (A B : Option Addr) (cp cq : Nat) (l s : List Int) (a b c d : Int) (w : World) (hs : RI .i64 w B s) (hls : s.length = l.length) (h4 : l.length ≤ 4) (hi : ∀ k, 0 ≤ [a, b, c, d].getD k 0 ∧ [a, b, c, d].getD k 0 ≤ 4096) :
    Calls Tryz.prog 43 #[.agg (view o A l.length cp B s.length cq), .agg (four a b c d)] w fun e w' => e = .returned (.int .i64 (V.cellR o s [a, b, c, d] s.length)) ∧ Below w.heap.size w w' := by
  have Z1 := Blk.new w 29 (view o A l.length cp B s.length cq)
  have Z2 := Blk.new (w.alloc (.cells (view o A l.length cp B s.length cq) 29)) 116 (four a b c d)
  rw [World.size_alloc] at Z2
  have H1 := Lib.hid (Z1.alloc (.cells (four a b c d) 116))
  have H2 := Lib.hid Z2
  have HB := Lib.hid (show Below w.heap.size w ((w.alloc (.cells (view o A l.length cp B s.length cq) 29)).alloc (.cells (four a b c d) 116)) from ((Below.refl _ _).alloc (Nat.le_refl _) _).alloc (by simp) _)
  have HS := Lib.hid (hs.below HB.out)
  have C := Lib.hid fun (n : Int) (W : World) => cut_any n W
  have HG := Lib.hid fun (k : Nat) (hk : k < 4) => (H2.out.cell k).trans (four_get a b c d k hk)
  have HT := Lib.hid (V.cellR_step o s [a, b, c, d] hi)
  have HZ := Lib.hid (show V.cellR o s [a, b, c, d] 0 = V.cut o by simp [V.cellR, V.sumR])
  have HLS := Lib.hid hls
  clear hs hi Z1 Z2 hls
  have h4s : s.length ≤ 4 := by rw [HLS.out]; exact h4
  go_enter Tryz.func43, Tryz.ntmps43
  go_wp2_with fail
  with_reducible refine (C.out _ _).mono ?_
  rintro e w' ⟨rfl, rfl⟩
  go_wp2_with fail
  go_loopw [5, 13] (fun n j wr => ∃ (k m : Nat), k ≤ s.length ∧ j = .int .i64 k ∧ n = .int .i64 (V.cellR o s [a, b, c, d] k) ∧ wr = ((w.alloc (.cells (view o A l.length cp B s.length cq) 29)).alloc (.cells (four a b c d) 116)).drewN m) (fun _ j _ => s.length - (intOf j).toNat)
  case atStart => exact ⟨0, 0, by omega, rfl, by rw [HZ.out], rfl⟩
  case round =>
    obtain ⟨k, m, hk, rfl, rfl, rfl⟩ := hrel
    by_cases hlt : k < s.length
    · have hkl : k < l.length := by rw [← HLS.out]; exact hlt
      have hg := HG.out k (by omega)
      obtain ⟨h1, h2, h3, h5, h6⟩ := HT.out k (by omega)
      have H6 := Lib.hid h6
      obtain ⟨bd, rfl, hcs⟩ := HS.out.at_ hlt
      have c47 := H1.out.cell 2
      clear h6
      generalize [a, b, c, d].getD k 0 = x at *
      generalize s.getD k 0 = y at *
      have C5 := Lib.hid fun (n : Nat) => C.out y (((w.alloc (.cells (view o A l.length cp (some bd) s.length cq) 29)).alloc (.cells (four a b c d) 116)).drewN n)
      generalize V.cut y = z at *
      generalize V.cellR o s [a, b, c, d] k = r at *
      have hi0 : (0 : Int) ≤ (k : Int) := by omega
      have hi1 : (k : Int) < 4 := by omega
      go_wp2_with fail
      go_quiet ((go_at_call 86; exact quietN (C5.out _)))
      go_wp2_with fail
      go_roundw
      case rel => exact ⟨k + 1, _, by omega, by go_num, by rw [← H6.out], rfl⟩
      case measure => simp [intOf]; omega
    · obtain rfl : k = s.length := by omega
      have hkl : ¬ (s.length : Int) < (l.length : Int) := by rw [HLS.out]; omega
      go_wp2_with fail
      go_ret
      exact ⟨rfl, below_drewN HB.out m⟩
set_option maxHeartbeats 1000000 in
theorem cell_any (o : Int) (A B : Option Addr) (cp cq : Nat) (l s : List Int) (cs a b c d : Int) (w : World) (hs : RI .i64 w B s) (h4 : s.length ≤ 4) (hc : 0 ≤ cs) (hc2 : cs ≤ 4096) (hn : V.near o l s cs)
    (hi : ∀ k, 0 ≤ [a, b, c, d].getD k 0 ∧ [a, b, c, d].getD k 0 ≤ 4096) (hil : ∀ k, k < s.length → 0 < [a, b, c, d].getD k 0 → 1 < l.getD k 0) :
    Calls Tryz.prog 79 #[.agg (view o A l.length cp B s.length cq), .agg (four a b c d)] w fun e w' => e = .returned (.int .i64 (V.cellP o s [a, b, c, d] s.length)) ∧ Below w.heap.size w w' := by
  have Z1 := Blk.new w 41 (view o A l.length cp B s.length cq)
  have Z2 := Blk.new (w.alloc (.cells (view o A l.length cp B s.length cq) 41)) 170 (four a b c d)
  rw [World.size_alloc] at Z2
  have H1 := Lib.hid (Z1.alloc (.cells (four a b c d) 170))
  have H2 := Lib.hid Z2
  have HB := Lib.hid (show Below w.heap.size w ((w.alloc (.cells (view o A l.length cp B s.length cq) 41)).alloc (.cells (four a b c d) 170)) from ((Below.refl _ _).alloc (Nat.le_refl _) _).alloc (by simp) _)
  have HS := Lib.hid (hs.below HB.out)
  have HG := Lib.hid fun (k : Nat) (hk : k < 4) => (H2.out.cell k).trans (four_get a b c d k hk)
  have HT := Lib.hid (V.cellP_step o l s [a, b, c, d] cs hc hc2 hn hi hil)
  have HW := Lib.hid (V.cellP_skip o s [a, b, c, d])
  have HZ := Lib.hid (show V.cellP o s [a, b, c, d] 0 = o by simp [V.cellP, V.sumP])
  clear hs hi Z1 Z2 hil hn
  go_enter Tryz.func79, Tryz.ntmps79
  go_wp2_with fail
  go_loop [5, 13] (fun n j => ∃ k : Nat, k ≤ s.length ∧ j = .int .i64 k ∧ n = .int .i64 (V.cellP o s [a, b, c, d] k)) (fun _ j => s.length - (intOf j).toNat)
  case atStart => exact ⟨0, by omega, rfl, by rw [HZ.out]⟩
  case round =>
    obtain ⟨k, hk, rfl, rfl⟩ := hrel
    by_cases hlt : k < s.length
    · have hg := HG.out k (by omega)
      obtain ⟨bd, rfl, hcs⟩ := HS.out.at_ hlt
      have hi0 : (0 : Int) ≤ (k : Int) := by omega
      have hi1 : (k : Int) < 4 := by omega
      by_cases h0 : 0 < [a, b, c, d].getD k 0
      · obtain ⟨h1, h2, h3, h5, h6⟩ := HT.out k hlt (by omega) h0
        have H6 := Lib.hid h6
        clear h6
        generalize [a, b, c, d].getD k 0 = x at *
        generalize s.getD k 0 = y at *
        generalize V.cellP o s [a, b, c, d] k = r at *
        go_wp2_with fail
        go_round
        case rel => exact ⟨k + 1, by omega, by go_num, by rw [← H6.out]⟩
        case measure => simp [intOf]; omega
      · have H6 := Lib.hid (HW.out k (by omega))
        generalize [a, b, c, d].getD k 0 = x at *
        generalize s.getD k 0 = y at *
        generalize V.cellP o s [a, b, c, d] k = r at *
        go_wp2_with fail
        go_round
        case rel => exact ⟨k + 1, by omega, by go_num, by rw [← H6.out]⟩
        case measure => simp [intOf]; omega
    · obtain rfl : k = s.length := by omega
      go_wp2_with fail
      go_ret
      exact ⟨rfl, HB.out⟩
end Go.Proofs.YtpkpadepccneeaaGreatDoor.W
