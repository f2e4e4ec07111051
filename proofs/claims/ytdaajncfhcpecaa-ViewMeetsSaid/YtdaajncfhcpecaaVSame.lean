/- The walks of chapter 8's same, great and of. No condition. -/
import Derived.Test.YtdaajncfhcpecaaVCell
namespace Go.Proofs.Ytdaajncfhcpecaa
set_option linter.unusedVariables false
set_option linter.unusedSimpArgs false
open Go.RowKit
set_option maxHeartbeats 400000 in
theorem same_any (A A2 : Option Addr) (c c2 : Nat) (l s : List Int) (w : World) (hr : RI .i64 w A l) (hs : RI .i64 w A2 s) (hm : l.length ≤ 9223372036854775807) :
    Calls Try.prog 30 #[.slice A l.length c, .slice A2 s.length c2] w fun e w' => e = .returned (.bool (decide (l = s))) ∧ Drawn w w' := by
  have hr' := Lib.hid hr
  have hs' := Lib.hid hs
  clear hr hs
  have HF := Lib.hid (show l ≠ s → false = decide (l = s) from fun h => (decide_eq_false h).symm)
  have HT := Lib.hid (show l = s → true = decide (l = s) from fun h => (decide_eq_true h).symm)
  generalize decide (l = s) = R at *
  go_enter Try.func30, Try.ntmps30
  by_cases hl : l.length = s.length
  · have HL := Lib.hid hl
    have hnb : ((l.length : Int) != (s.length : Int)) = false := by simp [hl]
    have hnd : ((l.length : Int) == (s.length : Int)) = true := by simp [hl]
    have hne : decide ((l.length : Int) = (s.length : Int)) = true := by simp [hl]
    clear hl
    go_wp2
    go_loopw [5, 13] (fun _ i wr => ∃ k : Nat, k ≤ l.length ∧ i = .int .i64 k ∧ Hid (Drawn w wr) ∧ Hid (∀ j, j < k → l.getD j 0 = s.getD j 0)) (fun _ i _ => l.length - (intOf i).toNat)
    case atStart => exact ⟨0, by omega, rfl, Lib.hid (Drawn.refl _), Lib.hid fun j hj => absurd hj (by omega)⟩
    case round =>
      obtain ⟨k, hk, rfl, HD, HE⟩ := hrel
      by_cases hlt : k < l.length
      · have hks : k < s.length := by rw [← HL.out]; exact hlt
        obtain ⟨ad, rfl, hc⟩ := (hr'.out.drawn HD.out).at_ hlt
        obtain ⟨ad2, rfl, hc2⟩ := (hs'.out.drawn HD.out).at_ hks
        have HN := Lib.hid (show l.getD k 0 = s.getD k 0 → ∀ j, j < k + 1 → l.getD j 0 = s.getD j 0 from fun h j hj => by
          by_cases e : j = k
          · rw [e]; exact h
          · exact HE.out j (by omega))
        have HX := Lib.hid (show l.getD k 0 ≠ s.getD k 0 → l ≠ s from fun h e => h (by rw [e]))
        generalize l.getD k 0 = x at *
        generalize s.getD k 0 = y at *
        have hi0 : (0 : Int) ≤ (k : Int) := by omega
        have hi1 : (k : Int) < (l.length : Int) := by omega
        have hi2 : (k : Int) < (s.length : Int) := by omega
        by_cases hxy : x = y
        · subst hxy
          go_wp2
          go_quiet (fail)
          go_wp2
          go_roundw
          case rel => exact ⟨k + 1, by omega, by go_num, Lib.hid (HD.out.step _), Lib.hid (HN.out (by trivial))⟩
          case measure => simp [intOf]; omega
        · have hb : (x != y) = true := by simp [hxy]
          have hd : (x == y) = false := by simp [hxy]
          have HR := Lib.hid (HF.out (HX.out hxy))
          clear hxy
          go_wp2
          go_quiet (fail)
          go_wp2
          go_ret
          exact ⟨ret_bool HR.out, HD.out.step _⟩
      · have HR := Lib.hid (HT.out (by
          apply List.ext_getElem HL.out
          intro i h1 h2
          have := HE.out i (by omega)
          rw [List.getD_eq_getElem?_getD, List.getD_eq_getElem?_getD, List.getElem?_eq_getElem h1, List.getElem?_eq_getElem h2] at this
          exact this))
        go_wp2
        go_ret
        exact ⟨ret_bool HR.out, HD.out⟩
  · have hnb : ((l.length : Int) != (s.length : Int)) = true := by simp; omega
    have hnd : ((l.length : Int) == (s.length : Int)) = false := by simp; omega
    have hne : decide ((l.length : Int) = (s.length : Int)) = false := by simp; omega
    have HR := Lib.hid (HF.out (fun e => hl (by rw [e])))
    clear hl
    go_wp2
    go_ret
    exact ⟨ret_bool HR.out, Drawn.refl _⟩
theorem great_any (o : Int) (A B : Option Addr) (n c m d : Nat) (w : World) :
    Calls Try.prog 26 #[.agg (view o A n c B m d)] w fun e w' => e = .returned (.bool (decide (20 < n ∨ 20 < m))) ∧ Below w.heap.size w w' := by
  have HB := Lib.hid ((Below.refl w.heap.size w).alloc (Nat.le_refl _) (.cells (view o A n c B m d) 47))
  go_enter Try.func26, Try.ntmps26
  by_cases h1 : 20 < n
  · have hb : decide ((20 : Int) < (n : Int)) = true := by simp; omega
    have HR := Lib.hid (show true = decide (20 < n ∨ 20 < m) by simp; omega)
    generalize decide (20 < n ∨ 20 < m) = R at *
    clear h1
    go_wp2
    go_ret
    exact ⟨ret_bool HR.out, HB.out⟩
  · have hb : decide ((20 : Int) < (n : Int)) = false := by simp; omega
    by_cases h2 : 20 < m
    · have hb2 : decide ((20 : Int) < (m : Int)) = true := by simp; omega
      have HR := Lib.hid (show true = decide (20 < n ∨ 20 < m) by simp; omega)
      generalize decide (20 < n ∨ 20 < m) = R at *
      clear h1 h2
      go_wp2
      go_ret
      exact ⟨ret_bool HR.out, HB.out⟩
    · have hb2 : decide ((20 : Int) < (m : Int)) = false := by simp; omega
      have HR := Lib.hid (show false = decide (20 < n ∨ 20 < m) by simp; omega)
      generalize decide (20 < n ∨ 20 < m) = R at *
      clear h1 h2
      go_wp2
      go_ret
      exact ⟨ret_bool HR.out, HB.out⟩
theorem of_any (o : Int) (A B : Option Addr) (n c m d : Nat) (w : World) :
    Calls Try.prog 27 #[.agg (view o A n c B m d)] w fun e w' => e = .returned (.agg (view o A n c B m d)) ∧ Below w.heap.size w w' := by
  have HB := Lib.hid (show Below w.heap.size w ((w.alloc (.cells (view o A n c B m d) 47)).alloc (.cells (view o A n c B m d) 49)) from ((Below.refl _ _).alloc (Nat.le_refl _) _).alloc (by simp) _)
  have Z := Blk.new (w.alloc (.cells (view o A n c B m d) 47)) 49 (view o A n c B m d)
  rw [World.size_alloc] at Z
  have d0 := Z.cell 0
  have d1 := Z.cell 1
  have d2 := Z.cell 2
  clear Z
  go_enter Try.func27, Try.ntmps27
  go_wp2
  exact bodyPost_ret (v := .agg (view o A n c B m d)) (by simp [results, Try.results27, go_sem, d0, d1, d2]) rfl ⟨rfl, HB.out⟩
end Go.Proofs.Ytdaajncfhcpecaa
