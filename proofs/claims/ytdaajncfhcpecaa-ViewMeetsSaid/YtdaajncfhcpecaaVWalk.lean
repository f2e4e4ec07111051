/- The walks of chapter 8's small functions: cut, Cell, near, cell. No condition. -/
import Derived.Test.YtdaajncfhcpecaaVMath
import Derived.Test.YtdaajncfhcpecaaRefAt
namespace Go.Proofs.Ytdaajncfhcpecaa
set_option linter.unusedVariables false
set_option linter.unusedSimpArgs false
open Go.RowKit
theorem cut_any (n : Int) (w : World) : Calls Try.prog 49 #[.int .i64 n] w fun e w' => e = .returned (.int .i64 (V.cut n)) ∧ w = w' := by
  have HC := Lib.hid (show V.cut n = if 1099511627776 < n then 1099511627776 else if n < -1099511627776 then -1099511627776 else n from rfl)
  generalize V.cut n = c at *
  go_enter Try.func49, Try.ntmps49
  by_cases h1 : 1099511627776 < n
  · have h2 := HC.out
    rw [if_pos h1] at h2
    have h2' := Lib.hid h2
    clear HC h2
    go_wp2_with fail
    go_ret
    exact ⟨ret_int h2'.out.symm, rfl⟩
  by_cases h3 : n < -1099511627776
  · have h2 := HC.out
    rw [if_neg h1, if_pos h3] at h2
    have h2' := Lib.hid h2
    clear HC h2
    go_wp2_with fail
    go_ret
    exact ⟨ret_int h2'.out.symm, rfl⟩
  · have h2 := HC.out
    rw [if_neg h1, if_neg h3] at h2
    have h2' := Lib.hid h2
    clear HC h2
    go_wp2_with fail
    go_ret
    exact ⟨ret_int h2'.out.symm, rfl⟩
/-- A view as a value. -/
abbrev view (o : Int) (A : Option Addr) (n c : Nat) (B : Option Addr) (m d : Nat) : Array Value := #[.int .i64 o, .slice A n c, .slice B m d]
set_option maxHeartbeats 1000000 in
theorem near_any (o : Int) (A B : Option Addr) (cp cq : Nat) (l s : List Int) (c : Int) (w : World) (hr : RI .i64 w A l) (hs : RI .i64 w B s) (hls : s.length = l.length) (hm : s.length ≤ 9223372036854775807) (h0 : 0 ≤ c) (h1 : c ≤ 4096) :
    Calls Try.prog 44 #[.agg (view o A l.length cp B s.length cq), .int .i64 c] w fun e w' => e = .returned (.bool (V.nearB o l s c)) ∧ Below w.heap.size w w' := by
  have HB := Lib.hid ((Below.refl w.heap.size w).alloc (Nat.le_refl _) (.cells (view o A l.length cp B s.length cq) 49))
  have HR := Lib.hid (hr.below HB.out)
  have HS := Lib.hid (hs.below HB.out)
  have HK := Lib.hid (Blk.new w 49 (view o A l.length cp B s.length cq))
  have HN := Lib.hid (show ∀ r, (∀ k, k < s.length → V.nearAt l s c k) → 0 ≤ o → o < c → r = true → r = V.nearB o l s c from fun r h h0 h1 e => e.trans (V.nearB_true ⟨h0, h1, h⟩).symm)
  have HF := Lib.hid (show ¬ V.near o l s c → false = V.nearB o l s c from fun h => (V.nearB_false h).symm)
  have HF1 := Lib.hid (show ∀ k, k < s.length → ¬ V.nearAt l s c k → false = V.nearB o l s c from fun k hk h => (V.nearB_false fun hn => h (hn.2.2 k hk)).symm)
  have HLS := Lib.hid hls
  clear hr hs hls
  go_enter Try.func44, Try.ntmps44
  by_cases ho : o < 0
  · have hf := Lib.hid (HF.out (fun h => by have := h.1; omega))
    go_wp2_with fail
    go_ret
    exact ⟨ret_bool hf.out, HB.out⟩
  by_cases ho2 : c ≤ o
  · have hf := Lib.hid (HF.out (fun h => by have := h.2.1; omega))
    go_wp2_with fail
    go_ret
    exact ⟨ret_bool hf.out, HB.out⟩
  have hob : (decide (c ≤ o)) = false := by simp; omega
  go_wp2_with fail
  go_loop [19] (fun i => ∃ k : Nat, k ≤ s.length ∧ i = .int .i64 k ∧ Hid (∀ j, j < k → V.nearAt l s c j)) (fun i => s.length - (intOf i).toNat)
  case atStart => exact ⟨0, by omega, rfl, Lib.hid fun j hj => absurd hj (by omega)⟩
  case round =>
    obtain ⟨k, hk, rfl, HP⟩ := hrel
    by_cases hlt : k < s.length
    · obtain ⟨bd, rfl, hcs⟩ := HS.out.at_ hlt
      have hkl : k < l.length := by rw [← HLS.out]; exact hlt
      obtain ⟨ad, rfl, hcl⟩ := HR.out.at_ hkl
      have hfar := Lib.hid (HF1.out k hlt)
      have hnx := Lib.hid (show V.nearAt l s c k → ∀ j, j < k + 1 → V.nearAt l s c j from fun h j hj => by
        by_cases e : j = k
        · rw [e]; exact h
        · exact HP.out j (by omega))
      have hdef : V.nearAt l s c k = ¬ (1 < l.getD k 0 ∧ (s.getD k 0 ≤ -c ∨ c ≤ s.getD k 0)) := rfl
      rw [hdef] at hfar hnx
      clear hdef HF HF1
      generalize l.getD k 0 = x at *
      generalize s.getD k 0 = y at *
      have c1 := HK.out.cell 1
      by_cases hx : 1 < x
      · by_cases hy : y ≤ -c
        · have hf := Lib.hid (hfar.out (fun h => h ⟨hx, .inl hy⟩))
          go_wp2_with fail
          go_ret
          exact ⟨ret_bool hf.out, HB.out⟩
        · by_cases hy2 : c ≤ y
          · have hf := Lib.hid (hfar.out (fun h => h ⟨hx, .inr hy2⟩))
            go_wp2_with fail
            go_ret
            exact ⟨ret_bool hf.out, HB.out⟩
          · have hn := Lib.hid (hnx.out (fun h => by omega))
            go_wp2_with fail
            go_round
            case rel => exact ⟨k + 1, by omega, by go_num, hn⟩
            case measure => simp [intOf]; omega
      · have hn := Lib.hid (hnx.out (fun h => by omega))
        go_wp2_with fail
        go_round
        case rel => exact ⟨k + 1, by omega, by go_num, hn⟩
        case measure => simp [intOf]; omega
    · have ht := Lib.hid (HN.out true (fun j hj => HP.out j (by omega)) (by omega) (by omega) rfl)
      go_wp2_with fail
      go_ret
      exact ⟨ret_bool ht.out, HB.out⟩
end Go.Proofs.Ytdaajncfhcpecaa
