/- The walks of the reference's Is, Number and At of chapter 7; At where there is no index. No condition. -/
import Derived.Test.YtpkpadepccneeaaGreatDoorL18
import Derived.StillTailTactics
import Derived.Test.YtpkpadepccneeaaGreatDoorL17
namespace Go.Proofs.YtpkpadepccneeaaGreatDoor.W
set_option maxRecDepth 100000
set_option linter.unusedVariables false
set_option linter.unusedSimpArgs false
open Go.RowKit
theorem flipw {P : Program} {f : FuncId} {args : Array Value} {w : World} {v : Value}
    (h : Calls P f args w fun e w' => e = .returned v ∧ w = w') : Calls P f args w fun e w'' => e = .returned v ∧ w'' = w :=
  h.mono fun _ _ ⟨he, hm⟩ => ⟨he, hm.symm⟩
theorem index32_0 (a b c d : Int) (w : World) : (Instr.index 116 (.agg #[.int .i64 a, .int .i64 b, .int .i64 c, .int .i64 d]) (.int .i64 0)).run Tryz.prog w = .ok (.int .i64 a) w := by kernel_rfl
theorem index32_1 (a b c d : Int) (w : World) : (Instr.index 116 (.agg #[.int .i64 a, .int .i64 b, .int .i64 c, .int .i64 d]) (.int .i64 1)).run Tryz.prog w = .ok (.int .i64 b) w := by kernel_rfl
theorem index32_2 (a b c d : Int) (w : World) : (Instr.index 116 (.agg #[.int .i64 a, .int .i64 b, .int .i64 c, .int .i64 d]) (.int .i64 2)).run Tryz.prog w = .ok (.int .i64 c) w := by kernel_rfl
theorem index32_3 (a b c d : Int) (w : World) : (Instr.index 116 (.agg #[.int .i64 a, .int .i64 b, .int .i64 c, .int .i64 d]) (.int .i64 3)).run Tryz.prog w = .ok (.int .i64 d) w := by kernel_rfl
theorem index32 (a b c d : Int) (k : Nat) (hk : k < 4) (w : World) : (Instr.index 116 (.agg #[.int .i64 a, .int .i64 b, .int .i64 c, .int .i64 d]) (.int .i64 (k : Int))).run Tryz.prog w = .ok (.int .i64 ([a, b, c, d].getD k 0)) w :=
  match k, hk with
  | 0, _ => index32_0 a b c d w
  | 1, _ => index32_1 a b c d w
  | 2, _ => index32_2 a b c d w
  | 3, _ => index32_3 a b c d w
end Go.Proofs.YtpkpadepccneeaaGreatDoor.W

/- Plain mathematics of chapter 7, second part: an index filled from its beginning. No program in it. No condition. -/
namespace Go.Proofs.YtpkpadepccneeaaGreatDoor.W.S
set_option maxRecDepth 100000
set_option linter.unusedVariables false
set_option linter.unusedSimpArgs false
/-- An index as it is filled: before k. -/
def frontAt (l : List Int) (n : Int) (k : Nat) : List Int := (List.range 4).map fun i => if i < k then (pad (atL l n)).getD i 0 else 0
theorem frontAt_length (l : List Int) (n : Int) (j : Nat) : (frontAt l n j).length = 4 := by simp [frontAt]
theorem frontAt_getD (l : List Int) (n : Int) (j : Nat) {i : Nat} (h : i < 4) : (frontAt l n j).getD i 0 = if i < j then (pad (atL l n)).getD i 0 else 0 := by
  simp [frontAt, h]
theorem zeros_getD {i : Nat} (hi : i < 4) : ([0, 0, 0, 0] : List Int).getD i 0 = 0 := by
  match i, hi with
  | 0, _ => rfl
  | 1, _ => rfl
  | 2, _ => rfl
  | 3, _ => rfl
theorem frontAt_zero (l : List Int) (n : Int) : frontAt l n 0 = [0, 0, 0, 0] := by
  refine four_ext (frontAt_length ..) rfl fun i hi => ?_
  rw [frontAt_getD l n _ hi, zeros_getD hi, if_neg (by omega)]
theorem frontAt_full (l : List Int) (n : Int) (h : l.length ≤ 4) : frontAt l n l.length = pad (atL l n) := by
  refine four_ext (frontAt_length ..) (pad_length (by rw [atL_length]; exact h)) fun i hi => ?_
  rw [frontAt_getD l n _ hi]
  by_cases hl : i < l.length
  · rw [if_pos hl]
  · rw [if_neg hl, pad_getD (by rw [atL_length]; omega)]
theorem frontAt_set (l : List Int) (n : Int) (k : Nat) (hk : k < l.length) (h4 : l.length ≤ 4) : (frontAt l n k).set k (n / stride l k % l.getD k 0) = frontAt l n (k + 1) := by
  refine four_ext (by simp [frontAt]) (frontAt_length ..) fun i hi => ?_
  rw [frontAt_getD l n _ hi]
  by_cases e : k = i
  · subst e
    rw [if_pos (by omega), pad_getD_lt (by rw [atL_length]; exact hk), atL_getD l n k hk]
    simp [List.getD_eq_getElem?_getD, frontAt_length, show k < 4 by omega]
  · have h5 : ((frontAt l n k).set k (n / stride l k % l.getD k 0)).getD i 0 = (frontAt l n k).getD i 0 := by
      simp [List.getD_eq_getElem?_getD, List.getElem?_set_ne e]
    rw [h5, frontAt_getD l n _ hi]
    by_cases h6 : i < k
    · rw [if_pos h6, if_pos (by omega)]
    · rw [if_neg h6, if_neg (by omega)]
end Go.Proofs.YtpkpadepccneeaaGreatDoor.W.S

/- The walk of the reference's At of chapter 7. No condition. -/
namespace Go.Proofs.YtpkpadepccneeaaGreatDoor.W
set_option maxRecDepth 100000
set_option linter.unusedVariables false
set_option linter.unusedSimpArgs false
open Go.RowKit
set_option maxHeartbeats 1000000 in
theorem refAt_any (A : Option Addr) (cp : Nat) (l : List Int) (n a b c d : Int) (w : World) (hr : RI .i64 w A l) (hcap : l.length ≤ cp) (hok : S.Ok l) (h0 : 0 ≤ n) (h1 : n ≤ 9223372036854775807) (hx : S.pad (S.atL l n) = [a, b, c, d]) :
    Calls Tryz.prog 44 #[.slice A l.length cp, .int .i64 n] w fun e w' => e = .returned (.agg (four a b c d)) ∧ Below w.heap.size w w' := by
  have hl := hok.1
  have HB := Lib.hid fun (o : Obj) => (Below.refl w.heap.size w).alloc (Nat.le_refl _) o
  have hr' := Lib.hid hr
  have HK := Lib.hid hok
  have HX := Lib.hid hx
  have C := Lib.hid fun (k : Nat) (W : World) (h : RI .i64 W A l) (hk : k < l.length) => flipw (Stride_any A cp l k W h hcap hok hk)
  clear hr hok hx
  have B4 : Blk ((w.alloc (.cells (four 0 0 0 0) 116)).alloc (.cells (four 0 0 0 0) 116)) w.heap.size 116 (four 0 0 0 0) := (Blk.new w 116 _).alloc _
  have B8 : Blk ((w.alloc (.cells (four 0 0 0 0) 116)).alloc (.cells (four 0 0 0 0) 116)) (w.heap.size + 1) 116 (four 0 0 0 0) := by
    have h := Blk.new (w.alloc (.cells (four 0 0 0 0) 116)) 116 (four 0 0 0 0)
    rw [World.size_alloc] at h
    exact h
  have HB4 := Lib.hid B4
  have HB8 := Lib.hid B8
  have HB2 := Lib.hid (show Below w.heap.size w ((w.alloc (.cells (four 0 0 0 0) 116)).alloc (.cells (four 0 0 0 0) 116)) from (HB.out _).alloc (by simp) _)
  clear B4 B8
  go_enter Tryz.func44, Tryz.ntmps44
  go_wp2_with fail
  go_loopw [9] (fun i wr => ∃ (k : Nat) (x y z u : Int), k ≤ l.length ∧ i = .int .i64 k ∧ Hid ([x, y, z, u] = S.frontAt l n k) ∧ Hid (Blk wr w.heap.size 116 (four 0 0 0 0)) ∧ Hid (Blk wr (w.heap.size + 1) 116 (four x y z u)) ∧ Hid (Below w.heap.size w wr)) (fun i _ => l.length - (intOf i).toNat)
  case atStart => exact ⟨0, 0, 0, 0, 0, by omega, rfl, Lib.hid (S.frontAt_zero l n).symm, HB4, HB8, HB2⟩
  case round =>
    obtain ⟨k, x, y, z, u, hj, rfl, HF, H4, H8, HBW⟩ := hrel
    by_cases hk : k < l.length
    · obtain ⟨ad, rfl, hcl⟩ := (hr'.out.below HBW.out).at_ hk
      have hr1 := HK.out.2.1 _ (S.getD_mem hk)
      have hq1 : 1 ≤ S.stride l k := S.prod_drop_pos l (k + 1) HK.out.2.1
      have hdv : 0 ≤ n / S.stride l k := Int.ediv_nonneg h0 (by omega)
      have hdv2 : n / S.stride l k ≤ n := Int.ediv_le_self _ h0
      have hc8 := (H8.out.cell k).trans (four_get x y z u k (by omega))
      have hf8 := H8.out.frozen k
      have hset := four_set (S.frontAt l n k) x y z u HF.out k (by omega) (n / S.stride l k % l.getD k 0)
      rw [S.frontAt_set l n k hk hl] at hset
      obtain ⟨x', y', z', u', hs1, hs2⟩ := hset
      have hwr : RI .i64 wr (some ad) l := hr'.out.below HBW.out
      have C5 := Lib.hid (C.out k wr.drew hwr hk)
      have h8 := H8.out.set_ k (.int .i64 (n / S.stride l k % l.getD k 0))
      rw [hs1] at h8
      have h4 := H4.out.far (p := ⟨w.heap.size + 1, k, none⟩) (by simp) (.int .i64 (n / S.stride l k % l.getD k 0))
      have hbw := HBW.out.setCell (p := ⟨w.heap.size + 1, k, none⟩) (by simp) (.int .i64 (n / S.stride l k % l.getD k 0))
      have H8' := Lib.hid h8
      have H4' := Lib.hid h4
      have HBW' := Lib.hid hbw
      have HF' := Lib.hid hs2
      clear hs1 hs2 h8 h4 hbw hwr
      generalize [x, y, z, u].getD k 0 = old at *
      generalize l.getD k 0 = s at *
      generalize S.stride l k = q at *
      have hi0 : (0 : Int) ≤ (k : Int) := by omega
      have hi1 : (k : Int) < (l.length : Int) := by omega
      have hi2 : (k : Int) < 4 := by omega
      go_wp2_with fail
      go_still_tail 12, (by kernel_rfl)
      still_call C5.out
      have hq0 : (q = 0) = False := eq_false (by omega)
      have hs0 : (s = 0) = False := eq_false (by omega)
      have htd : IntKind.i64.wrap (n.tdiv q) = n / q := by rw [Int.tdiv_eq_ediv_of_nonneg h0, IntKind.wrap_i64]; omega
      have htm : (n / q).tmod s = n / q % s := Int.tmod_eq_emod_of_nonneg hdv
      repeat still_step
      refine wpStill_nil ?_
      clear hq0 hs0 htd htm
      change wpList _ _ _ _ _ wr.drew
      go_wp2_with fail
      exact ⟨⟨k + 1, x', y', z', u', by omega, by go_num, HF', Lib.hid H4'.out, Lib.hid H8'.out, Lib.hid HBW'.out.drew⟩, by simp [intOf]; omega⟩
    · obtain rfl : k = l.length := by omega
      have hxx : [x, y, z, u] = [a, b, c, d] := by rw [HF.out, S.frontAt_full l n hl, HX.out]
      injection hxx with e1 e2
      injection e2 with e2 e3
      injection e3 with e3 e4
      injection e4 with e4 e5
      subst e1
      subst e2
      subst e3
      subst e4
      clear e5
      have a0 := H8.out.cell 0
      have a1 := H8.out.cell 1
      have a2 := H8.out.cell 2
      have a3 := H8.out.cell 3
      have c0 := H4.out.cell 0
      have c1 := H4.out.cell 1
      have c2 := H4.out.cell 2
      have c3 := H4.out.cell 3
      have f0 := H4.out.frozen 0
      have f1 := H4.out.frozen 1
      have f2 := H4.out.frozen 2
      have f3 := H4.out.frozen 3
      have D := (((H4.out.set_ 0 (.int .i64 x)).set_ 1 (.int .i64 y)).set_ 2 (.int .i64 z)).set_ 3 (.int .i64 u)
      have d0 := D.cell 0
      have d1 := D.cell 1
      have d2 := D.cell 2
      have d3 := D.cell 3
      have HD := Lib.hid (show Below w.heap.size w ((((wr.setCell ⟨w.heap.size, 0, none⟩ (.int .i64 x)).setCell ⟨w.heap.size, 1, none⟩ (.int .i64 y)).setCell ⟨w.heap.size, 2, none⟩ (.int .i64 z)).setCell ⟨w.heap.size, 3, none⟩ (.int .i64 u)) from (((HBW.out.setCell (by simp) _).setCell (by simp) _).setCell (by simp) _).setCell (by simp) _)
      clear D
      go_wp2_with fail
      exact bodyPost_ret (v := .agg (four x y z u)) (by simp [results, Tryz.results44, go_sem, d0, d1, d2, d3]) rfl ⟨rfl, HD.out⟩
end Go.Proofs.YtpkpadepccneeaaGreatDoor.W

/- Plain mathematics of chapter 7, third part: the index behind one. No program in it. No condition. -/
namespace Go.Proofs.YtpkpadepccneeaaGreatDoor.W.S
set_option maxRecDepth 100000
set_option linter.unusedVariables false
set_option linter.unusedSimpArgs false
/-- From j on as of the next number, ahead of it as of this one. -/
def mixAt (l : List Int) (n : Int) (j : Nat) : List Int := (List.range 4).map fun i => if j ≤ i then (pad (atL l (n + 1))).getD i 0 else (pad (atL l n)).getD i 0
theorem mixAt_length (l : List Int) (n : Int) (j : Nat) : (mixAt l n j).length = 4 := by simp [mixAt]
theorem mixAt_getD (l : List Int) (n : Int) (j : Nat) {i : Nat} (h : i < 4) : (mixAt l n j).getD i 0 = if j ≤ i then (pad (atL l (n + 1))).getD i 0 else (pad (atL l n)).getD i 0 := by
  simp [mixAt, h]
theorem mixAt_top (l : List Int) (n : Int) (h : l.length ≤ 4) : mixAt l n l.length = pad (atL l n) := by
  refine four_ext (mixAt_length ..) (pad_length (by rw [atL_length]; exact h)) fun i hi => ?_
  rw [mixAt_getD l n _ hi]
  by_cases hl : l.length ≤ i
  · rw [if_pos hl, pad_getD (by rw [atL_length]; exact hl), pad_getD (by rw [atL_length]; exact hl)]
  · rw [if_neg hl]
theorem mixAt_zero (l : List Int) (n : Int) (h : l.length ≤ 4) : mixAt l n 0 = pad (atL l (n + 1)) := by
  refine four_ext (mixAt_length ..) (pad_length (by rw [atL_length]; exact h)) fun i hi => ?_
  rw [mixAt_getD l n _ hi, if_pos (by omega)]
theorem mixAt_at (l : List Int) (n : Int) {k : Nat} (hk : k < l.length) (h4 : l.length ≤ 4) : (mixAt l n (k + 1)).getD k 0 = n / stride l k % l.getD k 0 := by
  rw [mixAt_getD l n _ (by omega), if_neg (by omega), pad_getD_lt (by rw [atL_length]; exact hk), atL_getD l n k hk]
/-- All behind is full: it goes on to the next. -/
def Full (l : List Int) (n : Int) (j : Nat) : Prop := n % prod (l.drop j) = prod (l.drop j) - 1
theorem full_top (l : List Int) (n : Int) : Full l n l.length := by unfold Full; rw [List.drop_length]; simp [prod, Int.emod_one]
theorem full_div (l : List Int) (n : Int) (k : Nat) (h : ∀ r ∈ l, 1 ≤ r) (hf : Full l n (k + 1)) : (n + 1) / stride l k = n / stride l k + 1 := by
  have hp : 1 ≤ stride l k := prod_drop_pos l (k + 1) h
  have hf' : n % stride l k = stride l k - 1 := hf
  have e := Int.mul_ediv_add_emod n (stride l k)
  have e2 : n + 1 = stride l k * (n / stride l k + 1) := by rw [Int.mul_add, Int.mul_one]; omega
  rw [e2, Int.mul_ediv_cancel_left _ (by omega)]
theorem next_digit (l : List Int) (n : Int) {k : Nat} (hk : k < l.length) (h4 : l.length ≤ 4) (h : ∀ r ∈ l, 1 ≤ r) (hf : Full l n (k + 1)) :
    (pad (atL l (n + 1))).getD k 0 = (n / stride l k + 1) % l.getD k 0 := by
  rw [pad_getD_lt (by rw [atL_length]; exact hk), atL_getD l (n + 1) k hk, full_div l n k h hf]
theorem emod_succ_lt {a s : Int} (hs : 1 ≤ s) (h : a % s + 1 < s) : (a + 1) % s = a % s + 1 := by
  have h0 := Int.emod_nonneg a (show s ≠ 0 by omega)
  have e := Int.mul_ediv_add_emod a s
  have e2 : a + 1 = (a % s + 1) + s * (a / s) := by omega
  rw [e2, Int.add_mul_emod_self_left, Int.emod_eq_of_lt (by omega) h]
theorem ediv_succ_lt {a s : Int} (hs : 1 ≤ s) (h : a % s + 1 < s) : (a + 1) / s = a / s := by
  have h0 := Int.emod_nonneg a (show s ≠ 0 by omega)
  have e := Int.mul_ediv_add_emod a s
  have e2 : a + 1 = (a % s + 1) + s * (a / s) := by omega
  rw [e2, Int.add_mul_ediv_left _ _ (by omega), Int.ediv_eq_zero_of_lt (by omega) h, Int.zero_add]
theorem emod_succ_eq {a s : Int} (hs : 1 ≤ s) (h : a % s + 1 = s) : (a + 1) % s = 0 := by
  have e := Int.mul_ediv_add_emod a s
  have e2 : a + 1 = s * (a / s + 1) := by rw [Int.mul_add, Int.mul_one]; omega
  rw [e2]; exact Int.mul_emod_right _ _
/-- The numbers behind a place, and the place itself. -/
theorem div_up (l : List Int) (n : Int) : ∀ (k i : Nat), i < k → k < l.length → (∀ r ∈ l, 1 ≤ r) → ∃ c, ∀ m : Int, m / stride l i = m / (stride l k * l.getD k 0) / c
  | 0, i, hi, _, _ => by omega
  | k + 1, i, hi, hk, h => by
    have e : stride l k = stride l (k + 1) * l.getD (k + 1) 0 := by
      have := prod_drop_at l (k := k + 1) hk
      rw [Int.mul_comm]; exact this
    have hp1 : 1 ≤ stride l (k + 1) * l.getD (k + 1) 0 := by rw [← e]; exact prod_drop_pos l (k + 1) h
    by_cases hik : i = k
    · subst hik
      exact ⟨1, fun m => by rw [e, Int.ediv_one]⟩
    · obtain ⟨c, hc⟩ := div_up l n k i (by omega) (by omega) h
      refine ⟨l.getD k 0 * c, fun m => ?_⟩
      have hr := h _ (getD_mem (l := l) (k := k) (by omega))
      rw [hc m, e, ← Int.ediv_ediv_of_nonneg (by omega), Int.ediv_ediv_of_nonneg (by omega)]
/-- No carry: the index behind this one. -/
theorem next_stop (l : List Int) (n : Int) {k : Nat} (hk : k < l.length) (h4 : l.length ≤ 4) (h : ∀ r ∈ l, 1 ≤ r) (hf : Full l n (k + 1)) (hd : n / stride l k % l.getD k 0 + 1 < l.getD k 0) :
    (mixAt l n (k + 1)).set k (n / stride l k % l.getD k 0 + 1) = pad (atL l (n + 1)) := by
  have hr := h _ (getD_mem hk)
  refine four_ext (by simp [mixAt]) (pad_length (by rw [atL_length]; exact h4)) fun i hi => ?_
  by_cases e : k = i
  · subst e
    rw [next_digit l n hk h4 h hf, emod_succ_lt hr hd]
    simp [List.getD_eq_getElem?_getD, mixAt_length, show k < 4 by omega]
  · have h5 : ((mixAt l n (k + 1)).set k (n / stride l k % l.getD k 0 + 1)).getD i 0 = (mixAt l n (k + 1)).getD i 0 := by
      simp [List.getD_eq_getElem?_getD, List.getElem?_set_ne e]
    rw [h5, mixAt_getD l n _ hi]
    by_cases h6 : k + 1 ≤ i
    · rw [if_pos h6]
    · rw [if_neg h6, pad_getD_lt (by rw [atL_length]; omega), pad_getD_lt (by rw [atL_length]; omega), atL_getD l n i (by omega), atL_getD l (n + 1) i (by omega)]
      obtain ⟨c, hc⟩ := div_up l n k i (by omega) hk h
      have hp : 1 ≤ stride l k := prod_drop_pos l (k + 1) h
      rw [hc n, hc (n + 1), ← Int.ediv_ediv_of_nonneg (show 0 ≤ stride l k by omega), ← Int.ediv_ediv_of_nonneg (show 0 ≤ stride l k by omega), full_div l n k h hf, ediv_succ_lt hr hd]
/-- A carry. -/
theorem next_carry (l : List Int) (n : Int) {k : Nat} (hk : k < l.length) (h4 : l.length ≤ 4) (h : ∀ r ∈ l, 1 ≤ r) (hf : Full l n (k + 1)) (hd : ¬ n / stride l k % l.getD k 0 + 1 < l.getD k 0) :
    (mixAt l n (k + 1)).set k 0 = mixAt l n k ∧ Full l n k := by
  have hr := h _ (getD_mem hk)
  have hlt := Int.emod_lt_of_pos (n / stride l k) (show 0 < l.getD k 0 by omega)
  have hd2 : n / stride l k % l.getD k 0 + 1 = l.getD k 0 := by omega
  refine ⟨?_, ?_⟩
  · refine four_ext (by simp [mixAt]) (mixAt_length ..) fun i hi => ?_
    by_cases e : k = i
    · subst e
      rw [mixAt_getD l n _ hi, if_pos (Nat.le_refl _), next_digit l n hk h4 h hf, emod_succ_eq hr hd2]
      simp [List.getD_eq_getElem?_getD, mixAt_length, show k < 4 by omega]
    · have h5 : ((mixAt l n (k + 1)).set k 0).getD i 0 = (mixAt l n (k + 1)).getD i 0 := by
        simp [List.getD_eq_getElem?_getD, List.getElem?_set_ne e]
      rw [h5, mixAt_getD l n _ hi, mixAt_getD l n _ hi]
      by_cases h6 : k ≤ i
      · rw [if_pos h6, if_pos (by omega)]
      · rw [if_neg h6, if_neg (by omega)]
  · have hp : 1 ≤ stride l k := prod_drop_pos l (k + 1) h
    have hf' : n % stride l k = stride l k - 1 := hf
    have e1 := Int.mul_ediv_add_emod n (stride l k)
    have e2 := Int.mul_ediv_add_emod (n / stride l k) (l.getD k 0)
    have e3 : prod (l.drop k) = l.getD k 0 * stride l k := prod_drop_at l hk
    unfold Full
    rw [e3]
    have e4 : n = l.getD k 0 * stride l k * (n / stride l k / l.getD k 0) + (l.getD k 0 * stride l k - 1) := by
      have e5 : stride l k * (n / stride l k) = stride l k * (l.getD k 0 * (n / stride l k / l.getD k 0)) + stride l k * (n / stride l k % l.getD k 0) := by rw [← Int.mul_add, e2]
      have e6 : n / stride l k % l.getD k 0 = l.getD k 0 - 1 := by omega
      rw [e6, Int.mul_sub, Int.mul_one] at e5
      have e7 : stride l k * (l.getD k 0 * (n / stride l k / l.getD k 0)) = l.getD k 0 * stride l k * (n / stride l k / l.getD k 0) := by ac_rfl
      have e8 : stride l k * l.getD k 0 = l.getD k 0 * stride l k := Int.mul_comm _ _
      omega
    have hpos := mul_pos' hr hp
    generalize l.getD k 0 * stride l k = m at *
    generalize n / stride l k / l.getD k 0 = q at *
    rw [e4, Int.add_comm, Int.add_mul_emod_self_left, Int.emod_eq_of_lt (by omega) (by omega)]
theorem atL_zero : ∀ (l : List Int), (∀ r ∈ l, 1 ≤ r) → atL l 0 = List.replicate l.length 0
  | [], _ => rfl
  | s :: ss, h => by
    rw [List.length_cons, List.replicate_succ, atL, atL_zero ss fun x hx => h x (by simp [hx]), Int.zero_ediv, Int.zero_emod]
theorem pad_zero (l : List Int) (h : Ok l) : pad (atL l 0) = [0, 0, 0, 0] := by
  have hl := h.1
  refine four_ext (pad_length (by rw [atL_length]; exact hl)) rfl fun i hi => ?_
  rw [zeros_getD hi]
  by_cases hi2 : i < l.length
  · rw [pad_getD_lt (by rw [atL_length]; exact hi2), atL_zero l h.2.1]
    simp [hi2]
  · rw [pad_getD (by rw [atL_length]; omega)]
end Go.Proofs.YtpkpadepccneeaaGreatDoor.W.S

/- The walk of chapter 7's next: the index behind one. No condition. -/
namespace Go.Proofs.YtpkpadepccneeaaGreatDoor.W
set_option maxRecDepth 100000
set_option linter.unusedVariables false
set_option linter.unusedSimpArgs false
open Go.RowKit
theorem four_eq {x y z u a b c d : Int} (h : [x, y, z, u] = [a, b, c, d]) : x = a ∧ y = b ∧ z = c ∧ u = d := by
  injection h with e1 e2
  injection e2 with e2 e3
  injection e3 with e3 e4
  injection e4 with e4 e5
  exact ⟨e1, e2, e3, e4⟩
set_option maxHeartbeats 2000000 in
theorem next_any (A : Option Addr) (cp : Nat) (l : List Int) (n a b c d a' b' c' d' : Int) (w : World) (hr : RI .i64 w A l) (hok : S.Ok l) (h0 : 0 ≤ n) (hx : S.pad (S.atL l n) = [a, b, c, d]) (hx' : S.pad (S.atL l (n + 1)) = [a', b', c', d']) :
    Calls Tryz.prog 135 #[.slice A l.length cp, .agg (four a b c d)] w fun e w' => e = .returned (.agg (four a' b' c' d')) ∧ Below w.heap.size w w' := by
  have hl := hok.1
  have hr' := Lib.hid hr
  have HK := Lib.hid hok
  have HX := Lib.hid hx
  have HX' := Lib.hid hx'
  clear hr hok hx hx'
  have B3 : Blk ((w.alloc (.cells (four a b c d) 170)).alloc (.cells (four 0 0 0 0) 170)) w.heap.size 170 (four a b c d) := (Blk.new w 170 _).alloc _
  have B4 : Blk ((w.alloc (.cells (four a b c d) 170)).alloc (.cells (four 0 0 0 0) 170)) (w.heap.size + 1) 170 (four 0 0 0 0) := by
    have h := Blk.new (w.alloc (.cells (four a b c d) 170)) 170 (four 0 0 0 0)
    rw [World.size_alloc] at h
    exact h
  have HB3 := Lib.hid B3
  have HB4 := Lib.hid B4
  have HB2 := Lib.hid (show Below w.heap.size w ((w.alloc (.cells (four a b c d) 170)).alloc (.cells (four 0 0 0 0) 170)) from ((Below.refl _ _).alloc (Nat.le_refl _) _).alloc (by simp) _)
  clear B3 B4
  go_enter Tryz.func135, Tryz.ntmps135
  go_wp2_with fail
  go_loopw [5] (fun i wr => ∃ (j : Nat) (x y z u : Int), j ≤ l.length ∧ i = .int .i64 ((j : Int) - 1) ∧ Hid ([x, y, z, u] = S.mixAt l n j) ∧ Hid (S.Full l n j) ∧ Hid (Blk wr w.heap.size 170 (four x y z u)) ∧ Hid (Blk wr (w.heap.size + 1) 170 (four 0 0 0 0)) ∧ Hid (Below w.heap.size w wr)) (fun i _ => (intOf i + 1).toNat)
  case atStart => exact ⟨l.length, a, b, c, d, by omega, rfl, Lib.hid (by rw [S.mixAt_top l n hl, HX.out]), Lib.hid (S.full_top l n), HB3, HB4, HB2⟩
  case round =>
    obtain ⟨j, x, y, z, u, hj, rfl, HF, HFu, H3, H4, HBW⟩ := hrel
    by_cases hlt : 1 ≤ j
    · obtain ⟨k, rfl⟩ : ∃ k, j = k + 1 := ⟨j - 1, by omega⟩
      have hk : k < l.length := by omega
      have hr1 := HK.out.2.1 _ (S.getD_mem hk)
      have hq1 : 1 ≤ S.stride l k := S.prod_drop_pos l (k + 1) HK.out.2.1
      have hdig := S.mixAt_at l n hk hl
      rw [← HF.out] at hdig
      have hd0 := Int.emod_nonneg (n / S.stride l k) (show l.getD k 0 ≠ 0 by omega)
      have hd1 := Int.emod_lt_of_pos (n / S.stride l k) (show 0 < l.getD k 0 by omega)
      have hle : l.getD k 0 ≤ 4096 := by
        have h1 := S.prod_drop_at l hk
        have h2 := S.prod_drop_le l k HK.out.2.1
        have h3 := HK.out.2.2
        have h4 := S.mul_ge hr1 hq1
        omega
      have HS := Lib.hid fun (h : n / S.stride l k % l.getD k 0 + 1 < l.getD k 0) => S.next_stop l n hk hl HK.out.2.1 HFu.out h
      have HC := Lib.hid fun (h : ¬ n / S.stride l k % l.getD k 0 + 1 < l.getD k 0) => S.next_carry l n hk hl HK.out.2.1 HFu.out h
      have hc3 := (H3.out.cell k).trans (four_get x y z u k (by omega))
      have hf3 := H3.out.frozen k
      rw [hdig] at hc3
      generalize n / S.stride l k % l.getD k 0 = g at *
      obtain ⟨x', y', z', u', hs1, hs2⟩ := four_set (S.mixAt l n (k + 1)) x y z u HF.out k (by omega) (g + 1)
      have h3 := H3.out.set_ k (.int .i64 (g + 1))
      rw [hs1] at h3
      have h4 := H4.out.far (p := ⟨w.heap.size, k, none⟩) (by simp) (.int .i64 (g + 1))
      have hbw := HBW.out.setCell (p := ⟨w.heap.size, k, none⟩) (by simp) (.int .i64 (g + 1))
      obtain ⟨ad, rfl, hcl⟩ := (hr'.out.below hbw).at_ hk
      have hc3' := (h3.cell k).trans (four_get x' y' z' u' k (by omega))
      have hg2 : [x', y', z', u'].getD k 0 = g + 1 := by
        rw [hs2]
        simp [List.getD_eq_getElem?_getD, S.mixAt_length, show k < 4 by omega]
      rw [hg2] at hc3'
      have H3' := Lib.hid h3
      have H4' := Lib.hid h4
      have HBW' := Lib.hid hbw
      have HS2 := Lib.hid hs2
      clear hs1 hs2 h3 h4 hbw hdig hg2
      generalize l.getD k 0 = s at *
      generalize S.stride l k = q at *
      have hi0 : ((k + 1 : Nat) : Int) - 1 = (k : Int) := by omega
      have hi1 : (0 : Int) ≤ (k : Int) := by omega
      have hi2 : (k : Int) < 4 := by omega
      have hi3 : (k : Int) < (l.length : Int) := by omega
      rw [hi0]
      by_cases hd : g + 1 < s
      · have he := HS.out hd
        rw [← HS2.out, HX'.out] at he
        obtain ⟨e1, e2, e3, e4⟩ := four_eq he
        subst e1 e2 e3 e4
        clear he
        go_wp2_with fail
        go_quiet (fail)
        have V3 := Lib.hid (H3'.out.drewN nq)
        have V4 := Lib.hid (H4'.out.drewN nq)
        have VB := Lib.hid (below_drewN HBW'.out nq)
        clear hc3' hcl
        generalize (wr.setCell ⟨w.heap.size, k, none⟩ (.int .i64 (g + 1))).drewN nq = V at *
        have a0 := V3.out.cell 0
        have a1 := V3.out.cell 1
        have a2 := V3.out.cell 2
        have a3 := V3.out.cell 3
        have c0 := V4.out.cell 0
        have c1 := V4.out.cell 1
        have c2 := V4.out.cell 2
        have c3 := V4.out.cell 3
        have f0 := V4.out.frozen 0
        have f1 := V4.out.frozen 1
        have f2 := V4.out.frozen 2
        have f3 := V4.out.frozen 3
        have D := (((V4.out.set_ 0 (.int .i64 x')).set_ 1 (.int .i64 y')).set_ 2 (.int .i64 z')).set_ 3 (.int .i64 u')
        have d0 := D.cell 0
        have d1 := D.cell 1
        have d2 := D.cell 2
        have d3 := D.cell 3
        have HD := Lib.hid (show Below w.heap.size w ((((V.setCell ⟨w.heap.size + 1, 0, none⟩ (.int .i64 x')).setCell ⟨w.heap.size + 1, 1, none⟩ (.int .i64 y')).setCell ⟨w.heap.size + 1, 2, none⟩ (.int .i64 z')).setCell ⟨w.heap.size + 1, 3, none⟩ (.int .i64 u')) from (((VB.out.setCell (by simp) _).setCell (by simp) _).setCell (by simp) _).setCell (by simp) _)
        clear D
        go_wp2_with fail
        exact bodyPost_ret (v := .agg (four x' y' z' u')) (by simp [results, Tryz.results135, go_sem, d0, d1, d2, d3]) rfl ⟨rfl, HD.out⟩
      · obtain ⟨he, hfu⟩ := HC.out hd
        obtain ⟨x2, y2, z2, u2, hs3, hs4⟩ := four_set _ x' y' z' u' HS2.out k (by omega) 0
        rw [List.set_set, he] at hs4
        have HF2 := Lib.hid hs4
        have HFu2 := Lib.hid hfu
        go_wp2_with fail
        go_quiet (fail)
        have V3 := Lib.hid (H3'.out.drewN nq)
        have V4 := Lib.hid (H4'.out.drewN nq)
        have VB := Lib.hid (below_drewN HBW'.out nq)
        clear hc3' hcl he hfu hs4
        generalize (wr.setCell ⟨w.heap.size, k, none⟩ (.int .i64 (g + 1))).drewN nq = V at *
        have hcv := (V3.out.cell k).trans (four_get x' y' z' u' k (by omega))
        have hfv := V3.out.frozen k
        have v3 := V3.out.set_ k (.int .i64 0)
        rw [hs3] at v3
        have W3 := Lib.hid v3
        have W4 := Lib.hid (V4.out.far (p := ⟨w.heap.size, k, none⟩) (by simp) (.int .i64 0))
        have WB := Lib.hid (VB.out.setCell (p := ⟨w.heap.size, k, none⟩) (by simp) (.int .i64 0))
        clear v3 hs3
        generalize [x', y', z', u'].getD k 0 = old at *
        go_wp2_with fail
        go_roundw
        case rel => exact ⟨k, x2, y2, z2, u2, by omega, by go_num, HF2, HFu2, W3, W4, WB⟩
        case measure => simp [intOf]
    · obtain rfl : j = 0 := by omega
      have he : [x, y, z, u] = [a', b', c', d'] := by rw [HF.out, S.mixAt_zero l n hl, HX'.out]
      obtain ⟨e1, e2, e3, e4⟩ := four_eq he
      subst e1 e2 e3 e4
      clear he
      have a0 := H3.out.cell 0
      have a1 := H3.out.cell 1
      have a2 := H3.out.cell 2
      have a3 := H3.out.cell 3
      have c0 := H4.out.cell 0
      have c1 := H4.out.cell 1
      have c2 := H4.out.cell 2
      have c3 := H4.out.cell 3
      have f0 := H4.out.frozen 0
      have f1 := H4.out.frozen 1
      have f2 := H4.out.frozen 2
      have f3 := H4.out.frozen 3
      have D := (((H4.out.set_ 0 (.int .i64 x)).set_ 1 (.int .i64 y)).set_ 2 (.int .i64 z)).set_ 3 (.int .i64 u)
      have d0 := D.cell 0
      have d1 := D.cell 1
      have d2 := D.cell 2
      have d3 := D.cell 3
      have HD := Lib.hid (show Below w.heap.size w ((((wr.setCell ⟨w.heap.size + 1, 0, none⟩ (.int .i64 x)).setCell ⟨w.heap.size + 1, 1, none⟩ (.int .i64 y)).setCell ⟨w.heap.size + 1, 2, none⟩ (.int .i64 z)).setCell ⟨w.heap.size + 1, 3, none⟩ (.int .i64 u)) from (((HBW.out.setCell (by simp) _).setCell (by simp) _).setCell (by simp) _).setCell (by simp) _)
      clear D
      go_wp2_with fail
      exact bodyPost_ret (v := .agg (four x y z u)) (by simp [results, Tryz.results135, go_sem, d0, d1, d2, d3]) rfl ⟨rfl, HD.out⟩
end Go.Proofs.YtpkpadepccneeaaGreatDoor.W
