/- The walks of chapter 9's all and Once: whether a table has each number once. No condition. -/
import Derived.Test.YtmofdjddjkjogaaSwMath
import Derived.Test.YtmofdjddjkjogaaOrderLaw
import Derived.Shelf.Abstract
namespace Go.Proofs.Ytmofdjddjkjogaa
set_option linter.unusedVariables false
set_option linter.unusedSimpArgs false
open Go Go.RowKit Go.Shelf
namespace Sw
def flags (fs : List Bool) : Array Value := (fs.map Value.bool).toArray
theorem flags_get (fs : List Bool) {x : Nat} (h : x < fs.length) : (flags fs)[x]? = some (.bool (fs.getD x false)) := by
  simp [flags, List.getElem?_eq_getElem h, List.getD_eq_getElem?_getD]
theorem flags_set (fs : List Bool) (x : Nat) (b : Bool) : (flags fs).setIfInBounds x (.bool b) = flags (fs.set x b) := by
  simp [flags, List.map_set]
theorem madeFlags (n : Nat) : madeCells #[Value.bool false] n = flags (List.replicate n false) := by
  apply Array.toList_inj.1
  rw [toList_madeCells_one]
  simp [flags]
theorem info4 : (Try.prog.info? 4).map (fun i => (i.zero, i.size, i.bytes)) = some (some (.bool false), 1, 1) := by kernel_rfl
theorem make46 (n : Nat) (hn : n ≤ 4096) (W : World) : (Instr.makeSlice 46 (.int .i64 (n : Int)) (.int .i64 (n : Int))).run Try.prog W = .ok (.slice (some ⟨W.heap.size, 0, none⟩) n n) (W.alloc (.cells (flags (List.replicate n false)) 4)) := by
  obtain ⟨i0, h1, h2, h3, h4⟩ := info_parts info4
  have h := run_make (P := Try.prog) W 46 4 i0 (.bool false) Try.underlying46 h1 h2 .i64 .i64 (n : Int) (n : Int) (by omega) (Int.le_refl _) (by rw [h4]; omega) (by omega)
  rw [h3] at h
  simp only [Int.toNat_natCast, Nat.mul_one] at h
  rw [h]
  show Result.ok _ (W.alloc (.cells (madeCells #[Value.bool false] n) 4)) = _
  rw [madeFlags]
/-- A block of the world. -/
def Blk (w : World) (g : Nat) (t : TypeId) (cs : Array Value) : Prop := w.heap[g]? = some (.cells cs t (0, 0))
section
variable {w w' : World} {g : Nat} {t : TypeId} {cs : Array Value}
theorem Blk.lt (h : Blk w g t cs) : g < w.heap.size := by
  rcases Nat.lt_or_ge g w.heap.size with hlt | hge
  · exact hlt
  · unfold Blk at h; rw [Array.getElem?_eq_none hge] at h; cases h
theorem Blk.cell (h : Blk w g t cs) (i : Nat) : w.cell? ⟨g, i, none⟩ = cs[i]? := cell_of_row w g i cs t (0, 0) h
theorem Blk.frozen (h : Blk w g t cs) (i : Nat) : w.frozen? ⟨g, i, none⟩ = false := frozen_of_row w g i cs t h
theorem Blk.new (w : World) (t : TypeId) (cs : Array Value) : Blk (w.alloc (.cells cs t)) w.heap.size t cs := heap_alloc_new w _
theorem Blk.set_ (h : Blk w g t cs) (i : Nat) (u : Value) : Blk (w.setCell ⟨g, i, none⟩ u) g t (cs.setIfInBounds i u) := heap_setCell_same w g i cs t u h
theorem Blk.far (h : Blk w g t cs) {p : Addr} (hp : g ≠ p.block) (u : Value) : Blk (w.setCell p u) g t cs := (Below.heap_setCell w p u g hp).trans h
theorem Blk.setFlag {fs : List Bool} (h : Blk w g t (flags fs)) (i : Nat) : Blk (w.setCell ⟨g, i, none⟩ (.bool true)) g t (flags (fs.set i true)) := by
  have h1 := h.set_ i (.bool true)
  rw [flags_set] at h1
  exact h1
end
open Classical in
noncomputable def goodB (t : List Int) : Bool := decide (good t)
open Classical in
theorem goodB_yes {t : List Int} (h : good t) : goodB t = true := by unfold goodB; exact decide_eq_true h
open Classical in
theorem goodB_no {t : List Int} (h : ¬ good t) : goodB t = false := by unfold goodB; exact decide_eq_false h
open Classical in
theorem of_goodB {t : List Int} (h : goodB t = true) : good t := by unfold goodB at h; exact of_decide_eq_true h
def SeenA (fs : List Bool) (l : List Int) : Prop := ∀ x : Nat, fs.getD x false = true ↔ (x : Int) ∈ l
theorem SeenA.zero (n : Nat) : SeenA (List.replicate n false) [] := fun x => by
  rw [List.getD_eq_getElem?_getD, List.getElem?_replicate]
  split <;> simp
theorem SeenA.step {fs : List Bool} {t : List Int} {i kn : Nat} (h : SeenA fs (t.take i)) (hi : i < t.length) (hk : t.getD i 0 = (kn : Int)) (hl : kn < fs.length) : SeenA (fs.set kn true) (t.take (i + 1)) := fun x => by
  rw [setB_get hl, take_next t hi, hk]
  by_cases e : x = kn
  · subst e; simp
  · rw [if_neg e, h x]
    simp
    omega
set_option maxHeartbeats 1000000 in
theorem all_any (A : Option Addr) (c : Nat) (l : List Int) (w : World) (hr : RI .i64 w A l) (hm : l.length ≤ 4096) :
    Calls Try.prog 24 #[.slice A l.length c] w fun e w' => e = .returned (.bool (goodB l)) ∧ Below w.heap.size w w' := by
  have HR := Lib.hid hr
  have HMK := fun (W : World) => make46 l.length hm W
  have HF0 := Lib.hid (Blk.new w 4 (flags (List.replicate l.length false)))
  have HB0 := Lib.hid ((Below.refl w.heap.size w).alloc (Nat.le_refl _) (.cells (flags (List.replicate l.length false)) 4))
  have HNO := Lib.hid (show (∃ i, i < l.length ∧ ¬ (0 ≤ l.getD i 0 ∧ l.getD i 0 < l.length ∧ l.getD i 0 ∉ l.take i)) → goodB l = false from fun ⟨i, hi, hn⟩ => goodB_no fun h => hn (h i hi))
  have HYES := Lib.hid (show (∀ i, i < l.length → 0 ≤ l.getD i 0 ∧ l.getD i 0 < l.length ∧ l.getD i 0 ∉ l.take i) → goodB l = true from fun h => goodB_yes h)
  generalize goodB l = R at *
  clear hr
  go_enter Try.func24, Try.ntmps24
  go_wp2_with fail
  clear HMK
  go_loopw [11] (fun n wr => ∃ (i : Nat) (fs : List Bool), i ≤ l.length ∧ n = .int .i64 i ∧ fs.length = l.length ∧ Hid (SeenA fs (l.take i)) ∧ Hid (∀ j, j < i → 0 ≤ l.getD j 0 ∧ l.getD j 0 < l.length ∧ l.getD j 0 ∉ l.take j) ∧ Hid (Blk wr w.heap.size 4 (flags fs)) ∧ Hid (Below w.heap.size w wr)) (fun n _ => l.length - (intOf n).toNat)
  case atStart => exact ⟨0, _, by omega, rfl, by simp, Lib.hid (SeenA.zero _), Lib.hid (fun j hj => absurd hj (by omega)), HF0, HB0⟩
  case round =>
    obtain ⟨i, fs, hi, rfl, hfl, HSE, HPG, HF, HBr⟩ := hrel
    by_cases hlt : i < l.length
    · obtain ⟨ad, rfl, hel⟩ := (HR.out.below HBr.out).at_ hlt
      have hi0 : (0 : Int) ≤ (i : Int) := by omega
      have hi1 : (i : Int) < (l.length : Int) := by omega
      have HNI := Lib.hid (show ¬ (0 ≤ l.getD i 0 ∧ l.getD i 0 < l.length ∧ l.getD i 0 ∉ l.take i) → R = false from fun h => HNO.out ⟨i, hlt, h⟩)
      by_cases hk0 : l.getD i 0 < 0
      · have HRR := Lib.hid (HNI.out (by omega))
        have hd := decide_eq_true hk0
        clear hk0
        generalize l.getD i 0 = k at *
        go_wp2_with fail
        go_ret
        exact ⟨ret_bool HRR.out.symm, HBr.out⟩
      have hd := decide_eq_false hk0
      by_cases hk1 : (l.length : Int) ≤ l.getD i 0
      · have HRR := Lib.hid (HNI.out (by omega))
        have hd2 := decide_eq_true hk1
        clear hk0 hk1
        generalize l.getD i 0 = k at *
        go_wp2_with fail
        go_ret
        exact ⟨ret_bool HRR.out.symm, HBr.out⟩
      have hd2 := decide_eq_false hk1
      obtain ⟨kn, hkn⟩ : ∃ kn : Nat, l.getD i 0 = (kn : Int) := ⟨(l.getD i 0).toNat, by omega⟩
      have hkf : kn < fs.length := by omega
      have hfk := (HF.out.cell kn).trans (flags_get fs hkf)
      have HSEk := Lib.hid (HSE.out kn)
      have hff := HF.out.frozen kn
      have HSE2 := Lib.hid (HSE.out.step hlt hkn hkf)
      have HFS := Lib.hid (HF.out.setFlag kn)
      have HBS := Lib.hid (HBr.out.setCell (p := ⟨w.heap.size, kn, none⟩) (Nat.le_refl _) (.bool true))
      have hsl : (fs.set kn true).length = l.length := by rw [List.length_set]; exact hfl
      have HKN := Lib.hid hkn
      rw [hkn] at hel hd hd2
      have hk0' : (0 : Int) ≤ (kn : Int) := by omega
      have hk1' : (kn : Int) < (l.length : Int) := by omega
      clear hkn hkf hfl hk0 hk1
      generalize fs.getD kn false = b at *
      cases b with
      | true =>
        have HRR := Lib.hid (HNI.out fun h => h.2.2 (by rw [HKN.out]; exact HSEk.out.1 rfl))
        go_wp2_with fail
        go_ret
        exact ⟨ret_bool HRR.out.symm, HBr.out⟩
      | false =>
        have HPG2 := Lib.hid (show ∀ j, j < i + 1 → 0 ≤ l.getD j 0 ∧ l.getD j 0 < l.length ∧ l.getD j 0 ∉ l.take j from fun j hj => by
          by_cases e : j = i
          · subst e
            rw [HKN.out]
            exact ⟨by omega, by omega, fun hm => by have := HSEk.out.2 hm; cases this⟩
          · exact HPG.out j (by omega))
        go_wp2_with fail
        go_roundw
        case rel => exact ⟨i + 1, _, by omega, by go_num, hsl, HSE2, HPG2, HFS, HBS⟩
        case measure => simp [intOf]; omega
    · have HRR := Lib.hid (HYES.out fun j hj => HPG.out j (by omega))
      go_wp2_with fail
      go_ret
      exact ⟨ret_bool HRR.out.symm, HBr.out⟩
theorem count_next (l : List Int) {j : Nat} (hj : j < l.length) (k : Int) : (l.take (j + 1)).count k = (l.take j).count k + if l.getD j 0 = k then 1 else 0 := by
  rw [take_next l hj, List.count_append, List.count_singleton]
  congr 1
  by_cases h : l.getD j 0 = k
  · rw [if_pos h, if_pos (by rw [h]; simp)]
  · rw [if_neg h, if_neg (by simpa using h)]
theorem count_le (l : List Int) (j : Nat) (k : Int) : (l.take j).count k ≤ l.length := Nat.le_trans List.count_le_length (by rw [List.length_take]; omega)
set_option maxHeartbeats 1000000 in
theorem Once_any (A : Option Addr) (c : Nat) (l : List Int) (w : World) (hr : RI .i64 w A l) (hm : l.length ≤ 4096) :
    Calls Try.prog 20 #[.slice A l.length c] w fun e w' => e = .returned (.bool (goodB l)) ∧ w = w' := by
  have HR := Lib.hid hr
  have HNO := Lib.hid (show (∃ k : Nat, k < l.length ∧ l.count (k : Int) ≠ 1) → goodB l = false from fun ⟨k, hk, hn⟩ => goodB_no fun h => hn (good_once.1 h k hk))
  have HYES := Lib.hid (show (∀ k : Nat, k < l.length → l.count (k : Int) = 1) → goodB l = true from fun h => goodB_yes (good_once.2 h))
  generalize goodB l = R at *
  clear hr
  go_enter Try.func20, Try.ntmps20
  go_wp2_with fail
  go_loopw [9] (fun n wr => ∃ k : Nat, k ≤ l.length ∧ n = .int .i64 k ∧ Hid (∀ j : Nat, j < k → l.count (j : Int) = 1) ∧ w = wr) (fun n _ => l.length - (intOf n).toNat)
  case atStart => exact ⟨0, by omega, rfl, Lib.hid (fun j hj => absurd hj (by omega)), rfl⟩
  case round =>
    obtain ⟨k, hk, rfl, HC, rfl⟩ := hrel
    by_cases hlt : k < l.length
    · have hk1 : (k : Int) < (l.length : Int) := by omega
      go_wp2_with fail
      go_loopw [4, 14] (fun s n wr => ∃ j : Nat, j ≤ l.length ∧ s = .int .i64 ((l.take j).count (k : Int)) ∧ n = .int .i64 j ∧ w = wr) (fun _ n _ => l.length - (intOf n).toNat)
      case atStart => exact ⟨0, by omega, by simp, rfl, rfl⟩
      case round =>
        obtain ⟨j, hj, rfl, rfl, rfl⟩ := hrel
        by_cases hltj : j < l.length
        · obtain ⟨ad, hA, hel⟩ := HR.out.at_ hltj
          have hj0 : (0 : Int) ≤ (j : Int) := by omega
          have hj1 : (j : Int) < (l.length : Int) := by omega
          have HCN := Lib.hid (count_next l hltj (k : Int))
          have hcb := count_le l j (k : Int)
          subst hA
          generalize l.getD j 0 = x at *
          generalize (l.take j).count (k : Int) = q at *
          have hq1 : -9223372036854775808 ≤ (q : Int) + 1 := by omega
          have hq2 : (q : Int) + 1 ≤ 9223372036854775807 := by omega
          by_cases hx : x = (k : Int)
          · have HCC := Lib.hid (HCN.out.trans (by rw [if_pos hx]))
            have hd : (x == (k : Int)) = true := by simp [hx]
            subst hx
            go_wp2_with fail
            go_roundw
            case rel => exact ⟨j + 1, by omega, by rw [HCC.out]; go_num, by go_num, trivial⟩
            case measure => simp [intOf]; omega
          · have HCC := Lib.hid (HCN.out.trans (by rw [if_neg hx]))
            have hd : (x == (k : Int)) = false := by simp [hx]
            clear hx
            go_wp2_with fail
            go_roundw
            case rel => exact ⟨j + 1, by omega, by rw [HCC.out]; go_num, by go_num, trivial⟩
            case measure => simp [intOf]; omega
        · have hjj : j = l.length := by omega
          have htk : (l.take j).count (k : Int) = l.count (k : Int) := by rw [hjj, List.take_length]
          rw [htk]
          have HNK := Lib.hid (show l.count (k : Int) ≠ 1 → R = false from fun h => HNO.out ⟨k, hlt, h⟩)
          have HCK := Lib.hid (show l.count (k : Int) = 1 → ∀ j : Nat, j < k + 1 → l.count (j : Int) = 1 from fun h i hi => by
            by_cases e : i = k
            · subst e; exact h
            · exact HC.out i (by omega))
          generalize l.count (k : Int) = q at *
          clear htk hj
          by_cases hq : q = 1
          · have HCC := Lib.hid (HCK.out hq)
            subst hq
            go_wp2_with fail
            go_roundw
            case rel => exact ⟨k + 1, by omega, by go_num, HCC, trivial⟩
            case measure => simp [intOf]; omega
          · have HRR := Lib.hid (HNK.out hq)
            have hd : ((q : Int) != 1) = true := by simp; omega
            have hd2 : ((q : Int) == 1) = false := by simp; omega
            clear hq
            go_wp2_with fail
            go_ret
            exact ⟨ret_bool HRR.out.symm, rfl⟩
    · have HRR := Lib.hid (HYES.out fun j hj => HC.out j (by omega))
      go_wp2_with fail
      go_ret
      exact ⟨ret_bool HRR.out.symm, rfl⟩
end Sw
end Go.Proofs.Ytmofdjddjkjogaa
