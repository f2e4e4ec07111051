/- The walk of chapter 9's Swap. No condition. -/
import Derived.Test.YtmofdjddjkjogaaSwWalk
import Derived.Deep.CutRange
namespace Go.Proofs.Ytmofdjddjkjogaa
set_option linter.unusedVariables false
set_option linter.unusedSimpArgs false
open Go Go.RowKit Go.Shelf
namespace Sw
theorem ownSome {k : IntKind} {e : TypeId} {w : World} {B : Nat} {A : Option Addr} {n c : Nat} {l : List Int} (h : OI k e w B (.slice A n c) l) {i : Nat} (hi : i < l.length) : ∃ g, A = some ⟨g, 0, none⟩ := by
  rcases h.2 with ⟨h1, h2⟩ | ⟨g, cap, cur, h1, _⟩
  · omega
  · injection h1 with h1 _ _
    exact ⟨g, h1⟩
theorem set_grown (W : World) (b i : Nat) (u : Value) : W.grownBy (W.setCell ⟨b, i, none⟩ u) (some b) :=
  ⟨rfl, rfl, rfl, by simp, fun k _ hk => Below.heap_setCell _ _ _ _ (fun e => hk (by rw [e]))⟩
theorem keep_set {k : IntKind} {e : TypeId} {W : World} {B b i g n c : Nat} {u : Value} {l : List Int} (h : OI k e W B (.slice (some ⟨g, 0, none⟩) n c) l) (hb : g ≠ b) : OI k e (W.setCell ⟨b, i, none⟩ u) B (.slice (some ⟨g, 0, none⟩) n c) l :=
  World.ownsRow.kept h (set_grown W b i u) (.inr fun e => hb (by simpa [Value.ownBlock] using e))
def leftW (w : World) (F : Nat) : Nat := match w.heap[F]? with
  | some (.cells cs _ _) => left (cs.toList.map fun v => match v with | .bool b => b | _ => false)
  | _ => 0
theorem leftW_of {w : World} {F : Nat} {D : List Bool} (h : Blk w F 4 (flags D)) : leftW w F = left D := by
  unfold leftW
  rw [show w.heap[F]? = _ from h]
  simp [flags, Function.comp_def]
theorem Swap_no (A A2 : Option Addr) (c c2 m : Nat) (t : List Int) (w : World) (hr : RI .i64 w A2 t) (hm : t.length ≤ 4096) (hno : m ≠ t.length ∨ ¬ good t) :
    Calls Try.prog 19 #[.slice A m c, .slice A2 t.length c2] w fun e w' => e = .returned (.bool false) ∧ Below w.heap.size w w' := by
  have CA := Lib.hid (all_any A2 c2 t w hr hm)
  clear hr
  go_enter Try.func19, Try.ntmps19
  by_cases hl : m = t.length
  · rw [goodB_no (by rcases hno with h | h; exact absurd hl h; exact h)] at CA
    have hd : ((m : Int) != (t.length : Int)) = false := by simp [hl]
    have hd2 : ((m : Int) == (t.length : Int)) = true := by simp [hl]
    clear hno hl
    go_wp2_with fail
    with_reducible refine CA.out.mono ?_
    rintro e w1 ⟨rfl, hb1⟩
    have HB := Lib.hid hb1
    clear hb1
    go_wp2_with fail
    go_ret
    exact ⟨rfl, HB.out⟩
  · have hd : ((m : Int) != (t.length : Int)) = true := by simp; omega
    have hd2 : ((m : Int) == (t.length : Int)) = false := by simp; omega
    clear hno hl
    go_wp2_with fail
    go_ret
    exact ⟨rfl, Below.refl _ _⟩
set_option maxHeartbeats 4000000 in
theorem Swap_yes (A A2 : Option Addr) (c c2 B : Nat) (l t : List Int) (w : World) (ho : OI .u64 41 w B (.slice A l.length c) l) (hB : B ≤ w.heap.size) (hT : ∀ U, Below B w U → RI .i64 U A2 t) (hm : t.length ≤ 4096) (hl : l.length = t.length) (hg : good t) :
    Calls Try.prog 19 #[.slice A l.length c, .slice A2 t.length c2] w fun e w' => ∃ L, e = .returned (.bool true) ∧ OI .u64 41 w' B (.slice A l.length c) L ∧ L.length = t.length ∧ (∀ j, j < t.length → L.getD j 0 = l.getD (sg t j) 0) ∧ Below B w w' := by
  have CA := Lib.hid (all_any A2 c2 t w (hT w (Below.refl _ _)) hm)
  rw [goodB_yes hg] at CA
  have HT := Lib.hid hT
  have HO := Lib.hid ho
  have HL := Lib.hid hl
  have HG := Lib.hid hg
  have HZ := Lib.hid (Outer.zero hl)
  have hmk := fun (W : World) => make46 t.length hm W
  have hd : ((l.length : Int) != (t.length : Int)) = false := by simp [hl]
  have hd2 : ((l.length : Int) == (t.length : Int)) = true := by simp [hl]
  clear hT ho hg hl
  go_enter Try.func19, Try.ntmps19
  go_wp2_with fail
  with_reducible refine CA.out.mono ?_
  rintro e w1 ⟨rfl, hb1⟩
  have HO1 := Lib.hid (HO.out.below hb1)
  have HB1 := Lib.hid (show Below B w w1 from ⟨hb1.os, hb1.tape, hb1.output, hb1.size, fun i hi => hb1.block i (by omega)⟩)
  have hs1 := hb1.size
  have hlt : ∀ g, (Value.slice A l.length c).ownBlock = some g → B ≤ g ∧ g < w1.heap.size := fun g hgg => by have := HO.out.lt g hgg; omega
  have HLT := Lib.hid hlt
  clear hb1 hlt CA
  go_wp2_with fail
  have HF0 := Lib.hid (Blk.new w1 4 (flags (List.replicate t.length false)))
  have HB2 := Lib.hid (HB1.out.alloc (by omega) (.cells (flags (List.replicate t.length false)) 4))
  have HO2 := Lib.hid (HO1.out.alloc (.cells (flags (List.replicate t.length false)) 4))
  clear hmk
  generalize hF : w1.heap.size = F at *
  have hBF : B ≤ F := by omega
  go_loopw [24] (fun n wr => ∃ (s : Nat) (D : List Bool) (L : List Int), s ≤ t.length ∧ n = .int .i64 s ∧ Hid (Outer t l s D L) ∧ Hid (OI .u64 41 wr B (.slice A l.length c) L) ∧ Hid (Blk wr F 4 (flags D)) ∧ Hid (Below B w wr)) (fun n _ => t.length - (intOf n).toNat)
  case atStart => exact ⟨0, _, l, by omega, rfl, HZ, HO2, HF0, HB2⟩
  case round =>
    obtain ⟨s, D, L, hs, rfl, HU, HOr, HFr, HBr⟩ := hrel
    by_cases hlts : s < t.length
    · have hs0 : (0 : Int) ≤ (s : Int) := by omega
      have hs1' : (s : Int) < (t.length : Int) := by omega
      have hsl : (s : Int) < (l.length : Int) := by have := HL.out; omega
      have hsD : s < D.length := by rw [HU.out.ld]; exact hlts
      have hfk := (HFr.out.cell s).trans (flags_get D hsD)
      cases hdn : D.getD s false with
      | true =>
        rw [hdn] at hfk
        have HU2 := Lib.hid (HU.out.skip hdn)
        clear hdn
        go_wp2_with fail
        go_roundw
        case rel => exact ⟨s + 1, D, L, by omega, by go_num, HU2, HOr, HFr, HBr⟩
        case measure => simp [intOf]; omega
      | false =>
        rw [hdn] at hfk
        obtain ⟨g, rfl⟩ := ownSome HOr.out (i := s) (by rw [HU.out.ll]; exact hlts)
        have hgl := HLT.out g rfl
        have hgF : g ≠ F := by omega
        have HDN := Lib.hid hdn
        have HI0 := Lib.hid (HU.out.begin hlts hdn)
        have hLn : L.length = l.length := by rw [HU.out.ll, HL.out]
        have HLN := Lib.hid hLn
        have hce := HOr.out
        rw [← hLn] at hce
        have hel := hce.cellAt (i := s) (by omega)
        rw [HU.out.no s hlts hdn] at hel
        have HX := Lib.hid (show l.getD s 0 = l.getD s 0 from rfl)
        clear hce hdn hLn
        generalize hx : l.getD s 0 = x at *
        have HXX := Lib.hid hx
        clear hx HX
        go_wp2_with fail
        go_loopw [8] (fun i8 wq => ∃ (i : Nat) (D' : List Bool) (L' : List Int), i8 = .int .i64 i ∧ Hid (Inner t l s i D D' L') ∧ Hid (OI .u64 41 wq B (.slice (some ⟨g, 0, none⟩) l.length c) L') ∧ Hid (Blk wq F 4 (flags D')) ∧ Hid (Below B w wq)) (fun _ wq => leftW wq F)
        case atStart => exact ⟨s, D, L, rfl, HI0, HOr, HFr, HBr⟩
        case round =>
          obtain ⟨i, D', L', rfl, HI, HOq, HFq, HBq⟩ := hrel
          have hit := HI.out.hi
          obtain ⟨ad, hA, hte⟩ := (HT.out _ HBq.out).at_ hit
          have hsg := HG.out.sg_lt hit
          rw [hsg.2] at hte
          have hiD : i < D'.length := by rw [HI.out.ld]; exact hit
          have hiL : i < L'.length := by rw [HI.out.ll]; exact hit
          have hi0 : (0 : Int) ≤ (i : Int) := by omega
          have hi1 : (i : Int) < (t.length : Int) := by omega
          have hil : (i : Int) < (l.length : Int) := by have := HL.out; omega
          have hLn' : L'.length = l.length := by rw [HI.out.ll, HL.out]
          have hce := HOq.out
          rw [← hLn'] at hce
          subst hA
          by_cases hst : sg t i = s
          · have HUS := Lib.hid (HI.out.stop HG.out HU.out hst HDN.out)
            rw [HXX.out] at HUS
            have hd5 : ((sg t i : Int) != (s : Int)) = false := by simp [hst]
            have hd6 : ((sg t i : Int) == (s : Int)) = true := by simp [hst]
            have hcl := hce.cellAt hiL
            have hcf := HOq.out.frozenAt hLn'.symm i
            have HST := Lib.hid (OI.stored hLn'.symm HOq.out i x)
            rw [hst] at hte
            go_upto_region 15 with fail
            generalize hW1 : wr.setCell ⟨g, i, none⟩ (.int .u64 x) = W1
            have HO3 := Lib.hid (show OI .u64 41 W1 B (.slice (some ⟨g, 0, none⟩) l.length c) (L'.set i x) from by rw [← hW1]; exact HST.out)
            have HF3 := Lib.hid (show Blk W1 F 4 (flags D') from by rw [← hW1]; exact HFq.out.far (p := ⟨g, i, none⟩) hgF.symm _)
            have HB3 := Lib.hid (show Below B w W1 from by rw [← hW1]; exact HBq.out.setCell (p := ⟨g, i, none⟩) hgl.1 _)
            clear hW1 hcl hcf hce HST
            have hf3 := (HF3.out.cell i).trans (flags_get D' hiD)
            have hf3f := HF3.out.frozen i
            have hiDD : (i : Int) < (D'.length : Int) := by omega
            go_wp2_with fail
            go_roundw
            case rel => exact ⟨s + 1, D'.set i true, L'.set i x, by omega, by go_num, HUS, Lib.hid (keep_set HO3.out hgF), Lib.hid (HF3.out.setFlag i), Lib.hid (HB3.out.setCell (p := ⟨F, i, none⟩) hBF _)⟩
            case measure => simp [intOf]; omega
          · have HIN := Lib.hid (HI.out.next HG.out HU.out hst)
            have hsn : sg t i < L'.length := by rw [HI.out.ll]; exact hsg.1
            have hcl := hce.cellAt hiL
            have hcf := HOq.out.frozenAt hLn'.symm i
            have hcs := hce.cellAt hsn
            have hq0 : (0 : Int) ≤ (sg t i : Int) := by omega
            have hq1 : (sg t i : Int) < (l.length : Int) := by omega
            have hd5 : ((sg t i : Int) != (s : Int)) = true := by simp; omega
            have hd6 : ((sg t i : Int) == (s : Int)) = false := by simp; omega
            have HST := Lib.hid fun y => OI.stored hLn'.symm HOq.out i y
            have hLS := Lib.hid (left_set D' i hiD HI.out.here)
            generalize L'.getD (sg t i) 0 = y at *
            generalize sg t i = q at *
            go_upto_region 12 with fail
            generalize hW1 : wr.setCell ⟨g, i, none⟩ (.int .u64 y) = W1
            have HO3 := Lib.hid (show OI .u64 41 W1 B (.slice (some ⟨g, 0, none⟩) l.length c) (L'.set i y) from by rw [← hW1]; exact HST.out y)
            have HF3 := Lib.hid (show Blk W1 F 4 (flags D') from by rw [← hW1]; exact HFq.out.far (p := ⟨g, i, none⟩) hgF.symm _)
            have HB3 := Lib.hid (show Below B w W1 from by rw [← hW1]; exact HBq.out.setCell (p := ⟨g, i, none⟩) hgl.1 _)
            clear hW1 hcl hcf hce hcs HST
            have hf3 := (HF3.out.cell i).trans (flags_get D' hiD)
            have hf3f := HF3.out.frozen i
            go_upto_region 13 with fail
            generalize hW2 : W1.setCell ⟨F, i, none⟩ (.bool true) = W2
            have HO4 := Lib.hid (show OI .u64 41 W2 B (.slice (some ⟨g, 0, none⟩) l.length c) (L'.set i y) from by rw [← hW2]; exact keep_set HO3.out hgF)
            have HF4 := Lib.hid (show Blk W2 F 4 (flags (D'.set i true)) from by rw [← hW2]; exact HF3.out.setFlag i)
            have HB4 := Lib.hid (show Below B w W2 from by rw [← hW2]; exact HB3.out.setCell (p := ⟨F, i, none⟩) hBF _)
            clear hW2 hf3 hf3f
            obtain ⟨ad', hA', hte'⟩ := (HT.out _ HB4.out).at_ hit
            injection hA' with hA'
            subst hA'
            rw [hsg.2] at hte'
            go_wp2_with fail
            go_roundw
            case rel => exact ⟨q, D'.set i true, L'.set i y, rfl, Lib.hid HIN.out.1, HO4, HF4, HB4⟩
            case measure =>
              rw [leftW_of HF4.out, leftW_of HFq.out]
              have := hLS.out
              omega
    · obtain rfl : s = t.length := by omega
      have HEND := Lib.hid (show ∀ j, j < t.length → L.getD j 0 = l.getD (sg t j) 0 from fun j hj => HU.out.yes j hj (HU.out.front j hj))
      go_wp2_with fail
      go_ret
      exact ⟨L, rfl, HOr.out, HU.out.ll, HEND.out, HBr.out⟩
end Sw
end Go.Proofs.Ytmofdjddjkjogaa
