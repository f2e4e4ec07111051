/- The walk of the law ViewDense. No condition. -/
import Derived.Test.YtdaajncfhcpecaaChecksLaw
import Derived.Test.YtdaajncfhcpecaaDenseMath
import Derived.Test.YtdaajncfhcpecaaVRev
namespace Go.Proofs.Ytdaajncfhcpecaa
set_option linter.unusedVariables false
set_option linter.unusedSimpArgs false
open Go.RowKit
/-- A row that came in: a nil slice is empty. -/
theorem row_nil {w : World} {a : Option Addr} {len cap : Nat} {zs : List Int}
    (h : (a = none ∧ len = 0 ∧ cap = 0 ∧ zs = []) ∨ ∃ x, a = some x ∧ len ≤ cap ∧ cap ≤ maxLen ∧ zs.length = cap ∧ (∀ i, i < zs.length → w.cell? (x.add i) = some (.int .i64 (zs.getD i 0))) ∧ ∀ n ∈ zs, (Lit.int .i64 n).wf = true) :
    a = none → len = 0 ∧ cap = 0 := fun ha => by
  rcases h with ⟨_, h1, h2, _⟩ | ⟨x, h1, _⟩
  · exact ⟨h1, h2⟩
  · rw [ha] at h1; cases h1
theorem St.low {w U : World} {t : TypeId} {cs : Array Value} (h : St w U t cs) : Below w.heap.size w U := And.left h
theorem St.blk {w U : World} {t : TypeId} {cs : Array Value} (h : St w U t cs) : Blk U w.heap.size t cs := And.right h
theorem OI.ri {k : IntKind} {e : TypeId} {w : World} {B : Nat} {A : Option Addr} {n c : Nat} {l : List Int} (h : OI k e w B (.slice A n c) l) : RI k w A l := by
  obtain ⟨_, _, e1, hr1⟩ := h.form
  injection e1 with e1 _ _
  subst e1
  exact hr1
set_option maxHeartbeats 2000000 in
theorem dense_law (A : Option Addr) (c : Nat) (l : List Int) (w : World) (hr : RI .i64 w A l) (hm : l.length ≤ 9223372036854775807) (hnil : A = none → l.length = 0 ∧ c = 0) :
    Calls Try.prog 8 #[.slice A l.length c] w fun e w' => e = .returned (.bool true) ∧ Below w.heap.size w w' := by
  have HR := Lib.hid fun U (h : Below w.heap.size w U) => hr.below h
  have CN := Lib.hid fun U (h : Below w.heap.size w U) => Dense_no A c l U (hr.below h) hm
  have CY := Lib.hid fun U (h : Below w.heap.size w U) => Dense_yes A c l U (hr.below h) hnil
  have CS := Lib.hid fun U (h : Below w.heap.size w U) => refSize_any A c l U (hr.below h) hm
  go_enter Try.func8, Try.ntmps8
  go_wp2_with fail
  with_reducible refine (alive8_any _).mono ?_
  rintro e w1 ⟨rfl, hb1⟩
  have HB1 := Lib.hid hb1
  clear hb1 hr hnil
  by_cases hg : (20 : Int) < (l.length : Int)
  · have hd := decide_eq_true hg
    clear hg
    go_wp2_with fail
    go_ret
    exact ⟨rfl, HB1.out⟩
  · have hd := decide_eq_false hg
    clear hg
    by_cases hok : S.Ok l
    · have CY1 := Lib.hid (CY.out w1 HB1.out hok)
      have h4 := hok.1
      have hN := sizeN_ok hok
      have hle := hok.2.2
      have hpos := hok.pos
      rw [← hN] at hle hpos
      have CS1 := Lib.hid fun U h => CS.out U h
      rw [hok.size, ← hN] at CS1
      have HC0 := Lib.hid (V.dense_cells hok)
      have HC1 := Lib.hid (V.dense_check hok (c := sizeN l) (Int.le_refl _) (by omega))
      have HC2 := Lib.hid (V.dense_less hok)
      have hsl := S.strides_length l
      rw [hsl] at CY1
      have HSL := Lib.hid hsl
      have HLC := Lib.hid (show (V.cells 0 l (S.strides l)).length = sizeN l by rw [HC0.out]; simp)
      have HGC := Lib.hid (show ∀ i, i < sizeN l → (V.cells 0 l (S.strides l)).getD i 0 = i from fun i hi => by rw [HC0.out]; simp [hi])
      have CC := Lib.hid fun U A1 c1 A2 c2 (h1 : RI .i64 U A1 l) (h2 : RI .i64 U A2 (S.strides l)) => Cells_any 0 A1 A2 c1 c2 l (S.strides l) U h1 h2 (by omega) (by omega)
      have CK := Lib.hid fun U A1 c1 A2 c2 (h1 : RI .i64 U A1 l) (h2 : RI .i64 U A2 (S.strides l)) => Check_any 0 A1 A2 c1 c2 l (S.strides l) (sizeN l) U h1 h2 (by omega) (by omega)
      have CJ := Lib.hid fun U A1 c1 A2 c2 (h1 : RI .i64 U A1 l) (h2 : RI .i64 U A2 (S.strides l)) => Check_any 0 A1 A2 c1 c2 l (S.strides l) (sizeN l - 1) U h1 h2 (by omega) (by omega)
      rw [hsl] at CC CK CJ
      rw [HC1.out] at CK
      rw [HC2.out] at CJ
      have hs0 := fun (A1 A2 : Option Addr) (c1 c2 : Nat) (U : World) (h1 : RI .i64 U A1 l) (h2 : RI .i64 U A2 l) => same_any A1 A2 c1 c2 l l U h1 h2 hm
      simp only [decide_true] at hs0
      have CE := Lib.hid hs0
      clear hs0 HC0 HC1 HC2
      generalize V.cells 0 l (S.strides l) = cl at *
      generalize S.strides l = t at *
      generalize sizeN l = N at *
      have hN1 : -9223372036854775808 ≤ (N : Int) - 1 := by omega
      have hN2 : (N : Int) - 1 ≤ 9223372036854775807 := by omega
      clear CN CY CS hok hN hsl
      go_wp2_with fail
      with_reducible refine CY1.out.mono ?_
      rintro e w2 ⟨A1, c1, A2, c2, rfl, ho1, ho2, hb2⟩
      have HB2 := Lib.hid (below_then HB1.out HB1.out.size hb2)
      have HR1 := Lib.hid ho1.ri
      have HR2 := Lib.hid ho2.ri
      clear ho1 ho2 hb2 CY1
      go_wp2_with fail
      have HS3 := Lib.hid (St.new w2 49 (view 0 A1 l.length c1 A2 l.length c2))
      have HB3 := Lib.hid (HB2.out.alloc HB2.out.size (.cells (view 0 A1 l.length c1 A2 l.length c2) 49))
      have Q1 := Lib.hid fun U (h : Below w2.heap.size w2 U) => HR1.out.below h
      have Q2 := Lib.hid fun U (h : Below w2.heap.size w2 U) => HR2.out.below h
      clear HR1 HR2
      with_reducible refine (CS1.out _ HB3.out).mono ?_
      rintro e w' ⟨rfl, rfl⟩
      go_wp2_with fail
      with_reducible refine (CC.out _ _ _ _ _ (Q1.out _ HS3.out.low) (Q2.out _ HS3.out.low)).mono ?_
      rintro e w4 ⟨vc, rfl, ho4, hb4⟩
      obtain ⟨Ac, cc, rfl, hr4⟩ := ho4.form
      have HR4 := Lib.hid hr4
      have HS4 := Lib.hid (HS3.out.step hb4)
      have HB4 := Lib.hid (below_then HB3.out HB3.out.size hb4)
      rw [HLC.out]
      clear hr4 ho4 hb4 CC CS1 HS3 HB3
      go_wp2_with fail
      go_loopw [38] (fun n wr => ∃ i : Nat, i ≤ N ∧ n = .int .i64 i ∧ wr = w4) (fun n _ => N - (intOf n).toNat)
      case atStart => exact ⟨0, by omega, rfl, rfl⟩
      case round =>
        obtain ⟨i, hi, rfl, rfl⟩ := hrel
        by_cases hlt : i < N
        · obtain ⟨ad, rfl, hel⟩ := HR4.out.at_ (show i < cl.length by rw [HLC.out]; exact hlt)
          rw [HGC.out i hlt] at hel
          have hi0 : (0 : Int) ≤ (i : Int) := by omega
          have hi1 : (i : Int) < (N : Int) := by omega
          go_wp2_with fail
          go_roundw
          case rel => exact ⟨i + 1, by omega, by go_num, trivial⟩
          case measure => simp [intOf]; omega
        · obtain rfl : i = N := by omega
          have v0 := HS4.out.blk.cell 0
          have v1 := HS4.out.blk.cell 1
          have v2 := HS4.out.blk.cell 2
          go_wp2_with fail
          with_reducible refine (CE.out _ _ _ _ _ (Q1.out _ HS4.out.low) (HR.out _ HB4.out)).mono ?_
          rintro e w5 ⟨rfl, hd5⟩
          have HS5 := Lib.hid (HS4.out.step (hd5.below _))
          have HB5 := Lib.hid (HB4.out.trans (hd5.below _))
          clear hd5 v0 v1 v2
          have v0 := HS5.out.blk.cell 0
          have v1 := HS5.out.blk.cell 1
          have v2 := HS5.out.blk.cell 2
          go_wp2_with fail
          with_reducible refine (CK.out _ _ _ _ _ (Q1.out _ HS5.out.low) (Q2.out _ HS5.out.low)).mono ?_
          rintro e w6 ⟨rfl, hb6⟩
          have HS6 := Lib.hid (HS5.out.step hb6)
          have HB6 := Lib.hid (below_then HB5.out HB5.out.size hb6)
          clear hb6 v0 v1 v2
          have v0 := HS6.out.blk.cell 0
          have v1 := HS6.out.blk.cell 1
          have v2 := HS6.out.blk.cell 2
          go_wp2_with fail
          with_reducible refine (CJ.out _ _ _ _ _ (Q1.out _ HS6.out.low) (Q2.out _ HS6.out.low)).mono ?_
          rintro e w7 ⟨rfl, hb7⟩
          have HB7 := Lib.hid (below_then HB6.out HB6.out.size hb7)
          clear hb7
          go_wp2_with fail
          go_ret
          exact ⟨rfl, HB7.out⟩
    · have CN1 := Lib.hid (CN.out w1 HB1.out hok)
      have HE := Lib.hid (show (S.sizeS l).1 = 0 ∧ ((S.sizeS l).2 = 1 ∨ (S.sizeS l).2 = 5) from by
        rcases S.size_cases l with ho | ⟨_, he⟩ | ⟨_, he⟩
        · exact absurd ho hok
        · rw [he]; exact ⟨rfl, .inl rfl⟩
        · rw [he]; exact ⟨rfl, .inr rfl⟩)
      obtain ⟨h1, h2⟩ := HE.out
      have CS1 := Lib.hid fun U h => CS.out U h
      rw [h1] at CS1
      clear h1 HE hok CN CY CS
      generalize (S.sizeS l).2 = q at *
      have hq : (q != 0) = true := by rcases h2 with rfl | rfl <;> rfl
      have hq2 : (q == 0) = false := by rcases h2 with rfl | rfl <;> rfl
      clear h2
      go_wp2_with fail
      with_reducible refine CN1.out.mono ?_
      rintro e w2 ⟨rfl, hb2⟩
      have HB2 := Lib.hid (below_then HB1.out HB1.out.size hb2)
      clear hb2
      go_wp2_with fail
      have HS3 := Lib.hid (St.new w2 49 noView)
      have HB3 := Lib.hid (HB2.out.alloc HB2.out.size (.cells noView 49))
      with_reducible refine (CS1.out _ HB3.out).mono ?_
      rintro e w' ⟨rfl, rfl⟩
      go_wp2_with fail
      with_reducible refine (empty_no _).mono ?_
      rintro e w4 ⟨rfl, hb4⟩
      have HB4 := Lib.hid (below_then HB3.out HB3.out.size hb4)
      clear hb4
      go_wp2_with fail
      go_ret
      exact ⟨rfl, HB4.out⟩
end Go.Proofs.Ytdaajncfhcpecaa
