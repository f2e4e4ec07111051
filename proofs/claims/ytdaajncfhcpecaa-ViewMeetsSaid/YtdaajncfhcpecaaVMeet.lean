/- The walks of chapter 8's Meet, the reference's and the program's. No condition. -/
import Derived.Test.YtdaajncfhcpecaaDenseLaw
import Derived.Maps.OwnSet
namespace Go.Proofs.Ytdaajncfhcpecaa
set_option linter.unusedVariables false
set_option linter.unusedSimpArgs false
open Go Go.RowKit Go.Maps
open Classical in
/-- Have both rows a number in common? -/
noncomputable def meetB (a b : List Int) : Bool := decide (∃ x, x ∈ a ∧ x ∈ b)
open Classical in
theorem meetB_yes {a b : List Int} {x : Int} (h1 : x ∈ a) (h2 : x ∈ b) : meetB a b = true := by unfold meetB; exact decide_eq_true ⟨x, h1, h2⟩
open Classical in
theorem meetB_no {a b : List Int} (h : ∀ x, x ∈ a → x ∉ b) : meetB a b = false := by unfold meetB; exact decide_eq_false fun ⟨x, h1, h2⟩ => h x h1 h2
open Classical in
theorem meetB_comm (a b : List Int) : meetB a b = meetB b a := by
  unfold meetB
  congr 1
  exact propext ⟨fun ⟨x, h1, h2⟩ => ⟨x, h2, h1⟩, fun ⟨x, h1, h2⟩ => ⟨x, h2, h1⟩⟩
theorem getD_mem' {l : List Int} {k : Nat} (h : k < l.length) : l.getD k 0 ∈ l := S.getD_mem h
theorem mem_getD {l : List Int} {x : Int} (h : x ∈ l) : ∃ i, i < l.length ∧ l.getD i 0 = x := by
  obtain ⟨i, hi, rfl⟩ := List.getElem_of_mem h
  exact ⟨i, hi, by rw [List.getD_eq_getElem?_getD, List.getElem?_eq_getElem hi]; rfl⟩
set_option maxHeartbeats 2000000 in
theorem refMeet_any (o : Int) (A B : Option Addr) (cp cq : Nat) (l s : List Int) (o2 : Int) (A2 B2 : Option Addr) (cp2 cq2 : Nat) (l2 s2 : List Int) (w : World) (hr : RI .i64 w A l) (hs : RI .i64 w B s) (hr2 : RI .i64 w A2 l2) (hs2 : RI .i64 w B2 s2)
    (hcap : l.length ≤ cp) (hm : l.length ≤ 9223372036854775807) (hms : s.length ≤ 9223372036854775807) (hcap2 : l2.length ≤ cp2) (hm2 : l2.length ≤ 9223372036854775807) (hms2 : s2.length ≤ 9223372036854775807) :
    Calls Try.prog 38 #[.agg (view o A l.length cp B s.length cq), .agg (view o2 A2 l2.length cp2 B2 s2.length cq2)] w fun e w' => e = .returned (.bool (meetB (V.cells o l s) (V.cells o2 l2 s2))) ∧ Below w.heap.size w w' := by
  have HT := Lib.hid ((St.new w 47 (view o A l.length cp B s.length cq)).step ((Below.refl _ _).alloc (Nat.le_refl _) (.cells (view o2 A2 l2.length cp2 B2 s2.length cq2) 47)))
  have Z := Blk.new (w.alloc (.cells (view o A l.length cp B s.length cq) 47)) 47 (view o2 A2 l2.length cp2 B2 s2.length cq2)
  rw [World.size_alloc] at Z
  have HK := Lib.hid Z
  clear Z
  have CA := Lib.hid fun U (h : Below w.heap.size w U) => refCells_any o A B cp cq l s U (hr.below h) (hs.below h) hcap hm hms
  have CB := Lib.hid fun U (h : Below w.heap.size w U) => refCells_any o2 A2 B2 cp2 cq2 l2 s2 U (hr2.below h) (hs2.below h) hcap2 hm2 hms2
  clear hr hs hr2 hs2 hcap hm hms hcap2 hm2 hms2
  generalize V.cells o l s = ca at *
  generalize V.cells o2 l2 s2 = cb at *
  have HY := Lib.hid fun (i j : Nat) (hi : i < ca.length) (hj : j < cb.length) (h : ca.getD i 0 = cb.getD j 0) => meetB_yes (getD_mem' hi) (by rw [h]; exact getD_mem' hj)
  have HN := Lib.hid (show (∀ i, i < ca.length → ∀ j, j < cb.length → ca.getD i 0 ≠ cb.getD j 0) → meetB ca cb = false from fun h => meetB_no fun x h1 h2 => by
    obtain ⟨i, hi, rfl⟩ := mem_getD h1
    obtain ⟨j, hj, he⟩ := mem_getD h2
    exact h i hi j hj he.symm)
  generalize meetB ca cb = R at *
  have k0 := HT.out.blk.cell 0
  have k1 := HT.out.blk.cell 1
  have k2 := HT.out.blk.cell 2
  go_enter Try.func38, Try.ntmps38
  go_wp2_with fail
  with_reducible refine (CA.out _ HT.out.low).mono ?_
  rintro e w1 ⟨v1, rfl, ho1, hb1⟩
  obtain ⟨Ac, cc, rfl, hrc⟩ := ho1.form
  have HRC := Lib.hid hrc
  have hca : ca.length ≤ 9223372036854775807 := Nat.le_trans ho1.len (by decide)
  have HT1 := Lib.hid (HT.out.step hb1)
  have HK1 := Lib.hid (HK.out.below hb1 HK.out.lt)
  clear hb1 hrc ho1 k0 k1 k2
  go_wp2_with fail
  go_loopw [12] (fun n wr => ∃ i : Nat, i ≤ ca.length ∧ n = .int .i64 i ∧ Hid (∀ t, t < i → ∀ j, j < cb.length → ca.getD t 0 ≠ cb.getD j 0) ∧ Hid (Below w1.heap.size w1 wr)) (fun n _ => ca.length - (intOf n).toNat)
  case atStart => exact ⟨0, by omega, rfl, Lib.hid (fun t ht => absurd ht (by omega)), Lib.hid (Below.refl _ _)⟩
  case round =>
    obtain ⟨i, hi, rfl, HNI, HBr⟩ := hrel
    have HTr := Lib.hid (HT1.out.step HBr.out)
    by_cases hlt : i < ca.length
    · obtain ⟨ad, rfl, hel⟩ := (HRC.out.below HBr.out).at_ hlt
      have b0 := (HK1.out.below HBr.out HK1.out.lt).cell 0
      have b1 := (HK1.out.below HBr.out HK1.out.lt).cell 1
      have b2 := (HK1.out.below HBr.out HK1.out.lt).cell 2
      have hi0 : (0 : Int) ≤ (i : Int) := by omega
      have hi1 : (i : Int) < (ca.length : Int) := by omega
      have HYI := Lib.hid fun (j : Nat) (hj : j < cb.length) (h : ca.getD i 0 = cb.getD j 0) => HY.out i j hlt hj h
      have HNN := Lib.hid (show (∀ j, j < cb.length → ca.getD i 0 ≠ cb.getD j 0) → ∀ t, t < i + 1 → ∀ j, j < cb.length → ca.getD t 0 ≠ cb.getD j 0 from fun h t ht j hj => by
        by_cases e : t = i
        · subst e; exact h j hj
        · exact HNI.out t (by omega) j hj)
      generalize ca.getD i 0 = x at *
      go_wp2_with fail
      with_reducible refine (CB.out _ HTr.out.low).mono ?_
      rintro e w2 ⟨v2, rfl, ho2, hb2⟩
      obtain ⟨Ad, cd, rfl, hrd⟩ := ho2.form
      have HRD := Lib.hid hrd
      have hcb : cb.length ≤ 9223372036854775807 := Nat.le_trans ho2.len (by decide)
      have HB2 := Lib.hid (below_then HBr.out HBr.out.size hb2)
      clear hb2 hrd ho2 b0 b1 b2
      go_wp2_with fail
      go_loopw [19] (fun n wq => ∃ j : Nat, j ≤ cb.length ∧ n = .int .i64 j ∧ Hid (∀ t, t < j → x ≠ cb.getD t 0) ∧ w2 = wq) (fun n _ => cb.length - (intOf n).toNat)
      case atStart => exact ⟨0, by omega, rfl, Lib.hid (fun t ht => absurd ht (by omega)), rfl⟩
      case round =>
        obtain ⟨j, hj, rfl, HNJ, rfl⟩ := hrel
        by_cases hltj : j < cb.length
        · obtain ⟨bd, rfl, helj⟩ := HRD.out.at_ hltj
          have hj0 : (0 : Int) ≤ (j : Int) := by omega
          have hj1 : (j : Int) < (cb.length : Int) := by omega
          have HYJ := Lib.hid (HYI.out j hltj)
          have HNJ2 := Lib.hid (show x ≠ cb.getD j 0 → ∀ t, t < j + 1 → x ≠ cb.getD t 0 from fun h t ht => by
            by_cases e : t = j
            · subst e; exact h
            · exact HNJ.out t (by omega))
          generalize cb.getD j 0 = y at *
          by_cases hxy : x = y
          · have HR := Lib.hid (HYJ.out hxy)
            subst hxy
            go_wp2_with fail
            go_ret
            exact ⟨ret_bool HR.out.symm, (HT1.out.step HB2.out).low⟩
          · have hq : (x == y) = false := by simp [hxy]
            have HNK := Lib.hid (HNJ2.out hxy)
            clear hxy
            go_wp2_with fail
            go_roundw
            case rel => exact ⟨j + 1, by omega, by go_num, HNK, trivial⟩
            case measure => simp [intOf]; omega
        · have hjj : j = cb.length := by omega
          have HNK := Lib.hid (HNN.out (fun t ht => HNJ.out t (by omega)))
          clear hj
          go_wp2_with fail
          go_roundw
          case rel => exact ⟨i + 1, by omega, by go_num, HNK, HB2⟩
          case measure => simp [intOf]; omega
    · have HR := Lib.hid (HN.out fun t ht j hj => HNI.out t (by omega) j hj)
      go_wp2_with fail
      go_ret
      exact ⟨ret_bool HR.out.symm, HTr.out.low⟩
end Go.Proofs.Ytdaajncfhcpecaa
