/- The walks of slices.Sort over at most twelve numbers, slices.Sorted over a map's keys. No condition. -/
import Derived.Test.YtpkpadepccneeaaGreatDoorL42
import Derived.Test.YtpkpadepccneeaaGreatDoorL14
import Derived.Test.YtpkpadepccneeaaGreatDoorL43
namespace Go.Proofs.YtpkpadepccneeaaGreatDoor
open Go.RowKit
set_option linter.unusedVariables false
set_option linter.unusedSimpArgs false
theorem isNaN_rd (x : Nat) (w : World) : Rd 311 #[.int .u64 x] w (.bool false) := by
  refine Rd.of_same fun n => ?_
  go_enter Tryz.func311, Tryz.ntmps311
  go_wp2_with fail
  go_ret
  exact ⟨by simp, rfl⟩
theorem Less_rd (x y : Nat) (w : World) : Rd 285 #[.int .u64 x, .int .u64 y] w (.bool (decide (x < y))) := by
  refine Rd.of_drawn fun n => ?_
  have C := isNaN_rd x w
  have HD := Lib.hid (show decide ((x : Int) < (y : Int)) = decide (x < y) by simp)
  go_enter Tryz.func285, Tryz.ntmps285
  go_wp2_with fail
  with_reducible refine (Rd.go (C) _).mono ?_
  rintro e_ w_ ⟨rfl, k1, rfl⟩
  go_wp2_with fail
  go_ret
  exact ⟨by simp, drawn_le (by omega)⟩
/-- A row of one's own, as it is sorted. -/
structure SR (xs : List Nat) (B g c : Nat) (w wr : World) (ys : List Nat) : Prop where
  row : OL wr B g c ys
  perm : ys.Perm xs
  fr : Fr (· = g) w wr
theorem SR.len {xs : List Nat} {B g c : Nat} {w wr : World} {ys : List Nat} (h : SR xs B g c w wr ys) : ys.length = xs.length := h.perm.length_eq
theorem SR.drewN {xs : List Nat} {B g c : Nat} {w wr : World} {ys : List Nat} (h : SR xs B g c w wr ys) (k : Nat) : SR xs B g c w (wr.drewN k) ys := ⟨h.row.drewN k, h.perm, h.fr.trans (Fr.drewN _ _ _)⟩
theorem SR.swp {xs : List Nat} {B g c : Nat} {w wr : World} {ys : List Nat} (h : SR xs B g c w wr ys) {j : Nat} (hj : j + 1 < ys.length) :
    SR xs B g c w ((wr.setCell ⟨g, j + 1, none⟩ (.int .u64 ((ys.getD j 0 : Nat) : Int))).setCell ⟨g, j, none⟩ (.int .u64 ((ys.getD (j + 1) 0 : Nat) : Int))) (swp ys j) :=
  ⟨OL.put (OL.put h.row (j + 1) (ys.getD j 0)) j (ys.getD (j + 1) 0), (swp_perm ys j hj).trans h.perm, (h.fr.trans (Fr.setCell (S := (· = g)) (p := ⟨g, j + 1, none⟩) rfl _ _)).trans (Fr.setCell (S := (· = g)) (p := ⟨g, j, none⟩) rfl _ _)⟩
set_option maxRecDepth 100000 in
set_option maxHeartbeats 4000000 in
theorem insertion_any (B g c : Nat) (xs : List Nat) (w : World) (ho : OL w B g c xs) (hn : xs.length ≤ 1000) :
    Calls Tryz.prog 279 #[.slice (some ⟨g, 0, none⟩) xs.length c, .int .i64 0, .int .i64 (xs.length : Int)] w fun e w' => e = .returned undef ∧ ∃ ys, SR xs B g c w w' ys ∧ SrtTo ys xs.length := by
  have R0 := Lib.hid (show SR xs B g c w w xs from ⟨ho, List.Perm.refl _, Fr.refl _ _⟩)
  have S0 := Lib.hid (show SrtTo xs 1 from fun a b h1 h2 => by omega)
  clear ho
  generalize hnn : xs.length = n at *
  have HNN := Lib.hid hnn
  clear hnn
  go_enter Tryz.func279, Tryz.ntmps279
  go_wp2_with fail
  go_loopw [6] (fun iv wr => ∃ (i : Nat) (ys : List Nat), iv = .int .i64 i ∧ 1 ≤ i ∧ i ≤ 1001 ∧ (i ≤ n ∨ n ≤ 1) ∧ Hid (SR xs B g c w wr ys) ∧ Hid (SrtTo ys i)) (fun iv _ => 1002 - (intOf iv).toNat)
  case atStart => exact ⟨1, xs, by first | rfl | go_num, by omega, by omega, by omega, R0, S0⟩
  case round =>
    clear R0 S0
    obtain ⟨i, ys, rfl, hi1, hi2, hin, HR, HS⟩ := hrel
    by_cases hlt : i < n
    · have HB := Lib.hid (SrtBut.start HS.out)
      go_wp2_with fail
      go_loopw [7] (fun jv wq => ∃ (j : Nat) (zs : List Nat), jv = .int .i64 j ∧ j ≤ i ∧ Hid (SR xs B g c w wq zs) ∧ Hid (SrtBut zs i j)) (fun jv _ => (intOf jv).toNat)
      case atStart => exact ⟨i, ys, rfl, by omega, HR, HB⟩
      case round =>
        clear HB HS HR
        obtain ⟨j, zs, rfl, hji, HR, HB⟩ := hrel
        have hzl : zs.length = n := HR.out.len.trans HNN.out
        rcases Nat.eq_zero_or_pos j with hj0 | hj0
        · subst hj0
          have HE := Lib.hid (HB.out.low)
          clear HB
          go_wp2_with fail
          go_quiet (fail)
          go_wp2_with fail
          go_roundw
          case rel => exact ⟨i + 1, zs, by go_num, by omega, by omega, by omega, Lib.hid (HR.out.drewN _), HE⟩
          case measure => simp [intOf]; omega
        · obtain ⟨j, rfl⟩ : ∃ j', j = j' + 1 := ⟨j - 1, by omega⟩
          have CL := Lib.hid (Less_rd (zs.getD (j + 1) 0) (zs.getD j 0) wr)
          have c1 := HR.out.row.cell (k := j + 1) (by omega)
          have c2 := HR.out.row.cell (k := j) (by omega)
          have g0 : decide ((0 : Int) < ((j + 1 : Nat) : Int)) = true := decide_eq_true (by omega)
          have i1 : IntKind.i64.wrap (((j + 1 : Nat) : Int) - 1) = (j : Int) := by rw [IntKind.wrap_i64]; omega
          have HGO := Lib.hid fun (h : zs.getD (j + 1) 0 < zs.getD j 0) => HB.out.go h (by omega) (by omega)
          have HST := Lib.hid fun (h : ¬ zs.getD (j + 1) 0 < zs.getD j 0) => HB.out.stop (Nat.le_of_not_lt h) (by omega)
          have HSW := Lib.hid fun k => (HR.out.drewN k).swp (j := j) (by omega)
          have hf := fun (i : Nat) => HR.out.row.frozen i
          have f1 := hf (j + 1)
          have f2 := hf j
          have hji2 : (j : Int) < (n : Int) := by omega
          have hji3 : ((j + 1 : Nat) : Int) < (n : Int) := by omega
          have hji0 : (0 : Int) ≤ (j : Int) := by omega
          have hji1 : (0 : Int) ≤ ((j + 1 : Nat) : Int) := by omega
          have hjne : ¬ j + 1 = j := by omega
          have i2 : ((j + 1 : Nat) : Int).toNat = j + 1 := by omega
          clear hf HB
          by_cases hl : zs.getD (j + 1) 0 < zs.getD j 0
          · rw [decide_eq_true hl] at CL
            have HG := Lib.hid (HGO.out hl)
            clear hl HGO HST
            generalize zs.getD (j + 1) 0 = a at *
            generalize zs.getD j 0 = b at *
            generalize hj1 : j + 1 = j1 at *
            go_wp2_with fail
            go_quiet ((go_at_call 285; first | exact Rd.qa (CL.out) _ _ | exact Rd.q (CL.out) _))
            go_wp2_with fail
            obtain ⟨V, hV⟩ : ∃ V, wr.drewN nq = V := ⟨_, rfl⟩
            have HSV := Lib.hid (show SR xs B g c w ((V.setCell ⟨g, j1, none⟩ (.int .u64 (b : Int))).setCell ⟨g, j, none⟩ (.int .u64 (a : Int))) (swp zs j) by rw [← hV]; exact HSW.out nq)
            have v1 : V.cell? ⟨g, j1, none⟩ = some (.int .u64 (a : Int)) := by rw [← hV]; exact c1
            have v2 : V.cell? ⟨g, j, none⟩ = some (.int .u64 (b : Int)) := by rw [← hV]; exact c2
            have e1 : V.frozen? ⟨g, j1, none⟩ = false := by rw [← hV]; exact f1
            have e2 : V.frozen? ⟨g, j, none⟩ = false := by rw [← hV]; exact f2
            rw [hV]
            clear c1 c2 f1 f2
            go_region_with (fail)
            all_goals (
              go_wp2_with fail
              go_roundw
              case rel => exact ⟨j, _, by first | rfl | go_num, by omega, Lib.hid (HSV.out.drewN 1), HG⟩
              case measure => simp [intOf]; omega)
          · rw [decide_eq_false hl] at CL
            have HE := Lib.hid (HST.out hl)
            clear hl HGO HST
            generalize zs.getD (j + 1) 0 = a at *
            generalize zs.getD j 0 = b at *
            generalize hj1 : j + 1 = j1 at *
            go_wp2_with fail
            go_quiet ((go_at_call 285; first | exact Rd.qa (CL.out) _ _ | exact Rd.q (CL.out) _))
            go_wp2_with fail
            go_roundw
            case rel => exact ⟨i + 1, zs, by go_num, by omega, by omega, by omega, Lib.hid (HR.out.drewN _), HE⟩
            case measure => simp [intOf]; omega
    · have HE := Lib.hid (show SrtTo ys n from by
        rcases hin with h | h
        · have : i = n := by omega
          subst this; exact HS.out
        · exact fun a b h1 h2 => by omega)
      go_wp2_with fail
      exact bodyPost_end (results_none rfl _ _ _) rfl ⟨rfl, ys, HR.out, HE.out⟩
theorem pdq_any (B g c : Nat) (q : Int) (xs : List Nat) (w : World) (ho : OL w B g c xs) (hn : xs.length ≤ 12) :
    Calls Tryz.prog 237 #[.slice (some ⟨g, 0, none⟩) xs.length c, .int .i64 0, .int .i64 (xs.length : Int), .int .i64 q] w fun e w' => e = .returned undef ∧ ∃ ys, SR xs B g c w w' ys ∧ SrtTo ys xs.length := by
  have C := Lib.hid (insertion_any B g c xs w ho (by omega))
  have g1 : decide ((xs.length : Int) ≤ 12) = true := decide_eq_true (by omega)
  have g1' : decide (xs.length ≤ 12) = true := decide_eq_true hn
  clear ho
  generalize xs.length = n at *
  go_enter Tryz.func237, Tryz.ntmps237
  go_wp2_with fail
  refine wp_loop_rounds 2 ?_
  rw [rounds_succ]
  go_wp2_with fail
  with_reducible refine (C.out).mono ?_
  rintro e w1 ⟨rfl, hr⟩
  have HR := Lib.hid hr
  clear hr
  go_wp2_with fail
  exact bodyPost_ret (results_none rfl _ _ _) rfl ⟨rfl, HR.out⟩
theorem Sort_any (B g c : Nat) (xs : List Nat) (w : World) (ho : OL w B g c xs) (hn : xs.length ≤ 12) :
    Calls Tryz.prog 181 #[.slice (some ⟨g, 0, none⟩) xs.length c] w fun e w' => e = .returned undef ∧ ∃ ys, SR xs B g c w w' ys ∧ SrtTo ys xs.length := by
  have C := Lib.hid fun q => pdq_any B g c q xs w ho hn
  have hw : IntKind.u64.wrap (xs.length : Int) = (xs.length : Int) := w_small (by omega) (by omega)
  clear ho
  generalize xs.length = n at *
  go_enter Tryz.func181, Tryz.ntmps181
  go_wp2_with fail
  with_reducible refine ((Tryz.bits_Len (n : Int) w (by omega) (by omega))).mono ?_
  rintro e w1 ⟨rfl, rfl⟩
  go_wp2_with fail
  with_reducible refine ((C.out _)).mono ?_
  rintro e w2 ⟨rfl, hr⟩
  have HR := Lib.hid hr
  clear hr
  go_wp2_with fail
  exact bodyPost_end (results_none rfl _ _ _) rfl ⟨rfl, HR.out⟩
/-- A map's keys, sorted. -/
structure SK (K ys : List Nat) (g c : Nat) (w w' : World) : Prop where
  nodup : ys.Nodup
  mem : ∀ x, x ∈ ys ↔ x ∈ K
  up : ∀ i j, i < j → j < ys.length → ys.getD i 0 < ys.getD j 0
  at_ : ∀ i, i < ys.length → w'.cell? ⟨g, i, none⟩ = some (.int .u64 ((ys.getD i 0 : Nat) : Int))
  len : ys.length ≤ 12
  lo : w.heap.size ≤ g
  bl : Below w.heap.size w w'
theorem Sorted_any (bx b p : Nat) (K : List Nat) (D : DataW Value) (w : World) (hm : SM w b K.length D) (hk : ∀ x : Nat, Go.Maps.has D (kx x) = decide (x ∈ K)) (hl : K.length ≤ 12) (hp : p ∈ K) (hbx : w.heap[bx]? = some (.cells #[.map (some b)] 206 (0, 0))) :
    Calls Tryz.prog 121 #[.func (.func 182) #[] #[.pointer (some ⟨bx, 0, none⟩)]] w fun e w' => ∃ g c ys, e = .returned (.slice (some ⟨g, 0, none⟩) ys.length c) ∧ SK K ys g c w w' := by
  have C := Lib.hid (Collect_keys bx b K.length D w hm hbx (by omega))
  have HKS := Lib.hid (show ∀ xs, KeysOfMap D xs → xs.Nodup ∧ (∀ x, x ∈ xs ↔ x ∈ K) from fun xs h => ⟨h.1, fun x => by rw [h.2 x, show (Lit.int .u64 (x : Int)) = kx x from rfl, hk x, decide_eq_true_iff]⟩)
  clear hm hbx hk
  go_enter Tryz.func121, Tryz.ntmps121
  go_wp2_with fail
  with_reducible refine (C.out).mono ?_
  rintro e w1 ⟨v, xs, rfl, hk, ho, hb⟩
  obtain ⟨hnd, hmem⟩ := HKS.out xs hk
  have hlen : xs.length ≤ 12 := Nat.le_trans (len_of_sub hnd fun x hx => (hmem x).1 hx) hl
  have hpos : 0 < xs.length := List.length_pos_of_mem ((hmem p).2 hp)
  obtain ⟨A, c, rfl, _⟩ := ho.form
  obtain ⟨g, rfl⟩ := OI.some (i := 0) ho (by simpa [toI] using hpos)
  have hxl : (toI xs).length = xs.length := by simp [toI]
  have hbase := ho.base
  rw [hxl] at ho
  have HO := Lib.hid (show OL w1 w.heap.size g c xs from ho)
  have HB := Lib.hid hb
  have HLO := Lib.hid hbase.1
  have HN := Lib.hid hnd
  have HM := Lib.hid hmem
  clear hk ho hb hnd hmem C HKS
  clear hbase
  go_wp2_with fail
  with_reducible refine ((Sort_any w.heap.size g c xs w1 HO.out hlen)).mono ?_
  rintro e w2 ⟨rfl, ys, hr, hs⟩
  have hyl := hr.len
  have hnd : ys.Nodup := (hr.perm.nodup_iff).2 HN.out
  have hup : ∀ i j, i < j → j < ys.length → ys.getD i 0 < ys.getD j 0 := SrtTo.rise (by rw [hyl]; exact hs) hnd
  have HK := Lib.hid (show SK K ys g c w w2 from ⟨hnd, fun x => by rw [hr.perm.mem_iff]; exact HM.out x, hup, fun i hi => hr.row.cell hi, by omega, HLO.out, HB.out.trans (hr.fr.to_below HB.out.size (fun i hi e => by have := HLO.out; omega))⟩)
  have HYL := Lib.hid hyl
  clear hyl hnd hup hr hs
  go_wp2_with fail
  go_ret
  exact ⟨g, c, ys, by rw [HYL.out]; rfl, HK.out⟩
end Go.Proofs.YtpkpadepccneeaaGreatDoor
