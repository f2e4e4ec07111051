/- The walk of chapter 8's Check, the reference's. No condition. -/
import Derived.Test.YtpkpadepccneeaaGreatDoorL20
import Derived.Test.YtpkpadepccneeaaGreatDoorL21
import Derived.Deep.CutRange
import Derived.Deep.RegionWith
import Derived.Test.YtpkpadepccneeaaGreatDoorL19
import Derived.ChangeKeysEq
namespace Go.Proofs.YtpkpadepccneeaaGreatDoor.W
set_option maxRecDepth 100000
set_option linter.unusedVariables false
set_option linter.unusedSimpArgs false
open Go.RowKit
/-- A row of flags. -/
def flags (fs : List Bool) : Array Value := (fs.map Value.bool).toArray
theorem flags_get (fs : List Bool) {x : Nat} (h : x < fs.length) : (flags fs)[x]? = some (.bool (fs.getD x false)) := by
  simp [flags, List.getElem?_eq_getElem h, List.getD_eq_getElem?_getD]
theorem flags_set (fs : List Bool) (x : Nat) (b : Bool) : (flags fs).setIfInBounds x (.bool b) = flags (fs.set x b) := by
  simp [flags, List.map_set]
theorem zero76 (w : World) : (zeroValue 158).run Tryz.prog w = .ok (.agg (flags (List.replicate 4096 false))) w := by kernel_rfl
set_option maxHeartbeats 1000000 in
theorem refCheck_any (o : Int) (A B : Option Addr) (cp cq : Nat) (l s : List Int) (c : Int) (w : World) (hr : RI .i64 w A l) (hs : RI .i64 w B s) (hcap : l.length ≤ cp) (hm : l.length ≤ 9223372036854775807) (hms : s.length ≤ 9223372036854775807) :
    Calls Tryz.prog 35 #[.agg (view o A l.length cp B s.length cq), .int .i64 c] w fun e w' => e = .returned (.int .i64 (V.check o l s c)) ∧ Below w.heap.size w w' := by
  have HB := Lib.hid ((Below.refl w.heap.size w).alloc (Nat.le_refl _) (.cells (view o A l.length cp B s.length cq) 29))
  have HR := Lib.hid (hr.below HB.out)
  have HS := Lib.hid (hs.below HB.out)
  have HK := Lib.hid (Blk.new w 29 (view o A l.length cp B s.length cq))
  have HC := Lib.hid (show V.check o l s c = if l.length ≠ s.length ∨ c < 0 ∨ 4096 < c then 1 else if (S.sizeS l).2 ≠ 0 then (S.sizeS l).2 else V.chk (V.cellOf o l s) (sizeN l) c from rfl)
  generalize V.check o l s c = R at *
  have HR0 := Lib.hid hr
  have HS0' := Lib.hid hs
  clear hr hs
  go_enter Tryz.func35, Tryz.ntmps35
  by_cases h1 : l.length = s.length
  · by_cases h2 : c < 0
    · have hb : ((l.length : Int) != (s.length : Int)) = false := by simp [h1]
      have hb2 : ((l.length : Int) == (s.length : Int)) = true := by simp [h1]
      have hb3 : decide (c < 0) = true := by simp; omega
      have HRR := Lib.hid (HC.out.trans (if_pos (by omega))).symm
      clear HC h1
      go_wp2_with fail
      go_ret
      exact ⟨ret_int HRR.out, HB.out⟩
    · by_cases h3 : 4096 < c
      · have hb : ((l.length : Int) != (s.length : Int)) = false := by simp [h1]
        have hb2 : ((l.length : Int) == (s.length : Int)) = true := by simp [h1]
        have hb3 : decide (c < 0) = false := by simp; omega
        have hb4 : decide (4096 < c) = true := by simp; omega
        have HRR := Lib.hid (HC.out.trans (if_pos (by omega))).symm
        clear HC h1
        go_wp2_with fail
        go_ret
        exact ⟨ret_int HRR.out, HB.out⟩
      · have HC2 := Lib.hid (HC.out.trans (if_neg (by omega)))
        have HL := Lib.hid h1
        have hb : ((l.length : Int) != (s.length : Int)) = false := by simp [h1]
        have hb2 : ((l.length : Int) == (s.length : Int)) = true := by simp [h1]
        have hb3 : decide (c < 0) = false := by simp; omega
        have hb4 : decide (4096 < c) = false := by simp; omega
        have CS := Lib.hid (refSize_any A cp l _ HR.out hm)
        clear HC h1
        by_cases hok : S.Ok l
        · rw [hok.size] at HC2 CS
          have HP := Lib.hid (HC2.out.trans (if_neg (by simp)))
          have hN := sizeN_ok hok
          rw [← hN] at CS
          have HN := Lib.hid hN
          clear hN HC2
          obtain ⟨Z, HZ0⟩ : ∃ Z, flags (List.replicate 4096 false) = Z := ⟨_, rfl⟩
          have hz := fun (W : World) => zero76 W
          rw [HZ0] at hz
          have HZ := Lib.hid HZ0
          clear HZ0
          go_wp2_with fail
          with_reducible refine CS.out.mono ?_
          rintro e w' ⟨rfl, rfl⟩
          have Z2 := Blk.new (w.alloc (.cells (view o A l.length cp B s.length cq) 29)) 158 Z
          rw [World.size_alloc] at Z2
          have HF := Lib.hid Z2
          have HK2 := Lib.hid (HK.out.alloc (.cells Z 158))
          have HB2 := Lib.hid (HB.out.alloc (by simp) (.cells Z 158))
          have h4 := hok.1
          have h4s : s.length ≤ 4 := by rw [← HL.out]; exact h4
          have hp := hok.2.2
          rw [← HN.out] at hp
          have HX := Lib.hid fun (k : Nat) (hk : k < sizeN l) => V.pad_small hok hk
          have HOUT := Lib.hid (show ∀ k, k < sizeN l → (V.cellOf o l s k < 0 ∨ c ≤ V.cellOf o l s k) → 6 = R from fun k hk h => (HP.out.trans (V.chk_out hk (by omega))).symm)
          have HIN := Lib.hid (show (∀ k, k < sizeN l → 0 ≤ V.cellOf o l s k ∧ V.cellOf o l s k < c) → (if V.dupB (V.cellOf o l s) (sizeN l) = true then 7 else 0) = R from fun h => (HP.out.trans (V.chk_in h)).symm)
          have HDEF := Lib.hid (show ∀ k, V.cellOf o l s k = V.cellR o s (S.pad (S.atL l k)) s.length from fun k => rfl)
          have CA := Lib.hid fun (k : Nat) (a b c d : Int) (hk : k < sizeN l) (hx : S.pad (S.atL l k) = [a, b, c, d]) (W : World) (h : RI .i64 W A l) => refAt_any A cp l k a b c d W h hcap hok (by omega) (by omega) hx
          have CC := Lib.hid fun (a b c d : Int) (hi : ∀ k, 0 ≤ [a, b, c, d].getD k 0 ∧ [a, b, c, d].getD k 0 ≤ 4096) (W : World) (h : RI .i64 W B s) => Cell_any o A B cp cq l s a b c d W h HL.out.symm hok.1 hi
          have HD0 := Lib.hid (V.dup_zero (V.cellOf o l s))
          have HS0 := Lib.hid (V.Seen.zero (V.cellOf o l s) 4096)
          clear HN CS HP
          generalize V.cellOf o l s = f at *
          generalize sizeN l = N at *
          go_wp2_with fail
          go_loopw [8, 9] (fun t n wr => ∃ (k : Nat) (fs : List Bool), k ≤ N ∧ n = .int .i64 k ∧ t = .bool (V.dupB f k) ∧ fs.length = 4096 ∧ Hid (V.Seen f k fs) ∧ Hid (∀ j, j < k → 0 ≤ f j ∧ f j < c) ∧ Hid (Blk wr w.heap.size 29 (view o A l.length cp B s.length cq)) ∧ Hid (Blk wr (w.heap.size + 1) 158 (flags fs)) ∧ Hid (Below w.heap.size w wr)) (fun _ n _ => N - (intOf n).toNat)
          case atStart =>
            exact ⟨0, List.replicate 4096 false, by omega, rfl, by rw [HD0.out], List.length_replicate .., HS0, Lib.hid fun j hj => absurd hj (by omega), HK2, by rw [HZ.out]; exact HF, HB2⟩
          case round =>
            obtain ⟨k, fs, hk, rfl, rfl, hfl, HSE, HIN', HKr, HFr, HBr⟩ := hrel
            by_cases hlt : k < N
            · obtain ⟨a, b, c', d, hx⟩ := list_four (S.pad_length (x := S.atL l k) (by rw [S.atL_length]; exact h4))
              have CA1 := Lib.hid fun (W : World) (h : RI .i64 W A l) => CA.out k a b c' d hlt hx W h
              have hsm := HX.out k hlt
              rw [hx] at hsm
              have CC1 := Lib.hid fun (W : World) (h : RI .i64 W B s) => CC.out a b c' d (fun j => ⟨(hsm j).1, (hsm j).2.1⟩) W h
              have hfk := HDEF.out k
              rw [hx] at hfk
              rw [← hfk] at CC1
              have HOK := Lib.hid (HOUT.out k hlt)
              clear hsm hx hfk
              have CA2 := Lib.hid (CA1.out wr.drew ((HR0.out.below HBr.out).drewN 1))
              have w0 := HKr.out.cell 0
              have w1 := HKr.out.cell 1
              have w2 := HKr.out.cell 2
              clear CA1 CA CC HOUT HIN HX HDEF
              go_upto_region 11 with fail
              go_cut [10] from 35 to 60 (fun c10 wx => c10 = .int .i64 (f k) ∧ Hid (Below wr.heap.size wr wx))
              case first =>
                go_region_with (first
                  | (go_at_call 44; refine CA2.out.mono ?_; rintro e U ⟨rfl, hbu⟩; (have HKU := (HKr.out.drewN 1).below hbu HKr.out.lt); have v0 := HKU.cell 0; have v1 := HKU.cell 1; have v2 := HKU.cell 2; (have HBU := Lib.hid (show Below wr.heap.size wr U from ⟨hbu.os, hbu.tape, hbu.output, hbu.size, hbu.block⟩)); have HSU := Lib.hid (((HS0'.out.below HBr.out)).below HBU.out); clear HKU hbu)
                  | (go_at_call 43; refine (CC1.out _ HSU.out).mono ?_; rintro e U2 ⟨rfl, hbu2⟩; have HBU2 := Lib.hid (below_then HBU.out HBU.out.size hbu2); clear hbu2))
                all_goals (go_wp2_with fail; go_meet; exact ⟨rfl, HBU2⟩)
              case rest =>
                obtain ⟨rfl, HBx⟩ := hcut
                clear w0 w1 w2
                have HFx := Lib.hid (HFr.out.below HBx.out HFr.out.lt)
                have HKx := Lib.hid (HKr.out.below HBx.out HKr.out.lt)
                have HBw := Lib.hid (below_then HBr.out HBr.out.size HBx.out)
                by_cases hneg : f k < 0
                · have HRR := Lib.hid (HOK.out (.inl hneg))
                  have hd : decide (f k < 0) = true := by simp [hneg]
                  go_wp2_with fail
                  go_ret
                  exact ⟨ret_int HRR.out, HBw.out⟩
                · by_cases hge : c ≤ f k
                  · have HRR := Lib.hid (HOK.out (.inr hge))
                    have hd : decide (f k < 0) = false := by simp; omega
                    have hd2 : decide (c ≤ f k) = true := by simp [hge]
                    go_wp2_with fail
                    go_ret
                    exact ⟨ret_int HRR.out, HBw.out⟩
                  · obtain ⟨x, hxf⟩ : ∃ x : Nat, f k = (x : Int) := ⟨(f k).toNat, by omega⟩
                    have hxl : x < fs.length := by omega
                    have HSE' := Lib.hid (HSE.out.step hxf hxl)
                    have HDE := Lib.hid (V.dup_step HSE.out hxf)
                    have HIN2 := Lib.hid (show ∀ j, j < k + 1 → 0 ≤ f j ∧ f j < c from fun j hj => by
                      by_cases e : j = k
                      · rw [e]; omega
                      · exact HIN'.out j (by omega))
                    have hfx := (HFx.out.cell x).trans (flags_get fs hxl)
                    have hfr := HFx.out.frozen x
                    have HFS := Lib.hid (show Blk (wc.setCell ⟨w.heap.size + 1, x, none⟩ (.bool true)) (w.heap.size + 1) 158 (flags (fs.set x true)) from by
                      have h := HFx.out.set_ x (.bool true)
                      rw [flags_set] at h
                      exact h)
                    have HKS := Lib.hid (HKx.out.far (p := ⟨w.heap.size + 1, x, none⟩) (show w.heap.size ≠ w.heap.size + 1 by omega) (.bool true))
                    have HBS := Lib.hid (HBw.out.setCell (p := ⟨w.heap.size + 1, x, none⟩) (show w.heap.size ≤ w.heap.size + 1 by omega) (.bool true))
                    have hx0 : (0 : Int) ≤ (x : Int) := by omega
                    have hx1 : (x : Int) < 4096 := by omega
                    have hxc : (x : Int) < c := by omega
                    have hd : decide ((x : Int) < 0) = false := by simp
                    have hd2 : decide (c ≤ (x : Int)) = false := by simp; omega
                    have hsl : (fs.set x true).length = 4096 := by rw [List.length_set]; exact hfl
                    rw [hxf]
                    clear hneg hge hxf hxl hfl HSE HOK CC1 CA2 
                    generalize fs.getD x false = b0 at *
                    have HDE2 := HDE.out
                    clear HDE
                    cases hb : V.dupB f k with
                    | true =>
                      rw [hb] at HDE2
                      have HD3 := Lib.hid HDE2
                      clear HDE2 hb
                      go_wp2_with fail
                      go_roundw
                      case rel => exact ⟨k + 1, _, by omega, by go_num, by rw [HD3.out]; rfl, hsl, HSE', HIN2, HKS, HFS, HBS⟩
                      case measure => simp [intOf]; omega
                    | false =>
                      rw [hb] at HDE2
                      have HD3 := Lib.hid HDE2
                      clear HDE2 hb
                      go_wp2_with fail
                      go_roundw
                      case rel => exact ⟨k + 1, _, by omega, by go_num, by rw [HD3.out]; rfl, hsl, HSE', HIN2, HKS, HFS, HBS⟩
                      case measure => simp [intOf]; omega
            · obtain rfl : k = N := by omega
              have HRR := Lib.hid (HIN.out HIN'.out)
              clear HIN HIN' HOUT CC CA HX HDEF
              have h := HRR.out
              clear HRR
              cases hb : V.dupB f k with
              | true =>
                rw [hb, if_pos rfl] at h
                have HRR := Lib.hid h
                clear h hb
                go_wp2_with fail
                go_ret
                exact ⟨ret_int HRR.out, HBr.out⟩
              | false =>
                rw [hb, if_neg (by decide)] at h
                have HRR := Lib.hid h
                clear h hb
                go_wp2_with fail
                go_ret
                exact ⟨ret_int HRR.out, HBr.out⟩
        · rcases S.size_cases l with ho | ⟨_, he⟩ | ⟨_, he⟩
          · exact absurd ho hok
          · rw [he] at HC2 CS
            have HRR := Lib.hid (HC2.out.trans (if_pos (by simp))).symm
            clear HC2 he
            go_wp2_with fail
            with_reducible refine CS.out.mono ?_
            rintro e w' ⟨rfl, rfl⟩
            go_wp2_with fail
            go_ret
            exact ⟨ret_int HRR.out, HB.out⟩
          · rw [he] at HC2 CS
            have HRR := Lib.hid (HC2.out.trans (if_pos (by simp))).symm
            clear HC2 he
            go_wp2_with fail
            with_reducible refine CS.out.mono ?_
            rintro e w' ⟨rfl, rfl⟩
            go_wp2_with fail
            go_ret
            exact ⟨ret_int HRR.out, HB.out⟩
  · have hb : ((l.length : Int) != (s.length : Int)) = true := by simp; omega
    have hb2 : ((l.length : Int) == (s.length : Int)) = false := by simp; omega
    have HRR := Lib.hid (HC.out.trans (if_pos (.inl h1))).symm
    clear HC h1
    go_wp2_with fail
    go_ret
    exact ⟨ret_int HRR.out, HB.out⟩
end Go.Proofs.YtpkpadepccneeaaGreatDoor.W

/- Arrays of four whole numbers that are held against themselves. No condition. -/
namespace Go.Proofs.YtpkpadepccneeaaGreatDoor.W
set_option maxRecDepth 100000
set_option linter.unusedVariables false
set_option linter.unusedSimpArgs false
open Go.RowKit
theorem run_eq_int (a b : Int) (d : Nat) (w : World) : (Op.equalIn (d + 1) 3 (.int .i64 a) (.int .i64 b)).run Tryz.prog w = .ok (a == b) w := by
  have h3 : Tryz.prog.underlying 3 = some (.int .i64) := by kernel_rfl
  simp [Op.equalIn, run_underlying h3]
theorem part_0 (a b c d : Int) (w : World) : (part 3 (four a b c d) 0).run Tryz.prog w = .ok (.int .i64 a) w := by kernel_rfl
theorem part_1 (a b c d : Int) (w : World) : (part 3 (four a b c d) 1).run Tryz.prog w = .ok (.int .i64 b) w := by kernel_rfl
theorem part_2 (a b c d : Int) (w : World) : (part 3 (four a b c d) 2).run Tryz.prog w = .ok (.int .i64 c) w := by kernel_rfl
theorem part_3 (a b c d : Int) (w : World) : (part 3 (four a b c d) 3).run Tryz.prog w = .ok (.int .i64 d) w := by kernel_rfl
theorem eqIn_four (t : TypeId) (ht : Tryz.prog.underlying t = some (.array 4 3)) (k : Nat) (a b c d : Int) (w : World) : (Op.equalIn (k + 2) t (.agg (four a b c d)) (.agg (four a b c d))).run Tryz.prog w = .ok true w := by
  obtain ⟨i0, hi, _⟩ := info_parts infoInt
  have hc : Tryz.prog.cellsOf 3 = 1 := by kernel_rfl
  rw [run_equalIn_array w (k + 1) _ _ ht hi, hc]
  have hl : List.range 4 = [0, 1, 2, 3] := by decide
  rw [hl]
  simp only [Op.eqItems, Sem.run_bind, Nat.zero_mul, Nat.one_mul, Nat.mul_one, part_0, part_1, part_2, part_3, run_eq_int, Result.andThen_ok, beq_self_eq_true, Bool.not_true, Bool.false_eq_true, if_false, Sem.run_pure]
theorem eql_four (t : TypeId) (ht : Tryz.prog.underlying t = some (.array 4 3)) (a b c d : Int) (w : World) : (binOp .eql t (.agg (four a b c d)) (.agg (four a b c d))).run Tryz.prog w = .ok (.bool true) w := by
  simp only [binOp]
  simp [Op.equal, Op.maxDepth, eqIn_four t ht 9998 a b c d w]
theorem neq_four (t : TypeId) (ht : Tryz.prog.underlying t = some (.array 4 3)) (a b c d : Int) (w : World) : (binOp .neq t (.agg (four a b c d)) (.agg (four a b c d))).run Tryz.prog w = .ok (.bool false) w := by
  simp only [binOp]
  simp [Op.equal, Op.maxDepth, eqIn_four t ht 9998 a b c d w]
theorem arr33 : Tryz.prog.underlying 170 = some (.array 4 3) := by kernel_rfl
theorem arr32 : Tryz.prog.underlying 116 = some (.array 4 3) := by kernel_rfl
end Go.Proofs.YtpkpadepccneeaaGreatDoor.W

/- What the caller of All owes, in parts: blocks and 'below' abide what the iterator turns; what a round keeps. No condition. -/
namespace Go.Proofs.YtpkpadepccneeaaGreatDoor.W
set_option maxRecDepth 100000
set_option linter.unusedVariables false
open Go Go.RowKit Go.Shelf
/-- What the iterator may turn, seen from the caller. -/
def Turns (B G : Nat) (W : World) (row : Option Nat) : Prop := ∀ r, row = some r → r = G ∨ (B ≤ r ∧ ∃ o : Obj, W.heap[r]? = some o ∧ o.isCells = false)
theorem Blk.kept {W W' : World} {B G b : Nat} {t : TypeId} {cs : Array Value} {row : Option Nat} (h : Blk W b t cs) (hg : W.grownBy W' row) (hr : Turns B G W row) (hb : b < B) (hG : B ≤ G) : Blk W' b t cs :=
  (hg.block b h.lt (fun e => by rcases hr b e.symm with h' | ⟨h', _⟩ <;> omega)).trans h
theorem below_kept {V W W' : World} {B G n : Nat} {row : Option Nat} (h : Below n V W) (hn : n ≤ V.heap.size) (hg : W.grownBy W' row) (hr : Turns B G W row) (hb : n ≤ B) (hG : B ≤ G) : Below n V W' :=
  h.trans ⟨hg.os, hg.tape, hg.output, hg.size, fun i hi => hg.block i (Nat.lt_of_lt_of_le hi (Nat.le_trans hn h.size)) (fun e => by rcases hr i e.symm with h' | ⟨h', _⟩ <;> omega)⟩
theorem below_putObj (n : Nat) (W : World) (l : Nat) (o : Obj) (h : n ≤ l) : Below n W (W.putObj l o) :=
  ⟨rfl, rfl, rfl, by simp [World.putObj], fun k hk => World.putObj_heap_other (by omega)⟩
theorem keep_putObj (n bx G l : Nat) (W : World) (o : Obj) (h : n ≤ l) (hx : bx ≠ l) (hG : G ≠ l) : Keep n bx G W (W.putObj l o) :=
  ⟨below_putObj n W l o h, fun _ ho => (World.putObj_heap_other hx).trans ho, fun _ ho => (World.putObj_heap_other hG).trans ho⟩
theorem keep_of_below {n bx G B : Nat} {W W' : World} (h : Below B W W') (hn : n ≤ B) (hx : bx < B) (hG : G < B) : Keep n bx G W W' :=
  ⟨⟨h.os, h.tape, h.output, h.size, fun k hk => h.block k (by omega)⟩, fun _ ho => (h.block bx hx).trans ho, fun _ ho => (h.block G hG).trans ho⟩
theorem keep_of_all {n bx G : Nat} {W W' : World} (h : Below W.heap.size W W') (hn : n ≤ W.heap.size) : Keep n bx G W W' :=
  ⟨⟨h.os, h.tape, h.output, h.size, fun k hk => h.block k (by omega)⟩, fun _ ho => (h.block bx (Array.getElem?_eq_some_iff.1 ho).1).trans ho, fun _ ho => (h.block G (Array.getElem?_eq_some_iff.1 ho).1).trans ho⟩
theorem keepsFrom_of_all {B : Nat} {W W' : World} (h : Below W.heap.size W W') : KeepsFrom B W W' :=
  ⟨h.size, fun k o _ hk ho => (h.block k (Array.getElem?_eq_some_iff.1 hk).1).trans hk⟩
theorem Keep.of_grown {n bx G : Nat} {W : World} {p : Addr} (hn : n ≤ p.block) (hx : bx ≠ p.block) (hG : G ≠ p.block) (v : Value) : Keep n bx G W (W.setCell p v) :=
  ⟨(Below.refl n W).setCell hn v, fun _ ho => (Below.heap_setCell _ _ _ _ hx).trans ho, fun _ ho => (Below.heap_setCell _ _ _ _ hG).trans ho⟩
theorem Keep.alloc (n bx G : Nat) (W : World) (hn : n ≤ W.heap.size) (o : Obj) : Keep n bx G W (W.alloc o) :=
  ⟨(Below.refl n W).alloc hn o, fun _ ho => (Below.heap_alloc _ _ _ (Array.getElem?_eq_some_iff.1 ho).1).trans ho, fun _ ho => (Below.heap_alloc _ _ _ (Array.getElem?_eq_some_iff.1 ho).1).trans ho⟩
/-- A cell block is none of the loop's records. -/
theorem Blk.record {W : World} {g l : Nat} {t : TypeId} {cs : Array Value} {o o' : Obj} (h : Blk W g t cs) (hl : W.heap[l]? = some o) (ho : o.isCells = false) : Blk (W.putObj l o') g t cs :=
  (World.putObj_heap_other (fun e => by
    rw [← e, show W.heap[g]? = _ from h] at hl
    cases hl
    exact absurd ho (by simp [Obj.isCells]))).trans h
end Go.Proofs.YtpkpadepccneeaaGreatDoor.W
