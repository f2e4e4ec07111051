/- The walk of chapter 8's Cells, the reference's. No condition. -/
import Derived.Test.YtdaajncfhcpecaaVCells
import Derived.Deep.RegionLaw
import Derived.Deep.AppendLies
namespace Go.Proofs.Ytdaajncfhcpecaa
set_option linter.unusedVariables false
set_option linter.unusedSimpArgs false
open Go.RowKit
/-- 'append(out, x)' of one number as a step of a region that draws. -/
theorem step_append1 {P : Program} {W : World} {ops : Array Oper} {o : Oper} {a : Act} {K : Act → World → Prop} {Q : Exit → Act → World → Prop} {E : Prop} (hgd : o.guard = none) (s x : Operand) (t : TypeId)
    (ho : o.op = .call { callee := .builtin .append, args := #[s, x], argTypes := #[t, t] }) (B : Nat) (e : TypeId) (k : IntKind) (bytes : Nat) (ht : P.underlying t = some (.slice e))
    (hi : (P.info? e).map (fun i => (i.zero, i.size, i.bytes)) = some (some (.int k 0), 1, bytes)) (hby : bytes ≤ 8)
    (v : Value) (l : List Int) (y : Int) (hs : a.eval s = v) (hx : a.eval x = .slice (some ⟨W.heap.size, 0, none⟩) 1 1) (hown : OI k e W B v l) (hlen : l.length + 1 ≤ 8192) (hB : B ≤ W.heap.size)
    (h : ∀ v' w', OI k e w' B v' (l ++ [y]) → Below B W w' → K (a.put o.dst v') w') :
    if Region.wanted o (yielded ops a.tmps) = true then Oper.wp P o a (W.alloc (.cells #[.int k y] e)) K Q else E := by
  obtain ⟨i0, h1, h2, h3, h4⟩ := info_parts hi
  refine step_append_lies _ hgd s x t ho B e i0 (.int k 0) 1 bytes ht h1 h2 h3 h4 rfl (by decide) v l.length (ints k l) hs (OI.alloc hown _) ⟨W.heap.size, 0, none⟩ 1 1 [.int k y] hx rfl (cell_one_new _ _ _)
    (by intro u hu; simp at hu; subst hu; rfl) (by decide) (by unfold maxLen; omega) ?_ (by simp; omega) _ rfl ?_
  · calc (l.length + 1) * bytes ≤ (l.length + 1) * 8 := Nat.mul_le_mul_left _ hby
      _ ≤ 140737488355328 := by omega
  · intro g cap w' ho hg _ _
    refine h _ w' ?_ ?_
    · unfold OI; simpa [ints] using ho
    · exact ((Below.refl _ _).alloc hB _).grown hg (by simp; omega) (fun g hg' => (hown.lt g hg').1)
set_option maxHeartbeats 2000000 in
theorem refCells_any (o : Int) (A B : Option Addr) (cp cq : Nat) (l s : List Int) (w : World) (hr : RI .i64 w A l) (hs : RI .i64 w B s) (hcap : l.length ≤ cp) (hm : l.length ≤ 9223372036854775807) (hms : s.length ≤ 9223372036854775807) :
    Calls Try.prog 32 #[.agg (view o A l.length cp B s.length cq)] w fun e w' => ∃ v, e = .returned v ∧ OI .i64 3 w' w.heap.size v (V.cells o l s) ∧ Below w.heap.size w w' := by
  have HB0 := Lib.hid ((Below.refl w.heap.size w).alloc (Nat.le_refl _) (.cells (view o A l.length cp B s.length cq) 47))
  have HK0 := Lib.hid (Blk.new w 47 (view o A l.length cp B s.length cq))
  have HR0 := Lib.hid hr
  have HS0 := Lib.hid hs
  have CH := Lib.hid (refCheck_any o A B cp cq l s 4096 _ (hr.below HB0.out) (hs.below HB0.out) hcap hm hms)
  have HC := Lib.hid (show V.cells o l s = if V.check o l s 4096 = 0 then (List.range (sizeN l)).map (V.cellOf o l s) else [] from rfl)
  have HZ := Lib.hid (V.check_zero (o := o) (l := l) (s := s) (c := 4096))
  generalize V.cells o l s = R at *
  generalize V.check o l s 4096 = q at *
  clear hr hs
  go_enter Try.func32, Try.ntmps32
  by_cases hq : q = 0
  · have HRL := Lib.hid (HC.out.trans (if_pos hq))
    obtain ⟨h1, hok, _, _, hin, _, _⟩ := HZ.out hq
    subst hq
    have HL := Lib.hid h1
    have HIN := Lib.hid hin
    have hN := sizeN_ok hok
    have h4 := hok.1
    have h4s : s.length ≤ 4 := by omega
    have hp := hok.2.2
    rw [← hN] at hp
    have CS := Lib.hid fun (W : World) (h : RI .i64 W A l) => refSize_any A cp l W h hm
    rw [hok.size, ← hN] at CS
    have HX := Lib.hid fun (k : Nat) => V.pad_small_any hok k
    have HDEF := Lib.hid (show ∀ k, V.cellOf o l s k = V.cellR o s (S.pad (S.atL l k)) s.length from fun k => rfl)
    have CA := Lib.hid fun (k : Nat) (a b c d : Int) (hk : k < sizeN l) (hx : S.pad (S.atL l k) = [a, b, c, d]) (W : World) (h : RI .i64 W A l) => refAt_any A cp l k a b c d W h hcap hok (by omega) (by omega) hx
    have CC := Lib.hid fun (a b c d : Int) (hi : ∀ k, 0 ≤ [a, b, c, d].getD k 0 ∧ [a, b, c, d].getD k 0 ≤ 4096) (W : World) (h : RI .i64 W B s) => Cell_any o A B cp cq l s a b c d W h HL.out.symm hok.1 hi
    clear HC HZ h1 hin hN hok
    generalize V.cellOf o l s = f at *
    generalize sizeN l = N at *
    go_wp2_with fail
    with_reducible refine CH.out.mono ?_
    rintro e w1 ⟨rfl, hb1⟩
    have HB1 := Lib.hid (below_then HB0.out HB0.out.size hb1)
    have HK1 := Lib.hid (HK0.out.below hb1 HK0.out.lt)
    have CS1 := Lib.hid (CS.out w1 (HR0.out.below HB1.out))
    clear hb1 CS CH
    have c1 := HK1.out.cell 1
    go_wp2_with fail
    with_reducible refine CS1.out.mono ?_
    rintro e w' ⟨rfl, rfl⟩
    go_wp2_with fail
    clear c1
    go_loopw [3, 6] (fun v n wr => ∃ k : Nat, k ≤ N ∧ n = .int .i64 k ∧ Hid (OI .i64 3 wr (w.heap.size + 1) v ((List.range k).map f)) ∧ Hid (Blk wr w.heap.size 47 (view o A l.length cp B s.length cq)) ∧ Hid (Below w.heap.size w wr)) (fun _ n _ => N - (intOf n).toNat)
    case atStart => exact ⟨0, by omega, rfl, Lib.hid (OI.nil _ _ _ _), HK1, HB1⟩
    case round =>
      obtain ⟨k, hk, rfl, HO, HKr, HBr⟩ := hrel
      by_cases hlt : k < N
      · obtain ⟨a, b, c', d, hx⟩ := list_four (S.pad_length (x := S.atL l k) (by rw [S.atL_length]; exact h4))
        have CA2 := Lib.hid (CA.out k a b c' d hlt hx wr.drew ((HR0.out.below HBr.out).drewN 1))
        have hsm := HX.out k
        rw [hx] at hsm
        have CC1 := Lib.hid fun (W : World) (h : RI .i64 W B s) => CC.out a b c' d (fun j => ⟨(hsm j).1, (hsm j).2.1⟩) W h
        have hfk := HDEF.out k
        rw [hx] at hfk
        rw [← hfk] at CC1
        clear hsm hx hfk CA CC HX HDEF
        have w0 := HKr.out.cell 0
        have w1 := HKr.out.cell 1
        have w2 := HKr.out.cell 2
        have HNX := Lib.hid (show (List.range k).map f ++ [f k] = (List.range (k + 1)).map f by rw [List.range_succ, List.map_append]; rfl)
        have hln : ((List.range k).map f).length = k := by simp
        generalize (List.range k).map f = pre at *
        generalize f k = y at *
        go_wp2_with fail
        go_region_law (first
          | (refine step_append1 rfl (.tmp 22) (.tmp 29) 22 rfl (w.heap.size + 1) 3 .i64 8 under22 info3 (by decide) u3 pre y (by simp [Act.eval, Act.put]) (by simp [Act.eval, Act.put]) (HO.out.below HBU2.out) (by omega) (Nat.le_trans HKr.out.lt HBU2.out.size) ?_; intro v' W' ho' hb'; have HO' := Lib.hid ho'; have HB' := Lib.hid hb'; clear ho' hb')
          | (go_simp; go_at_call 23; refine CA2.out.mono ?_; rintro e U ⟨rfl, hbu⟩; (have HKU := (HKr.out.drewN 1).below hbu HKr.out.lt); have v0 := HKU.cell 0; have v1 := HKU.cell 1; have v2 := HKU.cell 2; (have HBU := Lib.hid (show Below wr.heap.size wr U from ⟨hbu.os, hbu.tape, hbu.output, hbu.size, hbu.block⟩)); have HSU := Lib.hid (((HS0.out.below HBr.out)).below HBU.out); clear HKU hbu; dsimp only)
          | (go_simp; go_at_call 37; refine (CC1.out _ HSU.out).mono ?_; rintro e U2 ⟨rfl, hbu2⟩; have HBU2 := Lib.hid (below_then HBU.out HBU.out.size hbu2); clear hbu2; dsimp only))
        all_goals
          go_wp2_with fail
          go_roundw
          case rel => exact ⟨k + 1, by omega, by go_num, Lib.hid (by rw [← HNX.out]; exact HO'.out), Lib.hid ((HKr.out.below HBU2.out HKr.out.lt).below HB'.out (by omega)), Lib.hid (below_then HBr.out HBr.out.size HBU2.out |>.trans (HB'.out.mono (by omega)))⟩
          case measure => simp [intOf]; omega
      · obtain rfl : k = N := by omega
        go_wp2_with fail
        go_ret
        exact ⟨_, rfl, by rw [HRL.out]; exact HO.out.mono (by omega), HBr.out⟩
  · have HRL := Lib.hid (HC.out.trans (if_neg hq))
    have hq1 : (q != 0) = true := by simp [hq]
    have hq2 : (q == 0) = false := by simp [hq]
    clear HC HZ hq
    go_wp2_with fail
    with_reducible refine CH.out.mono ?_
    rintro e w1 ⟨rfl, hb1⟩
    have HB1 := Lib.hid (below_then HB0.out HB0.out.size hb1)
    clear hb1
    go_wp2_with fail
    go_ret
    exact ⟨_, rfl, by rw [HRL.out]; exact OI.nil _ _ _ _, HB1.out⟩
end Go.Proofs.Ytdaajncfhcpecaa
