/- The walks of chapter 7's All and of the function that it hands out: each number once, rising, with its index. No condition. -/
import Derived.Test.YtdaajncfhcpecaaNextWalk
import Derived.Test.YtdaajncfhcpecaaRangeC
namespace Go.Proofs.Ytdaajncfhcpecaa
set_option linter.unusedVariables false
set_option linter.unusedSimpArgs false
open Go Go.RowKit Go.Shelf
attribute [local go_sem] Oper.semAt_some
set_option maxHeartbeats 400000 in
theorem All_any (A : Option Addr) (n c : Nat) (w : World) :
    Calls Try.prog 24 #[.slice A n c] w fun e w' => e = .returned (.func (.func 42) #[] #[.pointer (some ⟨w.heap.size, 0, none⟩)]) ∧ w.alloc (.cells #[.slice A n c] 22) = w' := by
  go_enter Try.func24, Try.ntmps24
  go_wp2_with fail
  go_ret
  exact ⟨rfl, rfl⟩
/-- The size, as a natural number; none of what is no shape. -/
noncomputable def sizeN (l : List Int) : Nat := (S.sizeS l).1.toNat
theorem sizeN_ok {l : List Int} (h : S.Ok l) : ((sizeN l : Nat) : Int) = S.prod l := by
  unfold sizeN
  have := h.pos
  rw [h.size]
  show (((S.prod l).toNat : Nat) : Int) = S.prod l
  omega
theorem sizeN_no {l : List Int} (h : ¬ S.Ok l) : sizeN l = 0 := by
  unfold sizeN
  rcases S.size_cases l with ho | ⟨_, he⟩ | ⟨_, he⟩
  · exact absurd ho h
  all_goals rw [he]; rfl
/-- The index of a number, as a value. -/
def idx (l : List Int) (k : Nat) : Array Value :=
  four ((S.pad (S.atL l k)).getD 0 0) ((S.pad (S.atL l k)).getD 1 0) ((S.pad (S.atL l k)).getD 2 0) ((S.pad (S.atL l k)).getD 3 0)
theorem pad_eq {l : List Int} (h : l.length ≤ 4) (n : Int) : S.pad (S.atL l n) = [(S.pad (S.atL l n)).getD 0 0, (S.pad (S.atL l n)).getD 1 0, (S.pad (S.atL l n)).getD 2 0, (S.pad (S.atL l n)).getD 3 0] := by
  obtain ⟨a, b, c, d, he⟩ := list_four (S.pad_length (x := S.atL l n) (by rw [S.atL_length]; exact h))
  rw [he]; rfl
/-- What a round keeps: what lay below n₀, the box of the shape, the iterator's own block. -/
def Keep (n₀ bx : Nat) (G : Nat) (X Y : World) : Prop := Below n₀ X Y ∧ (∀ o, X.heap[bx]? = some o → Y.heap[bx]? = some o) ∧ (∀ o, X.heap[G]? = some o → Y.heap[G]? = some o)
theorem Keep.trans {n₀ bx G : Nat} {X Y Z : World} (h : Keep n₀ bx G X Y) (k : Keep n₀ bx G Y Z) : Keep n₀ bx G X Z :=
  ⟨h.1.trans k.1, fun o ho => k.2.1 o (h.2.1 o ho), fun o ho => k.2.2 o (h.2.2 o ho)⟩
theorem four_far {w : World} {g G : Nat} {o : Obj} (h : w.heap[g]? = some o) (hne : g ≠ G) (a b c d : Value) :
    ((((w.setCell ⟨G, 0, none⟩ a).setCell ⟨G, 1, none⟩ b).setCell ⟨G, 2, none⟩ c).setCell ⟨G, 3, none⟩ d).heap[g]? = some o := by
  rw [Below.heap_setCell _ _ _ _ hne, Below.heap_setCell _ _ _ _ hne, Below.heap_setCell _ _ _ _ hne, Below.heap_setCell _ _ _ _ hne]
  exact h
theorem four_grown (w : World) (G : Nat) (a b c d : Value) : w.grownBy ((((w.setCell ⟨G, 0, none⟩ a).setCell ⟨G, 1, none⟩ b).setCell ⟨G, 2, none⟩ c).setCell ⟨G, 3, none⟩ d) (some G) :=
  ⟨rfl, rfl, rfl, by simp, fun k _ hk => by
    have hne : k ≠ G := fun e => hk (by rw [e])
    rw [Below.heap_setCell _ _ _ _ hne, Below.heap_setCell _ _ _ _ hne, Below.heap_setCell _ _ _ _ hne, Below.heap_setCell _ _ _ _ hne]⟩
set_option maxHeartbeats 2000000 in
theorem All1_stops (n : Nat) (hn : 1 ≤ n) (bx : Nat) (A : Option Addr) (cp : Nat) (l : List Int) (w0 w : World) (hr : RI .i64 w0 A l) (hm : l.length ≤ 9223372036854775807) (hb0 : Below w0.heap.size w0 w)
    (hbx : w.heap[bx]? = some (.cells #[.slice A l.length cp] 22 (0, 0))) :
    RangeC.Stops Fence.wide n Try.prog 42 #[.pointer (some ⟨bx, 0, none⟩)] (fun k : Nat => #[.int .i64 k, .agg (idx l k)]) (Keep w0.heap.size bx)
      (fun xs => xs = List.range (sizeN l)) (fun pre => ∃ m, 1 ≤ m ∧ m ≤ sizeN l ∧ pre = List.range m) (sizeN l) w := by
  intro L J Jx W hW hJ hJx hY h0
  have hbW : W.heap[bx]? = some (.cells #[.slice A l.length cp] 22 (0, 0)) := (hW.block bx (Array.getElem?_eq_some_iff.1 hbx).1).trans hbx
  have hRW := Lib.hid (hr.below (below_then hb0 hb0.size hW))
  have hc0 := cell_of_row W bx 0 _ 22 (0, 0) hbW
  refine callsIn_of_wp Try.func42 rfl trivial ?_ rfl
  simp only [Try.ntmps42, List.size_toArray, List.length_cons, List.length_nil, Nat.reduceAdd, Nat.reduceSub, Array.replicate_succ, Array.replicate_zero, List.push_toArray, List.append_toArray, List.nil_append, List.cons_append]
  have HJ := Lib.hid hJ
  have HY := Lib.hid hY
  have hRW0 := Lib.hid hr
  have HGX := Lib.hid (show bx ≠ W.heap.size by have := (Array.getElem?_eq_some_iff.1 hbW).1; omega)
  have HSZ := Lib.hid (show w0.heap.size ≤ W.heap.size from Nat.le_trans hb0.size hW.size)
  have C1 := Lib.hid (size_any A cp l W hRW.out hm)
  have HBX := Lib.hid hbW
  have HW0 := Lib.hid (below_then hb0 hb0.size hW)
  have HJ0 := Lib.hid h0
  clear hJ hY hJx hbW hbx h0 hr hb0 hW
  by_cases hok : S.Ok l
  · have hN := sizeN_ok hok
    have hl := hok.1
    have hp := hok.2.2
    rw [hok.size, ← hN] at C1
    rw [← hN] at hp
    have HNX := Lib.hid fun (k : Nat) (V : World) (h : RI .i64 V A l) (a b c d a' b' c' d' : Int) (hx : S.pad (S.atL l k) = [a, b, c, d]) (hx' : S.pad (S.atL l ((k : Int) + 1)) = [a', b', c', d']) =>
      next_any A cp l k a b c d a' b' c' d' V h hok (by omega) hx hx'
    have HZ := Lib.hid (show idx l 0 = four 0 0 0 0 by
      have h1 := S.fillAt_zero l 0 hl
      have h2 := S.frontAt_zero l 0
      have h3 : S.pad (S.atL l 0) = [0, 0, 0, 0] := S.pad_zero l hok
      unfold idx
      rw [show ((0 : Nat) : Int) = 0 from rfl, h3]
      rfl)
    clear hok hN
    generalize sizeN l = N at *
    gi_wp2
    refine ⟨trivial, ?_⟩
    refine (callsIn_wide.2 C1.out).mono ?_
    rintro e w' ⟨rfl, rfl⟩
    gi_wp2
    have hB5 := Lib.hid (Blk.new W 33 (four 0 0 0 0))
    have hG := (Array.getElem?_eq_some_iff.1 HBX.out).1
    gi_loopw [6, 13] (fun _ i wr => ∃ k : Nat, k ≤ N ∧ i = .int .i64 k ∧ Hid (J (List.range k) wr) ∧ Hid (Blk wr W.heap.size 33 (idx l k)) ∧ Hid (wr.heap[bx]? = some (.cells #[.slice A l.length cp] 22 (0, 0))) ∧ Hid (Below w0.heap.size w0 wr)) (fun _ i _ => N - (intOf i).toNat)
    case atStart =>
      exact ⟨0, by omega, rfl, Lib.hid (HJ.out _ W _ none HJ0.out (World.grownBy_alloc W _ none) (fun r e => by cases e)), Lib.hid (by rw [HZ.out]; exact hB5.out), Lib.hid ((Below.heap_alloc W _ bx hG).trans HBX.out), Lib.hid (HW0.out.alloc HW0.out.size _)⟩
    case round =>
      obtain ⟨k, hk, rfl, HJk, HBk, HXk, HWk⟩ := hrel
      by_cases hlt : k < N
      · obtain ⟨fn, tmps, assign, body, hy, hR⟩ := HY.out (List.range k) k wr HJk.out (by simp; exact hlt) HBk.out.lt
        obtain ⟨a, b, c, d, hx⟩ := list_four (S.pad_length (x := S.atL l k) (by rw [S.atL_length]; exact hl))
        obtain ⟨a', b', c', d', hx'⟩ := list_four (S.pad_length (x := S.atL l ((k : Int) + 1)) (by rw [S.atL_length]; exact hl))
        have hi : idx l k = four a b c d := by unfold idx; rw [hx]; rfl
        have hi' : idx l (k + 1) = four a' b' c' d' := by unfold idx; rw [show ((k + 1 : Nat) : Int) = (k : Int) + 1 from rfl, hx']; rfl
        have hbk := HBk.out
        rw [hi] at hbk
        rw [hi] at hy
        have CN := Lib.hid fun (V : World) (h : RI .i64 V A l) => HNX.out k V h a b c d a' b' c' d' hx hx'
        have HI' := Lib.hid hi'
        have a0 := hbk.cell 0
        have a1 := hbk.cell 1
        have a2 := hbk.cell 2
        have a3 := hbk.cell 3
        have HBK := Lib.hid hbk
        clear hbk hi hi' hx hx'
        gi_wp2
        refine hR.mono ?_
        clear a0 a1 a2 a3
        rintro e V (⟨rfl, hJ', ⟨hk1, hk2, hk3⟩⟩ | ⟨rfl, hJx'⟩)
        · have VX := Lib.hid (hk2 _ HXk.out)
          have VB := Lib.hid (show Blk V W.heap.size 33 (four a b c d) from hk3 _ HBK.out)
          have VW := Lib.hid (HWk.out.trans hk1)
          have VJ := Lib.hid (show J (List.range (k + 1)) V by rw [List.range_succ]; exact hJ')
          have VR := Lib.hid (hRW0.out.below VW.out)
          have hb0 := cell_of_row V bx 0 _ 22 (0, 0) VX.out
          have a0 := VB.out.cell 0
          have a1 := VB.out.cell 1
          have a2 := VB.out.cell 2
          have a3 := VB.out.cell 3
          clear hk1 hk2 hk3 hJ'
          gi_wp2
          refine ⟨trivial, ?_⟩
          refine (callsIn_wide.2 (CN.out V VR.out)).mono ?_
          rintro e U ⟨rfl, hbu⟩
          have UB := Lib.hid (VB.out.below hbu VB.out.lt)
          have UX := Lib.hid ((hbu.block bx (Array.getElem?_eq_some_iff.1 VX.out).1).trans VX.out)
          have UW := Lib.hid (below_then VW.out VW.out.size hbu)
          have UJ := Lib.hid (HJ.out _ V U none VJ.out ⟨hbu.os, hbu.tape, hbu.output, hbu.size, fun i hi _ => hbu.block i hi⟩ (fun r e => by cases e))
          clear hbu hb0 a0 a1 a2 a3
          have a0 := UB.out.cell 0
          have a1 := UB.out.cell 1
          have a2 := UB.out.cell 2
          have a3 := UB.out.cell 3
          have f0 := UB.out.frozen 0
          have f1 := UB.out.frozen 1
          have f2 := UB.out.frozen 2
          have f3 := UB.out.frozen 3
          have TB := Lib.hid ((((UB.out.set_ 0 (.int .i64 a')).set_ 1 (.int .i64 b')).set_ 2 (.int .i64 c')).set_ 3 (.int .i64 d'))
          have TX := Lib.hid (four_far UX.out HGX.out (.int .i64 a') (.int .i64 b') (.int .i64 c') (.int .i64 d'))
          have TW := Lib.hid ((((UW.out.setCell (p := ⟨W.heap.size, 0, none⟩) HSZ.out (.int .i64 a')).setCell (p := ⟨W.heap.size, 1, none⟩) HSZ.out (.int .i64 b')).setCell (p := ⟨W.heap.size, 2, none⟩) HSZ.out (.int .i64 c')).setCell (p := ⟨W.heap.size, 3, none⟩) HSZ.out (.int .i64 d'))
          have TJ := Lib.hid (HJ.out _ U _ (some W.heap.size) UJ.out (four_grown U W.heap.size (.int .i64 a') (.int .i64 b') (.int .i64 c') (.int .i64 d')) (fun r e => by cases e; rfl))
          gi_wp2
          go_roundw
          case rel => exact ⟨k + 1, by omega, by go_num, TJ, Lib.hid (by rw [HI'.out]; exact TB.out), TX, TW⟩
          case measure => simp [intOf]; omega
        · gi_wp2
          refine bodyPost_ret (results_none rfl _ _ _) rfl ?_
          exact ⟨⟨_, rfl⟩, .inr ⟨List.range (k + 1), ⟨k + 1, by omega, by omega, rfl⟩, by rw [List.range_succ]; exact hJx'⟩⟩
      · obtain rfl : k = N := by omega
        gi_wp2
        go_end0
        exact ⟨⟨_, rfl⟩, .inl ⟨List.range k, rfl, HJk.out⟩⟩
  · have hN := sizeN_no hok
    have hz : ∃ z : Int, S.sizeS l = (0, z) := by
      rcases S.size_cases l with ho | ⟨_, he⟩ | ⟨_, he⟩
      · exact absurd ho hok
      · exact ⟨_, he⟩
      · exact ⟨_, he⟩
    obtain ⟨z, hz⟩ := hz
    rw [hz] at C1
    have HN := Lib.hid hN
    clear hok hz hN
    gi_wp2
    refine ⟨trivial, ?_⟩
    refine (callsIn_wide.2 C1.out).mono ?_
    rintro e w' ⟨rfl, rfl⟩
    have TJ := Lib.hid (HJ.out _ W (W.alloc (.cells (four 0 0 0 0) 33)) none HJ0.out (World.grownBy_alloc W _ none) (fun r e => by cases e))
    gi_wp2
    gi_loopw [13] (fun i wr => i = .int .i64 0 ∧ Hid (J [] wr)) (fun i _ => 0)
    case atStart => exact ⟨rfl, TJ⟩
    case round =>
      obtain ⟨rfl, HJk⟩ := hrel
      gi_wp2
      go_end0
      exact ⟨⟨_, rfl⟩, .inl ⟨[], by rw [HN.out]; rfl, HJk.out⟩⟩
end Go.Proofs.Ytdaajncfhcpecaa
