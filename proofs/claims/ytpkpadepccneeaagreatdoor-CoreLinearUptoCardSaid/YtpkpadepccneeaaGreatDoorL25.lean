/- shape.All's iterator, its rounds told which index comes. No condition. -/
import Derived.Test.YtpkpadepccneeaaGreatDoorL20
import Derived.Test.YtpkpadepccneeaaGreatDoorL15
import Derived.Test.YtpkpadepccneeaaGreatDoorL11
namespace Go.Proofs.YtpkpadepccneeaaGreatDoor.W
set_option maxRecDepth 100000
set_option linter.unusedVariables false
set_option linter.unusedSimpArgs false
open Go Go.RowKit Go.Shelf
/-- What a round keeps: the shape as it reads; the iterator's box; its own block. -/
def KeepS (A : Option Addr) (l : List Int) (bx G : Nat) (X Y : World) : Prop := (RI .i64 X A l → RI .i64 Y A l) ∧ (∀ o, X.heap[bx]? = some o → Y.heap[bx]? = some o) ∧ (∀ o, X.heap[G]? = some o → Y.heap[G]? = some o)
theorem KeepS.trans {A : Option Addr} {l : List Int} {bx G : Nat} {X Y Z : World} (h : KeepS A l bx G X Y) (k : KeepS A l bx G Y Z) : KeepS A l bx G X Z :=
  ⟨fun r => k.1 (h.1 r), fun o ho => k.2.1 o (h.2.1 o ho), fun o ho => k.2.2 o (h.2.2 o ho)⟩
theorem RI.frS {k : IntKind} {S : Nat → Prop} {w w1 : World} {A : Option Addr} {l : List Int} (h : RI k w A l) (hf : Fr S w w1) (hA : ∀ ad, A = some ad → 0 < l.length → ¬ S ad.block) : RI k w1 A l := fun i hi => by
  obtain ⟨ad, h1, h2⟩ := h i hi
  exact ⟨ad, h1, hf.cell h2 (by
    have := hA ad h1 (by omega)
    have e : (ad.add i).block = ad.block := by unfold Addr.add; split <;> rfl
    rw [e]; exact this)⟩
theorem RI.old {k : IntKind} {w : World} {A : Option Addr} {l : List Int} (h : RI k w A l) : ∀ ad, A = some ad → 0 < l.length → ad.block < w.heap.size := fun ad e h0 => by
  obtain ⟨ad', h1, h2⟩ := h 0 h0
  rw [e] at h1
  cases h1
  have := World.block_lt_of_cell? w _ h2
  have e : (ad.add 0).block = ad.block := by unfold Addr.add; split <;> rfl
  rw [e] at this
  exact this
set_option maxHeartbeats 2000000 in
theorem All1_stopsE (n : Nat) (hn : 1 ≤ n) (bx : Nat) (A : Option Addr) (cp : Nat) (l : List Int) (w : World) (hr : RI .i64 w A l) (hm : l.length ≤ 9223372036854775807)
    (hbx : w.heap[bx]? = some (.cells #[.slice A l.length cp] 27 (0, 0))) :
    RangeE.Stops True Fence.wide n Tryz.prog 134 #[.pointer (some ⟨bx, 0, none⟩)] (fun k : Nat => #[.int .i64 k, .agg (idx l k)]) (KeepS A l bx)
      (fun xs => xs = List.range (sizeN l)) (fun pre => ∃ m, 1 ≤ m ∧ m ≤ sizeN l ∧ pre = List.range m) (fun pre k => pre = List.range k ∧ k < sizeN l) w := by
  intro L J Jx W hW hJ hJx hY h0
  have hbW : W.heap[bx]? = some (.cells #[.slice A l.length cp] 27 (0, 0)) := (hW.block bx (Array.getElem?_eq_some_iff.1 hbx).1).trans hbx
  have hRW := Lib.hid (hr.below hW)
  have hc0 := cell_of_row W bx 0 _ 27 (0, 0) hbW
  refine callsIn_of_wp Tryz.func134 rfl trivial ?_ rfl
  simp only [Tryz.ntmps134, List.size_toArray, List.length_cons, List.length_nil, Nat.reduceAdd, Nat.reduceSub, Array.replicate_succ, Array.replicate_zero, List.push_toArray, List.append_toArray, List.nil_append, List.cons_append]
  have HJ := Lib.hid hJ
  have HY := Lib.hid hY
  have HGX := Lib.hid (show bx ≠ W.heap.size by have := (Array.getElem?_eq_some_iff.1 hbW).1; omega)
  have HAG := Lib.hid (RI.old hRW.out)
  have C1 := Lib.hid (size_any A cp l W hRW.out hm)
  have HBX := Lib.hid hbW
  have HJ0 := Lib.hid h0
  clear hJ hY hJx hbW hbx h0 hr hW
  by_cases hok : S.Ok l
  · have hN := sizeN_ok hok
    have hl := hok.1
    have hp := hok.2.2
    rw [hok.size, ← hN] at C1
    rw [← hN] at hp
    have HNX := Lib.hid fun (k : Nat) (V : World) (h : RI .i64 V A l) (a b c d a' b' c' d' : Int) (hx : S.pad (S.atL l k) = [a, b, c, d]) (hx' : S.pad (S.atL l ((k : Int) + 1)) = [a', b', c', d']) =>
      next_any A cp l k a b c d a' b' c' d' V h hok (by omega) hx hx'
    have HZ := Lib.hid (show idx l 0 = four 0 0 0 0 by
      have h1 := S.fillAt_zero l 0 hl
      have h2 := S.frontAt_zero l 0
      have h3 : S.pad (S.atL l 0) = [0, 0, 0, 0] := S.pad_zero l hok
      unfold idx
      rw [show ((0 : Nat) : Int) = 0 from rfl, h3]
      rfl)
    clear hok hN
    generalize sizeN l = N at *
    gi_wp2
    refine ⟨trivial, ?_⟩
    refine (callsIn_wide.2 C1.out).mono ?_
    rintro e w' ⟨rfl, rfl⟩
    gi_wp2
    have hB5 := Lib.hid (Blk.new W 170 (four 0 0 0 0))
    have hG := (Array.getElem?_eq_some_iff.1 HBX.out).1
    gi_loopw [6, 13] (fun _ i wr => ∃ k : Nat, k ≤ N ∧ i = .int .i64 k ∧ Hid (J (List.range k) wr) ∧ Hid (Blk wr W.heap.size 170 (idx l k)) ∧ Hid (wr.heap[bx]? = some (.cells #[.slice A l.length cp] 27 (0, 0))) ∧ Hid (RI .i64 wr A l)) (fun _ i _ => N - (intOf i).toNat)
    case atStart =>
      exact ⟨0, by omega, rfl, Lib.hid (HJ.out _ W _ none HJ0.out (World.grownBy_alloc W _ none) (fun r e => by cases e)), Lib.hid (by rw [HZ.out]; exact hB5.out), Lib.hid ((Below.heap_alloc W _ bx hG).trans HBX.out), Lib.hid (hRW.out.below ((Below.refl W.heap.size W).alloc (Nat.le_refl _) _))⟩
    case round =>
      obtain ⟨k, hk, rfl, HJk, HBk, HXk, HWk⟩ := hrel
      by_cases hlt : k < N
      · obtain ⟨fn, tmps, assign, body, hy, hR⟩ := HY.out (List.range k) k wr HJk.out ⟨rfl, hlt⟩ HBk.out.lt
        obtain ⟨a, b, c, d, hx⟩ := list_four (S.pad_length (x := S.atL l k) (by rw [S.atL_length]; exact hl))
        obtain ⟨a', b', c', d', hx'⟩ := list_four (S.pad_length (x := S.atL l ((k : Int) + 1)) (by rw [S.atL_length]; exact hl))
        have hi : idx l k = four a b c d := by unfold idx; rw [hx]; rfl
        have hi' : idx l (k + 1) = four a' b' c' d' := by unfold idx; rw [show ((k + 1 : Nat) : Int) = (k : Int) + 1 from rfl, hx']; rfl
        have hbk := HBk.out
        rw [hi] at hbk
        rw [hi] at hy
        have CN := Lib.hid fun (V : World) (h : RI .i64 V A l) => HNX.out k V h a b c d a' b' c' d' hx hx'
        have HI' := Lib.hid hi'
        have a0 := hbk.cell 0
        have a1 := hbk.cell 1
        have a2 := hbk.cell 2
        have a3 := hbk.cell 3
        have HBK := Lib.hid hbk
        clear hbk hi hi' hx hx'
        gi_wp2
        refine hR.mono ?_
        clear a0 a1 a2 a3
        rintro e V (⟨rfl, hJ', ⟨hk1, hk2, hk3⟩⟩ | ⟨rfl, hJx', _⟩)
        · have VX := Lib.hid (hk2 _ HXk.out)
          have VB := Lib.hid (show Blk V W.heap.size 170 (four a b c d) from hk3 _ HBK.out)
          have VR := Lib.hid (hk1 HWk.out)
          have VJ := Lib.hid (show J (List.range (k + 1)) V by rw [List.range_succ]; exact hJ')
          have hb0 := cell_of_row V bx 0 _ 27 (0, 0) VX.out
          have a0 := VB.out.cell 0
          have a1 := VB.out.cell 1
          have a2 := VB.out.cell 2
          have a3 := VB.out.cell 3
          clear hk1 hk2 hk3 hJ'
          gi_wp2
          refine ⟨trivial, ?_⟩
          refine (callsIn_wide.2 (CN.out V VR.out)).mono ?_
          rintro e U ⟨rfl, hbu⟩
          have UB := Lib.hid (VB.out.below hbu VB.out.lt)
          have UX := Lib.hid ((hbu.block bx (Array.getElem?_eq_some_iff.1 VX.out).1).trans VX.out)
          have UW := Lib.hid (VR.out.below hbu)
          have UJ := Lib.hid (HJ.out _ V U none VJ.out ⟨hbu.os, hbu.tape, hbu.output, hbu.size, fun i hi _ => hbu.block i hi⟩ (fun r e => by cases e))
          clear hbu hb0 a0 a1 a2 a3
          have a0 := UB.out.cell 0
          have a1 := UB.out.cell 1
          have a2 := UB.out.cell 2
          have a3 := UB.out.cell 3
          have f0 := UB.out.frozen 0
          have f1 := UB.out.frozen 1
          have f2 := UB.out.frozen 2
          have f3 := UB.out.frozen 3
          have TB := Lib.hid ((((UB.out.set_ 0 (.int .i64 a')).set_ 1 (.int .i64 b')).set_ 2 (.int .i64 c')).set_ 3 (.int .i64 d'))
          have TX := Lib.hid (four_far UX.out HGX.out (.int .i64 a') (.int .i64 b') (.int .i64 c') (.int .i64 d'))
          have TW := Lib.hid (RI.frS UW.out (Fr.of_grown (S := fun i => i = W.heap.size) (four_grown U W.heap.size (.int .i64 a') (.int .i64 b') (.int .i64 c') (.int .i64 d')) (fun r e => (Option.some.inj e).symm)) (fun ad e h0 => by have := HAG.out ad e h0; omega))
          have TJ := Lib.hid (HJ.out _ U _ (some W.heap.size) UJ.out (four_grown U W.heap.size (.int .i64 a') (.int .i64 b') (.int .i64 c') (.int .i64 d')) (fun r e => by cases e; exact .inl ⟨trivial, rfl⟩))
          gi_wp2
          go_roundw
          case rel => exact ⟨k + 1, by omega, by go_num, TJ, Lib.hid (by rw [HI'.out]; exact TB.out), TX, TW⟩
          case measure => simp [intOf]; omega
        · gi_wp2
          refine bodyPost_ret (results_none rfl _ _ _) rfl ?_
          exact ⟨⟨_, rfl⟩, .inr ⟨List.range (k + 1), ⟨k + 1, by omega, by omega, rfl⟩, by rw [List.range_succ]; exact hJx'⟩⟩
      · obtain rfl : k = N := by omega
        gi_wp2
        go_end0
        exact ⟨⟨_, rfl⟩, .inl ⟨List.range k, rfl, HJk.out⟩⟩
  · have hN := sizeN_no hok
    have hz : ∃ z : Int, S.sizeS l = (0, z) := by
      rcases S.size_cases l with ho | ⟨_, he⟩ | ⟨_, he⟩
      · exact absurd ho hok
      · exact ⟨_, he⟩
      · exact ⟨_, he⟩
    obtain ⟨z, hz⟩ := hz
    rw [hz] at C1
    have HN := Lib.hid hN
    clear hok hz hN
    gi_wp2
    refine ⟨trivial, ?_⟩
    refine (callsIn_wide.2 C1.out).mono ?_
    rintro e w' ⟨rfl, rfl⟩
    have TJ := Lib.hid (HJ.out _ W (W.alloc (.cells (four 0 0 0 0) 170)) none HJ0.out (World.grownBy_alloc W _ none) (fun r e => by cases e))
    gi_wp2
    gi_loopw [13] (fun i wr => i = .int .i64 0 ∧ Hid (J [] wr)) (fun i _ => 0)
    case atStart => exact ⟨rfl, TJ⟩
    case round =>
      obtain ⟨rfl, HJk⟩ := hrel
      gi_wp2
      go_end0
      exact ⟨⟨_, rfl⟩, .inl ⟨[], by rw [HN.out]; rfl, HJk.out⟩⟩
end Go.Proofs.YtpkpadepccneeaaGreatDoor.W
