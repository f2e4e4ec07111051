/- The walks of chapter 7's All and of the function that it hands out: each number once, rising, with its index. No condition. -/
import Derived.Test.YtpkpadepccneeaaGreatDoorL19
import Derived.Test.YtpkpadepccneeaaGreatDoorL12
import Derived.Test.YtpkpadepccneeaaGreatDoorL17
namespace Go.Proofs.YtpkpadepccneeaaGreatDoor.W
set_option maxRecDepth 100000
set_option linter.unusedVariables false
set_option linter.unusedSimpArgs false
open Go Go.RowKit Go.Shelf
attribute [local go_sem] Oper.semAt_some
set_option maxHeartbeats 400000 in
theorem All_any (A : Option Addr) (n c : Nat) (w : World) :
    Calls Tryz.prog 78 #[.slice A n c] w fun e w' => e = .returned (.func (.func 134) #[] #[.pointer (some ⟨w.heap.size, 0, none⟩)]) ∧ w.alloc (.cells #[.slice A n c] 27) = w' := by
  go_enter Tryz.func78, Tryz.ntmps78
  go_wp2_with fail
  go_ret
  exact ⟨rfl, rfl⟩
/-- The size, as a natural number; none of what is no shape. -/
noncomputable def sizeN (l : List Int) : Nat := (S.sizeS l).1.toNat
theorem sizeN_ok {l : List Int} (h : S.Ok l) : ((sizeN l : Nat) : Int) = S.prod l := by
  unfold sizeN
  have := h.pos
  rw [h.size]
  show (((S.prod l).toNat : Nat) : Int) = S.prod l
  omega
theorem sizeN_no {l : List Int} (h : ¬ S.Ok l) : sizeN l = 0 := by
  unfold sizeN
  rcases S.size_cases l with ho | ⟨_, he⟩ | ⟨_, he⟩
  · exact absurd ho h
  all_goals rw [he]; rfl
/-- The index of a number, as a value. -/
def idx (l : List Int) (k : Nat) : Array Value :=
  four ((S.pad (S.atL l k)).getD 0 0) ((S.pad (S.atL l k)).getD 1 0) ((S.pad (S.atL l k)).getD 2 0) ((S.pad (S.atL l k)).getD 3 0)
theorem pad_eq {l : List Int} (h : l.length ≤ 4) (n : Int) : S.pad (S.atL l n) = [(S.pad (S.atL l n)).getD 0 0, (S.pad (S.atL l n)).getD 1 0, (S.pad (S.atL l n)).getD 2 0, (S.pad (S.atL l n)).getD 3 0] := by
  obtain ⟨a, b, c, d, he⟩ := list_four (S.pad_length (x := S.atL l n) (by rw [S.atL_length]; exact h))
  rw [he]; rfl
/-- What a round keeps: what lay below n₀, the box of the shape, the iterator's own block. -/
def Keep (n₀ bx : Nat) (G : Nat) (X Y : World) : Prop := Below n₀ X Y ∧ (∀ o, X.heap[bx]? = some o → Y.heap[bx]? = some o) ∧ (∀ o, X.heap[G]? = some o → Y.heap[G]? = some o)
theorem Keep.trans {n₀ bx G : Nat} {X Y Z : World} (h : Keep n₀ bx G X Y) (k : Keep n₀ bx G Y Z) : Keep n₀ bx G X Z :=
  ⟨h.1.trans k.1, fun o ho => k.2.1 o (h.2.1 o ho), fun o ho => k.2.2 o (h.2.2 o ho)⟩
theorem four_far {w : World} {g G : Nat} {o : Obj} (h : w.heap[g]? = some o) (hne : g ≠ G) (a b c d : Value) :
    ((((w.setCell ⟨G, 0, none⟩ a).setCell ⟨G, 1, none⟩ b).setCell ⟨G, 2, none⟩ c).setCell ⟨G, 3, none⟩ d).heap[g]? = some o := by
  rw [Below.heap_setCell _ _ _ _ hne, Below.heap_setCell _ _ _ _ hne, Below.heap_setCell _ _ _ _ hne, Below.heap_setCell _ _ _ _ hne]
  exact h
theorem four_grown (w : World) (G : Nat) (a b c d : Value) : w.grownBy ((((w.setCell ⟨G, 0, none⟩ a).setCell ⟨G, 1, none⟩ b).setCell ⟨G, 2, none⟩ c).setCell ⟨G, 3, none⟩ d) (some G) :=
  ⟨rfl, rfl, rfl, by simp, fun k _ hk => by
    have hne : k ≠ G := fun e => hk (by rw [e])
    rw [Below.heap_setCell _ _ _ _ hne, Below.heap_setCell _ _ _ _ hne, Below.heap_setCell _ _ _ _ hne, Below.heap_setCell _ _ _ _ hne]⟩
set_option maxHeartbeats 2000000 in
theorem All1_stops (n : Nat) (hn : 1 ≤ n) (bx : Nat) (A : Option Addr) (cp : Nat) (l : List Int) (w0 w : World) (hr : RI .i64 w0 A l) (hm : l.length ≤ 9223372036854775807) (hb0 : Below w0.heap.size w0 w)
    (hbx : w.heap[bx]? = some (.cells #[.slice A l.length cp] 27 (0, 0))) :
    RangeC.Stops Fence.wide n Tryz.prog 134 #[.pointer (some ⟨bx, 0, none⟩)] (fun k : Nat => #[.int .i64 k, .agg (idx l k)]) (Keep w0.heap.size bx)
      (fun xs => xs = List.range (sizeN l)) (fun pre => ∃ m, 1 ≤ m ∧ m ≤ sizeN l ∧ pre = List.range m) (sizeN l) w := by
  intro L J Jx W hW hJ hJx hY h0
  have hbW : W.heap[bx]? = some (.cells #[.slice A l.length cp] 27 (0, 0)) := (hW.block bx (Array.getElem?_eq_some_iff.1 hbx).1).trans hbx
  have hRW := Lib.hid (hr.below (below_then hb0 hb0.size hW))
  have hc0 := cell_of_row W bx 0 _ 27 (0, 0) hbW
  refine callsIn_of_wp Tryz.func134 rfl trivial ?_ rfl
  simp only [Tryz.ntmps134, List.size_toArray, List.length_cons, List.length_nil, Nat.reduceAdd, Nat.reduceSub, Array.replicate_succ, Array.replicate_zero, List.push_toArray, List.append_toArray, List.nil_append, List.cons_append]
  have HJ := Lib.hid hJ
  have HY := Lib.hid hY
  have hRW0 := Lib.hid hr
  have HGX := Lib.hid (show bx ≠ W.heap.size by have := (Array.getElem?_eq_some_iff.1 hbW).1; omega)
  have HSZ := Lib.hid (show w0.heap.size ≤ W.heap.size from Nat.le_trans hb0.size hW.size)
  have C1 := Lib.hid (size_any A cp l W hRW.out hm)
  have HBX := Lib.hid hbW
  have HW0 := Lib.hid (below_then hb0 hb0.size hW)
  have HJ0 := Lib.hid h0
  clear hJ hY hJx hbW hbx h0 hr hb0 hW
  by_cases hok : S.Ok l
  · have hN := sizeN_ok hok
    have hl := hok.1
    have hp := hok.2.2
    rw [hok.size, ← hN] at C1
    rw [← hN] at hp
    have HNX := Lib.hid fun (k : Nat) (V : World) (h : RI .i64 V A l) (a b c d a' b' c' d' : Int) (hx : S.pad (S.atL l k) = [a, b, c, d]) (hx' : S.pad (S.atL l ((k : Int) + 1)) = [a', b', c', d']) =>
      next_any A cp l k a b c d a' b' c' d' V h hok (by omega) hx hx'
    have HZ := Lib.hid (show idx l 0 = four 0 0 0 0 by
      have h1 := S.fillAt_zero l 0 hl
      have h2 := S.frontAt_zero l 0
      have h3 : S.pad (S.atL l 0) = [0, 0, 0, 0] := S.pad_zero l hok
      unfold idx
      rw [show ((0 : Nat) : Int) = 0 from rfl, h3]
      rfl)
    clear hok hN
    generalize sizeN l = N at *
    gi_wp2
    refine ⟨trivial, ?_⟩
    refine (callsIn_wide.2 C1.out).mono ?_
    rintro e w' ⟨rfl, rfl⟩
    gi_wp2
    have hB5 := Lib.hid (Blk.new W 170 (four 0 0 0 0))
    have hG := (Array.getElem?_eq_some_iff.1 HBX.out).1
    gi_loopw [6, 13] (fun _ i wr => ∃ k : Nat, k ≤ N ∧ i = .int .i64 k ∧ Hid (J (List.range k) wr) ∧ Hid (Blk wr W.heap.size 170 (idx l k)) ∧ Hid (wr.heap[bx]? = some (.cells #[.slice A l.length cp] 27 (0, 0))) ∧ Hid (Below w0.heap.size w0 wr)) (fun _ i _ => N - (intOf i).toNat)
    case atStart =>
      exact ⟨0, by omega, rfl, Lib.hid (HJ.out _ W _ none HJ0.out (World.grownBy_alloc W _ none) (fun r e => by cases e)), Lib.hid (by rw [HZ.out]; exact hB5.out), Lib.hid ((Below.heap_alloc W _ bx hG).trans HBX.out), Lib.hid (HW0.out.alloc HW0.out.size _)⟩
    case round =>
      obtain ⟨k, hk, rfl, HJk, HBk, HXk, HWk⟩ := hrel
      by_cases hlt : k < N
      · obtain ⟨fn, tmps, assign, body, hy, hR⟩ := HY.out (List.range k) k wr HJk.out (by simp; exact hlt) HBk.out.lt
        obtain ⟨a, b, c, d, hx⟩ := list_four (S.pad_length (x := S.atL l k) (by rw [S.atL_length]; exact hl))
        obtain ⟨a', b', c', d', hx'⟩ := list_four (S.pad_length (x := S.atL l ((k : Int) + 1)) (by rw [S.atL_length]; exact hl))
        have hi : idx l k = four a b c d := by unfold idx; rw [hx]; rfl
        have hi' : idx l (k + 1) = four a' b' c' d' := by unfold idx; rw [show ((k + 1 : Nat) : Int) = (k : Int) + 1 from rfl, hx']; rfl
        have hbk := HBk.out
        rw [hi] at hbk
        rw [hi] at hy
        have CN := Lib.hid fun (V : World) (h : RI .i64 V A l) => HNX.out k V h a b c d a' b' c' d' hx hx'
        have HI' := Lib.hid hi'
        have a0 := hbk.cell 0
        have a1 := hbk.cell 1
        have a2 := hbk.cell 2
        have a3 := hbk.cell 3
        have HBK := Lib.hid hbk
        clear hbk hi hi' hx hx'
        gi_wp2
        refine hR.mono ?_
        clear a0 a1 a2 a3
        rintro e V (⟨rfl, hJ', ⟨hk1, hk2, hk3⟩⟩ | ⟨rfl, hJx'⟩)
        · have VX := Lib.hid (hk2 _ HXk.out)
          have VB := Lib.hid (show Blk V W.heap.size 170 (four a b c d) from hk3 _ HBK.out)
          have VW := Lib.hid (HWk.out.trans hk1)
          have VJ := Lib.hid (show J (List.range (k + 1)) V by rw [List.range_succ]; exact hJ')
          have VR := Lib.hid (hRW0.out.below VW.out)
          have hb0 := cell_of_row V bx 0 _ 27 (0, 0) VX.out
          have a0 := VB.out.cell 0
          have a1 := VB.out.cell 1
          have a2 := VB.out.cell 2
          have a3 := VB.out.cell 3
          clear hk1 hk2 hk3 hJ'
          gi_wp2
          refine ⟨trivial, ?_⟩
          refine (callsIn_wide.2 (CN.out V VR.out)).mono ?_
          rintro e U ⟨rfl, hbu⟩
          have UB := Lib.hid (VB.out.below hbu VB.out.lt)
          have UX := Lib.hid ((hbu.block bx (Array.getElem?_eq_some_iff.1 VX.out).1).trans VX.out)
          have UW := Lib.hid (below_then VW.out VW.out.size hbu)
          have UJ := Lib.hid (HJ.out _ V U none VJ.out ⟨hbu.os, hbu.tape, hbu.output, hbu.size, fun i hi _ => hbu.block i hi⟩ (fun r e => by cases e))
          clear hbu hb0 a0 a1 a2 a3
          have a0 := UB.out.cell 0
          have a1 := UB.out.cell 1
          have a2 := UB.out.cell 2
          have a3 := UB.out.cell 3
          have f0 := UB.out.frozen 0
          have f1 := UB.out.frozen 1
          have f2 := UB.out.frozen 2
          have f3 := UB.out.frozen 3
          have TB := Lib.hid ((((UB.out.set_ 0 (.int .i64 a')).set_ 1 (.int .i64 b')).set_ 2 (.int .i64 c')).set_ 3 (.int .i64 d'))
          have TX := Lib.hid (four_far UX.out HGX.out (.int .i64 a') (.int .i64 b') (.int .i64 c') (.int .i64 d'))
          have TW := Lib.hid ((((UW.out.setCell (p := ⟨W.heap.size, 0, none⟩) HSZ.out (.int .i64 a')).setCell (p := ⟨W.heap.size, 1, none⟩) HSZ.out (.int .i64 b')).setCell (p := ⟨W.heap.size, 2, none⟩) HSZ.out (.int .i64 c')).setCell (p := ⟨W.heap.size, 3, none⟩) HSZ.out (.int .i64 d'))
          have TJ := Lib.hid (HJ.out _ U _ (some W.heap.size) UJ.out (four_grown U W.heap.size (.int .i64 a') (.int .i64 b') (.int .i64 c') (.int .i64 d')) (fun r e => by cases e; rfl))
          gi_wp2
          go_roundw
          case rel => exact ⟨k + 1, by omega, by go_num, TJ, Lib.hid (by rw [HI'.out]; exact TB.out), TX, TW⟩
          case measure => simp [intOf]; omega
        · gi_wp2
          refine bodyPost_ret (results_none rfl _ _ _) rfl ?_
          exact ⟨⟨_, rfl⟩, .inr ⟨List.range (k + 1), ⟨k + 1, by omega, by omega, rfl⟩, by rw [List.range_succ]; exact hJx'⟩⟩
      · obtain rfl : k = N := by omega
        gi_wp2
        go_end0
        exact ⟨⟨_, rfl⟩, .inl ⟨List.range k, rfl, HJk.out⟩⟩
  · have hN := sizeN_no hok
    have hz : ∃ z : Int, S.sizeS l = (0, z) := by
      rcases S.size_cases l with ho | ⟨_, he⟩ | ⟨_, he⟩
      · exact absurd ho hok
      · exact ⟨_, he⟩
      · exact ⟨_, he⟩
    obtain ⟨z, hz⟩ := hz
    rw [hz] at C1
    have HN := Lib.hid hN
    clear hok hz hN
    gi_wp2
    refine ⟨trivial, ?_⟩
    refine (callsIn_wide.2 C1.out).mono ?_
    rintro e w' ⟨rfl, rfl⟩
    have TJ := Lib.hid (HJ.out _ W (W.alloc (.cells (four 0 0 0 0) 170)) none HJ0.out (World.grownBy_alloc W _ none) (fun r e => by cases e))
    gi_wp2
    gi_loopw [13] (fun i wr => i = .int .i64 0 ∧ Hid (J [] wr)) (fun i _ => 0)
    case atStart => exact ⟨rfl, TJ⟩
    case round =>
      obtain ⟨rfl, HJk⟩ := hrel
      gi_wp2
      go_end0
      exact ⟨⟨_, rfl⟩, .inl ⟨[], by rw [HN.out]; rfl, HJk.out⟩⟩
end Go.Proofs.YtpkpadepccneeaaGreatDoor.W

/- Plain words of chapter 8's Check: flags of what has been seen, whether a cell comes twice. No condition. -/
namespace Go.Proofs.YtpkpadepccneeaaGreatDoor.W.V
set_option maxRecDepth 100000
set_option linter.unusedVariables false
open Classical
noncomputable def dupB (f : Nat → Int) (m : Nat) : Bool := decide (∃ i j, i < j ∧ j < m ∧ f i = f j)
noncomputable def chk (f : Nat → Int) (N : Nat) (c : Int) : Int := if ∃ n, n < N ∧ ¬ (0 ≤ f n ∧ f n < c) then 6 else if dupB f N = true then 7 else 0
def Seen (f : Nat → Int) (m : Nat) (fs : List Bool) : Prop := ∀ x : Nat, fs.getD x false = true ↔ ∃ n, n < m ∧ f n = (x : Int)
theorem Seen.zero (f : Nat → Int) (N : Nat) : Seen f 0 (List.replicate N false) := fun x => by
  rw [List.getD_eq_getElem?_getD, List.getElem?_replicate]
  constructor
  · intro h; split at h <;> simp at h
  · rintro ⟨n, hn, _⟩; omega
theorem Seen.step {f : Nat → Int} {m : Nat} {fs : List Bool} (h : Seen f m fs) {x : Nat} (hx : f m = (x : Int)) (hl : x < fs.length) : Seen f (m + 1) (fs.set x true) := fun y => by
  rw [List.getD_eq_getElem?_getD, List.getElem?_set]
  by_cases e : x = y
  · subst e
    rw [if_pos rfl, if_pos hl]
    simp only [Option.getD_some, true_iff]
    exact ⟨m, by omega, hx⟩
  · rw [if_neg e, ← List.getD_eq_getElem?_getD, h y]
    constructor
    · rintro ⟨n, hn, hf⟩; exact ⟨n, by omega, hf⟩
    · rintro ⟨n, hn, hf⟩
      by_cases hnm : n = m
      · subst hnm; rw [hx] at hf; omega
      · exact ⟨n, by omega, hf⟩
theorem dup_zero (f : Nat → Int) : dupB f 0 = false := by
  unfold dupB
  exact decide_eq_false (by rintro ⟨i, j, _, h, _⟩; omega)
theorem dup_step {f : Nat → Int} {m : Nat} {fs : List Bool} (h : Seen f m fs) {x : Nat} (hx : f m = (x : Int)) : dupB f (m + 1) = (dupB f m || fs.getD x false) := by
  rw [Bool.eq_iff_iff, Bool.or_eq_true, h x]
  unfold dupB
  rw [decide_eq_true_iff, decide_eq_true_iff]
  constructor
  · rintro ⟨i, j, h1, h2, h3⟩
    by_cases e : j = m
    · subst e; exact .inr ⟨i, h1, h3.trans hx⟩
    · exact .inl ⟨i, j, h1, by omega, h3⟩
  · rintro (⟨i, j, h1, h2, h3⟩ | ⟨n, h1, h2⟩)
    · exact ⟨i, j, h1, by omega, h3⟩
    · exact ⟨n, m, h1, by omega, h2.trans hx.symm⟩
theorem chk_out {f : Nat → Int} {N : Nat} {c : Int} {n : Nat} (hn : n < N) (h : ¬ (0 ≤ f n ∧ f n < c)) : chk f N c = 6 := if_pos ⟨n, hn, h⟩
theorem chk_in {f : Nat → Int} {N : Nat} {c : Int} (h : ∀ n, n < N → 0 ≤ f n ∧ f n < c) : chk f N c = if dupB f N = true then 7 else 0 := if_neg (fun ⟨n, hn, hno⟩ => hno (h n hn))
/-- The cell of a number. -/
def cellOf (o : Int) (l s : List Int) (n : Nat) : Int := cellR o s (S.pad (S.atL l n)) s.length
noncomputable def check (o : Int) (l s : List Int) (c : Int) : Int :=
  if l.length ≠ s.length ∨ c < 0 ∨ 4096 < c then 1 else if (S.sizeS l).2 ≠ 0 then (S.sizeS l).2 else chk (cellOf o l s) (sizeN l) c
theorem isL_get : ∀ (l i : List Int), S.isL l i = true → ∀ k, 0 ≤ i.getD k 0 ∧ (0 < i.getD k 0 → i.getD k 0 < l.getD k 0)
  | [], [], _, k => by simp
  | [], x :: is, h, k => by
    simp only [S.isL] at h
    split at h
    · rename_i hx
      cases k with
      | zero => simp [hx]
      | succ k => simpa using isL_get [] is h k
    · simp at h
  | s :: ss, [], _, k => by simp
  | s :: ss, x :: is, h, k => by
    simp only [S.isL] at h
    split at h
    · rename_i hx
      cases k with
      | zero => simp; omega
      | succ k => simpa using isL_get ss is h k
    · simp at h
theorem get_le_prod : ∀ (l : List Int) (k : Nat), (∀ r ∈ l, 1 ≤ r) → l.getD k 0 ≤ S.prod l
  | [], k, _ => by simp [S.prod]
  | r :: rs, k, h => by
    have h1 := h r (by simp)
    have h2 := S.prod_pos rs fun x hx => h x (by simp [hx])
    have ih := get_le_prod rs
    simp only [S.prod]
    cases k with
    | zero =>
      have := S.mul_ge h1 h2
      simpa using this
    | succ k =>
      have h3 := ih k fun x hx => h x (by simp [hx])
      have h4 := S.mul_ge h2 h1
      rw [Int.mul_comm] at h4
      have : (r :: rs).getD (k + 1) 0 = rs.getD k 0 := by simp
      omega
/-- The numbers of an index of a shape that is one. -/
theorem pad_small {l : List Int} (h : S.Ok l) {n : Nat} (hn : n < sizeN l) (k : Nat) : 0 ≤ (S.pad (S.atL l n)).getD k 0 ∧ (S.pad (S.atL l n)).getD k 0 ≤ 4096 ∧ (0 < (S.pad (S.atL l n)).getD k 0 → 1 < l.getD k 0) := by
  have hN := sizeN_ok h
  have hi := (S.num_at h (n := (n : Int)) (by omega) (by omega)).1
  have hg := isL_get l _ hi k
  have hl := get_le_prod l k h.2.1
  have h3 := h.2.2
  refine ⟨hg.1, ?_, fun h0 => by have := hg.2 h0; omega⟩
  by_cases h0 : 0 < (S.pad (S.atL l n)).getD k 0
  · have := hg.2 h0; omega
  · omega
/-- Of whatever number: the numbers of its index are small. -/
theorem pad_small_any {l : List Int} (h : S.Ok l) (n : Nat) (k : Nat) : 0 ≤ (S.pad (S.atL l n)).getD k 0 ∧ (S.pad (S.atL l n)).getD k 0 ≤ 4096 ∧ (0 < (S.pad (S.atL l n)).getD k 0 → 1 < l.getD k 0) := by
  have hi : S.isL l (S.pad (S.atL l n)) = true := S.isL_at l n _ h.2.1
  have hg := isL_get l _ hi k
  have hl := get_le_prod l k h.2.1
  have h3 := h.2.2
  refine ⟨hg.1, ?_, fun h0 => by have := hg.2 h0; omega⟩
  by_cases h0 : 0 < (S.pad (S.atL l n)).getD k 0
  · have := hg.2 h0; omega
  · omega
/-- What the numbers that came say. -/
def through (f : Nat → Int) (pre : List Nat) (j : Nat) : Int := f (pre.getD j 0)
theorem through_old (f : Nat → Int) (pre : List Nat) (x : Nat) {j : Nat} (hj : j < pre.length) : through f (pre ++ [x]) j = through f pre j := by
  unfold through
  rw [List.getD_eq_getElem?_getD, List.getD_eq_getElem?_getD, List.getElem?_append_left hj]
theorem through_new (f : Nat → Int) (pre : List Nat) (x : Nat) : through f (pre ++ [x]) pre.length = f x := by
  unfold through
  rw [List.getD_eq_getElem?_getD, List.getElem?_append_right (Nat.le_refl _)]; simp
theorem through_range (f : Nat → Int) (m : Nat) {j : Nat} (hj : j < m) : through f (List.range m) j = f j := by
  unfold through
  rw [List.getD_eq_getElem?_getD, List.getElem?_range hj]; rfl
theorem dup_congr {f g : Nat → Int} {m : Nat} (h : ∀ j, j < m → f j = g j) : dupB f m = dupB g m := by
  unfold dupB
  rw [decide_eq_decide]
  constructor
  · rintro ⟨i, j, h1, h2, h3⟩; exact ⟨i, j, h1, h2, by rw [← h i (by omega), ← h j h2]; exact h3⟩
  · rintro ⟨i, j, h1, h2, h3⟩; exact ⟨i, j, h1, h2, by rw [h i (by omega), h j h2]; exact h3⟩
theorem Seen.congr {f g : Nat → Int} {m : Nat} {fs : List Bool} (hs : Seen f m fs) (h : ∀ j, j < m → f j = g j) : Seen g m fs := fun x => by
  rw [hs x]
  constructor
  · rintro ⟨n, h1, h2⟩; exact ⟨n, h1, by rw [← h n h1]; exact h2⟩
  · rintro ⟨n, h1, h2⟩; exact ⟨n, h1, by rw [h n h1]; exact h2⟩
/-- One more has come. -/
theorem more_seen {f : Nat → Int} {pre : List Nat} {fs : List Bool} (h : Seen (through f pre) pre.length fs) {n x : Nat} (hx : f n = (x : Int)) (hl : x < fs.length) : Seen (through f (pre ++ [n])) (pre ++ [n]).length (fs.set x true) := by
  rw [List.length_append]
  exact (h.congr (g := through f (pre ++ [n])) fun j hj => (through_old f pre n hj).symm).step ((through_new f pre n).trans hx) hl
theorem more_dup {f : Nat → Int} {pre : List Nat} {fs : List Bool} (h : Seen (through f pre) pre.length fs) {n x : Nat} (hx : f n = (x : Int)) : dupB (through f (pre ++ [n])) (pre ++ [n]).length = (dupB (through f pre) pre.length || fs.getD x false) := by
  rw [List.length_append]
  show dupB _ (pre.length + 1) = _
  rw [dup_step (h.congr (g := through f (pre ++ [n])) fun j hj => (through_old f pre n hj).symm) ((through_new f pre n).trans hx)]
  rw [dup_congr fun j hj => through_old f pre n hj]
theorem more_in {f : Nat → Int} {pre : List Nat} {c : Int} (h : ∀ j, j < pre.length → 0 ≤ through f pre j ∧ through f pre j < c) {n : Nat} (hn : 0 ≤ f n ∧ f n < c) : ∀ j, j < (pre ++ [n]).length → 0 ≤ through f (pre ++ [n]) j ∧ through f (pre ++ [n]) j < c := fun j hj => by
  rw [List.length_append] at hj
  by_cases e : j = pre.length
  · subst e; rw [through_new]; exact hn
  · have hj' : j < pre.length := by simp at hj; omega
    rw [through_old f pre n hj']; exact h j hj'
theorem more_out {f : Nat → Int} {pre : List Nat} {c : Int} {n : Nat} (hn : ¬ (0 ≤ f n ∧ f n < c)) : ∃ j, j < (pre ++ [n]).length ∧ ¬ (0 ≤ through f (pre ++ [n]) j ∧ through f (pre ++ [n]) j < c) :=
  ⟨pre.length, by simp, by rw [through_new]; exact hn⟩
theorem out_range {f : Nat → Int} {m N : Nat} {c : Int} (hm : m ≤ N) (h : ∃ j, j < (List.range m).length ∧ ¬ (0 ≤ through f (List.range m) j ∧ through f (List.range m) j < c)) : chk f N c = 6 := by
  obtain ⟨j, hj, hno⟩ := h
  rw [List.length_range] at hj
  rw [through_range f m hj] at hno
  exact chk_out (by omega) hno
theorem in_range {f : Nat → Int} {N : Nat} {c : Int} (h : ∀ j, j < (List.range N).length → 0 ≤ through f (List.range N) j ∧ through f (List.range N) j < c) : chk f N c = if dupB (through f (List.range N)) (List.range N).length = true then 7 else 0 := by
  rw [List.length_range, dup_congr fun j hj => through_range f N hj]
  exact chk_in fun n hn => by
    have := h n (by rw [List.length_range]; exact hn)
    rw [through_range f N hn] at this
    exact this
end Go.Proofs.YtpkpadepccneeaaGreatDoor.W.V

/- Where not all is near, some cell lies outside: so both Checks say the same. No condition. -/
namespace Go.Proofs.YtpkpadepccneeaaGreatDoor.W.V
set_option maxRecDepth 100000
set_option linter.unusedVariables false
theorem isL_of : ∀ (l i : List Int), l.length ≤ i.length → (∀ k, k < l.length → 0 ≤ i.getD k 0 ∧ i.getD k 0 < l.getD k 0) → (∀ k, l.length ≤ k → i.getD k 0 = 0) → S.isL l i = true
  | [], [], _, _, _ => rfl
  | [], x :: is, _, _, h => by
    have h0 : x = 0 := by simpa using h 0 (by simp)
    simp only [S.isL, if_pos h0]
    exact isL_of [] is (by simp) (by simp) fun k _ => by simpa using h (k + 1) (by simp)
  | s :: ss, [], h, _, _ => absurd h (by simp)
  | s :: ss, x :: is, hl, h, hz => by
    have h0 : 0 ≤ x ∧ x < s := by simpa using h 0 (by simp)
    simp only [S.isL, if_pos h0]
    exact isL_of ss is (by simpa using hl) (fun k hk => by simpa using h (k + 1) (by simpa using hk)) fun k hk => by simpa using hz (k + 1) (by simpa using hk)
/-- The index that goes one step on one axis. -/
def unit (k : Nat) : List Int := (List.replicate 4 0).set k 1
theorem unit_get (k : Nat) (hk : k < 4) (j : Nat) : (unit k).getD j 0 = if j = k then 1 else 0 := by
  unfold unit
  rw [List.getD_eq_getElem?_getD, List.getElem?_set]
  by_cases e : k = j
  · subst e
    rw [if_pos rfl, if_pos (by simpa using hk), if_pos rfl]; rfl
  · rw [if_neg e, if_neg (fun h => e h.symm), List.getElem?_replicate]
    split <;> rfl
theorem sumR_unit (s : List Int) (k : Nat) (hk : k < 4) : ∀ m, sumR s (unit k) m = if k < m then cut (s.getD k 0) else 0
  | 0 => by simp [sumR]
  | m + 1 => by
    simp only [sumR]
    rw [sumR_unit s k hk m, unit_get k hk m]
    by_cases e : m = k
    · subst e
      rw [if_pos rfl, if_neg (by omega), if_pos (by omega)]
      omega
    · rw [if_neg e]
      by_cases h : k < m
      · rw [if_pos h, if_pos (by omega)]; omega
      · rw [if_neg h, if_neg (by omega)]; omega
theorem sumR_zero (s : List Int) (i : List Int) (hi : ∀ k, i.getD k 0 = 0) : ∀ m, sumR s i m = 0
  | 0 => rfl
  | m + 1 => by simp only [sumR]; rw [sumR_zero s i hi m, hi m]; omega
theorem far_out (o : Int) (l s : List Int) (c : Int) (hok : S.Ok l) (hls : l.length = s.length) (h0 : 0 ≤ c) (h1 : c ≤ 4096) (hn : ¬ near o l s c) : ∃ n, n < sizeN l ∧ ¬ (0 ≤ cellOf o l s n ∧ cellOf o l s n < c) := by
  have hN := sizeN_ok hok
  have hp := hok.pos
  by_cases ho : 0 ≤ o ∧ o < c
  · have : ∃ k, k < s.length ∧ ¬ nearAt l s c k := Classical.byContradiction fun h => hn ⟨ho.1, ho.2, fun k hk => Classical.byContradiction fun hna => h ⟨k, hk, hna⟩⟩
    obtain ⟨k, hk, hna⟩ := this
    have hf : 1 < l.getD k 0 ∧ (s.getD k 0 ≤ -c ∨ c ≤ s.getD k 0) := Classical.byContradiction hna
    have hk4 : k < 4 := by have := hok.1; omega
    have hu4 : (unit k).length = 4 := by simp [unit]
    have hi : S.isL l (unit k) = true := by
      refine isL_of l (unit k) (by rw [hu4]; exact hok.1) (fun j hj => ?_) (fun j hj => ?_)
      · rw [unit_get k hk4 j]
        by_cases e : j = k
        · subst e; rw [if_pos rfl]; omega
        · rw [if_neg e]
          have : 1 ≤ l.getD j 0 := by
            rw [List.getD_eq_getElem?_getD, List.getElem?_eq_getElem hj]
            exact hok.2.1 _ (List.getElem_mem hj)
          omega
      · rw [unit_get k hk4 j, if_neg (by omega)]
    have hb := S.sumL_bound l (unit k) (by rw [hu4]; exact hok.1) hok.2.1 hi
    have hat := S.at_num hok hu4 hi
    refine ⟨(S.sumL l (unit k)).toNat, by omega, ?_⟩
    have hc : cellOf o l s (S.sumL l (unit k)).toNat = o + cut (s.getD k 0) := by
      unfold cellOf cellR
      rw [show (((S.sumL l (unit k)).toNat : Nat) : Int) = S.sumL l (unit k) by omega, hat, sumR_unit s k hk4, if_pos hk, cut_near (by omega) (by omega)]
    rw [hc]
    unfold cut
    split <;> (try split) <;> omega
  · refine ⟨0, by omega, ?_⟩
    have hz : S.pad (S.atL l ((0 : Nat) : Int)) = [0, 0, 0, 0] := S.pad_zero l hok
    have hc : cellOf o l s 0 = cut o := by
      unfold cellOf cellR
      rw [hz, sumR_zero s [0, 0, 0, 0] (fun k => by match k with | 0 => rfl | 1 => rfl | 2 => rfl | 3 => rfl | (k + 4) => simp)]
      omega
    rw [hc]
    unfold cut
    split <;> (try split) <;> omega
theorem check_far (o : Int) (l s : List Int) (c : Int) (hok : S.Ok l) (hls : l.length = s.length) (h0 : 0 ≤ c) (h1 : c ≤ 4096) (hn : ¬ near o l s c) : check o l s c = 6 := by
  unfold check
  obtain ⟨n, h2, h3⟩ := far_out o l s c hok hls h0 h1 hn
  rw [if_neg (by omega), hok.size, if_neg (by simp)]
  exact chk_out h2 h3
end Go.Proofs.YtpkpadepccneeaaGreatDoor.W.V
