/- The walks of chapter 9's Order and of the laws' same; an append of a whole list. No condition. -/
import Derived.Test.YtmofdjddjkjogaaDWalk3
import Derived.Laws.AppendOwnNone
namespace Go.Proofs.Ytmofdjddjkjogaa
set_option linter.unusedVariables false
set_option linter.unusedSimpArgs false
open Go.RowKit
theorem row_of2 {k : IntKind} {w : World} {a : Option Addr} {len cap : Nat} {zs : List Int}
    (h : (a = none ∧ len = 0 ∧ cap = 0 ∧ zs = []) ∨ ∃ x, a = some x ∧ len ≤ cap ∧ cap ≤ maxLen ∧ zs.length = cap ∧ (∀ i, i < zs.length → w.cell? (x.add i) = some (.int k (zs.getD i 0))) ∧ ∀ n ∈ zs, (Lit.int k n).wf = true) :
    ∃ l : List Int, len = l.length ∧ RI k w a l ∧ l.length ≤ maxLen ∧ (∀ n ∈ l, (Lit.int k n).wf = true) ∧ (a = none → cap = 0) := by
  obtain ⟨l, h1, h2, h3, h4⟩ := row_of h
  refine ⟨l, h1, h2, h3, h4, fun ha => ?_⟩
  rcases h with ⟨_, _, hc, _⟩ | ⟨x, hx, _⟩
  · exact hc
  · rw [ha] at hx; cases hx
section
variable {P : Program}
/-- 'append(out, xs...)' of a slice that reads as a list, out a row of the call's own. -/
theorem wpList_appendRI {W : World} {ops : Array Oper} {rest : List Oper} {o : Oper} {a : Act} {Q : Exit → Act → World → Prop} (hgd : o.guard = none) (s x : Operand) (t : TypeId)
    (ho : o.op = .call { callee := .builtin .append, args := #[s, x], argTypes := #[t, t] }) (B : Nat) (e : TypeId) (k : IntKind) (bytes : Nat) (ht : P.underlying t = some (.slice e))
    (hi : (P.info? e).map (fun i => (i.zero, i.size, i.bytes)) = some (some (.int k 0), 1, bytes)) (hby : bytes ≤ 8)
    (v : Value) (l l2 : List Int) (A : Option Addr) (c : Nat) (hs : a.eval s = v) (hx : a.eval x = .slice A l2.length c) (hown : OI k e W B v l) (hr : RI k W A l2) (hc : A = none → c = 0)
    (hlen : l.length + l2.length ≤ 17592186044416) (hB : B ≤ W.heap.size)
    (h : ∀ v' w', OI k e w' B v' (l ++ l2) → Below B W w' → wpList P ops Q rest (a.put o.dst v') w') :
    wpList P ops Q (o :: rest) a W := by
  obtain ⟨i0, h1, h2, h3, h4⟩ := info_parts hi
  rcases A with _ | ad
  · have hl2 : l2 = [] := by
      cases l2 with
      | nil => rfl
      | cons y ys => obtain ⟨ad, h, _⟩ := hr 0 (by simp); cases h
    subst hl2
    rw [hc rfl] at hx
    refine wpList_append_own_none hgd s x t ho B e i0 1 ht h1 v l.length (ints k l) hs hown hx ?_
    exact h v W (by rw [List.append_nil]; exact hown) (Below.refl _ _)
  · refine wpList_append_own _ hgd s x t ho B e i0 (.int k 0) 1 bytes ht h1 h2 h3 h4 rfl (by decide) v l.length (ints k l) hs hown ad l2.length c (ints k l2) hx (by simp [ints]) ?_ ?_ ?_ ?_ hB ?_
    · intro j u hj
      have hj2 : j < l2.length := by
        have := (List.getElem?_eq_some_iff.1 hj).1
        simpa [ints] using this
      obtain ⟨ad', he, hcell⟩ := hr j hj2
      injection he with he
      subst he
      rw [ints_at k l2 hj2] at hj
      rw [hcell]
      exact hj
    · intro u hu
      simp only [ints, List.mem_map] at hu
      obtain ⟨y, _, rfl⟩ := hu
      rfl
    · unfold maxLen; omega
    · calc (l.length + l2.length) * bytes ≤ (l.length + l2.length) * 8 := Nat.mul_le_mul_left _ hby
        _ ≤ 140737488355328 := by omega
    · intro v' w' hown' hg _
      refine h v' w' ?_ ?_
      · unfold OI; simpa [ints] using hown'
      · exact (Below.refl _ _).grown hg hB (fun g hg' => (hown.lt g hg').1)
end

set_option maxHeartbeats 400000 in
theorem same_yes (A A2 : Option Addr) (c c2 : Nat) (l : List Int) (w : World) (hr : RI .u64 w A l) (hr2 : RI .u64 w A2 l) (hm : l.length ≤ 9223372036854775807) :
    Calls Try.prog 18 #[.slice A l.length c, .slice A2 l.length c2] w fun e w' => e = .returned (.bool true) ∧ Drawn w w' := by
  have hr' := Lib.hid hr
  have hr2' := Lib.hid hr2
  clear hr hr2
  go_enter Try.func18, Try.ntmps18
  go_wp2
  go_loopw [5, 13] (fun _ i wr => ∃ k : Nat, k ≤ l.length ∧ i = .int .i64 k ∧ Hid (Drawn w wr)) (fun _ i _ => l.length - (intOf i).toNat)
  case atStart => exact ⟨0, by omega, rfl, Lib.hid (Drawn.refl _)⟩
  case round =>
    obtain ⟨k, hk, rfl, HD⟩ := hrel
    by_cases hlt : k < l.length
    · obtain ⟨ad, rfl, hc⟩ := (hr'.out.drawn HD.out).at_ hlt
      obtain ⟨ad2, rfl, hc2⟩ := (hr2'.out.drawn HD.out).at_ hlt
      generalize l.getD k 0 = x at *
      have hi0 : (0 : Int) ≤ (k : Int) := by omega
      have hi1 : (k : Int) < (l.length : Int) := by omega
      go_wp2
      go_quiet (fail)
      go_wp2
      go_roundw
      case rel => exact ⟨k + 1, by omega, by go_num, Lib.hid (HD.out.step _)⟩
      case measure => simp [intOf]; omega
    · go_wp2
      go_ret
      exact ⟨rfl, HD.out⟩

theorem turn_inj {l : List Int} (hok : D.Ok l) {i j : Int} (h0 : 0 ≤ i) (h1 : i < D.prod l) (h2 : 0 ≤ j) (h3 : j < D.prod l) (h : D.turnD l i = D.turnD l j) : i = j := by
  rw [← hok.back h0 h1, ← hok.back h2 h3, h]

set_option maxHeartbeats 400000 in
theorem Order_yes (A A2 : Option Addr) (c c2 : Nat) (xs l : List Int) (n : Nat) (w : World) (hr : RI .u64 w A xs) (hr2 : RI .i64 w A2 l) (hok : D.Ok l) (hn : D.prod l = n) (hx : xs.length = n) :
    Calls Try.prog 17 #[.slice A n c, .slice A2 l.length c2] w fun e w' => ∃ v t, e = .returned (.tuple #[v, .int .i64 0]) ∧ OI .u64 41 w' w.heap.size v t ∧ t.length = n ∧ (∀ i : Nat, i < n → t.getD (D.turnD l i).toNat 0 = xs.getD i 0) ∧ Below w.heap.size w w' := by
  have hl := hok.1
  have hp := hok.2.2
  have C1 := Lib.hid (size_any A2 c2 l w hr2 (by omega))
  rw [hok.size, hn] at C1
  rw [hn] at hp
  have hr' := Lib.hid hr
  have hr2' := Lib.hid hr2
  have HT := Lib.hid fun (k : Nat) (W : World) (h : RI .i64 W A2 l) (hk : k < n) => turn_any A2 c2 l k W h hok (by omega) (by omega)
  have HTB := Lib.hid fun (k : Nat) (hk : k < n) => (show 0 ≤ D.turnD l k ∧ D.turnD l k < n by have := hok.turn k; rw [hn] at this; exact this)
  have HTI := Lib.hid fun (i j : Nat) (hi : i < n) (hj : j < n) (h : (D.turnD l i).toNat = (D.turnD l j).toNat) => (show i = j by
    have h1 := hok.turn i
    have h2 := hok.turn j
    have := turn_inj hok (i := i) (j := j) (by omega) (by omega) (by omega) (by omega) (by omega)
    omega)
  have HX := Lib.hid hx
  clear hr hr2 hok hn hx
  go_enter Try.func17, Try.ntmps17
  go_wp2_with fail
  refine C1.out.mono ?_
  rintro e w' ⟨rfl, rfl⟩
  go_wp2_with (refine wpList_makeI rfl (.tmp 23) (.tmp 23) 37 rfl w.heap.size 41 .u64 8 Try.underlying37 infoU64 (by decide) .i64 .i64 n rfl rfl (by omega) (Nat.le_refl _) ?_; intro w1 ho1 hb1 hs1; have HO1 := Lib.hid ho1; have HB1 := Lib.hid hb1; clear ho1 hb1)
  go_loopw [9, 10, 27] (fun _ _ j wr => ∃ (k : Nat) (t : List Int), k ≤ n ∧ j = .int .i64 k ∧ Hid (OI .u64 41 wr w.heap.size (.slice (some ⟨w.heap.size, 0, none⟩) n n) t) ∧ Hid (t.length = n) ∧ Hid (∀ i : Nat, i < k → t.getD (D.turnD l i).toNat 0 = xs.getD i 0) ∧ Hid (Below w.heap.size w wr)) (fun _ _ j _ => n - (intOf j).toNat)
  case atStart => exact ⟨0, List.replicate n 0, by omega, rfl, HO1, Lib.hid (by simp), Lib.hid (fun i hi => absurd hi (by omega)), HB1⟩
  case round =>
    obtain ⟨k, t, hk, rfl, HO, HL, HR, HB⟩ := hrel
    by_cases hlt : k < n
    · obtain ⟨ad, rfl, hcx⟩ := (hr'.out.below HB.out).at_ (show k < xs.length by have := HX.out; omega)
      have htb := HTB.out k hlt
      have C2 := Lib.hid (HT.out k wr (hr2'.out.below HB.out) hlt)
      obtain ⟨m, hm⟩ : ∃ m : Nat, D.turnD l k = m := ⟨(D.turnD l k).toNat, by omega⟩
      rw [hm] at C2 htb
      have hlen := HL.out
      have hmn : m < n := by omega
      have hc := (show OI .u64 41 wr w.heap.size (.slice (some ⟨w.heap.size, 0, none⟩) t.length n) t by rw [hlen]; exact HO.out).cellAt (show m < t.length by omega)
      have hf := HO.out.frozenAt hlen.symm m
      have HN := Lib.hid (HO.out.stored hlen.symm m (xs.getD k 0))
      have HL2 := Lib.hid (show (t.set m (xs.getD k 0)).length = n by simpa using hlen)
      have HR2 : Hid (∀ i : Nat, i < k + 1 → (t.set m (xs.getD k 0)).getD (D.turnD l i).toNat 0 = xs.getD i 0) := Lib.hid fun i hi => by
        by_cases hik : i = k
        · subst hik
          rw [hm, Int.toNat_natCast]
          simp [List.getD_eq_getElem?_getD, show m < t.length by omega]
        · have hne : (D.turnD l i).toNat ≠ m := fun h => hik (HTI.out i k (by omega) hlt (by rw [h, hm, Int.toNat_natCast]))
          rw [← HR.out i (by omega)]
          simp [List.getD_eq_getElem?_getD, List.getElem?_set_ne (Ne.symm hne)]
      clear hlen hm
      generalize xs.getD k 0 = x at *
      generalize t.getD m 0 = y at *
      go_wp2_with fail
      refine C2.out.mono ?_
      rintro e w' ⟨rfl, rfl⟩
      go_wp2_with fail
      go_roundw
      case rel => exact ⟨k + 1, t.set m x, by omega, by go_num, HN, HL2, HR2, Lib.hid (HB.out.setCell (by simp) _)⟩
      case measure => simp [intOf]; omega
    · obtain rfl : k = n := by omega
      go_wp2
      go_ret2
      exact ⟨_, t, rfl, by have := HO.out; exact this, HL.out, HR.out, HB.out⟩

set_option maxHeartbeats 400000 in
theorem Order_len (A A2 : Option Addr) (c c2 m : Nat) (l : List Int) (w : World) (hr2 : RI .i64 w A2 l) (hok : D.Ok l) (hx : (m : Int) ≠ D.prod l) (hm : m ≤ 9223372036854775807) :
    Calls Try.prog 17 #[.slice A m c, .slice A2 l.length c2] w fun e w' => e = .returned (.tuple #[.slice none 0 0, .int .i64 1]) ∧ w = w' := by
  have hl := hok.1
  have hp := hok.2.2
  have hp1 := hok.pos
  have C1 := Lib.hid (size_any A2 c2 l w hr2 (by omega))
  rw [hok.size] at C1
  have hne : ((m : Int) != D.prod l) = true := by simpa using hx
  clear hr2 hok hx
  generalize D.prod l = n at *
  go_enter Try.func17, Try.ntmps17
  go_wp2_with fail
  refine C1.out.mono ?_
  rintro e w' ⟨rfl, rfl⟩
  go_wp2_with fail
  go_ret2
  exact ⟨rfl, rfl⟩
set_option maxHeartbeats 400000 in
theorem Order_bad (A A2 : Option Addr) (c c2 m : Nat) (l : List Int) (w : World) (hr2 : RI .i64 w A2 l) (hlm : l.length ≤ 9223372036854775807) (hok : ¬ D.Ok l) :
    Calls Try.prog 17 #[.slice A m c, .slice A2 l.length c2] w fun e w' => e = .returned (.tuple #[.slice none 0 0, .int .i64 (D.sizeD l).2]) ∧ w = w' := by
  have c1 := size_any A2 c2 l w hr2 hlm
  rcases D.sizeD_cases l with ⟨ho, h⟩ | ⟨ho, h⟩ | ⟨ho, h⟩
  · exact absurd ho hok
  all_goals
    rw [h] at c1
    rw [h]
    have C1 := Lib.hid c1
    clear c1 h hok hr2 ho
    go_enter Try.func17, Try.ntmps17
    go_wp2_with fail
    refine C1.out.mono ?_
    rintro e w' ⟨rfl, rfl⟩
    go_wp2_with fail
    go_ret2
    exact ⟨rfl, rfl⟩
end Go.Proofs.Ytmofdjddjkjogaa
