/- The walks of slices.Clone and chapter 8's Dense. No condition. -/
import Derived.Test.YtdaajncfhcpecaaVProgCells
import Derived.Laws.AppendOwnNone
namespace Go.Proofs.Ytdaajncfhcpecaa
set_option linter.unusedVariables false
set_option linter.unusedSimpArgs false
open Go.RowKit
section
variable {P : Program}
/-- 'append(out, xs...)' of a slice that reads as a list, out a row of the call's own. -/
theorem wpList_appendRI {W : World} {ops : Array Oper} {rest : List Oper} {o : Oper} {a : Act} {Q : Exit → Act → World → Prop} (hgd : o.guard = none) (s x : Operand) (t : TypeId)
    (ho : o.op = .call { callee := .builtin .append, args := #[s, x], argTypes := #[t, t] }) (B : Nat) (e : TypeId) (k : IntKind) (bytes : Nat) (ht : P.underlying t = some (.slice e))
    (hi : (P.info? e).map (fun i => (i.zero, i.size, i.bytes)) = some (some (.int k 0), 1, bytes)) (hby : bytes ≤ 8)
    (v : Value) (l l2 : List Int) (A : Option Addr) (c : Nat) (hs : a.eval s = v) (hx : a.eval x = .slice A l2.length c) (hown : OI k e W B v l) (hr : RI k W A l2) (hc : A = none → c = 0)
    (hlen : l.length + l2.length ≤ 17592186044416) (hB : B ≤ W.heap.size)
    (h : ∀ v' w', OI k e w' B v' (l ++ l2) → Below B W w' → wpList P ops Q rest (a.put o.dst v') w') :
    wpList P ops Q (o :: rest) a W := by
  obtain ⟨i0, h1, h2, h3, h4⟩ := info_parts hi
  rcases A with _ | ad
  · have hl2 : l2 = [] := by
      cases l2 with
      | nil => rfl
      | cons y ys => obtain ⟨ad, h, _⟩ := hr 0 (by simp); cases h
    subst hl2
    rw [hc rfl] at hx
    refine wpList_append_own_none hgd s x t ho B e i0 1 ht h1 v l.length (ints k l) hs hown hx ?_
    exact h v W (by rw [List.append_nil]; exact hown) (Below.refl _ _)
  · refine wpList_append_own _ hgd s x t ho B e i0 (.int k 0) 1 bytes ht h1 h2 h3 h4 rfl (by decide) v l.length (ints k l) hs hown ad l2.length c (ints k l2) hx (by simp [ints]) ?_ ?_ ?_ ?_ hB ?_
    · intro j u hj
      have hj2 : j < l2.length := by
        have := (List.getElem?_eq_some_iff.1 hj).1
        simpa [ints] using this
      obtain ⟨ad', he, hcell⟩ := hr j hj2
      injection he with he
      subst he
      rw [ints_at k l2 hj2] at hj
      rw [hcell]
      exact hj
    · intro u hu
      simp only [ints, List.mem_map] at hu
      obtain ⟨y, _, rfl⟩ := hu
      rfl
    · unfold maxLen; omega
    · calc (l.length + l2.length) * bytes ≤ (l.length + l2.length) * 8 := Nat.mul_le_mul_left _ hby
        _ ≤ 140737488355328 := by omega
    · intro v' w' hown' hg _
      refine h v' w' ?_ ?_
      · unfold OI; simpa [ints] using hown'
      · exact (Below.refl _ _).grown hg hB (fun g hg' => (hown.lt g hg').1)
end

theorem nil_eq (w : World) : (binOp .eql 22 (.slice none 0 0) (.slice none 0 0)).run Try.prog w = .ok (.bool true) w := by kernel_rfl
theorem some_eq (ad : Addr) (n c : Nat) (w : World) : (binOp .eql 22 (.slice (some ad) n c) (.slice none 0 0)).run Try.prog w = .ok (.bool false) w := by kernel_rfl
set_option maxHeartbeats 1000000 in
theorem Clone_any (A : Option Addr) (c : Nat) (l : List Int) (w : World) (hr : RI .i64 w A l) (hl : l.length ≤ 8192) (hnil : A = none → l.length = 0 ∧ c = 0) :
    Calls Try.prog 46 #[.slice A l.length c] w fun e w' => ∃ v, e = .returned v ∧ OI .i64 3 w' w.heap.size v l ∧ Below w.heap.size w w' := by
  have HB := Lib.hid ((Below.refl w.heap.size w).alloc (Nat.le_refl _) (.cells #[] 3))
  have HR := Lib.hid (hr.below HB.out)
  have HO := Lib.hid (show OI .i64 3 (w.alloc (.cells #[] 3)) w.heap.size (.slice (some ⟨w.heap.size, 0, none⟩) 0 0) [] from World.ownsRow_made w #[] 0 (Nat.le_refl _) (by decide) rfl)
  have he0 := nil_eq w
  cases A with
  | none =>
    obtain ⟨h0, rfl⟩ := hnil rfl
    have hl0 : l = [] := List.eq_nil_of_length_eq_zero h0
    subst hl0
    clear hr
    go_enter Try.func46, Try.ntmps46
    go_wp2_with fail
    go_ret
    exact ⟨_, rfl, OI.nil _ _ _ _, Below.refl _ _⟩
  | some ad =>
    have he1 := some_eq ad l.length c w
    clear hr
    go_enter Try.func46, Try.ntmps46
    go_wp2_with (at_builtin; refine wpList_appendRI rfl (.tmp 5) (.tmp 6) 22 rfl w.heap.size 3 .i64 8 under22 info3 (by decide) (.slice (some ⟨w.heap.size, 0, none⟩) 0 0) [] l (some ad) c rfl rfl HO.out HR.out (by intro h; cases h) (by simp; omega) (by simp) ?_; intro v w' ho hb; have HO2 := Lib.hid ho; have HB2 := Lib.hid (HB.out.trans hb); clear ho hb)
    go_ret
    exact ⟨_, rfl, HO2.out, HB2.out⟩
end Go.Proofs.Ytdaajncfhcpecaa
