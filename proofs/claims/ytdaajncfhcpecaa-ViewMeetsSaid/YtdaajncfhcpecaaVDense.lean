/- The walk of chapter 8's Dense. No condition. -/
import Derived.Test.YtdaajncfhcpecaaVClone
namespace Go.Proofs.Ytdaajncfhcpecaa
set_option linter.unusedVariables false
set_option linter.unusedSimpArgs false
open Go.RowKit
theorem set_grown (W : World) (b i : Nat) (u : Value) : W.grownBy (W.setCell ⟨b, i, none⟩ u) (some b) :=
  ⟨rfl, rfl, rfl, by simp, fun k _ hk => Below.heap_setCell _ _ _ _ (fun e => hk (by rw [e]))⟩
theorem far_own {k : IntKind} {e : TypeId} {w : World} {B b : Nat} {v : Value} {l : List Int} (h : OI k e w B v l) (hb : b < B) : ∀ g, v.ownBlock = some g → some b ≠ some g := fun g hv e => by
  have := (h.lt g hv).1
  cases e
  omega
/-- No view. -/
abbrev noView : Array Value := #[.int .i64 0, .slice none 0 0, .slice none 0 0]
set_option maxHeartbeats 1000000 in
theorem Dense_no (A : Option Addr) (c : Nat) (l : List Int) (w : World) (hr : RI .i64 w A l) (hm : l.length ≤ 9223372036854775807) (hok : ¬ S.Ok l) :
    Calls Try.prog 33 #[.slice A l.length c] w fun e w' => e = .returned (.tuple #[.agg noView, .int .i64 (S.sizeS l).2]) ∧ Below w.heap.size w w' := by
  have HB := Lib.hid ((Below.refl w.heap.size w).alloc (Nat.le_refl _) (.cells noView 49))
  have CS := Lib.hid (size_any A c l _ (hr.below HB.out) hm)
  have HE := Lib.hid (show (S.sizeS l).1 = 0 ∧ ((S.sizeS l).2 = 1 ∨ (S.sizeS l).2 = 5) from by
    rcases S.size_cases l with ho | ⟨_, he⟩ | ⟨_, he⟩
    · exact absurd ho hok
    · rw [he]; exact ⟨rfl, .inl rfl⟩
    · rw [he]; exact ⟨rfl, .inr rfl⟩)
  obtain ⟨h1, h2⟩ := HE.out
  rw [h1] at CS
  clear hr h1 HE hok
  generalize (S.sizeS l).2 = q at *
  have hq : (q != 0) = true := by rcases h2 with rfl | rfl <;> rfl
  have hq2 : (q == 0) = false := by rcases h2 with rfl | rfl <;> rfl
  have HQ := Lib.hid h2
  clear h2
  go_enter Try.func33, Try.ntmps33
  go_wp2_with fail
  with_reducible refine CS.out.mono ?_
  rintro e w' ⟨rfl, rfl⟩
  go_wp2_with fail
  exact bodyPost_ret (v := .tuple #[.agg noView, .int .i64 q]) (by simp [results, Try.results33, go_sem]) rfl ⟨rfl, HB.out⟩
set_option maxHeartbeats 1000000 in
theorem Dense_yes (A : Option Addr) (c : Nat) (l : List Int) (w : World) (hr : RI .i64 w A l) (hnil : A = none → l.length = 0 ∧ c = 0) (hok : S.Ok l) :
    Calls Try.prog 33 #[.slice A l.length c] w fun e w' => ∃ A1 c1 A2 c2, e = .returned (.tuple #[.agg (view 0 A1 l.length c1 A2 (S.strides l).length c2), .int .i64 0]) ∧ OI .i64 3 w' w.heap.size (.slice A1 l.length c1) l ∧ OI .i64 3 w' w.heap.size (.slice A2 (S.strides l).length c2) (S.strides l) ∧ Below w.heap.size w w' := by
  have HB := Lib.hid ((Below.refl w.heap.size w).alloc (Nat.le_refl _) (.cells noView 49))
  have HK := Lib.hid (Blk.new w 49 noView)
  have HR := Lib.hid (hr.below HB.out)
  have h4 := hok.1
  have CS := Lib.hid (size_any A c l _ HR.out (by omega))
  rw [hok.size] at CS
  have CC := Lib.hid (Clone_any A c l _ HR.out (by omega) hnil)
  have CT := Lib.hid fun (W : World) (h : RI .i64 W A l) => Strides_yes A c l W h hok
  clear hr hok hnil
  generalize S.prod l = p at *
  generalize S.strides l = t at *
  go_enter Try.func33, Try.ntmps33
  go_wp2_with fail
  with_reducible refine CS.out.mono ?_
  rintro e w' ⟨rfl, rfl⟩
  go_wp2_with fail
  with_reducible refine CC.out.mono ?_
  rintro e w1 ⟨v1, rfl, ho1, hb1⟩
  obtain ⟨A1, c1, rfl, _⟩ := ho1.form
  have HO1 := Lib.hid ho1
  have HBB := Lib.hid hb1
  have HB1 := Lib.hid (below_then HB.out HB.out.size hb1)
  have HK1 := Lib.hid (HK.out.below hb1 HK.out.lt)
  clear hb1 ho1 CC CS
  go_wp2_with fail
  with_reducible refine (CT.out w1 (HR.out.below HBB.out)).mono ?_
  rintro e w2 ⟨v2, rfl, ho2, hb2⟩
  obtain ⟨A2, c2, rfl, _⟩ := ho2.form
  have HO2 := Lib.hid ho2
  have HB2 := Lib.hid (below_then HB1.out HB1.out.size hb2)
  have HK2 := Lib.hid (HK1.out.below hb2 HK1.out.lt)
  have HO12 := Lib.hid (HO1.out.below hb2)
  clear hb2 ho2 CT
  have k0 := HK2.out.cell 0
  have k1 := HK2.out.cell 1
  have k2 := HK2.out.cell 2
  have f0 := HK2.out.frozen 0
  have f1 := HK2.out.frozen 1
  have f2 := HK2.out.frozen 2
  have HKE := Lib.hid (((HK2.out.set_ 0 (.int .i64 0)).set_ 1 (.slice A1 l.length c1)).set_ 2 (.slice A2 t.length c2))
  have d0 := HKE.out.cell 0
  have d1 := HKE.out.cell 1
  have d2 := HKE.out.cell 2
  go_wp2_with fail
  refine bodyPost_ret (v := .tuple #[.agg (view 0 A1 l.length c1 A2 t.length c2), .int .i64 0]) (by simp [results, Try.results33, go_sem, d0, d1, d2]) rfl ⟨A1, c1, A2, c2, rfl, ?_, ?_, ?_⟩
  · exact ((((OI.kept HO12.out (row := some w.heap.size) (set_grown _ _ _ _) (far_own HO12.out (by simp))).kept (row := some w.heap.size) (set_grown _ _ _ _) (far_own HO12.out (by simp))).kept (row := some w.heap.size) (set_grown _ _ _ _) (far_own HO12.out (by simp)))).mono (by simp)
  · exact ((((OI.kept HO2.out (row := some w.heap.size) (set_grown _ _ _ _) (far_own HO2.out HK1.out.lt)).kept (row := some w.heap.size) (set_grown _ _ _ _) (far_own HO2.out HK1.out.lt)).kept (row := some w.heap.size) (set_grown _ _ _ _) (far_own HO2.out HK1.out.lt))).mono (by have := HK1.out.lt; omega)
  · exact ((HB2.out.setCell (p := ⟨w.heap.size, 0, none⟩) (Nat.le_refl _) _).setCell (p := ⟨w.heap.size, 1, none⟩) (Nat.le_refl _) _).setCell (p := ⟨w.heap.size, 2, none⟩) (Nat.le_refl _) _
end Go.Proofs.Ytdaajncfhcpecaa
