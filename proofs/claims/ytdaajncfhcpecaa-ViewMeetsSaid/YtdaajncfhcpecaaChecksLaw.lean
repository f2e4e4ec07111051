/- The walk of the law ViewChecks. No condition. -/
import Derived.Test.YtdaajncfhcpecaaVAlive
import Derived.Deep.RegionHeld3
namespace Go.Proofs.Ytdaajncfhcpecaa
set_option linter.unusedVariables false
set_option linter.unusedSimpArgs false
open Go.RowKit
/-- A law's own box of a view lies as it was made; the rest of the world below is as it was. -/
def St (w U : World) (t : TypeId) (cs : Array Value) : Prop := Below w.heap.size w U ∧ Blk U w.heap.size t cs
theorem St.step {w U U' : World} {t : TypeId} {cs : Array Value} (h : St w U t cs) (k : Below U.heap.size U U') : St w U' t cs :=
  ⟨below_then h.1 h.1.size k, h.2.below k h.2.lt⟩
theorem St.drewN {w U : World} {t : TypeId} {cs : Array Value} (h : St w U t cs) (n : Nat) : St w (U.drewN n) t cs :=
  ⟨⟨h.1.os, h.1.tape, h.1.output, h.1.size, h.1.block⟩, h.2⟩
theorem St.new (w : World) (t : TypeId) (cs : Array Value) : St w (w.alloc (.cells cs t)) t cs := ⟨(Below.refl _ _).alloc (Nat.le_refl _) _, Blk.new w t cs⟩
theorem St.cells {w U : World} {t : TypeId} {o : Int} {A B : Option Addr} {n c m d : Nat} (h : St w U t (view o A n c B m d)) :
    U.cell? ⟨w.heap.size, 0, none⟩ = some (.int .i64 o) ∧ U.cell? ⟨w.heap.size, 1, none⟩ = some (.slice A n c) ∧ U.cell? ⟨w.heap.size, 2, none⟩ = some (.slice B m d) := ⟨h.2.cell 0, h.2.cell 1, h.2.cell 2⟩
set_option maxHeartbeats 2000000 in
theorem checks_law (o : Int) (A B : Option Addr) (cp cq : Nat) (l s : List Int) (c : Int) (w : World) (hr : RI .i64 w A l) (hs : RI .i64 w B s) (hcap : l.length ≤ cp) (hm : l.length ≤ 9223372036854775807) (hms : s.length ≤ 9223372036854775807) :
    Calls Try.prog 7 #[.agg (view o A l.length cp B s.length cq), .int .i64 c] w fun e w' => e = .returned (.bool true) ∧ Below w.heap.size w w' := by
  have HT0 := Lib.hid (St.new w 47 (view o A l.length cp B s.length cq))
  have HR := Lib.hid fun U (h : Below w.heap.size w U) => (And.intro (hr.below h) (hs.below h))
  have CK := Lib.hid fun U (h : Below w.heap.size w U) => Check_any o A B cp cq l s c U (hr.below h) (hs.below h) hm hms
  have CR := Lib.hid fun U (h : Below w.heap.size w U) => refCheck_any o A B cp cq l s c U (hr.below h) (hs.below h) hcap hm hms
  have CC := Lib.hid fun U (h : Below w.heap.size w U) => Cells_any o A B cp cq l s U (hr.below h) (hs.below h) hm hms
  have CD := Lib.hid fun U (h : Below w.heap.size w U) => refCells_any o A B cp cq l s U (hr.below h) (hs.below h) hcap hm hms
  generalize V.cells o l s = cl at *
  generalize V.check o l s c = ck at *
  have CO := Lib.hid fun U => of_any o A B l.length cp s.length cq U
  have CG := Lib.hid fun U => great_any o A B l.length cp s.length cq U
  clear hr hs hcap hm hms
  go_enter Try.func7, Try.ntmps7
  go_wp2_with fail
  with_reducible refine (alive8_any _).mono ?_
  rintro e w1 ⟨rfl, hb1⟩
  have HT1 := Lib.hid (HT0.out.step hb1)
  clear hb1
  have a0 := HT1.out.2.cell 0
  have a1 := HT1.out.2.cell 1
  have a2 := HT1.out.2.cell 2
  go_wp2_with fail
  with_reducible refine (CG.out _).mono ?_
  rintro e w2 ⟨rfl, hb2⟩
  have HT2 := Lib.hid (HT1.out.step hb2)
  clear hb2 a0 a1 a2 CG
  by_cases hg : 20 < l.length ∨ 20 < s.length
  · have hd := decide_eq_true hg
    rw [hd]
    clear hd hg
    go_wp2_with fail
    go_ret
    exact ⟨rfl, HT2.out.1⟩
  · have hd := decide_eq_false hg
    rw [hd]
    clear hd hg
    have a0 := HT2.out.2.cell 0
    have a1 := HT2.out.2.cell 1
    have a2 := HT2.out.2.cell 2
    clear HR
    have hs0 := fun (A1 A2 : Option Addr) (c1 c2 : Nat) (U : World) (h1 : RI .i64 U A1 cl) (h2 : RI .i64 U A2 cl) (hm : cl.length ≤ 9223372036854775807) => same_any A1 A2 c1 c2 cl cl U h1 h2 hm
    simp only [decide_true] at hs0
    have CS := Lib.hid hs0
    clear hs0
    go_upto_region 5 with fail
    go_region_held3 (fun w' => w'.cell? ⟨w.heap.size, 0, none⟩ = some (.int .i64 o) ∧ w'.cell? ⟨w.heap.size, 1, none⟩ = some (.slice A l.length cp) ∧ w'.cell? ⟨w.heap.size, 2, none⟩ = some (.slice B s.length cq)) (first | exact hS | go_keep)
      (first
      | (go_at_call 28; refine (CK.out _ HT3.out.1).mono ?_; rintro e U4 ⟨rfl, hbu⟩; have HT4 := Lib.hid (HT3.out.step hbu); have hS := HT4.out.cells; clear hbu HT3 CK)
      | (go_at_call 29; refine (CR.out _ HT4.out.1).mono ?_; rintro e U5 ⟨rfl, hbu⟩; have HT5 := Lib.hid (HT4.out.step hbu); have hS := HT5.out.cells; clear hbu HT4 CR)
      | (go_at_call 27; have HT5' := HT5; refine (CO.out _).mono ?_; rintro e U6 ⟨rfl, hbu⟩; have HT6 := Lib.hid (HT5.out.step hbu); have hS := HT6.out.cells; clear hbu HT5' HT5 CO)
      | (go_at_call 27; refine (CO.out _).mono ?_; rintro e U3 ⟨rfl, hbu⟩; have HT3 := Lib.hid ((HT2.out.drewN 1).step hbu); have hS := HT3.out.cells; clear hbu a0 a1 a2 HT2 HT1)
      | (go_at_call 31; refine (CC.out _ HT6.out.1).mono ?_; rintro e U7 ⟨v7, rfl, ho7, hbu⟩; have HT7 := Lib.hid (HT6.out.step hbu); have hS := HT7.out.cells; obtain ⟨A7, c7, rfl, hr7⟩ := ho7.form; have HR7 := Lib.hid hr7; clear hbu hr7 ho7 HT6 CC)
      | (go_at_call 32; refine (CD.out _ HT7.out.1).mono ?_; rintro e U8 ⟨v8, rfl, ho8, hbu⟩; have HT8 := Lib.hid (HT7.out.step hbu); have hS := HT8.out.cells; obtain ⟨A8, c8, rfl, hr8⟩ := ho8.form; have HR8 := Lib.hid hr8; have HM8 := Lib.hid (show cl.length ≤ 9223372036854775807 from Nat.le_trans ho8.len (by decide)); have HR7b := Lib.hid (HR7.out.below hbu); clear hbu hr8 ho8 HT7 CD)
      | (go_at_call 30; refine (CS.out _ _ _ _ _ HR7b.out HR8.out HM8.out).mono ?_; rintro e U9 ⟨rfl, hd9⟩; have HT9 := Lib.hid (HT8.out.step (hd9.below _)); have hS := HT9.out.cells; clear hd9))
    all_goals go_wp2_with fail
    all_goals (go_ret; exact ⟨rfl, HT9.out.1⟩)
end Go.Proofs.Ytdaajncfhcpecaa
