/- The walk of the law ViewMeets. No condition. -/
import Derived.Test.YtdaajncfhcpecaaVMeet2
namespace Go.Proofs.Ytdaajncfhcpecaa
set_option linter.unusedVariables false
set_option linter.unusedSimpArgs false
open Go.RowKit
/-- The law's own boxes of two views lie as they were made. -/
def St2 (w U : World) (ca cb : Array Value) : Prop := Below w.heap.size w U ∧ Blk U w.heap.size 47 ca ∧ Blk U (w.heap.size + 1) 47 cb
theorem St2.step {w U U' : World} {ca cb : Array Value} (h : St2 w U ca cb) (k : Below U.heap.size U U') : St2 w U' ca cb :=
  ⟨below_then (And.left h) (And.left h).size k, (And.left (And.right h)).below k (And.left (And.right h)).lt, (And.right (And.right h)).below k (And.right (And.right h)).lt⟩
theorem St2.drewN {w U : World} {ca cb : Array Value} (h : St2 w U ca cb) (n : Nat) : St2 w (U.drewN n) ca cb :=
  ⟨⟨(And.left h).os, (And.left h).tape, (And.left h).output, (And.left h).size, (And.left h).block⟩, And.left (And.right h), And.right (And.right h)⟩
theorem St2.low {w U : World} {ca cb : Array Value} (h : St2 w U ca cb) : Below w.heap.size w U := And.left h
theorem St2.one {w U : World} {ca cb : Array Value} (h : St2 w U ca cb) : Blk U w.heap.size 47 ca := And.left (And.right h)
theorem St2.two {w U : World} {ca cb : Array Value} (h : St2 w U ca cb) : Blk U (w.heap.size + 1) 47 cb := And.right (And.right h)
theorem St2.new (w : World) (ca cb : Array Value) : St2 w ((w.alloc (.cells ca 47)).alloc (.cells cb 47)) ca cb := by
  refine ⟨((Below.refl _ _).alloc (Nat.le_refl _) _).alloc (by simp) _, (Blk.new w 47 ca).alloc _, ?_⟩
  have h := Blk.new (w.alloc (.cells ca 47)) 47 cb
  rw [World.size_alloc] at h
  exact h
set_option maxHeartbeats 4000000 in
theorem meets_law (o : Int) (A B : Option Addr) (cp cq : Nat) (l s : List Int) (o2 : Int) (A2 B2 : Option Addr) (cp2 cq2 : Nat) (l2 s2 : List Int) (w : World) (hr : RI .i64 w A l) (hs : RI .i64 w B s) (hr2 : RI .i64 w A2 l2) (hs2 : RI .i64 w B2 s2)
    (hcap : l.length ≤ cp) (hm : l.length ≤ 9223372036854775807) (hms : s.length ≤ 9223372036854775807) (hcap2 : l2.length ≤ cp2) (hm2 : l2.length ≤ 9223372036854775807) (hms2 : s2.length ≤ 9223372036854775807) :
    Calls Try.prog 11 #[.agg (view o A l.length cp B s.length cq), .agg (view o2 A2 l2.length cp2 B2 s2.length cq2)] w fun e w' => e = .returned (.bool true) ∧ Below w.heap.size w w' := by
  have HT0 := Lib.hid (St2.new w (view o A l.length cp B s.length cq) (view o2 A2 l2.length cp2 B2 s2.length cq2))
  have CR := Lib.hid fun U (h : Below w.heap.size w U) => refMeet_any o A B cp cq l s o2 A2 B2 cp2 cq2 l2 s2 U (hr.below h) (hs.below h) (hr2.below h) (hs2.below h) hcap hm hms hcap2 hm2 hms2
  have C1 := Lib.hid fun U (h : Below w.heap.size w U) => Meet_any o A B cp cq l s o2 A2 B2 cp2 cq2 l2 s2 U (hr.below h) (hs.below h) (hr2.below h) (hs2.below h) hm hms hm2 hms2
  have C2 := Lib.hid fun U (h : Below w.heap.size w U) => Meet_any o2 A2 B2 cp2 cq2 l2 s2 o A B cp cq l s U (hr2.below h) (hs2.below h) (hr.below h) (hs.below h) hm2 hms2 hm hms
  rw [meetB_comm (V.cells o2 l2 s2)] at C2
  generalize meetB (V.cells o l s) (V.cells o2 l2 s2) = R at *
  have CG := Lib.hid fun U => great_any o A B l.length cp s.length cq U
  have CG2 := Lib.hid fun U => great_any o2 A2 B2 l2.length cp2 s2.length cq2 U
  clear hr hs hr2 hs2 hcap hm hms hcap2 hm2 hms2
  go_enter Try.func11, Try.ntmps11
  go_wp2_with fail
  with_reducible refine (alive8_any _).mono ?_
  rintro e w1 ⟨rfl, hb1⟩
  have HT1 := Lib.hid (HT0.out.step hb1)
  clear hb1
  have a0 := HT1.out.one.cell 0
  have a1 := HT1.out.one.cell 1
  have a2 := HT1.out.one.cell 2
  go_wp2_with fail
  with_reducible refine (CG.out _).mono ?_
  rintro e w2 ⟨rfl, hb2⟩
  have HT2 := Lib.hid (HT1.out.step hb2)
  clear hb2 a0 a1 a2 CG
  by_cases hg : 20 < l.length ∨ 20 < s.length
  · have hd := decide_eq_true hg
    rw [hd]
    clear hd hg
    go_wp2_with fail
    go_ret
    exact ⟨rfl, HT2.out.low⟩
  have hd := decide_eq_false hg
  rw [hd]
  clear hd hg
  have a0 := HT2.out.two.cell 0
  have a1 := HT2.out.two.cell 1
  have a2 := HT2.out.two.cell 2
  go_wp2_with fail
  with_reducible refine (CG2.out _).mono ?_
  rintro e w3 ⟨rfl, hb3⟩
  have HT3 := Lib.hid (HT2.out.step hb3)
  clear hb3 a0 a1 a2 CG2
  by_cases hg : 20 < l2.length ∨ 20 < s2.length
  · have hd := decide_eq_true hg
    rw [hd]
    clear hd hg
    go_wp2_with fail
    go_ret
    exact ⟨rfl, HT3.out.low⟩
  have hd := decide_eq_false hg
  rw [hd]
  clear hd hg
  have a0 := HT3.out.one.cell 0
  have a1 := HT3.out.one.cell 1
  have a2 := HT3.out.one.cell 2
  have b0 := HT3.out.two.cell 0
  have b1 := HT3.out.two.cell 1
  have b2 := HT3.out.two.cell 2
  go_wp2_with fail
  with_reducible refine (CR.out _ HT3.out.low).mono ?_
  rintro e w4 ⟨rfl, hb4⟩
  have HT4 := Lib.hid (HT3.out.step hb4)
  clear hb4 a0 a1 a2 b0 b1 b2 CR HT0 HT1 HT2 HT3
  have a0 := HT4.out.one.cell 0
  have a1 := HT4.out.one.cell 1
  have a2 := HT4.out.one.cell 2
  have b0 := HT4.out.two.cell 0
  have b1 := HT4.out.two.cell 1
  have b2 := HT4.out.two.cell 2
  go_upto_region 6 with fail
  have HT := Lib.hid (HT4.out.drewN 1)
  go_region_held3 (fun w' => w'.cell? ⟨w.heap.size, 0, none⟩ = some (.int .i64 o) ∧ w'.cell? ⟨w.heap.size, 1, none⟩ = some (.slice A l.length cp) ∧ w'.cell? ⟨w.heap.size, 2, none⟩ = some (.slice B s.length cq) ∧
      w'.cell? ⟨w.heap.size + 1, 0, none⟩ = some (.int .i64 o2) ∧ w'.cell? ⟨w.heap.size + 1, 1, none⟩ = some (.slice A2 l2.length cp2) ∧ w'.cell? ⟨w.heap.size + 1, 2, none⟩ = some (.slice B2 s2.length cq2)) (first | exact ⟨HT.out.one.cell 0, HT.out.one.cell 1, HT.out.one.cell 2, HT.out.two.cell 0, HT.out.two.cell 1, HT.out.two.cell 2⟩ | go_keep)
    (first
    | (go_at_call 27; refine (of_any _ _ _ _ _ _ _ _).mono ?_; rintro e U ⟨rfl, hbu⟩; have HT := Lib.hid (HT.out.step hbu); clear hbu)
    | (go_at_call 39; with_reducible refine (C1.out _ HT.out.low).mono ?_; rintro e U ⟨rfl, hbu⟩; have HT := Lib.hid (HT.out.step hbu); clear hbu)
    | (go_at_call 39; with_reducible refine (C2.out _ HT.out.low).mono ?_; rintro e U ⟨rfl, hbu⟩; have HT := Lib.hid (HT.out.step hbu); clear hbu))
  all_goals
    go_wp2_with fail
    go_ret
    exact ⟨rfl, HT.out.low⟩
end Go.Proofs.Ytdaajncfhcpecaa
