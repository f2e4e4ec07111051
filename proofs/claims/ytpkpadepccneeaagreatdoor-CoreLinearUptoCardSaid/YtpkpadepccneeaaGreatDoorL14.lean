/- The walks of maps.Keys and of the function that it hands out: each key once, in whatever order. No condition. -/
import Derived.Test.YtpkpadepccneeaaGreatDoorL11
import Derived.Test.YtpkpadepccneeaaGreatDoorL12
import Derived.Sort.MapsRangeIn
import Derived.Test.YtpkpadepccneeaaGreatDoorL13
import Derived.Test.YtpkpadepccneeaaGreatDoorL09
import Derived.LoopN
namespace Go.Proofs.YtpkpadepccneeaaGreatDoor
set_option linter.unusedVariables false
set_option linter.unusedSimpArgs false
open Go Go.RowKit Go.Shelf Go.Maps
attribute [local go_sem] Oper.semAt_some
theorem Keys_any (b : Nat) (w : World) :
    Calls Tryz.prog 122 #[.map (some b)] w fun e w' => e = .returned (.func (.func 182) #[] #[.pointer (some ⟨w.heap.size, 0, none⟩)]) ∧ w.alloc (.cells #[.map (some b)] 206) = w' := by
  go_enter Tryz.func122, Tryz.ntmps122
  go_wp2_with fail
  go_ret
  exact ⟨rfl, rfl⟩
/-- What a round keeps: the map, the iterator's own block. -/
def KeepM (b : Nat) (G : Nat) (X Y : World) : Prop := (∀ o, X.heap[b]? = some o → Y.heap[b]? = some o) ∧ (∀ o, X.heap[G]? = some o → Y.heap[G]? = some o)
theorem KeepM.trans {b G : Nat} {X Y Z : World} (h : KeepM b G X Y) (k : KeepM b G Y Z) : KeepM b G X Z := ⟨fun o ho => k.1 o (h.1 o ho), fun o ho => k.2 o (h.2 o ho)⟩
theorem ranges_keep {H : Type} {k : TypeId} {R : Value → Option (DataW H × List MemPlace)} {b r n : Nat} {D : DataW H} {left : Lit → Bool} {cnt : Nat} {X Y : World} (h : X.ranges Tryz.prog k R b r n D left cnt) (hk : KeepM b r X Y) : Y.ranges Tryz.prog k R b r n D left cnt := by
  obtain ⟨es, clock, since, seen, c0, hb, F, hs, hD, hr, rest⟩ := h
  exact ⟨es, clock, since, seen, c0, hk.1 _ hb, F, hs, hD, hk.2 _ hr, rest⟩
/-- The keys of a map of whole numbers, each once. -/
def KeysOfMap (D : DataW Value) (xs : List Nat) : Prop := xs.Nodup ∧ ∀ x : Nat, x ∈ xs ↔ Maps.has D (.int .u64 (x : Int)) = true
/-- What has come, some being left. -/
def Come (D : DataW Value) (left : Lit → Bool) (xs : List Nat) : Prop := xs.Nodup ∧ (∀ z, left z = true → Maps.has D z = true) ∧ ∀ x : Nat, x ∈ xs ↔ (Maps.has D (.int .u64 (x : Int)) = true ∧ left (.int .u64 (x : Int)) = false)
theorem Come.start (D : DataW Value) : Come D (Maps.has D) [] := ⟨List.nodup_nil, fun _ h => h, fun x => ⟨fun h => (by cases h), fun ⟨h1, h2⟩ => by rw [h1] at h2; cases h2⟩⟩
theorem same_int (a b : Int) : (Lit.int .u64 a).sameKey (.int .u64 b) = decide (a = b) := by
  by_cases h : a = b
  · subst h; simp [Lit.sameKey, Lit.before]
  · simp [Lit.sameKey, Lit.before, h]
theorem Come.step {D : DataW Value} {left : Lit → Bool} {xs : List Nat} (h : Come D left xs) (x : Nat) (hl : left (.int .u64 (x : Int)) = true) : Come D (fun z => left z && !z.sameKey (.int .u64 (x : Int))) (xs ++ [x]) := by
  obtain ⟨h1, h2, h3⟩ := h
  have hx : x ∉ xs := fun hm => by have := ((h3 x).1 hm).2; rw [hl] at this; cases this
  refine ⟨?_, fun z hz => h2 z (by simp only [Bool.and_eq_true] at hz; exact hz.1), fun y => ?_⟩
  · rw [List.nodup_append]
    refine ⟨h1, by simp, ?_⟩
    intro a ha b hb
    simp at hb
    subst hb
    intro e; subst e; exact hx ha
  · show y ∈ xs ++ [x] ↔ Maps.has D (.int .u64 (y : Int)) = true ∧ (left (.int .u64 (y : Int)) && !(Lit.int .u64 (y : Int)).sameKey (.int .u64 (x : Int))) = false
    rw [List.mem_append, h3 y, same_int]
    by_cases hxy : y = x
    · subst hxy
      simp [h2 _ hl]
    · have hne : ¬ ((y : Int) = (x : Int)) := by omega
      simp [hxy, hne]
theorem Come.done {D : DataW Value} {left : Lit → Bool} {xs : List Nat} (h : Come D left xs) (hl : ∀ z, left z = false) : KeysOfMap D xs :=
  ⟨h.1, fun x => (h.2.2 x).trans ⟨fun h => h.1, fun h' => ⟨h', hl _⟩⟩⟩
theorem u64_key {key : Value} {kl : Lit} (h : keyOf Tryz.prog 22 key = some kl) : ∃ x : Nat, key = .int .u64 (x : Int) ∧ kl = .int .u64 (x : Int) := by
  obtain ⟨x, rfl, rfl, hw⟩ := Maps.keyOf_int_inv Tryz.underlying22 h
  have h0 : 0 ≤ x := by
    simp [Lit.wf] at hw
    first | omega | exact hw.1 | (have := hw.1; omega)
  obtain ⟨n, rfl⟩ := Int.eq_ofNat_of_zero_le h0
  exact ⟨n, rfl, rfl⟩
set_option maxRecDepth 100000 in
set_option maxHeartbeats 2000000 in
theorem Keys1_stops (n : Nat) (hn : 1 ≤ n) (bx b nn : Nat) (D : DataW Value) (w : World) (hm : SM w b nn D) (hbx : w.heap[bx]? = some (.cells #[.map (some b)] 206 (0, 0))) :
    RangeC.Stops Fence.wide n Tryz.prog 182 #[.pointer (some ⟨bx, 0, none⟩)] (fun k : Nat => #[.int .u64 (k : Int)]) (KeepM b) (KeysOfMap D) (fun _ => True) nn w := by
  intro L J Jx W hW hJ hJx hY h0
  have hbW : W.heap[bx]? = some (.cells #[.map (some b)] 206 (0, 0)) := (hW.block bx (Array.getElem?_eq_some_iff.1 hbx).1).trans hbx
  have HM := Lib.hid (show SM W b nn D from by
    obtain ⟨es, clock, hb, rest⟩ := hm
    exact ⟨es, clock, (hW.block b (Array.getElem?_eq_some_iff.1 hb).1).trans hb, rest⟩)
  have hc0 := cell_of_row W bx 0 _ 206 (0, 0) hbW
  have HJ := Lib.hid hJ
  have HY := Lib.hid hY
  have HJ0 := Lib.hid h0
  have HBW := Lib.hid (World.ownsMap.lt HM.out)
  clear hJ hY hJx hbx h0 hm hW
  refine callsIn_of_wp Tryz.func182 rfl trivial ?_ rfl
  simp only [Tryz.ntmps182, List.size_toArray, List.length_cons, List.length_nil, Nat.reduceAdd, Nat.reduceSub, Array.replicate_succ, Array.replicate_zero, List.push_toArray, List.append_toArray, List.nil_append, List.cons_append]
  gi_wp2_with (gi_at_range; refine wpListIn_range_own _ rfl (.tmp 4) 206 rfl 22 126 key22 Tryz.underlying206 tok b nn D rfl HM.out ?_; intro w1 hrg hg hs)
  have HR := Lib.hid hrg
  have HJ1 := Lib.hid (HJ.out _ W w1 none HJ0.out hg (fun r e => by cases e))
  have HS := Lib.hid (show Maps.size D ≤ nn from HM.out.size_le)
  clear hrg hg hc0
  gi_loopw [3] (fun _ wr => ∃ (xs : List Nat) (left : Lit → Bool) (cnt : Nat), Hid (J xs wr) ∧ Hid (wr.ranges Tryz.prog 22 tok b W.heap.size nn D left cnt) ∧ Hid (Come D left xs) ∧ xs.length + cnt ≤ nn) (fun _ wr => wr.rangeLeft b W.heap.size)
  case atStart => exact ⟨[], _, _, HJ1, HR, Lib.hid (Come.start D), by simpa using HS.out⟩
  case round =>
    clear HJ1 HR HS
    obtain ⟨xs, left, cnt, HJk, HRk, HCk, hlen⟩ := hrel
    gi_wp2_with (gi_at_next; refine wpListIn_next_ranges _ rfl (.tmp 5) rfl 22 key22 tok (fun x : Nat => Value.int .u64 (x : Int)) (fun v : Value => v) (fun key kl h => by obtain ⟨x, hx, _⟩ := u64_key h; exact ⟨x, hx⟩) (fun v y h => ⟨v, rfl⟩) b W.heap.size nn D left cnt rfl HRk.out ?_ ?_)
    · intro h0 hl
      have HD := Lib.hid (HCk.out.done hl)
      clear hl
      gi_wp2
      go_end0
      exact ⟨⟨_, rfl⟩, .inl ⟨xs, HD.out, HJk.out⟩⟩
    · intro x c kl y ps w2 cnt2 hk hl hv hat hrg2 hlt hg2 hs2 hen
      obtain ⟨x', hx', rfl⟩ := u64_key hk
      have hxx : x = x' := by injection hx' with _ h; omega
      subst hxx
      have HJ2 := Lib.hid (HJ.out xs wr w2 (some W.heap.size) HJk.out hg2 (fun r e => (Option.some.inj e).symm))
      have HR2 := Lib.hid hrg2
      have HC2 := Lib.hid (HCk.out.step x hl)
      have hgt : W.heap.size < w2.heap.size := hrg2.lt
      have hlen2 : xs.length < nn := by omega
      have hm1 := HRk.out.left_eq
      clear hk hl hv hat hrg2 hg2 hs2 hx'
      obtain ⟨fn, tmps, assign, body, hy, hR⟩ := HY.out xs x w2 HJ2.out hlen2 hgt
      gi_wp2
      refine hR.mono ?_
      rintro e V (⟨rfl, hJ', hk1⟩ | ⟨rfl, hJx'⟩)
      · have VJ := Lib.hid hJ'
        have VR := Lib.hid (ranges_keep HR2.out hk1)
        have hm2 := VR.out.left_eq
        have HM1 := Lib.hid hm1
        have HM2 := Lib.hid hm2
        clear hJ' hk1 hR hm1 hm2
        gi_wp2
        go_roundw
        case rel => exact ⟨xs ++ [x], _, cnt2, VJ, VR, HC2, by simp; omega⟩
        case measure => rw [HM2.out, HM1.out]; omega
      · gi_wp2
        refine bodyPost_ret (results_none rfl _ _ _) rfl ?_
        exact ⟨⟨_, rfl⟩, .inr ⟨xs ++ [x], trivial, hJx'⟩⟩
end Go.Proofs.YtpkpadepccneeaaGreatDoor

/- The walks of slices.AppendSeq and Collect over a map's keys. No condition. -/
namespace Go.Proofs.YtpkpadepccneeaaGreatDoor
set_option linter.unusedVariables false
set_option linter.unusedSimpArgs false
open Go Go.RowKit Go.Shelf Go.Maps
attribute [local go_sem] Oper.semAt_some
theorem info22 : (Tryz.prog.info? 22).map (fun i => (i.zero, i.size, i.bytes)) = some (some (.int .u64 0), 1, 8) := by kernel_rfl
def toI (l : List Nat) : List Int := l.map fun (x : Nat) => (x : Int)
theorem KeepM.of_all {b G : Nat} {X Y : World} (h : Below X.heap.size X Y) : KeepM b G X Y :=
  ⟨fun o ho => (h.block b (Array.getElem?_eq_some_iff.1 ho).1).trans ho, fun o ho => (h.block G (Array.getElem?_eq_some_iff.1 ho).1).trans ho⟩
theorem KeepM.of_below {b G B : Nat} {X Y : World} (h : Below B X Y) (h1 : b < B) (h2 : G < B) : KeepM b G X Y := ⟨fun o ho => (h.block b h1).trans ho, fun o ho => (h.block G h2).trans ho⟩
attribute [-go_sem] Go.Builtin.append_
set_option maxRecDepth 100000 in
set_option maxHeartbeats 4000000 in
theorem AppendSeq_keys (bx b nn : Nat) (D : DataW Value) (w : World) (hm : SM w b nn D) (hbx : w.heap[bx]? = some (.cells #[.map (some b)] 206 (0, 0))) (hnn : nn ≤ 1000000) :
    Calls Tryz.prog 236 #[.slice none 0 0, .func (.func 182) #[] #[.pointer (some ⟨bx, 0, none⟩)]] w fun e w' => ∃ v xs, e = .returned v ∧ KeysOfMap D xs ∧ OI .u64 22 w' w.heap.size v (toI xs) ∧ Below w.heap.size w w' := by
  have hbw : b < w.heap.size := World.ownsMap.lt hm
  have hbxw : bx < w.heap.size := (Array.getElem?_eq_some_iff.1 hbx).1
  have HM := Lib.hid (show SM (w.alloc (.cells #[.slice none 0 0] 26)) b nn D from World.ownsMap.alloc hm _)
  have HBX := Lib.hid (show (w.alloc (.cells #[.slice none 0 0] 26)).heap[bx]? = some (.cells #[.map (some b)] 206 (0, 0)) from (Below.heap_alloc w _ bx hbxw).trans hbx)
  have VB := Lib.hid ((Below.refl w.heap.size w).alloc (Nat.le_refl _) (.cells #[.slice none 0 0] 26))
  have V3 := Lib.hid (Blk.new w 26 #[.slice none 0 0])
  have VS := Lib.hid (show (w.alloc (.cells #[.slice none 0 0] 26)).heap.size = w.heap.size + 1 by simp)
  clear hm hbx
  refine (callsIn_wide (n := 9)).1 ?_
  refine callsIn_of_wp_marks Tryz.func236 rfl trivial ?_ rfl
  simp only [Tryz.ntmps236, List.size_toArray, List.length_cons, List.length_nil, Nat.reduceAdd, Nat.reduceSub, Array.replicate_succ, Array.replicate_zero, List.push_toArray, List.append_toArray, List.nil_append, List.cons_append]
  gi_wp2
  generalize w.alloc (.cells #[.slice none 0 0] 26) = VW at *
  have hVS := VS.out
  refine RangeC.range_law (n := 9) (gf := 182) (lb := #[.pointer (some ⟨bx, 0, none⟩)]) rfl (by omega) rfl trivial (enters_of Tryz.func182 (by kernel_rfl) rfl)
    (Keys1_stops 8 (by omega) bx b nn D VW HM.out HBX.out) KeepM.trans
    (fun W o o' h => ⟨fun o ho => (World.putObj_heap_other (by omega)).trans ho, fun o ho => (World.putObj_heap_other (by omega)).trans ho⟩) (Below.refl _ _) (fun _ => rfl)
    (fun pre W => (∃ A' c', Hid (Blk W w.heap.size 26 #[.slice A' pre.length c']) ∧ Hid (OI .u64 22 W (w.heap.size + 4) (.slice A' pre.length c') (toI pre))) ∧ Hid (Below w.heap.size w W))
    (fun c pre W => False)
    (fun pre X Y row hs hg hr => ⟨(by
      obtain ⟨A', c', h1, h2⟩ := hs.1
      exact ⟨A', c', Lib.hid (h1.out.kept hg hr (by omega) (by omega)), Lib.hid (h2.out.turned hg hr (by omega))⟩), Lib.hid (below_kept hs.2.out (Nat.le_refl _) hg hr (by omega) (by omega))⟩)
    (fun c pre X Y row hs hg hr => hs)
    ⟨⟨none, 0, V3, Lib.hid (OI.nil _ _ _ _)⟩, VB⟩
    (fun x a' W => a' = { tmps := #[.slice none 0 0, .func (.func 182) #[] #[.pointer (some ⟨bx, 0, none⟩)], .pointer (some ⟨w.heap.size, 0, none⟩), undef, .slice none 0 0, .int .u64 (x : Int), .func (.func 182) #[] #[.pointer (some ⟨bx, 0, none⟩)], .int .u64 (x : Int), undef, undef, undef, undef, undef], defers := [] })
    (fun x a' W o o' h ho h3 => h3)
    ?assign ?body ?done ?stop
  case assign =>
    intro L pre x W K hi ho hK
    have HK := Lib.hid hK
    have HI := Lib.hid hi
    clear hK hi ho
    gi_wp2
    exact HK.out _ _ (KeepsFrom.refl _ _) ⟨fun o ho => ho, fun o ho => ho⟩ HI.out rfl
  case body =>
    rintro L pre x a' W ⟨o', ho⟩ ⟨⟨A', c0, I3, IO⟩, IB⟩ rfl hlen hGW
    have c3 := I3.out.cell 0
    have f3 := I3.out.frozen 0
    have hs1 := I3.out.lt
    obtain ⟨ga, cap, W', hrun, hoi, hbe, hko, _⟩ := append_runG W 26 22 .u64 8 Tryz.underlying26 info22 (by decide) (w.heap.size + 4) (.slice A' pre.length c0) (toI pre) (x : Int) IO.out (by simp [toI]; omega) (by omega)
    have hpl : (toI pre).length = pre.length := by simp [toI]
    rw [hpl] at hrun hoi
    have HOI := Lib.hid hoi
    have HBE := Lib.hid hbe
    have HKO := Lib.hid hko
    have K3 := Lib.hid (I3.out.below hbe (by omega))
    have k3 := K3.out.cell 0
    have kf := K3.out.frozen 0
    have q4 := (I3.out.alloc (.cells #[.int .u64 (x : Int)] 22)).cell 0
    clear hoi hbe hko ho hpl
    gi_wp2
    have hlen2 : (pre ++ [x]).length = pre.length + 1 := by simp
    refine ⟨((HKO.out.trans (KeepsOthers.setCell _ _ _)).from _), ?_, ?_, ?_⟩
    · exact KeepM.trans (KeepM.of_below HBE.out (by omega) (by omega)) ⟨fun o ho => (Below.heap_setCell _ _ _ _ (show b ≠ w.heap.size by omega)).trans ho, fun o ho => (Below.heap_setCell _ _ _ _ (show VW.heap.size + 2 ≠ w.heap.size by omega)).trans ho⟩
    · refine ⟨some ⟨ga, 0, none⟩, cap, Lib.hid ?_, Lib.hid ?_⟩
      · rw [hlen2]
        exact K3.out.set_ 0 (.slice (some ⟨ga, 0, none⟩) (pre.length + 1) cap)
      · rw [hlen2, show toI (pre ++ [x]) = toI pre ++ [(x : Int)] by simp [toI]]
        exact HOI.out.kept (row := some w.heap.size) ⟨rfl, rfl, rfl, by simp, fun k _ hk => Below.heap_setCell _ _ _ _ (fun e => hk (by rw [e]))⟩ (fun g' hv e => by have := (HOI.out.lt g' hv).1; cases e; omega)
    · exact Lib.hid ((IB.out.trans (HBE.out.mono (by omega))).setCell (p := ⟨w.heap.size, 0, none⟩) (Nat.le_refl _) _)
  case done =>
    rintro D' xs U hD hS ⟨⟨A', c', I3, IO⟩, IB⟩ hDK
    have c3 := I3.out.cell 0
    have hDK2 := Lib.hid hDK
    have HOE := Lib.hid (IO.out.turned (B0 := VW.heap.size) (G := w.heap.size + 3) (grownBy_putObj' U D' (.deferred none)) (fun r e => by cases e; exact .inr ⟨hD, _, hDK, rfl⟩) (by omega))
    have HBE := Lib.hid (IB.out.trans (below_putObj w.heap.size U D' (.deferred none) (by omega)))
    have HS := Lib.hid hS
    clear hDK hS
    dsimp only
    gi_wp2
    refine ⟨by simp, .inl ⟨_, _, rfl, run_takeDeferred hDK2.out, ?_⟩⟩
    refine ⟨.slice A' xs.length c', by simp [results, Tryz.results236, go_sem], _, xs, rfl, HS.out, ?_, HBE.out⟩
    exact HOE.out.mono (by omega)
  case stop =>
    rintro D c pre U hD _ h hDK
    exact h.elim
theorem Collect_keys (bx b nn : Nat) (D : DataW Value) (w : World) (hm : SM w b nn D) (hbx : w.heap[bx]? = some (.cells #[.map (some b)] 206 (0, 0))) (hnn : nn ≤ 1000000) :
    Calls Tryz.prog 180 #[.func (.func 182) #[] #[.pointer (some ⟨bx, 0, none⟩)]] w fun e w' => ∃ v xs, e = .returned v ∧ KeysOfMap D xs ∧ OI .u64 22 w' w.heap.size v (toI xs) ∧ Below w.heap.size w w' := by
  have C := Lib.hid (AppendSeq_keys bx b nn D w hm hbx hnn)
  clear hm hbx hnn
  go_enter Tryz.func180, Tryz.ntmps180
  go_wp2_with fail
  with_reducible refine (C.out).mono ?_
  rintro e w1 ⟨v, xs, rfl, hk, ho, hb⟩
  have HK := Lib.hid hk
  have HO := Lib.hid ho
  have HB := Lib.hid hb
  clear hk ho hb
  go_wp2_with fail
  go_ret
  exact ⟨v, xs, rfl, HK.out, HO.out, HB.out⟩
theorem insertion_1 (A : Option Addr) (c : Nat) (w : World) : Calls Tryz.prog 279 #[.slice A 1 c, .int .i64 0, .int .i64 1] w fun e w' => e = .returned undef ∧ w = w' := by
  go_enter Tryz.func279, Tryz.ntmps279
  go_wp2_with fail
  refine wp_loop_rounds 2 ?_
  rw [rounds_succ]
  go_wp2_with fail
  exact bodyPost_end (results_none rfl _ _ _) rfl ⟨rfl, rfl⟩
theorem pdq_1 (A : Option Addr) (c : Nat) (q : Int) (w : World) : Calls Tryz.prog 237 #[.slice A 1 c, .int .i64 0, .int .i64 1, .int .i64 q] w fun e w' => e = .returned undef ∧ w = w' := by
  go_enter Tryz.func237, Tryz.ntmps237
  go_wp2_with fail
  refine wp_loop_rounds 2 ?_
  rw [rounds_succ]
  go_wp2_with fail
  with_reducible refine ((insertion_1 A c w)).mono ?_
  rintro e w1 ⟨rfl, rfl⟩
  go_wp2_with fail
  exact bodyPost_ret (results_none rfl _ _ _) rfl ⟨rfl, rfl⟩
theorem Sort_1 (A : Option Addr) (c : Nat) (w : World) : Calls Tryz.prog 181 #[.slice A 1 c] w fun e w' => e = .returned undef ∧ w = w' := by
  go_enter Tryz.func181, Tryz.ntmps181
  go_wp2_with fail
  with_reducible refine ((Tryz.bits_Len 1 w (by decide) (by decide))).mono ?_
  rintro e w1 ⟨rfl, rfl⟩
  go_wp2_with fail
  with_reducible refine ((pdq_1 A c _ w1)).mono ?_
  rintro e w2 ⟨rfl, rfl⟩
  go_wp2_with fail
  exact bodyPost_end (results_none rfl _ _ _) rfl ⟨rfl, rfl⟩
theorem keys_one (x : Nat) (d : DataW Value) (xs : List Nat) (h : KeysOfMap (.map [(.int .u64 (x : Int), d)]) xs) : xs = [x] := by
  obtain ⟨h1, h2⟩ := h
  have hk : ∀ y, y ∈ xs ↔ y = x := fun y => by
    rw [h2 y]
    simp only [Maps.has, List.any_cons, List.any_nil, Bool.or_false, same_int, decide_eq_true_eq]
    omega
  cases xs with
  | nil => exact absurd ((hk x).2 rfl) (by simp)
  | cons a r =>
    have ha : a = x := (hk a).1 (by simp)
    cases r with
    | nil => rw [ha]
    | cons b r' =>
      have hb : b = x := (hk b).1 (by simp)
      rw [ha, hb] at h1
      simp at h1
theorem Sorted_one (bx b nn x : Nat) (d : DataW Value) (w : World) (hm : SM w b nn (.map [(.int .u64 (x : Int), d)])) (hbx : w.heap[bx]? = some (.cells #[.map (some b)] 206 (0, 0))) (hnn : nn ≤ 1000000) :
    Calls Tryz.prog 121 #[.func (.func 182) #[] #[.pointer (some ⟨bx, 0, none⟩)]] w fun e w' => ∃ g c, e = .returned (.slice (some ⟨g, 0, none⟩) 1 c) ∧ w.heap.size ≤ g ∧ g < w'.heap.size ∧ 1 ≤ c ∧ w'.cell? ⟨g, 0, none⟩ = some (.int .u64 (x : Int)) ∧ Below w.heap.size w w' := by
  have C := Lib.hid (Collect_keys bx b nn _ w hm hbx hnn)
  clear hm hbx hnn
  go_enter Tryz.func121, Tryz.ntmps121
  go_wp2_with fail
  with_reducible refine (C.out).mono ?_
  rintro e w1 ⟨v, xs, rfl, hk, ho, hb⟩
  obtain rfl := keys_one x d xs hk
  obtain ⟨A, c, rfl, _⟩ := ho.form
  obtain ⟨g, rfl⟩ := OI.some (i := 0) ho (by simp [toI])
  have HO := Lib.hid ho
  have HB := Lib.hid hb
  clear hk ho hb
  go_wp2_with fail
  rw [show (toI [x]).length = 1 from rfl]
  with_reducible refine ((Sort_1 (some ⟨g, 0, none⟩) c w1)).mono ?_
  rintro e w2 ⟨rfl, rfl⟩
  go_wp2_with fail
  go_ret
  exact ⟨g, c, rfl, HO.out.base.1, HO.out.base.2, by
    rcases HO.out.2 with ⟨h, _⟩ | ⟨g', cap, cur, h, _, _, hle, _⟩
    · cases h
    · injection h with _ _ h3; subst h3; exact hle, by have := HO.out.cellAt (i := 0) (by simp [toI]); exact this, HB.out⟩
end Go.Proofs.YtpkpadepccneeaaGreatDoor

/- The walk of sieve.Row at 5. No condition. -/
namespace Go.Proofs.YtpkpadepccneeaaGreatDoor
open Go.RowKit Go.Maps
set_option linter.unusedVariables false
def entEnc (x : Nat × Nat × Value) : List Value := [.int .u64 (x.1 : Int), .int .u64 (x.2.1 : Int), x.2.2]
theorem info126 : (Tryz.prog.info? 126).map (fun i => (i.zero, i.size, i.bytes)) = some (some (.agg #[.int .u64 0, .int .u64 0, .slice none 0 0]), 3, 40) := by kernel_rfl
def row5 : List Ent := [⟨5, 2, [⟨2, 2⟩]⟩]
set_option maxRecDepth 100000 in
set_option maxHeartbeats 2000000 in
theorem Row_5 (w : World) : Calls Tryz.prog 70 #[.int .u64 5] w fun e w' => ∃ g c, e = .returned (.tuple #[.slice (some ⟨g, 0, none⟩) 1 c, .int .i64 0]) ∧ 1 ≤ c ∧ c ≤ maxLen ∧ EI w' (some ⟨g, 0, none⟩) row5 ∧ Below w.heap.size w w' := by
  have hmm := @run_makeMap Tryz.prog
  go_enter Tryz.func70, Tryz.ntmps70
  go_wp2_with fail
  with_reducible refine ((odd_5 w)).mono ?_
  rintro e w1 ⟨rfl, hb1⟩
  have M1 := Lib.hid (show SM (w1.alloc (.map #[] 0)) w1.heap.size 0 (.map []) from World.ownsMap_made w1 Tryz.prog 22 tok)
  have F1 := Lib.hid ((hb1).alloc hb1.size (.map #[] 0))
  have S1 := hb1.size
  clear hb1
  go_wp2_with fail
  with_reducible refine ((gather_5 w1.heap.size 0 _ M1.out (by decide))).mono ?_
  rintro e w2 ⟨g, c, rfl, hm2, hf2, hg1, hg2, hc1, hc2, k0, k1⟩
  have M2 := Lib.hid hm2
  have F2 := Lib.hid (F1.out.trans (hf2.to_below (B := w.heap.size) (by simp; omega) (fun i hi e => by omega)))
  have S2 := Lib.hid (show w1.heap.size + 1 ≤ w2.heap.size by have := hf2.size; simpa using this)
  have K0 := Lib.hid k0
  have K1 := Lib.hid k1
  clear hm2 hf2 k0 k1 F1 M1 hmm hg1
  go_wp2_with fail
  with_reducible refine ((Keys_any w1.heap.size w2)).mono ?_
  rintro e w3 ⟨rfl, rfl⟩
  have hb3 := (Below.refl w2.heap.size w2).alloc (Nat.le_refl _) (.cells #[.map (some w1.heap.size)] 206)
  have M3 := Lib.hid (show SM (w2.alloc (.cells #[.map (some w1.heap.size)] 206)) w1.heap.size 1 _ from World.ownsMap.alloc M2.out _)
  have F3 := Lib.hid (below_then F2.out F2.out.size hb3)
  have X3 := Lib.hid (show (w2.alloc (.cells #[.map (some w1.heap.size)] 206)).heap[w2.heap.size]? = some (.cells #[.map (some w1.heap.size)] 206 (0, 0)) from Blk.new w2 206 #[.map (some w1.heap.size)])
  go_wp2_with fail
  with_reducible refine ((Sorted_one w2.heap.size w1.heap.size 1 5 _ (w2.alloc (.cells #[.map (some w1.heap.size)] 206)) M3.out X3.out (by decide))).mono ?_
  rintro e w4 ⟨gs, cs, rfl, h1, h2, h3, h4, hb4⟩
  have F4 := Lib.hid (below_then F3.out F3.out.size hb4)
  have M4 := Lib.hid (show SM w4 w1.heap.size 1 _ from (Fr.of_below (fun _ => False) hb4).map M3.out (fun h => h))
  have k0 := bcell hb4 (bcell hb3 K0.out)
  have k1 := bcell hb4 (bcell hb3 K1.out)
  have S4 := Lib.hid (show w2.heap.size ≤ w4.heap.size by have := hb4.size; simp at this; omega)
  obtain ⟨v, ps, hrun, hv⟩ := World.ownsMap.lookup (key := .int .u64 5) (kl := .int .u64 5) M4.out key22 Tryz.underlying206 (zero126 w4) (zd := .held (.agg #[.int .u64 0, .int .u64 0, .slice none 0 0])) (zp := []) rfl (keyOf_int_mk Tryz.underlying22 (by decide))
  obtain rfl := tok_eq (show tok v = some (.held (ent5 g c), ps) from hv)
  unfold ent5 at hrun
  have HK0 := Lib.hid k0
  have HK1 := Lib.hid k1
  have h4' : w4.cell? ⟨gs, 0, none⟩ = some (.int .u64 5) := h4
  clear hb4 hb3 hv k0 k1 h4 M3 F3 X3 M2 K0 K1 h1
  go_wp2_with fail
  refine wp_loop_rounds 3 ?_
  rw [rounds_succ]
  go_wp2_with (at_builtin; refine wpList_appendX1 rfl (.tmp 23) (.tmp 27) 68 rfl entEnc 3 w4.heap.size 126 _ 40 Tryz.underlying68 info126 (by decide) rfl (by decide) (.slice none 0 0) [] (5, 2, .slice (some ⟨g, 0, none⟩) 1 c) _ rfl rfl rfl (OX.nil _ _ _ _ _) rfl (by intro u hu; simp [entEnc] at hu; rcases hu with rfl | rfl | rfl <;> rfl) (by simp) (Nat.le_refl _) ?_; intro v w5 ho hb hs; have HO := Lib.hid ho; have HB := Lib.hid hb; clear ho hb)
  have hw5 := HB.out
  rcases HO.out.form (fun x => rfl) with ⟨_, h0⟩ | ⟨ga, ca, rfl, q1, q2, q3, q4, q5⟩
  · cases h0
  have K5 := Lib.hid q5
  have HG2 := Lib.hid (Nat.lt_of_lt_of_le hg2 S4.out)
  clear q5 hw5 hrun h4'
  go_wp2_with fail
  rw [rounds_succ]
  go_wp2_with fail
  go_ret2
  refine ⟨ga, ca, rfl, q3, q4, ?_, below_then F4.out F4.out.size HB.out⟩
  intro i hi
  have hi0 : i = 0 := by simp [row5] at hi; omega
  subst hi0
  refine ⟨ga, 0, some ⟨g, 0, none⟩, c, rfl, K5.out 0 0 (by simp) (by decide), K5.out 0 1 (by simp) (by decide), K5.out 0 2 (by simp) (by decide), hc1, ?_⟩
  intro j hj
  have hj0 : j = 0 := by simp [row5] at hj; omega
  subst hj0
  exact ⟨g, 0, rfl, bcell HB.out HK0.out, bcell HB.out HK1.out⟩
end Go.Proofs.YtpkpadepccneeaaGreatDoor

/- The walks of field.Small at 5, of field.known and Known at 0 to 5. No condition. -/
namespace Go.Proofs.YtpkpadepccneeaaGreatDoor
open Go.RowKit
set_option linter.unusedVariables false
/-- Powers modulo a number, by halves. -/
def pm (a m : Nat) : Nat → Nat → Nat
  | 0, _ => 1 % m
  | f + 1, e => if e = 0 then 1 % m else
    let h := pm a m f (e / 2)
    let s := h * h % m
    if e % 2 = 1 then s * a % m else s
theorem pm_eq (a m : Nat) : ∀ (f e : Nat), e < 2 ^ f → pm a m f e = a ^ e % m
  | 0, e, h => by
    have : e = 0 := by rw [Nat.pow_zero] at h; omega
    subst this; rw [pm, Nat.pow_zero]
  | f + 1, e, h => by
    rw [pm]
    by_cases h0 : e = 0
    · subst h0; rw [if_pos rfl, Nat.pow_zero]
    · rw [if_neg h0, pm_eq a m f (e / 2) (by rw [Nat.pow_succ] at h; omega), pow_half a e m]
def fullLF (x : Ent) : List Fac → Bool
  | [] => true
  | f :: r => if pm x.g x.p 64 ((x.p - 1) / f.q) = 1 then false else fullLF x r
def fullF (x : Ent) : Bool := if pm x.g x.p 64 (x.p - 1) = 1 then fullLF x x.fs else false
theorem fullLF_eq (x : Ent) (hp : x.p < Mg.R) : ∀ fs, fullLF x fs = fullL x fs
  | [] => rfl
  | f :: r => by
    rw [fullLF, fullL, fullLF_eq x hp r, pm_eq _ _ _ _ (Nat.lt_of_le_of_lt (Nat.div_le_self _ _) (by simp only [Mg.R] at hp; omega))]
theorem fullF_eq (x : Ent) (hp : x.p < Mg.R) : fullF x = full x := by
  unfold fullF full
  rw [fullLF_eq x hp, pm_eq _ _ _ _ (by simp only [Mg.R] at hp; omega)]
/-- Whether an entry is claimed, by going through the row. -/
def claimedF (l : List Ent) (q : Nat) : Bool := l.any fun x => decide (x.p = q)
theorem claimedF_eq (l : List Ent) (q : Nat) : claimed l q = claimedF l q := by
  rw [Bool.eq_iff_iff, claimed_iff, claimedF, List.any_eq_true]
  constructor
  · rintro ⟨j, hj, he⟩
    exact ⟨_, getD_mem l .z hj, by simpa using he⟩
  · rintro ⟨x, hx, he⟩
    obtain ⟨j, hj, rfl⟩ := List.mem_iff_getElem.1 hx
    exact ⟨j, hj, by rw [List.getD_eq_getElem?_getD, List.getElem?_eq_getElem hj]; simpa using he⟩
def backsF (ahead : List Ent) : Option Nat → Nat → Bool
  | none, _ => false
  | some q0, q => decide (q ≤ q0) || !claimedF ahead q
def wholeLF (ahead : List Ent) (p : Nat) : List Fac → Option Nat → Nat → Bool
  | [], _, n => decide (n = p - 1)
  | f :: r, prev, n =>
    if f.e < 1 ∨ 62 < f.e then false
    else if backsF ahead prev f.q then false
    else match mulUp f.q f.e.toNat n with
      | none => false
      | some n' => wholeLF ahead p r (some f.q) n'
theorem backsF_eq (ah : List Ent) (o : Option Nat) (q : Nat) : backs ah o q = backsF ah o q := by
  cases o with
  | none => rfl
  | some q0 => rw [backs, backsF, claimedF_eq]
theorem wholeLF_eq (ah : List Ent) (p : Nat) : ∀ (fs : List Fac) (o : Option Nat) (n : Nat), wholeLF ah p fs o n = wholeL ah p fs o n
  | [], o, n => rfl
  | f :: r, o, n => by
    rw [wholeLF, wholeL, backsF_eq]
    congr 2
    cases mulUp f.q f.e.toNat n with
    | none => rfl
    | some n' => exact wholeLF_eq ah p r (some f.q) n'
def rightF (ahead : List Ent) (x : Ent) : Bool :=
  if x.p % 2 = 0 then false else if x.p < 3 then false else if 9223372036854775808 ≤ x.p then false else if x.g < 2 then false else if x.p ≤ x.g then false
  else if ahead.length ≠ 0 ∧ x.p ≤ (ahead.getD (ahead.length - 1) .z).p then false
  else (if x.fs.length = 0 then false else if 16 < x.fs.length then false else if (x.fs.getD 0 .z).q ≠ 2 then false else wholeLF ahead x.p x.fs none 1) && fullF x
theorem rightF_true (ah : List Ent) (x : Ent) (hp : x.p < Mg.R) (h : rightF ah x = true) : right ah x = true := by
  rw [← h]
  unfold right rightF whole
  rw [fullF_eq x hp, wholeLF_eq]
theorem firstBad_all (l : List Ent) : ∀ (n i : Nat), l.length - i = n → (∀ j, i ≤ j → j < l.length → right (l.take j) (l.getD j .z) = true) → firstBad l i = none
  | 0, i, hn, h => firstBad_end l i (by omega)
  | n + 1, i, hn, h => by
    rw [firstBad_at l i (by omega), if_pos (h i (Nat.le_refl _) (by omega))]
    exact firstBad_all l n (i + 1) (by omega) fun j h1 h2 => h j (by omega) h2
theorem check_ok (l : List Ent) (h32 : l.length ≤ 32) (hp : ∀ j, j < l.length → (l.getD j .z).p < Mg.R) (h : ∀ j, j < l.length → rightF (l.take j) (l.getD j .z) = true) : checkS l = (0, 0) := by
  unfold checkS
  rw [if_neg (by omega), firstBad_all l l.length 0 (by omega) (fun j _ hj => rightF_true _ _ (hp j hj) (h j hj))]
theorem check_row5 : checkS row5 = (0, 0) := check_ok row5 (by decide) (by decide) (by decide)
theorem oks_row5 : Oks row5 := ⟨by decide, by decide, by decide⟩
theorem Small_5 (w : World) : Calls Tryz.prog 33 #[.int .u64 5] w fun e w' => ∃ gf, e = .returned (.tuple #[.pointer (some ⟨gf, 0, none⟩), .int .i64 0]) ∧ FB w.heap.size w'.heap.size w' gf 5 2 ∧ Below w.heap.size w w' := by
  go_enter Tryz.func33, Tryz.ntmps33
  go_wp2_with fail
  with_reducible refine ((Row_5 w)).mono ?_
  rintro e w1 ⟨g, c, rfl, hc1, hc2, he, hb⟩
  have C := Lib.hid (show Calls Tryz.prog 22 #[.slice (some ⟨g, 0, none⟩) 1 c, .int .u64 5] w1 fun e w' => ∃ gf, e = .returned (.tuple #[.pointer (some ⟨gf, 0, none⟩), .int .i64 0]) ∧ FB w1.heap.size w'.heap.size w' gf 5 2 ∧ Below w1.heap.size w1 w' from New_ok (some ⟨g, 0, none⟩) c row5 5 0 w1 he hc1 hc2 oks_row5 check_row5 (by rw [indexOf_at row5 5 0 (by decide), if_pos (by decide)]))
  have HB := Lib.hid hb
  clear hb he hc2
  go_wp2_with fail
  with_reducible refine (C.out).mono ?_
  rintro e w2 ⟨gf, rfl, hf, hb⟩
  have HF := Lib.hid hf
  have HB2 := Lib.hid (below_then HB.out HB.out.size hb)
  clear hf hb
  go_wp2_with fail
  go_ret2
  exact ⟨gf, rfl, ⟨Nat.le_trans HB.out.size HF.out.above, HF.out.under, by
    obtain ⟨gc, h1, h2, h3, h4⟩ := HF.out.mc
    exact ⟨gc, Nat.le_trans HB.out.size h1, h2, h3, h4⟩, HF.out.cp, HF.out.cg⟩, HB2.out⟩
def known0 : List Ent := [⟨3, 2, [⟨2, 1⟩]⟩, ⟨7, 3, [⟨2, 1⟩, ⟨3, 1⟩]⟩, ⟨29, 2, [⟨2, 2⟩, ⟨7, 1⟩]⟩, ⟨4179340454199820289, 3, [⟨2, 57⟩, ⟨29, 1⟩]⟩]
theorem check_known0 : checkS known0 = (0, 0) := check_ok known0 (by decide) (by decide +kernel) (by decide +kernel)
theorem oks_known0 : Oks known0 := ⟨by decide +kernel, by decide +kernel, by decide⟩
set_option maxRecDepth 100000 in
set_option maxHeartbeats 2000000 in
theorem known_0 (w : World) : Calls Tryz.prog 71 #[.int .i64 0] w fun e w' => ∃ g, e = .returned (.tuple #[.slice (some ⟨g, 0, none⟩) 4 4, .int .u64 4179340454199820289]) ∧ EI w' (some ⟨g, 0, none⟩) known0 ∧ Below w.heap.size w w' := by
  have HB := Lib.hid (show Below w.heap.size w (((((((((w.alloc (.cells #[.int .u64 2, .int .i64 1] 130)).alloc (.cells #[.int .u64 3, .int .u64 2, .slice (some ⟨w.heap.size, 0, none⟩) 1 1] 126)).alloc (.cells #[.int .u64 2, .int .i64 2] 130)).alloc (.cells #[.int .u64 5, .int .u64 2, .slice (some ⟨w.heap.size + 1 + 1, 0, none⟩) 1 1] 126)).alloc (.cells #[.int .u64 2, .int .i64 1, .int .u64 3, .int .i64 1] 130)).alloc (.cells #[.int .u64 7, .int .u64 3, .slice (some ⟨w.heap.size + 1 + 1 + 1 + 1, 0, none⟩) 2 2] 126)).alloc (.cells #[.int .u64 2, .int .i64 2, .int .u64 7, .int .i64 1] 130)).alloc (.cells #[.int .u64 2, .int .i64 57, .int .u64 29, .int .i64 1] 130)).alloc (.cells #[.int .u64 3, .int .u64 2, .slice (some ⟨w.heap.size, 0, none⟩) 1 1, .int .u64 7, .int .u64 3, .slice (some ⟨w.heap.size + 1 + 1 + 1 + 1, 0, none⟩) 2 2, .int .u64 29, .int .u64 2, .slice (some ⟨w.heap.size + 1 + 1 + 1 + 1 + 1 + 1, 0, none⟩) 2 2, .int .u64 4179340454199820289, .int .u64 3, .slice (some ⟨w.heap.size + 1 + 1 + 1 + 1 + 1 + 1 + 1, 0, none⟩) 2 2] 126)) from (((((((((Below.refl w.heap.size w).alloc (by (try simp only [World.size_alloc]); omega) _).alloc (by (try simp only [World.size_alloc]); omega) _).alloc (by (try simp only [World.size_alloc]); omega) _).alloc (by (try simp only [World.size_alloc]); omega) _).alloc (by (try simp only [World.size_alloc]); omega) _).alloc (by (try simp only [World.size_alloc]); omega) _).alloc (by (try simp only [World.size_alloc]); omega) _).alloc (by (try simp only [World.size_alloc]); omega) _).alloc (by (try simp only [World.size_alloc]); omega) _)
  have K0 := Lib.hid (show Blk (((((((((w.alloc (.cells #[.int .u64 2, .int .i64 1] 130)).alloc (.cells #[.int .u64 3, .int .u64 2, .slice (some ⟨w.heap.size, 0, none⟩) 1 1] 126)).alloc (.cells #[.int .u64 2, .int .i64 2] 130)).alloc (.cells #[.int .u64 5, .int .u64 2, .slice (some ⟨w.heap.size + 1 + 1, 0, none⟩) 1 1] 126)).alloc (.cells #[.int .u64 2, .int .i64 1, .int .u64 3, .int .i64 1] 130)).alloc (.cells #[.int .u64 7, .int .u64 3, .slice (some ⟨w.heap.size + 1 + 1 + 1 + 1, 0, none⟩) 2 2] 126)).alloc (.cells #[.int .u64 2, .int .i64 2, .int .u64 7, .int .i64 1] 130)).alloc (.cells #[.int .u64 2, .int .i64 57, .int .u64 29, .int .i64 1] 130)).alloc (.cells #[.int .u64 3, .int .u64 2, .slice (some ⟨w.heap.size, 0, none⟩) 1 1, .int .u64 7, .int .u64 3, .slice (some ⟨w.heap.size + 1 + 1 + 1 + 1, 0, none⟩) 2 2, .int .u64 29, .int .u64 2, .slice (some ⟨w.heap.size + 1 + 1 + 1 + 1 + 1 + 1, 0, none⟩) 2 2, .int .u64 4179340454199820289, .int .u64 3, .slice (some ⟨w.heap.size + 1 + 1 + 1 + 1 + 1 + 1 + 1, 0, none⟩) 2 2] 126)) (w.heap.size) 130 #[.int .u64 2, .int .i64 1] from by
    have h := Blk.new w 130 #[.int .u64 2, .int .i64 1]
    exact ((((((((h.alloc _).alloc _).alloc _).alloc _).alloc _).alloc _).alloc _).alloc _))
  have K4 := Lib.hid (show Blk (((((((((w.alloc (.cells #[.int .u64 2, .int .i64 1] 130)).alloc (.cells #[.int .u64 3, .int .u64 2, .slice (some ⟨w.heap.size, 0, none⟩) 1 1] 126)).alloc (.cells #[.int .u64 2, .int .i64 2] 130)).alloc (.cells #[.int .u64 5, .int .u64 2, .slice (some ⟨w.heap.size + 1 + 1, 0, none⟩) 1 1] 126)).alloc (.cells #[.int .u64 2, .int .i64 1, .int .u64 3, .int .i64 1] 130)).alloc (.cells #[.int .u64 7, .int .u64 3, .slice (some ⟨w.heap.size + 1 + 1 + 1 + 1, 0, none⟩) 2 2] 126)).alloc (.cells #[.int .u64 2, .int .i64 2, .int .u64 7, .int .i64 1] 130)).alloc (.cells #[.int .u64 2, .int .i64 57, .int .u64 29, .int .i64 1] 130)).alloc (.cells #[.int .u64 3, .int .u64 2, .slice (some ⟨w.heap.size, 0, none⟩) 1 1, .int .u64 7, .int .u64 3, .slice (some ⟨w.heap.size + 1 + 1 + 1 + 1, 0, none⟩) 2 2, .int .u64 29, .int .u64 2, .slice (some ⟨w.heap.size + 1 + 1 + 1 + 1 + 1 + 1, 0, none⟩) 2 2, .int .u64 4179340454199820289, .int .u64 3, .slice (some ⟨w.heap.size + 1 + 1 + 1 + 1 + 1 + 1 + 1, 0, none⟩) 2 2] 126)) (w.heap.size + 1 + 1 + 1 + 1) 130 #[.int .u64 2, .int .i64 1, .int .u64 3, .int .i64 1] from by
    have h := Blk.new ((((w.alloc (.cells #[.int .u64 2, .int .i64 1] 130)).alloc (.cells #[.int .u64 3, .int .u64 2, .slice (some ⟨w.heap.size, 0, none⟩) 1 1] 126)).alloc (.cells #[.int .u64 2, .int .i64 2] 130)).alloc (.cells #[.int .u64 5, .int .u64 2, .slice (some ⟨w.heap.size + 1 + 1, 0, none⟩) 1 1] 126)) 130 #[.int .u64 2, .int .i64 1, .int .u64 3, .int .i64 1]
    simp only [World.size_alloc] at h
    exact ((((h.alloc _).alloc _).alloc _).alloc _))
  have K6 := Lib.hid (show Blk (((((((((w.alloc (.cells #[.int .u64 2, .int .i64 1] 130)).alloc (.cells #[.int .u64 3, .int .u64 2, .slice (some ⟨w.heap.size, 0, none⟩) 1 1] 126)).alloc (.cells #[.int .u64 2, .int .i64 2] 130)).alloc (.cells #[.int .u64 5, .int .u64 2, .slice (some ⟨w.heap.size + 1 + 1, 0, none⟩) 1 1] 126)).alloc (.cells #[.int .u64 2, .int .i64 1, .int .u64 3, .int .i64 1] 130)).alloc (.cells #[.int .u64 7, .int .u64 3, .slice (some ⟨w.heap.size + 1 + 1 + 1 + 1, 0, none⟩) 2 2] 126)).alloc (.cells #[.int .u64 2, .int .i64 2, .int .u64 7, .int .i64 1] 130)).alloc (.cells #[.int .u64 2, .int .i64 57, .int .u64 29, .int .i64 1] 130)).alloc (.cells #[.int .u64 3, .int .u64 2, .slice (some ⟨w.heap.size, 0, none⟩) 1 1, .int .u64 7, .int .u64 3, .slice (some ⟨w.heap.size + 1 + 1 + 1 + 1, 0, none⟩) 2 2, .int .u64 29, .int .u64 2, .slice (some ⟨w.heap.size + 1 + 1 + 1 + 1 + 1 + 1, 0, none⟩) 2 2, .int .u64 4179340454199820289, .int .u64 3, .slice (some ⟨w.heap.size + 1 + 1 + 1 + 1 + 1 + 1 + 1, 0, none⟩) 2 2] 126)) (w.heap.size + 1 + 1 + 1 + 1 + 1 + 1) 130 #[.int .u64 2, .int .i64 2, .int .u64 7, .int .i64 1] from by
    have h := Blk.new ((((((w.alloc (.cells #[.int .u64 2, .int .i64 1] 130)).alloc (.cells #[.int .u64 3, .int .u64 2, .slice (some ⟨w.heap.size, 0, none⟩) 1 1] 126)).alloc (.cells #[.int .u64 2, .int .i64 2] 130)).alloc (.cells #[.int .u64 5, .int .u64 2, .slice (some ⟨w.heap.size + 1 + 1, 0, none⟩) 1 1] 126)).alloc (.cells #[.int .u64 2, .int .i64 1, .int .u64 3, .int .i64 1] 130)).alloc (.cells #[.int .u64 7, .int .u64 3, .slice (some ⟨w.heap.size + 1 + 1 + 1 + 1, 0, none⟩) 2 2] 126)) 130 #[.int .u64 2, .int .i64 2, .int .u64 7, .int .i64 1]
    simp only [World.size_alloc] at h
    exact ((h.alloc _).alloc _))
  have K7 := Lib.hid (show Blk (((((((((w.alloc (.cells #[.int .u64 2, .int .i64 1] 130)).alloc (.cells #[.int .u64 3, .int .u64 2, .slice (some ⟨w.heap.size, 0, none⟩) 1 1] 126)).alloc (.cells #[.int .u64 2, .int .i64 2] 130)).alloc (.cells #[.int .u64 5, .int .u64 2, .slice (some ⟨w.heap.size + 1 + 1, 0, none⟩) 1 1] 126)).alloc (.cells #[.int .u64 2, .int .i64 1, .int .u64 3, .int .i64 1] 130)).alloc (.cells #[.int .u64 7, .int .u64 3, .slice (some ⟨w.heap.size + 1 + 1 + 1 + 1, 0, none⟩) 2 2] 126)).alloc (.cells #[.int .u64 2, .int .i64 2, .int .u64 7, .int .i64 1] 130)).alloc (.cells #[.int .u64 2, .int .i64 57, .int .u64 29, .int .i64 1] 130)).alloc (.cells #[.int .u64 3, .int .u64 2, .slice (some ⟨w.heap.size, 0, none⟩) 1 1, .int .u64 7, .int .u64 3, .slice (some ⟨w.heap.size + 1 + 1 + 1 + 1, 0, none⟩) 2 2, .int .u64 29, .int .u64 2, .slice (some ⟨w.heap.size + 1 + 1 + 1 + 1 + 1 + 1, 0, none⟩) 2 2, .int .u64 4179340454199820289, .int .u64 3, .slice (some ⟨w.heap.size + 1 + 1 + 1 + 1 + 1 + 1 + 1, 0, none⟩) 2 2] 126)) (w.heap.size + 1 + 1 + 1 + 1 + 1 + 1 + 1) 130 #[.int .u64 2, .int .i64 57, .int .u64 29, .int .i64 1] from by
    have h := Blk.new (((((((w.alloc (.cells #[.int .u64 2, .int .i64 1] 130)).alloc (.cells #[.int .u64 3, .int .u64 2, .slice (some ⟨w.heap.size, 0, none⟩) 1 1] 126)).alloc (.cells #[.int .u64 2, .int .i64 2] 130)).alloc (.cells #[.int .u64 5, .int .u64 2, .slice (some ⟨w.heap.size + 1 + 1, 0, none⟩) 1 1] 126)).alloc (.cells #[.int .u64 2, .int .i64 1, .int .u64 3, .int .i64 1] 130)).alloc (.cells #[.int .u64 7, .int .u64 3, .slice (some ⟨w.heap.size + 1 + 1 + 1 + 1, 0, none⟩) 2 2] 126)).alloc (.cells #[.int .u64 2, .int .i64 2, .int .u64 7, .int .i64 1] 130)) 130 #[.int .u64 2, .int .i64 57, .int .u64 29, .int .i64 1]
    simp only [World.size_alloc] at h
    exact (h.alloc _))
  have K8 := Lib.hid (show Blk (((((((((w.alloc (.cells #[.int .u64 2, .int .i64 1] 130)).alloc (.cells #[.int .u64 3, .int .u64 2, .slice (some ⟨w.heap.size, 0, none⟩) 1 1] 126)).alloc (.cells #[.int .u64 2, .int .i64 2] 130)).alloc (.cells #[.int .u64 5, .int .u64 2, .slice (some ⟨w.heap.size + 1 + 1, 0, none⟩) 1 1] 126)).alloc (.cells #[.int .u64 2, .int .i64 1, .int .u64 3, .int .i64 1] 130)).alloc (.cells #[.int .u64 7, .int .u64 3, .slice (some ⟨w.heap.size + 1 + 1 + 1 + 1, 0, none⟩) 2 2] 126)).alloc (.cells #[.int .u64 2, .int .i64 2, .int .u64 7, .int .i64 1] 130)).alloc (.cells #[.int .u64 2, .int .i64 57, .int .u64 29, .int .i64 1] 130)).alloc (.cells #[.int .u64 3, .int .u64 2, .slice (some ⟨w.heap.size, 0, none⟩) 1 1, .int .u64 7, .int .u64 3, .slice (some ⟨w.heap.size + 1 + 1 + 1 + 1, 0, none⟩) 2 2, .int .u64 29, .int .u64 2, .slice (some ⟨w.heap.size + 1 + 1 + 1 + 1 + 1 + 1, 0, none⟩) 2 2, .int .u64 4179340454199820289, .int .u64 3, .slice (some ⟨w.heap.size + 1 + 1 + 1 + 1 + 1 + 1 + 1, 0, none⟩) 2 2] 126)) (w.heap.size + 1 + 1 + 1 + 1 + 1 + 1 + 1 + 1) 126 #[.int .u64 3, .int .u64 2, .slice (some ⟨w.heap.size, 0, none⟩) 1 1, .int .u64 7, .int .u64 3, .slice (some ⟨w.heap.size + 1 + 1 + 1 + 1, 0, none⟩) 2 2, .int .u64 29, .int .u64 2, .slice (some ⟨w.heap.size + 1 + 1 + 1 + 1 + 1 + 1, 0, none⟩) 2 2, .int .u64 4179340454199820289, .int .u64 3, .slice (some ⟨w.heap.size + 1 + 1 + 1 + 1 + 1 + 1 + 1, 0, none⟩) 2 2] from by
    have h := Blk.new ((((((((w.alloc (.cells #[.int .u64 2, .int .i64 1] 130)).alloc (.cells #[.int .u64 3, .int .u64 2, .slice (some ⟨w.heap.size, 0, none⟩) 1 1] 126)).alloc (.cells #[.int .u64 2, .int .i64 2] 130)).alloc (.cells #[.int .u64 5, .int .u64 2, .slice (some ⟨w.heap.size + 1 + 1, 0, none⟩) 1 1] 126)).alloc (.cells #[.int .u64 2, .int .i64 1, .int .u64 3, .int .i64 1] 130)).alloc (.cells #[.int .u64 7, .int .u64 3, .slice (some ⟨w.heap.size + 1 + 1 + 1 + 1, 0, none⟩) 2 2] 126)).alloc (.cells #[.int .u64 2, .int .i64 2, .int .u64 7, .int .i64 1] 130)).alloc (.cells #[.int .u64 2, .int .i64 57, .int .u64 29, .int .i64 1] 130)) 126 #[.int .u64 3, .int .u64 2, .slice (some ⟨w.heap.size, 0, none⟩) 1 1, .int .u64 7, .int .u64 3, .slice (some ⟨w.heap.size + 1 + 1 + 1 + 1, 0, none⟩) 2 2, .int .u64 29, .int .u64 2, .slice (some ⟨w.heap.size + 1 + 1 + 1 + 1 + 1 + 1, 0, none⟩) 2 2, .int .u64 4179340454199820289, .int .u64 3, .slice (some ⟨w.heap.size + 1 + 1 + 1 + 1 + 1 + 1 + 1, 0, none⟩) 2 2]
    simp only [World.size_alloc] at h
    exact h)
  go_enter Tryz.func71, Tryz.ntmps71
  go_upto_region 20 with fail
  generalize (((((((((w.alloc (.cells #[.int .u64 2, .int .i64 1] 130)).alloc (.cells #[.int .u64 3, .int .u64 2, .slice (some ⟨w.heap.size, 0, none⟩) 1 1] 126)).alloc (.cells #[.int .u64 2, .int .i64 2] 130)).alloc (.cells #[.int .u64 5, .int .u64 2, .slice (some ⟨w.heap.size + 1 + 1, 0, none⟩) 1 1] 126)).alloc (.cells #[.int .u64 2, .int .i64 1, .int .u64 3, .int .i64 1] 130)).alloc (.cells #[.int .u64 7, .int .u64 3, .slice (some ⟨w.heap.size + 1 + 1 + 1 + 1, 0, none⟩) 2 2] 126)).alloc (.cells #[.int .u64 2, .int .i64 2, .int .u64 7, .int .i64 1] 130)).alloc (.cells #[.int .u64 2, .int .i64 57, .int .u64 29, .int .i64 1] 130)).alloc (.cells #[.int .u64 3, .int .u64 2, .slice (some ⟨w.heap.size, 0, none⟩) 1 1, .int .u64 7, .int .u64 3, .slice (some ⟨w.heap.size + 1 + 1 + 1 + 1, 0, none⟩) 2 2, .int .u64 29, .int .u64 2, .slice (some ⟨w.heap.size + 1 + 1 + 1 + 1 + 1 + 1, 0, none⟩) 2 2, .int .u64 4179340454199820289, .int .u64 3, .slice (some ⟨w.heap.size + 1 + 1 + 1 + 1 + 1 + 1 + 1, 0, none⟩) 2 2] 126)) = W at *
  have kl := K8.out.cell 9
  go_quiet (fail)
  go_wp2_with fail
  go_ret2
  refine ⟨w.heap.size + 1 + 1 + 1 + 1 + 1 + 1 + 1 + 1, rfl, ?_, below_drewN HB.out _⟩
  intro i hi
  have hi' : i = 0 ∨ i = 1 ∨ i = 2 ∨ i = 3 := by simp [known0] at hi; omega
  rcases hi' with rfl | rfl | rfl | rfl
  · refine ⟨w.heap.size + 1 + 1 + 1 + 1 + 1 + 1 + 1 + 1, 0, some ⟨w.heap.size, 0, none⟩, 1, rfl, K8.out.cell 0, K8.out.cell 1, K8.out.cell 2, by decide, ?_⟩
    intro j hj
    have hj' : j = 0 := by simp [known0] at hj; omega
    subst hj'
    · exact ⟨w.heap.size, 0, rfl, K0.out.cell 0, K0.out.cell 1⟩
  · refine ⟨w.heap.size + 1 + 1 + 1 + 1 + 1 + 1 + 1 + 1, 0, some ⟨w.heap.size + 1 + 1 + 1 + 1, 0, none⟩, 2, rfl, K8.out.cell 3, K8.out.cell 4, K8.out.cell 5, by decide, ?_⟩
    intro j hj
    have hj' : j = 0 ∨ j = 1 := by simp [known0] at hj; omega
    rcases hj' with rfl | rfl
    · exact ⟨w.heap.size + 1 + 1 + 1 + 1, 0, rfl, K4.out.cell 0, K4.out.cell 1⟩
    · exact ⟨w.heap.size + 1 + 1 + 1 + 1, 0, rfl, K4.out.cell 2, K4.out.cell 3⟩
  · refine ⟨w.heap.size + 1 + 1 + 1 + 1 + 1 + 1 + 1 + 1, 0, some ⟨w.heap.size + 1 + 1 + 1 + 1 + 1 + 1, 0, none⟩, 2, rfl, K8.out.cell 6, K8.out.cell 7, K8.out.cell 8, by decide, ?_⟩
    intro j hj
    have hj' : j = 0 ∨ j = 1 := by simp [known0] at hj; omega
    rcases hj' with rfl | rfl
    · exact ⟨w.heap.size + 1 + 1 + 1 + 1 + 1 + 1, 0, rfl, K6.out.cell 0, K6.out.cell 1⟩
    · exact ⟨w.heap.size + 1 + 1 + 1 + 1 + 1 + 1, 0, rfl, K6.out.cell 2, K6.out.cell 3⟩
  · refine ⟨w.heap.size + 1 + 1 + 1 + 1 + 1 + 1 + 1 + 1, 0, some ⟨w.heap.size + 1 + 1 + 1 + 1 + 1 + 1 + 1, 0, none⟩, 2, rfl, K8.out.cell 9, K8.out.cell 10, K8.out.cell 11, by decide, ?_⟩
    intro j hj
    have hj' : j = 0 ∨ j = 1 := by simp [known0] at hj; omega
    rcases hj' with rfl | rfl
    · exact ⟨w.heap.size + 1 + 1 + 1 + 1 + 1 + 1 + 1, 0, rfl, K7.out.cell 0, K7.out.cell 1⟩
    · exact ⟨w.heap.size + 1 + 1 + 1 + 1 + 1 + 1 + 1, 0, rfl, K7.out.cell 2, K7.out.cell 3⟩
theorem Known_0 (w : World) : Calls Tryz.prog 34 #[.int .i64 0] w fun e w' => ∃ gf, e = .returned (.tuple #[.pointer (some ⟨gf, 0, none⟩), .int .i64 0]) ∧ FB w.heap.size w'.heap.size w' gf 4179340454199820289 3 ∧ Below w.heap.size w w' := by
  go_enter Tryz.func34, Tryz.ntmps34
  go_wp2_with fail
  with_reducible refine ((known_0 w)).mono ?_
  rintro e w1 ⟨g, rfl, he, hb⟩
  have C := Lib.hid (show Calls Tryz.prog 22 #[.slice (some ⟨g, 0, none⟩) 4 4, .int .u64 4179340454199820289] w1 fun e w' => ∃ gf, e = .returned (.tuple #[.pointer (some ⟨gf, 0, none⟩), .int .i64 0]) ∧ FB w1.heap.size w'.heap.size w' gf 4179340454199820289 3 ∧ Below w1.heap.size w1 w' from New_ok (some ⟨g, 0, none⟩) 4 known0 4179340454199820289 3 w1 he (by decide) (by decide) oks_known0 check_known0 (by rw [indexOf_at known0 4179340454199820289 0 (by decide), if_neg (by decide)]; rw [indexOf_at known0 4179340454199820289 1 (by decide), if_neg (by decide)]; rw [indexOf_at known0 4179340454199820289 2 (by decide), if_neg (by decide)]; rw [indexOf_at known0 4179340454199820289 3 (by decide), if_pos (by decide)]))
  have HB := Lib.hid hb
  clear hb he
  go_wp2_with fail
  with_reducible refine (C.out).mono ?_
  rintro e w2 ⟨gf, rfl, hf, hb⟩
  have HF := Lib.hid hf
  have HB2 := Lib.hid (below_then HB.out HB.out.size hb)
  clear hf hb
  go_wp2_with fail
  go_ret2
  exact ⟨gf, rfl, ⟨Nat.le_trans HB.out.size HF.out.above, HF.out.under, by
    obtain ⟨gc, h1, h2, h3, h4⟩ := HF.out.mc
    exact ⟨gc, Nat.le_trans HB.out.size h1, h2, h3, h4⟩, HF.out.cp, HF.out.cg⟩, HB2.out⟩
def known1 : List Ent := [⟨3, 2, [⟨2, 1⟩]⟩, ⟨1945555039024054273, 5, [⟨2, 56⟩, ⟨3, 3⟩]⟩]
theorem check_known1 : checkS known1 = (0, 0) := check_ok known1 (by decide) (by decide +kernel) (by decide +kernel)
theorem oks_known1 : Oks known1 := ⟨by decide +kernel, by decide +kernel, by decide⟩
set_option maxRecDepth 100000 in
set_option maxHeartbeats 2000000 in
theorem known_1 (w : World) : Calls Tryz.prog 71 #[.int .i64 1] w fun e w' => ∃ g, e = .returned (.tuple #[.slice (some ⟨g, 0, none⟩) 2 2, .int .u64 1945555039024054273]) ∧ EI w' (some ⟨g, 0, none⟩) known1 ∧ Below w.heap.size w w' := by
  have HB := Lib.hid (show Below w.heap.size w ((((((((w.alloc (.cells #[.int .u64 2, .int .i64 1] 130)).alloc (.cells #[.int .u64 3, .int .u64 2, .slice (some ⟨w.heap.size, 0, none⟩) 1 1] 126)).alloc (.cells #[.int .u64 2, .int .i64 2] 130)).alloc (.cells #[.int .u64 5, .int .u64 2, .slice (some ⟨w.heap.size + 1 + 1, 0, none⟩) 1 1] 126)).alloc (.cells #[.int .u64 2, .int .i64 1, .int .u64 3, .int .i64 1] 130)).alloc (.cells #[.int .u64 7, .int .u64 3, .slice (some ⟨w.heap.size + 1 + 1 + 1 + 1, 0, none⟩) 2 2] 126)).alloc (.cells #[.int .u64 2, .int .i64 56, .int .u64 3, .int .i64 3] 130)).alloc (.cells #[.int .u64 3, .int .u64 2, .slice (some ⟨w.heap.size, 0, none⟩) 1 1, .int .u64 1945555039024054273, .int .u64 5, .slice (some ⟨w.heap.size + 1 + 1 + 1 + 1 + 1 + 1, 0, none⟩) 2 2] 126)) from ((((((((Below.refl w.heap.size w).alloc (by (try simp only [World.size_alloc]); omega) _).alloc (by (try simp only [World.size_alloc]); omega) _).alloc (by (try simp only [World.size_alloc]); omega) _).alloc (by (try simp only [World.size_alloc]); omega) _).alloc (by (try simp only [World.size_alloc]); omega) _).alloc (by (try simp only [World.size_alloc]); omega) _).alloc (by (try simp only [World.size_alloc]); omega) _).alloc (by (try simp only [World.size_alloc]); omega) _)
  have K0 := Lib.hid (show Blk ((((((((w.alloc (.cells #[.int .u64 2, .int .i64 1] 130)).alloc (.cells #[.int .u64 3, .int .u64 2, .slice (some ⟨w.heap.size, 0, none⟩) 1 1] 126)).alloc (.cells #[.int .u64 2, .int .i64 2] 130)).alloc (.cells #[.int .u64 5, .int .u64 2, .slice (some ⟨w.heap.size + 1 + 1, 0, none⟩) 1 1] 126)).alloc (.cells #[.int .u64 2, .int .i64 1, .int .u64 3, .int .i64 1] 130)).alloc (.cells #[.int .u64 7, .int .u64 3, .slice (some ⟨w.heap.size + 1 + 1 + 1 + 1, 0, none⟩) 2 2] 126)).alloc (.cells #[.int .u64 2, .int .i64 56, .int .u64 3, .int .i64 3] 130)).alloc (.cells #[.int .u64 3, .int .u64 2, .slice (some ⟨w.heap.size, 0, none⟩) 1 1, .int .u64 1945555039024054273, .int .u64 5, .slice (some ⟨w.heap.size + 1 + 1 + 1 + 1 + 1 + 1, 0, none⟩) 2 2] 126)) (w.heap.size) 130 #[.int .u64 2, .int .i64 1] from by
    have h := Blk.new w 130 #[.int .u64 2, .int .i64 1]
    exact (((((((h.alloc _).alloc _).alloc _).alloc _).alloc _).alloc _).alloc _))
  have K6 := Lib.hid (show Blk ((((((((w.alloc (.cells #[.int .u64 2, .int .i64 1] 130)).alloc (.cells #[.int .u64 3, .int .u64 2, .slice (some ⟨w.heap.size, 0, none⟩) 1 1] 126)).alloc (.cells #[.int .u64 2, .int .i64 2] 130)).alloc (.cells #[.int .u64 5, .int .u64 2, .slice (some ⟨w.heap.size + 1 + 1, 0, none⟩) 1 1] 126)).alloc (.cells #[.int .u64 2, .int .i64 1, .int .u64 3, .int .i64 1] 130)).alloc (.cells #[.int .u64 7, .int .u64 3, .slice (some ⟨w.heap.size + 1 + 1 + 1 + 1, 0, none⟩) 2 2] 126)).alloc (.cells #[.int .u64 2, .int .i64 56, .int .u64 3, .int .i64 3] 130)).alloc (.cells #[.int .u64 3, .int .u64 2, .slice (some ⟨w.heap.size, 0, none⟩) 1 1, .int .u64 1945555039024054273, .int .u64 5, .slice (some ⟨w.heap.size + 1 + 1 + 1 + 1 + 1 + 1, 0, none⟩) 2 2] 126)) (w.heap.size + 1 + 1 + 1 + 1 + 1 + 1) 130 #[.int .u64 2, .int .i64 56, .int .u64 3, .int .i64 3] from by
    have h := Blk.new ((((((w.alloc (.cells #[.int .u64 2, .int .i64 1] 130)).alloc (.cells #[.int .u64 3, .int .u64 2, .slice (some ⟨w.heap.size, 0, none⟩) 1 1] 126)).alloc (.cells #[.int .u64 2, .int .i64 2] 130)).alloc (.cells #[.int .u64 5, .int .u64 2, .slice (some ⟨w.heap.size + 1 + 1, 0, none⟩) 1 1] 126)).alloc (.cells #[.int .u64 2, .int .i64 1, .int .u64 3, .int .i64 1] 130)).alloc (.cells #[.int .u64 7, .int .u64 3, .slice (some ⟨w.heap.size + 1 + 1 + 1 + 1, 0, none⟩) 2 2] 126)) 130 #[.int .u64 2, .int .i64 56, .int .u64 3, .int .i64 3]
    simp only [World.size_alloc] at h
    exact (h.alloc _))
  have K7 := Lib.hid (show Blk ((((((((w.alloc (.cells #[.int .u64 2, .int .i64 1] 130)).alloc (.cells #[.int .u64 3, .int .u64 2, .slice (some ⟨w.heap.size, 0, none⟩) 1 1] 126)).alloc (.cells #[.int .u64 2, .int .i64 2] 130)).alloc (.cells #[.int .u64 5, .int .u64 2, .slice (some ⟨w.heap.size + 1 + 1, 0, none⟩) 1 1] 126)).alloc (.cells #[.int .u64 2, .int .i64 1, .int .u64 3, .int .i64 1] 130)).alloc (.cells #[.int .u64 7, .int .u64 3, .slice (some ⟨w.heap.size + 1 + 1 + 1 + 1, 0, none⟩) 2 2] 126)).alloc (.cells #[.int .u64 2, .int .i64 56, .int .u64 3, .int .i64 3] 130)).alloc (.cells #[.int .u64 3, .int .u64 2, .slice (some ⟨w.heap.size, 0, none⟩) 1 1, .int .u64 1945555039024054273, .int .u64 5, .slice (some ⟨w.heap.size + 1 + 1 + 1 + 1 + 1 + 1, 0, none⟩) 2 2] 126)) (w.heap.size + 1 + 1 + 1 + 1 + 1 + 1 + 1) 126 #[.int .u64 3, .int .u64 2, .slice (some ⟨w.heap.size, 0, none⟩) 1 1, .int .u64 1945555039024054273, .int .u64 5, .slice (some ⟨w.heap.size + 1 + 1 + 1 + 1 + 1 + 1, 0, none⟩) 2 2] from by
    have h := Blk.new (((((((w.alloc (.cells #[.int .u64 2, .int .i64 1] 130)).alloc (.cells #[.int .u64 3, .int .u64 2, .slice (some ⟨w.heap.size, 0, none⟩) 1 1] 126)).alloc (.cells #[.int .u64 2, .int .i64 2] 130)).alloc (.cells #[.int .u64 5, .int .u64 2, .slice (some ⟨w.heap.size + 1 + 1, 0, none⟩) 1 1] 126)).alloc (.cells #[.int .u64 2, .int .i64 1, .int .u64 3, .int .i64 1] 130)).alloc (.cells #[.int .u64 7, .int .u64 3, .slice (some ⟨w.heap.size + 1 + 1 + 1 + 1, 0, none⟩) 2 2] 126)).alloc (.cells #[.int .u64 2, .int .i64 56, .int .u64 3, .int .i64 3] 130)) 126 #[.int .u64 3, .int .u64 2, .slice (some ⟨w.heap.size, 0, none⟩) 1 1, .int .u64 1945555039024054273, .int .u64 5, .slice (some ⟨w.heap.size + 1 + 1 + 1 + 1 + 1 + 1, 0, none⟩) 2 2]
    simp only [World.size_alloc] at h
    exact h)
  go_enter Tryz.func71, Tryz.ntmps71
  go_upto_region 20 with fail
  generalize ((((((((w.alloc (.cells #[.int .u64 2, .int .i64 1] 130)).alloc (.cells #[.int .u64 3, .int .u64 2, .slice (some ⟨w.heap.size, 0, none⟩) 1 1] 126)).alloc (.cells #[.int .u64 2, .int .i64 2] 130)).alloc (.cells #[.int .u64 5, .int .u64 2, .slice (some ⟨w.heap.size + 1 + 1, 0, none⟩) 1 1] 126)).alloc (.cells #[.int .u64 2, .int .i64 1, .int .u64 3, .int .i64 1] 130)).alloc (.cells #[.int .u64 7, .int .u64 3, .slice (some ⟨w.heap.size + 1 + 1 + 1 + 1, 0, none⟩) 2 2] 126)).alloc (.cells #[.int .u64 2, .int .i64 56, .int .u64 3, .int .i64 3] 130)).alloc (.cells #[.int .u64 3, .int .u64 2, .slice (some ⟨w.heap.size, 0, none⟩) 1 1, .int .u64 1945555039024054273, .int .u64 5, .slice (some ⟨w.heap.size + 1 + 1 + 1 + 1 + 1 + 1, 0, none⟩) 2 2] 126)) = W at *
  have kl := K7.out.cell 3
  go_quiet (fail)
  go_wp2_with fail
  go_ret2
  refine ⟨w.heap.size + 1 + 1 + 1 + 1 + 1 + 1 + 1, rfl, ?_, below_drewN HB.out _⟩
  intro i hi
  have hi' : i = 0 ∨ i = 1 := by simp [known1] at hi; omega
  rcases hi' with rfl | rfl
  · refine ⟨w.heap.size + 1 + 1 + 1 + 1 + 1 + 1 + 1, 0, some ⟨w.heap.size, 0, none⟩, 1, rfl, K7.out.cell 0, K7.out.cell 1, K7.out.cell 2, by decide, ?_⟩
    intro j hj
    have hj' : j = 0 := by simp [known1] at hj; omega
    subst hj'
    · exact ⟨w.heap.size, 0, rfl, K0.out.cell 0, K0.out.cell 1⟩
  · refine ⟨w.heap.size + 1 + 1 + 1 + 1 + 1 + 1 + 1, 0, some ⟨w.heap.size + 1 + 1 + 1 + 1 + 1 + 1, 0, none⟩, 2, rfl, K7.out.cell 3, K7.out.cell 4, K7.out.cell 5, by decide, ?_⟩
    intro j hj
    have hj' : j = 0 ∨ j = 1 := by simp [known1] at hj; omega
    rcases hj' with rfl | rfl
    · exact ⟨w.heap.size + 1 + 1 + 1 + 1 + 1 + 1, 0, rfl, K6.out.cell 0, K6.out.cell 1⟩
    · exact ⟨w.heap.size + 1 + 1 + 1 + 1 + 1 + 1, 0, rfl, K6.out.cell 2, K6.out.cell 3⟩
theorem Known_1 (w : World) : Calls Tryz.prog 34 #[.int .i64 1] w fun e w' => ∃ gf, e = .returned (.tuple #[.pointer (some ⟨gf, 0, none⟩), .int .i64 0]) ∧ FB w.heap.size w'.heap.size w' gf 1945555039024054273 5 ∧ Below w.heap.size w w' := by
  go_enter Tryz.func34, Tryz.ntmps34
  go_wp2_with fail
  with_reducible refine ((known_1 w)).mono ?_
  rintro e w1 ⟨g, rfl, he, hb⟩
  have C := Lib.hid (show Calls Tryz.prog 22 #[.slice (some ⟨g, 0, none⟩) 2 2, .int .u64 1945555039024054273] w1 fun e w' => ∃ gf, e = .returned (.tuple #[.pointer (some ⟨gf, 0, none⟩), .int .i64 0]) ∧ FB w1.heap.size w'.heap.size w' gf 1945555039024054273 5 ∧ Below w1.heap.size w1 w' from New_ok (some ⟨g, 0, none⟩) 2 known1 1945555039024054273 1 w1 he (by decide) (by decide) oks_known1 check_known1 (by rw [indexOf_at known1 1945555039024054273 0 (by decide), if_neg (by decide)]; rw [indexOf_at known1 1945555039024054273 1 (by decide), if_pos (by decide)]))
  have HB := Lib.hid hb
  clear hb he
  go_wp2_with fail
  with_reducible refine (C.out).mono ?_
  rintro e w2 ⟨gf, rfl, hf, hb⟩
  have HF := Lib.hid hf
  have HB2 := Lib.hid (below_then HB.out HB.out.size hb)
  clear hf hb
  go_wp2_with fail
  go_ret2
  exact ⟨gf, rfl, ⟨Nat.le_trans HB.out.size HF.out.above, HF.out.under, by
    obtain ⟨gc, h1, h2, h3, h4⟩ := HF.out.mc
    exact ⟨gc, Nat.le_trans HB.out.size h1, h2, h3, h4⟩, HF.out.cp, HF.out.cg⟩, HB2.out⟩
def known2 : List Ent := [⟨5, 2, [⟨2, 2⟩]⟩, ⟨180143985094819841, 6, [⟨2, 55⟩, ⟨5, 1⟩]⟩]
theorem check_known2 : checkS known2 = (0, 0) := check_ok known2 (by decide) (by decide +kernel) (by decide +kernel)
theorem oks_known2 : Oks known2 := ⟨by decide +kernel, by decide +kernel, by decide⟩
set_option maxRecDepth 100000 in
set_option maxHeartbeats 2000000 in
theorem known_2 (w : World) : Calls Tryz.prog 71 #[.int .i64 2] w fun e w' => ∃ g, e = .returned (.tuple #[.slice (some ⟨g, 0, none⟩) 2 2, .int .u64 180143985094819841]) ∧ EI w' (some ⟨g, 0, none⟩) known2 ∧ Below w.heap.size w w' := by
  have HB := Lib.hid (show Below w.heap.size w ((((((((w.alloc (.cells #[.int .u64 2, .int .i64 1] 130)).alloc (.cells #[.int .u64 3, .int .u64 2, .slice (some ⟨w.heap.size, 0, none⟩) 1 1] 126)).alloc (.cells #[.int .u64 2, .int .i64 2] 130)).alloc (.cells #[.int .u64 5, .int .u64 2, .slice (some ⟨w.heap.size + 1 + 1, 0, none⟩) 1 1] 126)).alloc (.cells #[.int .u64 2, .int .i64 1, .int .u64 3, .int .i64 1] 130)).alloc (.cells #[.int .u64 7, .int .u64 3, .slice (some ⟨w.heap.size + 1 + 1 + 1 + 1, 0, none⟩) 2 2] 126)).alloc (.cells #[.int .u64 2, .int .i64 55, .int .u64 5, .int .i64 1] 130)).alloc (.cells #[.int .u64 5, .int .u64 2, .slice (some ⟨w.heap.size + 1 + 1, 0, none⟩) 1 1, .int .u64 180143985094819841, .int .u64 6, .slice (some ⟨w.heap.size + 1 + 1 + 1 + 1 + 1 + 1, 0, none⟩) 2 2] 126)) from ((((((((Below.refl w.heap.size w).alloc (by (try simp only [World.size_alloc]); omega) _).alloc (by (try simp only [World.size_alloc]); omega) _).alloc (by (try simp only [World.size_alloc]); omega) _).alloc (by (try simp only [World.size_alloc]); omega) _).alloc (by (try simp only [World.size_alloc]); omega) _).alloc (by (try simp only [World.size_alloc]); omega) _).alloc (by (try simp only [World.size_alloc]); omega) _).alloc (by (try simp only [World.size_alloc]); omega) _)
  have K2 := Lib.hid (show Blk ((((((((w.alloc (.cells #[.int .u64 2, .int .i64 1] 130)).alloc (.cells #[.int .u64 3, .int .u64 2, .slice (some ⟨w.heap.size, 0, none⟩) 1 1] 126)).alloc (.cells #[.int .u64 2, .int .i64 2] 130)).alloc (.cells #[.int .u64 5, .int .u64 2, .slice (some ⟨w.heap.size + 1 + 1, 0, none⟩) 1 1] 126)).alloc (.cells #[.int .u64 2, .int .i64 1, .int .u64 3, .int .i64 1] 130)).alloc (.cells #[.int .u64 7, .int .u64 3, .slice (some ⟨w.heap.size + 1 + 1 + 1 + 1, 0, none⟩) 2 2] 126)).alloc (.cells #[.int .u64 2, .int .i64 55, .int .u64 5, .int .i64 1] 130)).alloc (.cells #[.int .u64 5, .int .u64 2, .slice (some ⟨w.heap.size + 1 + 1, 0, none⟩) 1 1, .int .u64 180143985094819841, .int .u64 6, .slice (some ⟨w.heap.size + 1 + 1 + 1 + 1 + 1 + 1, 0, none⟩) 2 2] 126)) (w.heap.size + 1 + 1) 130 #[.int .u64 2, .int .i64 2] from by
    have h := Blk.new ((w.alloc (.cells #[.int .u64 2, .int .i64 1] 130)).alloc (.cells #[.int .u64 3, .int .u64 2, .slice (some ⟨w.heap.size, 0, none⟩) 1 1] 126)) 130 #[.int .u64 2, .int .i64 2]
    simp only [World.size_alloc] at h
    exact (((((h.alloc _).alloc _).alloc _).alloc _).alloc _))
  have K6 := Lib.hid (show Blk ((((((((w.alloc (.cells #[.int .u64 2, .int .i64 1] 130)).alloc (.cells #[.int .u64 3, .int .u64 2, .slice (some ⟨w.heap.size, 0, none⟩) 1 1] 126)).alloc (.cells #[.int .u64 2, .int .i64 2] 130)).alloc (.cells #[.int .u64 5, .int .u64 2, .slice (some ⟨w.heap.size + 1 + 1, 0, none⟩) 1 1] 126)).alloc (.cells #[.int .u64 2, .int .i64 1, .int .u64 3, .int .i64 1] 130)).alloc (.cells #[.int .u64 7, .int .u64 3, .slice (some ⟨w.heap.size + 1 + 1 + 1 + 1, 0, none⟩) 2 2] 126)).alloc (.cells #[.int .u64 2, .int .i64 55, .int .u64 5, .int .i64 1] 130)).alloc (.cells #[.int .u64 5, .int .u64 2, .slice (some ⟨w.heap.size + 1 + 1, 0, none⟩) 1 1, .int .u64 180143985094819841, .int .u64 6, .slice (some ⟨w.heap.size + 1 + 1 + 1 + 1 + 1 + 1, 0, none⟩) 2 2] 126)) (w.heap.size + 1 + 1 + 1 + 1 + 1 + 1) 130 #[.int .u64 2, .int .i64 55, .int .u64 5, .int .i64 1] from by
    have h := Blk.new ((((((w.alloc (.cells #[.int .u64 2, .int .i64 1] 130)).alloc (.cells #[.int .u64 3, .int .u64 2, .slice (some ⟨w.heap.size, 0, none⟩) 1 1] 126)).alloc (.cells #[.int .u64 2, .int .i64 2] 130)).alloc (.cells #[.int .u64 5, .int .u64 2, .slice (some ⟨w.heap.size + 1 + 1, 0, none⟩) 1 1] 126)).alloc (.cells #[.int .u64 2, .int .i64 1, .int .u64 3, .int .i64 1] 130)).alloc (.cells #[.int .u64 7, .int .u64 3, .slice (some ⟨w.heap.size + 1 + 1 + 1 + 1, 0, none⟩) 2 2] 126)) 130 #[.int .u64 2, .int .i64 55, .int .u64 5, .int .i64 1]
    simp only [World.size_alloc] at h
    exact (h.alloc _))
  have K7 := Lib.hid (show Blk ((((((((w.alloc (.cells #[.int .u64 2, .int .i64 1] 130)).alloc (.cells #[.int .u64 3, .int .u64 2, .slice (some ⟨w.heap.size, 0, none⟩) 1 1] 126)).alloc (.cells #[.int .u64 2, .int .i64 2] 130)).alloc (.cells #[.int .u64 5, .int .u64 2, .slice (some ⟨w.heap.size + 1 + 1, 0, none⟩) 1 1] 126)).alloc (.cells #[.int .u64 2, .int .i64 1, .int .u64 3, .int .i64 1] 130)).alloc (.cells #[.int .u64 7, .int .u64 3, .slice (some ⟨w.heap.size + 1 + 1 + 1 + 1, 0, none⟩) 2 2] 126)).alloc (.cells #[.int .u64 2, .int .i64 55, .int .u64 5, .int .i64 1] 130)).alloc (.cells #[.int .u64 5, .int .u64 2, .slice (some ⟨w.heap.size + 1 + 1, 0, none⟩) 1 1, .int .u64 180143985094819841, .int .u64 6, .slice (some ⟨w.heap.size + 1 + 1 + 1 + 1 + 1 + 1, 0, none⟩) 2 2] 126)) (w.heap.size + 1 + 1 + 1 + 1 + 1 + 1 + 1) 126 #[.int .u64 5, .int .u64 2, .slice (some ⟨w.heap.size + 1 + 1, 0, none⟩) 1 1, .int .u64 180143985094819841, .int .u64 6, .slice (some ⟨w.heap.size + 1 + 1 + 1 + 1 + 1 + 1, 0, none⟩) 2 2] from by
    have h := Blk.new (((((((w.alloc (.cells #[.int .u64 2, .int .i64 1] 130)).alloc (.cells #[.int .u64 3, .int .u64 2, .slice (some ⟨w.heap.size, 0, none⟩) 1 1] 126)).alloc (.cells #[.int .u64 2, .int .i64 2] 130)).alloc (.cells #[.int .u64 5, .int .u64 2, .slice (some ⟨w.heap.size + 1 + 1, 0, none⟩) 1 1] 126)).alloc (.cells #[.int .u64 2, .int .i64 1, .int .u64 3, .int .i64 1] 130)).alloc (.cells #[.int .u64 7, .int .u64 3, .slice (some ⟨w.heap.size + 1 + 1 + 1 + 1, 0, none⟩) 2 2] 126)).alloc (.cells #[.int .u64 2, .int .i64 55, .int .u64 5, .int .i64 1] 130)) 126 #[.int .u64 5, .int .u64 2, .slice (some ⟨w.heap.size + 1 + 1, 0, none⟩) 1 1, .int .u64 180143985094819841, .int .u64 6, .slice (some ⟨w.heap.size + 1 + 1 + 1 + 1 + 1 + 1, 0, none⟩) 2 2]
    simp only [World.size_alloc] at h
    exact h)
  go_enter Tryz.func71, Tryz.ntmps71
  go_upto_region 20 with fail
  generalize ((((((((w.alloc (.cells #[.int .u64 2, .int .i64 1] 130)).alloc (.cells #[.int .u64 3, .int .u64 2, .slice (some ⟨w.heap.size, 0, none⟩) 1 1] 126)).alloc (.cells #[.int .u64 2, .int .i64 2] 130)).alloc (.cells #[.int .u64 5, .int .u64 2, .slice (some ⟨w.heap.size + 1 + 1, 0, none⟩) 1 1] 126)).alloc (.cells #[.int .u64 2, .int .i64 1, .int .u64 3, .int .i64 1] 130)).alloc (.cells #[.int .u64 7, .int .u64 3, .slice (some ⟨w.heap.size + 1 + 1 + 1 + 1, 0, none⟩) 2 2] 126)).alloc (.cells #[.int .u64 2, .int .i64 55, .int .u64 5, .int .i64 1] 130)).alloc (.cells #[.int .u64 5, .int .u64 2, .slice (some ⟨w.heap.size + 1 + 1, 0, none⟩) 1 1, .int .u64 180143985094819841, .int .u64 6, .slice (some ⟨w.heap.size + 1 + 1 + 1 + 1 + 1 + 1, 0, none⟩) 2 2] 126)) = W at *
  have kl := K7.out.cell 3
  go_quiet (fail)
  go_wp2_with fail
  go_ret2
  refine ⟨w.heap.size + 1 + 1 + 1 + 1 + 1 + 1 + 1, rfl, ?_, below_drewN HB.out _⟩
  intro i hi
  have hi' : i = 0 ∨ i = 1 := by simp [known2] at hi; omega
  rcases hi' with rfl | rfl
  · refine ⟨w.heap.size + 1 + 1 + 1 + 1 + 1 + 1 + 1, 0, some ⟨w.heap.size + 1 + 1, 0, none⟩, 1, rfl, K7.out.cell 0, K7.out.cell 1, K7.out.cell 2, by decide, ?_⟩
    intro j hj
    have hj' : j = 0 := by simp [known2] at hj; omega
    subst hj'
    · exact ⟨w.heap.size + 1 + 1, 0, rfl, K2.out.cell 0, K2.out.cell 1⟩
  · refine ⟨w.heap.size + 1 + 1 + 1 + 1 + 1 + 1 + 1, 0, some ⟨w.heap.size + 1 + 1 + 1 + 1 + 1 + 1, 0, none⟩, 2, rfl, K7.out.cell 3, K7.out.cell 4, K7.out.cell 5, by decide, ?_⟩
    intro j hj
    have hj' : j = 0 ∨ j = 1 := by simp [known2] at hj; omega
    rcases hj' with rfl | rfl
    · exact ⟨w.heap.size + 1 + 1 + 1 + 1 + 1 + 1, 0, rfl, K6.out.cell 0, K6.out.cell 1⟩
    · exact ⟨w.heap.size + 1 + 1 + 1 + 1 + 1 + 1, 0, rfl, K6.out.cell 2, K6.out.cell 3⟩
theorem Known_2 (w : World) : Calls Tryz.prog 34 #[.int .i64 2] w fun e w' => ∃ gf, e = .returned (.tuple #[.pointer (some ⟨gf, 0, none⟩), .int .i64 0]) ∧ FB w.heap.size w'.heap.size w' gf 180143985094819841 6 ∧ Below w.heap.size w w' := by
  go_enter Tryz.func34, Tryz.ntmps34
  go_wp2_with fail
  with_reducible refine ((known_2 w)).mono ?_
  rintro e w1 ⟨g, rfl, he, hb⟩
  have C := Lib.hid (show Calls Tryz.prog 22 #[.slice (some ⟨g, 0, none⟩) 2 2, .int .u64 180143985094819841] w1 fun e w' => ∃ gf, e = .returned (.tuple #[.pointer (some ⟨gf, 0, none⟩), .int .i64 0]) ∧ FB w1.heap.size w'.heap.size w' gf 180143985094819841 6 ∧ Below w1.heap.size w1 w' from New_ok (some ⟨g, 0, none⟩) 2 known2 180143985094819841 1 w1 he (by decide) (by decide) oks_known2 check_known2 (by rw [indexOf_at known2 180143985094819841 0 (by decide), if_neg (by decide)]; rw [indexOf_at known2 180143985094819841 1 (by decide), if_pos (by decide)]))
  have HB := Lib.hid hb
  clear hb he
  go_wp2_with fail
  with_reducible refine (C.out).mono ?_
  rintro e w2 ⟨gf, rfl, hf, hb⟩
  have HF := Lib.hid hf
  have HB2 := Lib.hid (below_then HB.out HB.out.size hb)
  clear hf hb
  go_wp2_with fail
  go_ret2
  exact ⟨gf, rfl, ⟨Nat.le_trans HB.out.size HF.out.above, HF.out.under, by
    obtain ⟨gc, h1, h2, h3, h4⟩ := HF.out.mc
    exact ⟨gc, Nat.le_trans HB.out.size h1, h2, h3, h4⟩, HF.out.cp, HF.out.cg⟩, HB2.out⟩
def known3 : List Ent := [⟨3, 2, [⟨2, 1⟩]⟩, ⟨5, 2, [⟨2, 2⟩]⟩, ⟨754974721, 11, [⟨2, 24⟩, ⟨3, 2⟩, ⟨5, 1⟩]⟩]
theorem check_known3 : checkS known3 = (0, 0) := check_ok known3 (by decide) (by decide +kernel) (by decide +kernel)
theorem oks_known3 : Oks known3 := ⟨by decide +kernel, by decide +kernel, by decide⟩
set_option maxRecDepth 100000 in
set_option maxHeartbeats 2000000 in
theorem known_3 (w : World) : Calls Tryz.prog 71 #[.int .i64 3] w fun e w' => ∃ g, e = .returned (.tuple #[.slice (some ⟨g, 0, none⟩) 3 3, .int .u64 754974721]) ∧ EI w' (some ⟨g, 0, none⟩) known3 ∧ Below w.heap.size w w' := by
  have HB := Lib.hid (show Below w.heap.size w ((((((((w.alloc (.cells #[.int .u64 2, .int .i64 1] 130)).alloc (.cells #[.int .u64 3, .int .u64 2, .slice (some ⟨w.heap.size, 0, none⟩) 1 1] 126)).alloc (.cells #[.int .u64 2, .int .i64 2] 130)).alloc (.cells #[.int .u64 5, .int .u64 2, .slice (some ⟨w.heap.size + 1 + 1, 0, none⟩) 1 1] 126)).alloc (.cells #[.int .u64 2, .int .i64 1, .int .u64 3, .int .i64 1] 130)).alloc (.cells #[.int .u64 7, .int .u64 3, .slice (some ⟨w.heap.size + 1 + 1 + 1 + 1, 0, none⟩) 2 2] 126)).alloc (.cells #[.int .u64 2, .int .i64 24, .int .u64 3, .int .i64 2, .int .u64 5, .int .i64 1] 130)).alloc (.cells #[.int .u64 3, .int .u64 2, .slice (some ⟨w.heap.size, 0, none⟩) 1 1, .int .u64 5, .int .u64 2, .slice (some ⟨w.heap.size + 1 + 1, 0, none⟩) 1 1, .int .u64 754974721, .int .u64 11, .slice (some ⟨w.heap.size + 1 + 1 + 1 + 1 + 1 + 1, 0, none⟩) 3 3] 126)) from ((((((((Below.refl w.heap.size w).alloc (by (try simp only [World.size_alloc]); omega) _).alloc (by (try simp only [World.size_alloc]); omega) _).alloc (by (try simp only [World.size_alloc]); omega) _).alloc (by (try simp only [World.size_alloc]); omega) _).alloc (by (try simp only [World.size_alloc]); omega) _).alloc (by (try simp only [World.size_alloc]); omega) _).alloc (by (try simp only [World.size_alloc]); omega) _).alloc (by (try simp only [World.size_alloc]); omega) _)
  have K0 := Lib.hid (show Blk ((((((((w.alloc (.cells #[.int .u64 2, .int .i64 1] 130)).alloc (.cells #[.int .u64 3, .int .u64 2, .slice (some ⟨w.heap.size, 0, none⟩) 1 1] 126)).alloc (.cells #[.int .u64 2, .int .i64 2] 130)).alloc (.cells #[.int .u64 5, .int .u64 2, .slice (some ⟨w.heap.size + 1 + 1, 0, none⟩) 1 1] 126)).alloc (.cells #[.int .u64 2, .int .i64 1, .int .u64 3, .int .i64 1] 130)).alloc (.cells #[.int .u64 7, .int .u64 3, .slice (some ⟨w.heap.size + 1 + 1 + 1 + 1, 0, none⟩) 2 2] 126)).alloc (.cells #[.int .u64 2, .int .i64 24, .int .u64 3, .int .i64 2, .int .u64 5, .int .i64 1] 130)).alloc (.cells #[.int .u64 3, .int .u64 2, .slice (some ⟨w.heap.size, 0, none⟩) 1 1, .int .u64 5, .int .u64 2, .slice (some ⟨w.heap.size + 1 + 1, 0, none⟩) 1 1, .int .u64 754974721, .int .u64 11, .slice (some ⟨w.heap.size + 1 + 1 + 1 + 1 + 1 + 1, 0, none⟩) 3 3] 126)) (w.heap.size) 130 #[.int .u64 2, .int .i64 1] from by
    have h := Blk.new w 130 #[.int .u64 2, .int .i64 1]
    exact (((((((h.alloc _).alloc _).alloc _).alloc _).alloc _).alloc _).alloc _))
  have K2 := Lib.hid (show Blk ((((((((w.alloc (.cells #[.int .u64 2, .int .i64 1] 130)).alloc (.cells #[.int .u64 3, .int .u64 2, .slice (some ⟨w.heap.size, 0, none⟩) 1 1] 126)).alloc (.cells #[.int .u64 2, .int .i64 2] 130)).alloc (.cells #[.int .u64 5, .int .u64 2, .slice (some ⟨w.heap.size + 1 + 1, 0, none⟩) 1 1] 126)).alloc (.cells #[.int .u64 2, .int .i64 1, .int .u64 3, .int .i64 1] 130)).alloc (.cells #[.int .u64 7, .int .u64 3, .slice (some ⟨w.heap.size + 1 + 1 + 1 + 1, 0, none⟩) 2 2] 126)).alloc (.cells #[.int .u64 2, .int .i64 24, .int .u64 3, .int .i64 2, .int .u64 5, .int .i64 1] 130)).alloc (.cells #[.int .u64 3, .int .u64 2, .slice (some ⟨w.heap.size, 0, none⟩) 1 1, .int .u64 5, .int .u64 2, .slice (some ⟨w.heap.size + 1 + 1, 0, none⟩) 1 1, .int .u64 754974721, .int .u64 11, .slice (some ⟨w.heap.size + 1 + 1 + 1 + 1 + 1 + 1, 0, none⟩) 3 3] 126)) (w.heap.size + 1 + 1) 130 #[.int .u64 2, .int .i64 2] from by
    have h := Blk.new ((w.alloc (.cells #[.int .u64 2, .int .i64 1] 130)).alloc (.cells #[.int .u64 3, .int .u64 2, .slice (some ⟨w.heap.size, 0, none⟩) 1 1] 126)) 130 #[.int .u64 2, .int .i64 2]
    simp only [World.size_alloc] at h
    exact (((((h.alloc _).alloc _).alloc _).alloc _).alloc _))
  have K6 := Lib.hid (show Blk ((((((((w.alloc (.cells #[.int .u64 2, .int .i64 1] 130)).alloc (.cells #[.int .u64 3, .int .u64 2, .slice (some ⟨w.heap.size, 0, none⟩) 1 1] 126)).alloc (.cells #[.int .u64 2, .int .i64 2] 130)).alloc (.cells #[.int .u64 5, .int .u64 2, .slice (some ⟨w.heap.size + 1 + 1, 0, none⟩) 1 1] 126)).alloc (.cells #[.int .u64 2, .int .i64 1, .int .u64 3, .int .i64 1] 130)).alloc (.cells #[.int .u64 7, .int .u64 3, .slice (some ⟨w.heap.size + 1 + 1 + 1 + 1, 0, none⟩) 2 2] 126)).alloc (.cells #[.int .u64 2, .int .i64 24, .int .u64 3, .int .i64 2, .int .u64 5, .int .i64 1] 130)).alloc (.cells #[.int .u64 3, .int .u64 2, .slice (some ⟨w.heap.size, 0, none⟩) 1 1, .int .u64 5, .int .u64 2, .slice (some ⟨w.heap.size + 1 + 1, 0, none⟩) 1 1, .int .u64 754974721, .int .u64 11, .slice (some ⟨w.heap.size + 1 + 1 + 1 + 1 + 1 + 1, 0, none⟩) 3 3] 126)) (w.heap.size + 1 + 1 + 1 + 1 + 1 + 1) 130 #[.int .u64 2, .int .i64 24, .int .u64 3, .int .i64 2, .int .u64 5, .int .i64 1] from by
    have h := Blk.new ((((((w.alloc (.cells #[.int .u64 2, .int .i64 1] 130)).alloc (.cells #[.int .u64 3, .int .u64 2, .slice (some ⟨w.heap.size, 0, none⟩) 1 1] 126)).alloc (.cells #[.int .u64 2, .int .i64 2] 130)).alloc (.cells #[.int .u64 5, .int .u64 2, .slice (some ⟨w.heap.size + 1 + 1, 0, none⟩) 1 1] 126)).alloc (.cells #[.int .u64 2, .int .i64 1, .int .u64 3, .int .i64 1] 130)).alloc (.cells #[.int .u64 7, .int .u64 3, .slice (some ⟨w.heap.size + 1 + 1 + 1 + 1, 0, none⟩) 2 2] 126)) 130 #[.int .u64 2, .int .i64 24, .int .u64 3, .int .i64 2, .int .u64 5, .int .i64 1]
    simp only [World.size_alloc] at h
    exact (h.alloc _))
  have K7 := Lib.hid (show Blk ((((((((w.alloc (.cells #[.int .u64 2, .int .i64 1] 130)).alloc (.cells #[.int .u64 3, .int .u64 2, .slice (some ⟨w.heap.size, 0, none⟩) 1 1] 126)).alloc (.cells #[.int .u64 2, .int .i64 2] 130)).alloc (.cells #[.int .u64 5, .int .u64 2, .slice (some ⟨w.heap.size + 1 + 1, 0, none⟩) 1 1] 126)).alloc (.cells #[.int .u64 2, .int .i64 1, .int .u64 3, .int .i64 1] 130)).alloc (.cells #[.int .u64 7, .int .u64 3, .slice (some ⟨w.heap.size + 1 + 1 + 1 + 1, 0, none⟩) 2 2] 126)).alloc (.cells #[.int .u64 2, .int .i64 24, .int .u64 3, .int .i64 2, .int .u64 5, .int .i64 1] 130)).alloc (.cells #[.int .u64 3, .int .u64 2, .slice (some ⟨w.heap.size, 0, none⟩) 1 1, .int .u64 5, .int .u64 2, .slice (some ⟨w.heap.size + 1 + 1, 0, none⟩) 1 1, .int .u64 754974721, .int .u64 11, .slice (some ⟨w.heap.size + 1 + 1 + 1 + 1 + 1 + 1, 0, none⟩) 3 3] 126)) (w.heap.size + 1 + 1 + 1 + 1 + 1 + 1 + 1) 126 #[.int .u64 3, .int .u64 2, .slice (some ⟨w.heap.size, 0, none⟩) 1 1, .int .u64 5, .int .u64 2, .slice (some ⟨w.heap.size + 1 + 1, 0, none⟩) 1 1, .int .u64 754974721, .int .u64 11, .slice (some ⟨w.heap.size + 1 + 1 + 1 + 1 + 1 + 1, 0, none⟩) 3 3] from by
    have h := Blk.new (((((((w.alloc (.cells #[.int .u64 2, .int .i64 1] 130)).alloc (.cells #[.int .u64 3, .int .u64 2, .slice (some ⟨w.heap.size, 0, none⟩) 1 1] 126)).alloc (.cells #[.int .u64 2, .int .i64 2] 130)).alloc (.cells #[.int .u64 5, .int .u64 2, .slice (some ⟨w.heap.size + 1 + 1, 0, none⟩) 1 1] 126)).alloc (.cells #[.int .u64 2, .int .i64 1, .int .u64 3, .int .i64 1] 130)).alloc (.cells #[.int .u64 7, .int .u64 3, .slice (some ⟨w.heap.size + 1 + 1 + 1 + 1, 0, none⟩) 2 2] 126)).alloc (.cells #[.int .u64 2, .int .i64 24, .int .u64 3, .int .i64 2, .int .u64 5, .int .i64 1] 130)) 126 #[.int .u64 3, .int .u64 2, .slice (some ⟨w.heap.size, 0, none⟩) 1 1, .int .u64 5, .int .u64 2, .slice (some ⟨w.heap.size + 1 + 1, 0, none⟩) 1 1, .int .u64 754974721, .int .u64 11, .slice (some ⟨w.heap.size + 1 + 1 + 1 + 1 + 1 + 1, 0, none⟩) 3 3]
    simp only [World.size_alloc] at h
    exact h)
  go_enter Tryz.func71, Tryz.ntmps71
  go_upto_region 20 with fail
  generalize ((((((((w.alloc (.cells #[.int .u64 2, .int .i64 1] 130)).alloc (.cells #[.int .u64 3, .int .u64 2, .slice (some ⟨w.heap.size, 0, none⟩) 1 1] 126)).alloc (.cells #[.int .u64 2, .int .i64 2] 130)).alloc (.cells #[.int .u64 5, .int .u64 2, .slice (some ⟨w.heap.size + 1 + 1, 0, none⟩) 1 1] 126)).alloc (.cells #[.int .u64 2, .int .i64 1, .int .u64 3, .int .i64 1] 130)).alloc (.cells #[.int .u64 7, .int .u64 3, .slice (some ⟨w.heap.size + 1 + 1 + 1 + 1, 0, none⟩) 2 2] 126)).alloc (.cells #[.int .u64 2, .int .i64 24, .int .u64 3, .int .i64 2, .int .u64 5, .int .i64 1] 130)).alloc (.cells #[.int .u64 3, .int .u64 2, .slice (some ⟨w.heap.size, 0, none⟩) 1 1, .int .u64 5, .int .u64 2, .slice (some ⟨w.heap.size + 1 + 1, 0, none⟩) 1 1, .int .u64 754974721, .int .u64 11, .slice (some ⟨w.heap.size + 1 + 1 + 1 + 1 + 1 + 1, 0, none⟩) 3 3] 126)) = W at *
  have kl := K7.out.cell 6
  go_quiet (fail)
  go_wp2_with fail
  go_ret2
  refine ⟨w.heap.size + 1 + 1 + 1 + 1 + 1 + 1 + 1, rfl, ?_, below_drewN HB.out _⟩
  intro i hi
  have hi' : i = 0 ∨ i = 1 ∨ i = 2 := by simp [known3] at hi; omega
  rcases hi' with rfl | rfl | rfl
  · refine ⟨w.heap.size + 1 + 1 + 1 + 1 + 1 + 1 + 1, 0, some ⟨w.heap.size, 0, none⟩, 1, rfl, K7.out.cell 0, K7.out.cell 1, K7.out.cell 2, by decide, ?_⟩
    intro j hj
    have hj' : j = 0 := by simp [known3] at hj; omega
    subst hj'
    · exact ⟨w.heap.size, 0, rfl, K0.out.cell 0, K0.out.cell 1⟩
  · refine ⟨w.heap.size + 1 + 1 + 1 + 1 + 1 + 1 + 1, 0, some ⟨w.heap.size + 1 + 1, 0, none⟩, 1, rfl, K7.out.cell 3, K7.out.cell 4, K7.out.cell 5, by decide, ?_⟩
    intro j hj
    have hj' : j = 0 := by simp [known3] at hj; omega
    subst hj'
    · exact ⟨w.heap.size + 1 + 1, 0, rfl, K2.out.cell 0, K2.out.cell 1⟩
  · refine ⟨w.heap.size + 1 + 1 + 1 + 1 + 1 + 1 + 1, 0, some ⟨w.heap.size + 1 + 1 + 1 + 1 + 1 + 1, 0, none⟩, 3, rfl, K7.out.cell 6, K7.out.cell 7, K7.out.cell 8, by decide, ?_⟩
    intro j hj
    have hj' : j = 0 ∨ j = 1 ∨ j = 2 := by simp [known3] at hj; omega
    rcases hj' with rfl | rfl | rfl
    · exact ⟨w.heap.size + 1 + 1 + 1 + 1 + 1 + 1, 0, rfl, K6.out.cell 0, K6.out.cell 1⟩
    · exact ⟨w.heap.size + 1 + 1 + 1 + 1 + 1 + 1, 0, rfl, K6.out.cell 2, K6.out.cell 3⟩
    · exact ⟨w.heap.size + 1 + 1 + 1 + 1 + 1 + 1, 0, rfl, K6.out.cell 4, K6.out.cell 5⟩
theorem Known_3 (w : World) : Calls Tryz.prog 34 #[.int .i64 3] w fun e w' => ∃ gf, e = .returned (.tuple #[.pointer (some ⟨gf, 0, none⟩), .int .i64 0]) ∧ FB w.heap.size w'.heap.size w' gf 754974721 11 ∧ Below w.heap.size w w' := by
  go_enter Tryz.func34, Tryz.ntmps34
  go_wp2_with fail
  with_reducible refine ((known_3 w)).mono ?_
  rintro e w1 ⟨g, rfl, he, hb⟩
  have C := Lib.hid (show Calls Tryz.prog 22 #[.slice (some ⟨g, 0, none⟩) 3 3, .int .u64 754974721] w1 fun e w' => ∃ gf, e = .returned (.tuple #[.pointer (some ⟨gf, 0, none⟩), .int .i64 0]) ∧ FB w1.heap.size w'.heap.size w' gf 754974721 11 ∧ Below w1.heap.size w1 w' from New_ok (some ⟨g, 0, none⟩) 3 known3 754974721 2 w1 he (by decide) (by decide) oks_known3 check_known3 (by rw [indexOf_at known3 754974721 0 (by decide), if_neg (by decide)]; rw [indexOf_at known3 754974721 1 (by decide), if_neg (by decide)]; rw [indexOf_at known3 754974721 2 (by decide), if_pos (by decide)]))
  have HB := Lib.hid hb
  clear hb he
  go_wp2_with fail
  with_reducible refine (C.out).mono ?_
  rintro e w2 ⟨gf, rfl, hf, hb⟩
  have HF := Lib.hid hf
  have HB2 := Lib.hid (below_then HB.out HB.out.size hb)
  clear hf hb
  go_wp2_with fail
  go_ret2
  exact ⟨gf, rfl, ⟨Nat.le_trans HB.out.size HF.out.above, HF.out.under, by
    obtain ⟨gc, h1, h2, h3, h4⟩ := HF.out.mc
    exact ⟨gc, Nat.le_trans HB.out.size h1, h2, h3, h4⟩, HF.out.cp, HF.out.cg⟩, HB2.out⟩
def known4 : List Ent := [⟨3, 2, [⟨2, 1⟩]⟩, ⟨7, 3, [⟨2, 1⟩, ⟨3, 1⟩]⟩, ⟨469762049, 3, [⟨2, 26⟩, ⟨7, 1⟩]⟩]
theorem check_known4 : checkS known4 = (0, 0) := check_ok known4 (by decide) (by decide +kernel) (by decide +kernel)
theorem oks_known4 : Oks known4 := ⟨by decide +kernel, by decide +kernel, by decide⟩
set_option maxRecDepth 100000 in
set_option maxHeartbeats 2000000 in
theorem known_4 (w : World) : Calls Tryz.prog 71 #[.int .i64 4] w fun e w' => ∃ g, e = .returned (.tuple #[.slice (some ⟨g, 0, none⟩) 3 3, .int .u64 469762049]) ∧ EI w' (some ⟨g, 0, none⟩) known4 ∧ Below w.heap.size w w' := by
  have HB := Lib.hid (show Below w.heap.size w ((((((((w.alloc (.cells #[.int .u64 2, .int .i64 1] 130)).alloc (.cells #[.int .u64 3, .int .u64 2, .slice (some ⟨w.heap.size, 0, none⟩) 1 1] 126)).alloc (.cells #[.int .u64 2, .int .i64 2] 130)).alloc (.cells #[.int .u64 5, .int .u64 2, .slice (some ⟨w.heap.size + 1 + 1, 0, none⟩) 1 1] 126)).alloc (.cells #[.int .u64 2, .int .i64 1, .int .u64 3, .int .i64 1] 130)).alloc (.cells #[.int .u64 7, .int .u64 3, .slice (some ⟨w.heap.size + 1 + 1 + 1 + 1, 0, none⟩) 2 2] 126)).alloc (.cells #[.int .u64 2, .int .i64 26, .int .u64 7, .int .i64 1] 130)).alloc (.cells #[.int .u64 3, .int .u64 2, .slice (some ⟨w.heap.size, 0, none⟩) 1 1, .int .u64 7, .int .u64 3, .slice (some ⟨w.heap.size + 1 + 1 + 1 + 1, 0, none⟩) 2 2, .int .u64 469762049, .int .u64 3, .slice (some ⟨w.heap.size + 1 + 1 + 1 + 1 + 1 + 1, 0, none⟩) 2 2] 126)) from ((((((((Below.refl w.heap.size w).alloc (by (try simp only [World.size_alloc]); omega) _).alloc (by (try simp only [World.size_alloc]); omega) _).alloc (by (try simp only [World.size_alloc]); omega) _).alloc (by (try simp only [World.size_alloc]); omega) _).alloc (by (try simp only [World.size_alloc]); omega) _).alloc (by (try simp only [World.size_alloc]); omega) _).alloc (by (try simp only [World.size_alloc]); omega) _).alloc (by (try simp only [World.size_alloc]); omega) _)
  have K0 := Lib.hid (show Blk ((((((((w.alloc (.cells #[.int .u64 2, .int .i64 1] 130)).alloc (.cells #[.int .u64 3, .int .u64 2, .slice (some ⟨w.heap.size, 0, none⟩) 1 1] 126)).alloc (.cells #[.int .u64 2, .int .i64 2] 130)).alloc (.cells #[.int .u64 5, .int .u64 2, .slice (some ⟨w.heap.size + 1 + 1, 0, none⟩) 1 1] 126)).alloc (.cells #[.int .u64 2, .int .i64 1, .int .u64 3, .int .i64 1] 130)).alloc (.cells #[.int .u64 7, .int .u64 3, .slice (some ⟨w.heap.size + 1 + 1 + 1 + 1, 0, none⟩) 2 2] 126)).alloc (.cells #[.int .u64 2, .int .i64 26, .int .u64 7, .int .i64 1] 130)).alloc (.cells #[.int .u64 3, .int .u64 2, .slice (some ⟨w.heap.size, 0, none⟩) 1 1, .int .u64 7, .int .u64 3, .slice (some ⟨w.heap.size + 1 + 1 + 1 + 1, 0, none⟩) 2 2, .int .u64 469762049, .int .u64 3, .slice (some ⟨w.heap.size + 1 + 1 + 1 + 1 + 1 + 1, 0, none⟩) 2 2] 126)) (w.heap.size) 130 #[.int .u64 2, .int .i64 1] from by
    have h := Blk.new w 130 #[.int .u64 2, .int .i64 1]
    exact (((((((h.alloc _).alloc _).alloc _).alloc _).alloc _).alloc _).alloc _))
  have K4 := Lib.hid (show Blk ((((((((w.alloc (.cells #[.int .u64 2, .int .i64 1] 130)).alloc (.cells #[.int .u64 3, .int .u64 2, .slice (some ⟨w.heap.size, 0, none⟩) 1 1] 126)).alloc (.cells #[.int .u64 2, .int .i64 2] 130)).alloc (.cells #[.int .u64 5, .int .u64 2, .slice (some ⟨w.heap.size + 1 + 1, 0, none⟩) 1 1] 126)).alloc (.cells #[.int .u64 2, .int .i64 1, .int .u64 3, .int .i64 1] 130)).alloc (.cells #[.int .u64 7, .int .u64 3, .slice (some ⟨w.heap.size + 1 + 1 + 1 + 1, 0, none⟩) 2 2] 126)).alloc (.cells #[.int .u64 2, .int .i64 26, .int .u64 7, .int .i64 1] 130)).alloc (.cells #[.int .u64 3, .int .u64 2, .slice (some ⟨w.heap.size, 0, none⟩) 1 1, .int .u64 7, .int .u64 3, .slice (some ⟨w.heap.size + 1 + 1 + 1 + 1, 0, none⟩) 2 2, .int .u64 469762049, .int .u64 3, .slice (some ⟨w.heap.size + 1 + 1 + 1 + 1 + 1 + 1, 0, none⟩) 2 2] 126)) (w.heap.size + 1 + 1 + 1 + 1) 130 #[.int .u64 2, .int .i64 1, .int .u64 3, .int .i64 1] from by
    have h := Blk.new ((((w.alloc (.cells #[.int .u64 2, .int .i64 1] 130)).alloc (.cells #[.int .u64 3, .int .u64 2, .slice (some ⟨w.heap.size, 0, none⟩) 1 1] 126)).alloc (.cells #[.int .u64 2, .int .i64 2] 130)).alloc (.cells #[.int .u64 5, .int .u64 2, .slice (some ⟨w.heap.size + 1 + 1, 0, none⟩) 1 1] 126)) 130 #[.int .u64 2, .int .i64 1, .int .u64 3, .int .i64 1]
    simp only [World.size_alloc] at h
    exact (((h.alloc _).alloc _).alloc _))
  have K6 := Lib.hid (show Blk ((((((((w.alloc (.cells #[.int .u64 2, .int .i64 1] 130)).alloc (.cells #[.int .u64 3, .int .u64 2, .slice (some ⟨w.heap.size, 0, none⟩) 1 1] 126)).alloc (.cells #[.int .u64 2, .int .i64 2] 130)).alloc (.cells #[.int .u64 5, .int .u64 2, .slice (some ⟨w.heap.size + 1 + 1, 0, none⟩) 1 1] 126)).alloc (.cells #[.int .u64 2, .int .i64 1, .int .u64 3, .int .i64 1] 130)).alloc (.cells #[.int .u64 7, .int .u64 3, .slice (some ⟨w.heap.size + 1 + 1 + 1 + 1, 0, none⟩) 2 2] 126)).alloc (.cells #[.int .u64 2, .int .i64 26, .int .u64 7, .int .i64 1] 130)).alloc (.cells #[.int .u64 3, .int .u64 2, .slice (some ⟨w.heap.size, 0, none⟩) 1 1, .int .u64 7, .int .u64 3, .slice (some ⟨w.heap.size + 1 + 1 + 1 + 1, 0, none⟩) 2 2, .int .u64 469762049, .int .u64 3, .slice (some ⟨w.heap.size + 1 + 1 + 1 + 1 + 1 + 1, 0, none⟩) 2 2] 126)) (w.heap.size + 1 + 1 + 1 + 1 + 1 + 1) 130 #[.int .u64 2, .int .i64 26, .int .u64 7, .int .i64 1] from by
    have h := Blk.new ((((((w.alloc (.cells #[.int .u64 2, .int .i64 1] 130)).alloc (.cells #[.int .u64 3, .int .u64 2, .slice (some ⟨w.heap.size, 0, none⟩) 1 1] 126)).alloc (.cells #[.int .u64 2, .int .i64 2] 130)).alloc (.cells #[.int .u64 5, .int .u64 2, .slice (some ⟨w.heap.size + 1 + 1, 0, none⟩) 1 1] 126)).alloc (.cells #[.int .u64 2, .int .i64 1, .int .u64 3, .int .i64 1] 130)).alloc (.cells #[.int .u64 7, .int .u64 3, .slice (some ⟨w.heap.size + 1 + 1 + 1 + 1, 0, none⟩) 2 2] 126)) 130 #[.int .u64 2, .int .i64 26, .int .u64 7, .int .i64 1]
    simp only [World.size_alloc] at h
    exact (h.alloc _))
  have K7 := Lib.hid (show Blk ((((((((w.alloc (.cells #[.int .u64 2, .int .i64 1] 130)).alloc (.cells #[.int .u64 3, .int .u64 2, .slice (some ⟨w.heap.size, 0, none⟩) 1 1] 126)).alloc (.cells #[.int .u64 2, .int .i64 2] 130)).alloc (.cells #[.int .u64 5, .int .u64 2, .slice (some ⟨w.heap.size + 1 + 1, 0, none⟩) 1 1] 126)).alloc (.cells #[.int .u64 2, .int .i64 1, .int .u64 3, .int .i64 1] 130)).alloc (.cells #[.int .u64 7, .int .u64 3, .slice (some ⟨w.heap.size + 1 + 1 + 1 + 1, 0, none⟩) 2 2] 126)).alloc (.cells #[.int .u64 2, .int .i64 26, .int .u64 7, .int .i64 1] 130)).alloc (.cells #[.int .u64 3, .int .u64 2, .slice (some ⟨w.heap.size, 0, none⟩) 1 1, .int .u64 7, .int .u64 3, .slice (some ⟨w.heap.size + 1 + 1 + 1 + 1, 0, none⟩) 2 2, .int .u64 469762049, .int .u64 3, .slice (some ⟨w.heap.size + 1 + 1 + 1 + 1 + 1 + 1, 0, none⟩) 2 2] 126)) (w.heap.size + 1 + 1 + 1 + 1 + 1 + 1 + 1) 126 #[.int .u64 3, .int .u64 2, .slice (some ⟨w.heap.size, 0, none⟩) 1 1, .int .u64 7, .int .u64 3, .slice (some ⟨w.heap.size + 1 + 1 + 1 + 1, 0, none⟩) 2 2, .int .u64 469762049, .int .u64 3, .slice (some ⟨w.heap.size + 1 + 1 + 1 + 1 + 1 + 1, 0, none⟩) 2 2] from by
    have h := Blk.new (((((((w.alloc (.cells #[.int .u64 2, .int .i64 1] 130)).alloc (.cells #[.int .u64 3, .int .u64 2, .slice (some ⟨w.heap.size, 0, none⟩) 1 1] 126)).alloc (.cells #[.int .u64 2, .int .i64 2] 130)).alloc (.cells #[.int .u64 5, .int .u64 2, .slice (some ⟨w.heap.size + 1 + 1, 0, none⟩) 1 1] 126)).alloc (.cells #[.int .u64 2, .int .i64 1, .int .u64 3, .int .i64 1] 130)).alloc (.cells #[.int .u64 7, .int .u64 3, .slice (some ⟨w.heap.size + 1 + 1 + 1 + 1, 0, none⟩) 2 2] 126)).alloc (.cells #[.int .u64 2, .int .i64 26, .int .u64 7, .int .i64 1] 130)) 126 #[.int .u64 3, .int .u64 2, .slice (some ⟨w.heap.size, 0, none⟩) 1 1, .int .u64 7, .int .u64 3, .slice (some ⟨w.heap.size + 1 + 1 + 1 + 1, 0, none⟩) 2 2, .int .u64 469762049, .int .u64 3, .slice (some ⟨w.heap.size + 1 + 1 + 1 + 1 + 1 + 1, 0, none⟩) 2 2]
    simp only [World.size_alloc] at h
    exact h)
  go_enter Tryz.func71, Tryz.ntmps71
  go_upto_region 20 with fail
  generalize ((((((((w.alloc (.cells #[.int .u64 2, .int .i64 1] 130)).alloc (.cells #[.int .u64 3, .int .u64 2, .slice (some ⟨w.heap.size, 0, none⟩) 1 1] 126)).alloc (.cells #[.int .u64 2, .int .i64 2] 130)).alloc (.cells #[.int .u64 5, .int .u64 2, .slice (some ⟨w.heap.size + 1 + 1, 0, none⟩) 1 1] 126)).alloc (.cells #[.int .u64 2, .int .i64 1, .int .u64 3, .int .i64 1] 130)).alloc (.cells #[.int .u64 7, .int .u64 3, .slice (some ⟨w.heap.size + 1 + 1 + 1 + 1, 0, none⟩) 2 2] 126)).alloc (.cells #[.int .u64 2, .int .i64 26, .int .u64 7, .int .i64 1] 130)).alloc (.cells #[.int .u64 3, .int .u64 2, .slice (some ⟨w.heap.size, 0, none⟩) 1 1, .int .u64 7, .int .u64 3, .slice (some ⟨w.heap.size + 1 + 1 + 1 + 1, 0, none⟩) 2 2, .int .u64 469762049, .int .u64 3, .slice (some ⟨w.heap.size + 1 + 1 + 1 + 1 + 1 + 1, 0, none⟩) 2 2] 126)) = W at *
  have kl := K7.out.cell 6
  go_quiet (fail)
  go_wp2_with fail
  go_ret2
  refine ⟨w.heap.size + 1 + 1 + 1 + 1 + 1 + 1 + 1, rfl, ?_, below_drewN HB.out _⟩
  intro i hi
  have hi' : i = 0 ∨ i = 1 ∨ i = 2 := by simp [known4] at hi; omega
  rcases hi' with rfl | rfl | rfl
  · refine ⟨w.heap.size + 1 + 1 + 1 + 1 + 1 + 1 + 1, 0, some ⟨w.heap.size, 0, none⟩, 1, rfl, K7.out.cell 0, K7.out.cell 1, K7.out.cell 2, by decide, ?_⟩
    intro j hj
    have hj' : j = 0 := by simp [known4] at hj; omega
    subst hj'
    · exact ⟨w.heap.size, 0, rfl, K0.out.cell 0, K0.out.cell 1⟩
  · refine ⟨w.heap.size + 1 + 1 + 1 + 1 + 1 + 1 + 1, 0, some ⟨w.heap.size + 1 + 1 + 1 + 1, 0, none⟩, 2, rfl, K7.out.cell 3, K7.out.cell 4, K7.out.cell 5, by decide, ?_⟩
    intro j hj
    have hj' : j = 0 ∨ j = 1 := by simp [known4] at hj; omega
    rcases hj' with rfl | rfl
    · exact ⟨w.heap.size + 1 + 1 + 1 + 1, 0, rfl, K4.out.cell 0, K4.out.cell 1⟩
    · exact ⟨w.heap.size + 1 + 1 + 1 + 1, 0, rfl, K4.out.cell 2, K4.out.cell 3⟩
  · refine ⟨w.heap.size + 1 + 1 + 1 + 1 + 1 + 1 + 1, 0, some ⟨w.heap.size + 1 + 1 + 1 + 1 + 1 + 1, 0, none⟩, 2, rfl, K7.out.cell 6, K7.out.cell 7, K7.out.cell 8, by decide, ?_⟩
    intro j hj
    have hj' : j = 0 ∨ j = 1 := by simp [known4] at hj; omega
    rcases hj' with rfl | rfl
    · exact ⟨w.heap.size + 1 + 1 + 1 + 1 + 1 + 1, 0, rfl, K6.out.cell 0, K6.out.cell 1⟩
    · exact ⟨w.heap.size + 1 + 1 + 1 + 1 + 1 + 1, 0, rfl, K6.out.cell 2, K6.out.cell 3⟩
theorem Known_4 (w : World) : Calls Tryz.prog 34 #[.int .i64 4] w fun e w' => ∃ gf, e = .returned (.tuple #[.pointer (some ⟨gf, 0, none⟩), .int .i64 0]) ∧ FB w.heap.size w'.heap.size w' gf 469762049 3 ∧ Below w.heap.size w w' := by
  go_enter Tryz.func34, Tryz.ntmps34
  go_wp2_with fail
  with_reducible refine ((known_4 w)).mono ?_
  rintro e w1 ⟨g, rfl, he, hb⟩
  have C := Lib.hid (show Calls Tryz.prog 22 #[.slice (some ⟨g, 0, none⟩) 3 3, .int .u64 469762049] w1 fun e w' => ∃ gf, e = .returned (.tuple #[.pointer (some ⟨gf, 0, none⟩), .int .i64 0]) ∧ FB w1.heap.size w'.heap.size w' gf 469762049 3 ∧ Below w1.heap.size w1 w' from New_ok (some ⟨g, 0, none⟩) 3 known4 469762049 2 w1 he (by decide) (by decide) oks_known4 check_known4 (by rw [indexOf_at known4 469762049 0 (by decide), if_neg (by decide)]; rw [indexOf_at known4 469762049 1 (by decide), if_neg (by decide)]; rw [indexOf_at known4 469762049 2 (by decide), if_pos (by decide)]))
  have HB := Lib.hid hb
  clear hb he
  go_wp2_with fail
  with_reducible refine (C.out).mono ?_
  rintro e w2 ⟨gf, rfl, hf, hb⟩
  have HF := Lib.hid hf
  have HB2 := Lib.hid (below_then HB.out HB.out.size hb)
  clear hf hb
  go_wp2_with fail
  go_ret2
  exact ⟨gf, rfl, ⟨Nat.le_trans HB.out.size HF.out.above, HF.out.under, by
    obtain ⟨gc, h1, h2, h3, h4⟩ := HF.out.mc
    exact ⟨gc, Nat.le_trans HB.out.size h1, h2, h3, h4⟩, HF.out.cp, HF.out.cg⟩, HB2.out⟩
def known5 : List Ent := [⟨5, 2, [⟨2, 2⟩]⟩, ⟨167772161, 3, [⟨2, 25⟩, ⟨5, 1⟩]⟩]
theorem check_known5 : checkS known5 = (0, 0) := check_ok known5 (by decide) (by decide +kernel) (by decide +kernel)
theorem oks_known5 : Oks known5 := ⟨by decide +kernel, by decide +kernel, by decide⟩
set_option maxRecDepth 100000 in
set_option maxHeartbeats 2000000 in
theorem known_5 (w : World) : Calls Tryz.prog 71 #[.int .i64 5] w fun e w' => ∃ g, e = .returned (.tuple #[.slice (some ⟨g, 0, none⟩) 2 2, .int .u64 167772161]) ∧ EI w' (some ⟨g, 0, none⟩) known5 ∧ Below w.heap.size w w' := by
  have HB := Lib.hid (show Below w.heap.size w ((((((((w.alloc (.cells #[.int .u64 2, .int .i64 1] 130)).alloc (.cells #[.int .u64 3, .int .u64 2, .slice (some ⟨w.heap.size, 0, none⟩) 1 1] 126)).alloc (.cells #[.int .u64 2, .int .i64 2] 130)).alloc (.cells #[.int .u64 5, .int .u64 2, .slice (some ⟨w.heap.size + 1 + 1, 0, none⟩) 1 1] 126)).alloc (.cells #[.int .u64 2, .int .i64 1, .int .u64 3, .int .i64 1] 130)).alloc (.cells #[.int .u64 7, .int .u64 3, .slice (some ⟨w.heap.size + 1 + 1 + 1 + 1, 0, none⟩) 2 2] 126)).alloc (.cells #[.int .u64 2, .int .i64 25, .int .u64 5, .int .i64 1] 130)).alloc (.cells #[.int .u64 5, .int .u64 2, .slice (some ⟨w.heap.size + 1 + 1, 0, none⟩) 1 1, .int .u64 167772161, .int .u64 3, .slice (some ⟨w.heap.size + 1 + 1 + 1 + 1 + 1 + 1, 0, none⟩) 2 2] 126)) from ((((((((Below.refl w.heap.size w).alloc (by (try simp only [World.size_alloc]); omega) _).alloc (by (try simp only [World.size_alloc]); omega) _).alloc (by (try simp only [World.size_alloc]); omega) _).alloc (by (try simp only [World.size_alloc]); omega) _).alloc (by (try simp only [World.size_alloc]); omega) _).alloc (by (try simp only [World.size_alloc]); omega) _).alloc (by (try simp only [World.size_alloc]); omega) _).alloc (by (try simp only [World.size_alloc]); omega) _)
  have K2 := Lib.hid (show Blk ((((((((w.alloc (.cells #[.int .u64 2, .int .i64 1] 130)).alloc (.cells #[.int .u64 3, .int .u64 2, .slice (some ⟨w.heap.size, 0, none⟩) 1 1] 126)).alloc (.cells #[.int .u64 2, .int .i64 2] 130)).alloc (.cells #[.int .u64 5, .int .u64 2, .slice (some ⟨w.heap.size + 1 + 1, 0, none⟩) 1 1] 126)).alloc (.cells #[.int .u64 2, .int .i64 1, .int .u64 3, .int .i64 1] 130)).alloc (.cells #[.int .u64 7, .int .u64 3, .slice (some ⟨w.heap.size + 1 + 1 + 1 + 1, 0, none⟩) 2 2] 126)).alloc (.cells #[.int .u64 2, .int .i64 25, .int .u64 5, .int .i64 1] 130)).alloc (.cells #[.int .u64 5, .int .u64 2, .slice (some ⟨w.heap.size + 1 + 1, 0, none⟩) 1 1, .int .u64 167772161, .int .u64 3, .slice (some ⟨w.heap.size + 1 + 1 + 1 + 1 + 1 + 1, 0, none⟩) 2 2] 126)) (w.heap.size + 1 + 1) 130 #[.int .u64 2, .int .i64 2] from by
    have h := Blk.new ((w.alloc (.cells #[.int .u64 2, .int .i64 1] 130)).alloc (.cells #[.int .u64 3, .int .u64 2, .slice (some ⟨w.heap.size, 0, none⟩) 1 1] 126)) 130 #[.int .u64 2, .int .i64 2]
    simp only [World.size_alloc] at h
    exact (((((h.alloc _).alloc _).alloc _).alloc _).alloc _))
  have K6 := Lib.hid (show Blk ((((((((w.alloc (.cells #[.int .u64 2, .int .i64 1] 130)).alloc (.cells #[.int .u64 3, .int .u64 2, .slice (some ⟨w.heap.size, 0, none⟩) 1 1] 126)).alloc (.cells #[.int .u64 2, .int .i64 2] 130)).alloc (.cells #[.int .u64 5, .int .u64 2, .slice (some ⟨w.heap.size + 1 + 1, 0, none⟩) 1 1] 126)).alloc (.cells #[.int .u64 2, .int .i64 1, .int .u64 3, .int .i64 1] 130)).alloc (.cells #[.int .u64 7, .int .u64 3, .slice (some ⟨w.heap.size + 1 + 1 + 1 + 1, 0, none⟩) 2 2] 126)).alloc (.cells #[.int .u64 2, .int .i64 25, .int .u64 5, .int .i64 1] 130)).alloc (.cells #[.int .u64 5, .int .u64 2, .slice (some ⟨w.heap.size + 1 + 1, 0, none⟩) 1 1, .int .u64 167772161, .int .u64 3, .slice (some ⟨w.heap.size + 1 + 1 + 1 + 1 + 1 + 1, 0, none⟩) 2 2] 126)) (w.heap.size + 1 + 1 + 1 + 1 + 1 + 1) 130 #[.int .u64 2, .int .i64 25, .int .u64 5, .int .i64 1] from by
    have h := Blk.new ((((((w.alloc (.cells #[.int .u64 2, .int .i64 1] 130)).alloc (.cells #[.int .u64 3, .int .u64 2, .slice (some ⟨w.heap.size, 0, none⟩) 1 1] 126)).alloc (.cells #[.int .u64 2, .int .i64 2] 130)).alloc (.cells #[.int .u64 5, .int .u64 2, .slice (some ⟨w.heap.size + 1 + 1, 0, none⟩) 1 1] 126)).alloc (.cells #[.int .u64 2, .int .i64 1, .int .u64 3, .int .i64 1] 130)).alloc (.cells #[.int .u64 7, .int .u64 3, .slice (some ⟨w.heap.size + 1 + 1 + 1 + 1, 0, none⟩) 2 2] 126)) 130 #[.int .u64 2, .int .i64 25, .int .u64 5, .int .i64 1]
    simp only [World.size_alloc] at h
    exact (h.alloc _))
  have K7 := Lib.hid (show Blk ((((((((w.alloc (.cells #[.int .u64 2, .int .i64 1] 130)).alloc (.cells #[.int .u64 3, .int .u64 2, .slice (some ⟨w.heap.size, 0, none⟩) 1 1] 126)).alloc (.cells #[.int .u64 2, .int .i64 2] 130)).alloc (.cells #[.int .u64 5, .int .u64 2, .slice (some ⟨w.heap.size + 1 + 1, 0, none⟩) 1 1] 126)).alloc (.cells #[.int .u64 2, .int .i64 1, .int .u64 3, .int .i64 1] 130)).alloc (.cells #[.int .u64 7, .int .u64 3, .slice (some ⟨w.heap.size + 1 + 1 + 1 + 1, 0, none⟩) 2 2] 126)).alloc (.cells #[.int .u64 2, .int .i64 25, .int .u64 5, .int .i64 1] 130)).alloc (.cells #[.int .u64 5, .int .u64 2, .slice (some ⟨w.heap.size + 1 + 1, 0, none⟩) 1 1, .int .u64 167772161, .int .u64 3, .slice (some ⟨w.heap.size + 1 + 1 + 1 + 1 + 1 + 1, 0, none⟩) 2 2] 126)) (w.heap.size + 1 + 1 + 1 + 1 + 1 + 1 + 1) 126 #[.int .u64 5, .int .u64 2, .slice (some ⟨w.heap.size + 1 + 1, 0, none⟩) 1 1, .int .u64 167772161, .int .u64 3, .slice (some ⟨w.heap.size + 1 + 1 + 1 + 1 + 1 + 1, 0, none⟩) 2 2] from by
    have h := Blk.new (((((((w.alloc (.cells #[.int .u64 2, .int .i64 1] 130)).alloc (.cells #[.int .u64 3, .int .u64 2, .slice (some ⟨w.heap.size, 0, none⟩) 1 1] 126)).alloc (.cells #[.int .u64 2, .int .i64 2] 130)).alloc (.cells #[.int .u64 5, .int .u64 2, .slice (some ⟨w.heap.size + 1 + 1, 0, none⟩) 1 1] 126)).alloc (.cells #[.int .u64 2, .int .i64 1, .int .u64 3, .int .i64 1] 130)).alloc (.cells #[.int .u64 7, .int .u64 3, .slice (some ⟨w.heap.size + 1 + 1 + 1 + 1, 0, none⟩) 2 2] 126)).alloc (.cells #[.int .u64 2, .int .i64 25, .int .u64 5, .int .i64 1] 130)) 126 #[.int .u64 5, .int .u64 2, .slice (some ⟨w.heap.size + 1 + 1, 0, none⟩) 1 1, .int .u64 167772161, .int .u64 3, .slice (some ⟨w.heap.size + 1 + 1 + 1 + 1 + 1 + 1, 0, none⟩) 2 2]
    simp only [World.size_alloc] at h
    exact h)
  go_enter Tryz.func71, Tryz.ntmps71
  go_upto_region 20 with fail
  generalize ((((((((w.alloc (.cells #[.int .u64 2, .int .i64 1] 130)).alloc (.cells #[.int .u64 3, .int .u64 2, .slice (some ⟨w.heap.size, 0, none⟩) 1 1] 126)).alloc (.cells #[.int .u64 2, .int .i64 2] 130)).alloc (.cells #[.int .u64 5, .int .u64 2, .slice (some ⟨w.heap.size + 1 + 1, 0, none⟩) 1 1] 126)).alloc (.cells #[.int .u64 2, .int .i64 1, .int .u64 3, .int .i64 1] 130)).alloc (.cells #[.int .u64 7, .int .u64 3, .slice (some ⟨w.heap.size + 1 + 1 + 1 + 1, 0, none⟩) 2 2] 126)).alloc (.cells #[.int .u64 2, .int .i64 25, .int .u64 5, .int .i64 1] 130)).alloc (.cells #[.int .u64 5, .int .u64 2, .slice (some ⟨w.heap.size + 1 + 1, 0, none⟩) 1 1, .int .u64 167772161, .int .u64 3, .slice (some ⟨w.heap.size + 1 + 1 + 1 + 1 + 1 + 1, 0, none⟩) 2 2] 126)) = W at *
  have kl := K7.out.cell 3
  go_quiet (fail)
  go_wp2_with fail
  go_ret2
  refine ⟨w.heap.size + 1 + 1 + 1 + 1 + 1 + 1 + 1, rfl, ?_, below_drewN HB.out _⟩
  intro i hi
  have hi' : i = 0 ∨ i = 1 := by simp [known5] at hi; omega
  rcases hi' with rfl | rfl
  · refine ⟨w.heap.size + 1 + 1 + 1 + 1 + 1 + 1 + 1, 0, some ⟨w.heap.size + 1 + 1, 0, none⟩, 1, rfl, K7.out.cell 0, K7.out.cell 1, K7.out.cell 2, by decide, ?_⟩
    intro j hj
    have hj' : j = 0 := by simp [known5] at hj; omega
    subst hj'
    · exact ⟨w.heap.size + 1 + 1, 0, rfl, K2.out.cell 0, K2.out.cell 1⟩
  · refine ⟨w.heap.size + 1 + 1 + 1 + 1 + 1 + 1 + 1, 0, some ⟨w.heap.size + 1 + 1 + 1 + 1 + 1 + 1, 0, none⟩, 2, rfl, K7.out.cell 3, K7.out.cell 4, K7.out.cell 5, by decide, ?_⟩
    intro j hj
    have hj' : j = 0 ∨ j = 1 := by simp [known5] at hj; omega
    rcases hj' with rfl | rfl
    · exact ⟨w.heap.size + 1 + 1 + 1 + 1 + 1 + 1, 0, rfl, K6.out.cell 0, K6.out.cell 1⟩
    · exact ⟨w.heap.size + 1 + 1 + 1 + 1 + 1 + 1, 0, rfl, K6.out.cell 2, K6.out.cell 3⟩
theorem Known_5 (w : World) : Calls Tryz.prog 34 #[.int .i64 5] w fun e w' => ∃ gf, e = .returned (.tuple #[.pointer (some ⟨gf, 0, none⟩), .int .i64 0]) ∧ FB w.heap.size w'.heap.size w' gf 167772161 3 ∧ Below w.heap.size w w' := by
  go_enter Tryz.func34, Tryz.ntmps34
  go_wp2_with fail
  with_reducible refine ((known_5 w)).mono ?_
  rintro e w1 ⟨g, rfl, he, hb⟩
  have C := Lib.hid (show Calls Tryz.prog 22 #[.slice (some ⟨g, 0, none⟩) 2 2, .int .u64 167772161] w1 fun e w' => ∃ gf, e = .returned (.tuple #[.pointer (some ⟨gf, 0, none⟩), .int .i64 0]) ∧ FB w1.heap.size w'.heap.size w' gf 167772161 3 ∧ Below w1.heap.size w1 w' from New_ok (some ⟨g, 0, none⟩) 2 known5 167772161 1 w1 he (by decide) (by decide) oks_known5 check_known5 (by rw [indexOf_at known5 167772161 0 (by decide), if_neg (by decide)]; rw [indexOf_at known5 167772161 1 (by decide), if_pos (by decide)]))
  have HB := Lib.hid hb
  clear hb he
  go_wp2_with fail
  with_reducible refine (C.out).mono ?_
  rintro e w2 ⟨gf, rfl, hf, hb⟩
  have HF := Lib.hid hf
  have HB2 := Lib.hid (below_then HB.out HB.out.size hb)
  clear hf hb
  go_wp2_with fail
  go_ret2
  exact ⟨gf, rfl, ⟨Nat.le_trans HB.out.size HF.out.above, HF.out.under, by
    obtain ⟨gc, h1, h2, h3, h4⟩ := HF.out.mc
    exact ⟨gc, Nat.le_trans HB.out.size h1, h2, h3, h4⟩, HF.out.cp, HF.out.cg⟩, HB2.out⟩
end Go.Proofs.YtpkpadepccneeaaGreatDoor

/- The walks of the top's same, slices.Clone of numbers, and session's and cache's small ones. No condition. -/
namespace Go.Proofs.YtpkpadepccneeaaGreatDoor
set_option linter.unusedVariables false
set_option linter.unusedSimpArgs false
open Go.RowKit
set_option maxHeartbeats 1000000 in
theorem same_any (A A2 : Option Addr) (c c2 : Nat) (l s : List Int) (w : World) (hr : RI .u64 w A l) (hs : RI .u64 w A2 s) (hm : l.length ≤ 9223372036854775807) :
    Calls Tryz.prog 13 #[.slice A l.length c, .slice A2 s.length c2] w fun e w' => e = .returned (.bool (decide (l = s))) ∧ Drawn w w' := by
  have hr' := Lib.hid hr
  have hs' := Lib.hid hs
  clear hr hs
  have HF := Lib.hid (show l ≠ s → false = decide (l = s) from fun h => (decide_eq_false h).symm)
  have HT := Lib.hid (show l = s → true = decide (l = s) from fun h => (decide_eq_true h).symm)
  generalize decide (l = s) = R at *
  go_enter Tryz.func13, Tryz.ntmps13
  by_cases hl : l.length = s.length
  · have HL := Lib.hid hl
    have hnb : ((l.length : Int) != (s.length : Int)) = false := by simp [hl]
    have hnd : ((l.length : Int) == (s.length : Int)) = true := by simp [hl]
    have hne : decide ((l.length : Int) = (s.length : Int)) = true := by simp [hl]
    clear hl
    go_wp2
    go_loopw [5, 13] (fun _ i wr => ∃ k : Nat, k ≤ l.length ∧ i = .int .i64 k ∧ Hid (Drawn w wr) ∧ Hid (∀ j, j < k → l.getD j 0 = s.getD j 0)) (fun _ i _ => l.length - (intOf i).toNat)
    case atStart => exact ⟨0, by omega, rfl, Lib.hid (Drawn.refl _), Lib.hid fun j hj => absurd hj (by omega)⟩
    case round =>
      obtain ⟨k, hk, rfl, HD, HE⟩ := hrel
      by_cases hlt : k < l.length
      · have hks : k < s.length := by rw [← HL.out]; exact hlt
        obtain ⟨ad, rfl, hc⟩ := (hr'.out.drawn HD.out).at_ hlt
        obtain ⟨ad2, rfl, hc2⟩ := (hs'.out.drawn HD.out).at_ hks
        have HN := Lib.hid (show l.getD k 0 = s.getD k 0 → ∀ j, j < k + 1 → l.getD j 0 = s.getD j 0 from fun h j hj => by
          by_cases e : j = k
          · rw [e]; exact h
          · exact HE.out j (by omega))
        have HX := Lib.hid (show l.getD k 0 ≠ s.getD k 0 → l ≠ s from fun h e => h (by rw [e]))
        generalize l.getD k 0 = x at *
        generalize s.getD k 0 = y at *
        have hi0 : (0 : Int) ≤ (k : Int) := by omega
        have hi1 : (k : Int) < (l.length : Int) := by omega
        have hi2 : (k : Int) < (s.length : Int) := by omega
        by_cases hxy : x = y
        · subst hxy
          go_wp2
          go_quiet (fail)
          go_wp2
          go_roundw
          case rel => exact ⟨k + 1, by omega, by go_num, Lib.hid (HD.out.step _), Lib.hid (HN.out (by trivial))⟩
          case measure => simp [intOf]; omega
        · have hb : (x != y) = true := by simp [hxy]
          have hd : (x == y) = false := by simp [hxy]
          have HR := Lib.hid (HF.out (HX.out hxy))
          clear hxy
          go_wp2
          go_quiet (fail)
          go_wp2
          go_ret
          exact ⟨ret_bool HR.out, HD.out.step _⟩
      · have HR := Lib.hid (HT.out (by
          apply List.ext_getElem HL.out
          intro i h1 h2
          have := HE.out i (by omega)
          rw [List.getD_eq_getElem?_getD, List.getD_eq_getElem?_getD, List.getElem?_eq_getElem h1, List.getElem?_eq_getElem h2] at this
          exact this))
        go_wp2
        go_ret
        exact ⟨ret_bool HR.out, HD.out⟩
  · have hnb : ((l.length : Int) != (s.length : Int)) = true := by simp; omega
    have hnd : ((l.length : Int) == (s.length : Int)) = false := by simp; omega
    have hne : decide ((l.length : Int) = (s.length : Int)) = false := by simp; omega
    have HR := Lib.hid (HF.out (fun e => hl (by rw [e])))
    clear hl
    go_wp2
    go_ret
    exact ⟨ret_bool HR.out, Drawn.refl _⟩
section
variable {P : Program}
/-- 'append(out, xs...)' of a slice that reads as a list, out a row of the call's own. -/
theorem wpList_appendRI {W : World} {ops : Array Oper} {rest : List Oper} {o : Oper} {a : Act} {Q : Exit → Act → World → Prop} (hgd : o.guard = none) (s x : Operand) (t : TypeId)
    (ho : o.op = .call { callee := .builtin .append, args := #[s, x], argTypes := #[t, t] }) (B : Nat) (e : TypeId) (k : IntKind) (bytes : Nat) (ht : P.underlying t = some (.slice e))
    (hi : (P.info? e).map (fun i => (i.zero, i.size, i.bytes)) = some (some (.int k 0), 1, bytes)) (hby : bytes ≤ 8)
    (v : Value) (l l2 : List Int) (A : Option Addr) (c : Nat) (hs : a.eval s = v) (hx : a.eval x = .slice A l2.length c) (hown : OI k e W B v l) (hr : RI k W A l2) (hc : A = none → c = 0)
    (hlen : l.length + l2.length ≤ 17592186044416) (hB : B ≤ W.heap.size)
    (h : ∀ v' w', OI k e w' B v' (l ++ l2) → Below B W w' → wpList P ops Q rest (a.put o.dst v') w') :
    wpList P ops Q (o :: rest) a W := by
  obtain ⟨i0, h1, h2, h3, h4⟩ := info_parts hi
  rcases A with _ | ad
  · have hl2 : l2 = [] := by
      cases l2 with
      | nil => rfl
      | cons y ys => obtain ⟨ad, h, _⟩ := hr 0 (by simp); cases h
    subst hl2
    rw [hc rfl] at hx
    refine wpList_append_own_none hgd s x t ho B e i0 1 ht h1 v l.length (ints k l) hs hown hx ?_
    exact h v W (by rw [List.append_nil]; exact hown) (Below.refl _ _)
  · refine wpList_append_own _ hgd s x t ho B e i0 (.int k 0) 1 bytes ht h1 h2 h3 h4 rfl (by decide) v l.length (ints k l) hs hown ad l2.length c (ints k l2) hx (by simp [ints]) ?_ ?_ ?_ ?_ hB ?_
    · intro j u hj
      have hj2 : j < l2.length := by
        have := (List.getElem?_eq_some_iff.1 hj).1
        simpa [ints] using this
      obtain ⟨ad', he, hcell⟩ := hr j hj2
      injection he with he
      subst he
      rw [ints_at k l2 hj2] at hj
      rw [hcell]
      exact hj
    · intro u hu
      simp only [ints, List.mem_map] at hu
      obtain ⟨y, _, rfl⟩ := hu
      rfl
    · unfold maxLen; omega
    · calc (l.length + l2.length) * bytes ≤ (l.length + l2.length) * 8 := Nat.mul_le_mul_left _ hby
        _ ≤ 140737488355328 := by omega
    · intro v' w' hown' hg _
      refine h v' w' ?_ ?_
      · unfold OI; simpa [ints] using hown'
      · exact (Below.refl _ _).grown hg hB (fun g hg' => (hown.lt g hg').1)
end
theorem nil_eq26 (w : World) : (binOp .eql 26 (.slice none 0 0) (.slice none 0 0)).run Tryz.prog w = .ok (.bool true) w := by kernel_rfl
theorem some_eq26 (ad : Addr) (n c : Nat) (w : World) : (binOp .eql 26 (.slice (some ad) n c) (.slice none 0 0)).run Tryz.prog w = .ok (.bool false) w := by kernel_rfl
set_option maxHeartbeats 1000000 in
theorem Clone65_any (ad : Addr) (c : Nat) (l : List Int) (w : World) (hr : RI .u64 w (some ad) l) (hl : l.length ≤ 8192) :
    Calls Tryz.prog 65 #[.slice (some ad) l.length c] w fun e w' => ∃ v, e = .returned v ∧ OI .u64 22 w' w.heap.size v l ∧ Below w.heap.size w w' := by
  have HB := Lib.hid ((Below.refl w.heap.size w).alloc (Nat.le_refl _) (.cells #[] 22))
  have HR := Lib.hid (hr.below HB.out)
  have HO := Lib.hid (show OI .u64 22 (w.alloc (.cells #[] 22)) w.heap.size (.slice (some ⟨w.heap.size, 0, none⟩) 0 0) [] from World.ownsRow_made w #[] 0 (Nat.le_refl _) (by decide) rfl)
  have he1 := some_eq26 ad l.length c w
  clear hr
  go_enter Tryz.func65, Tryz.ntmps65
  go_wp2_with (at_builtin; refine wpList_appendRI rfl (.tmp 5) (.tmp 6) 26 rfl w.heap.size 22 .u64 8 Tryz.underlying26 info22 (by decide) (.slice (some ⟨w.heap.size, 0, none⟩) 0 0) [] l (some ad) c rfl rfl HO.out HR.out (by intro h; cases h) (by simp; omega) (by simp) ?_; intro v w' ho hb; have HO2 := Lib.hid ho; have HB2 := Lib.hid (HB.out.trans hb); clear ho hb)
  go_ret
  exact ⟨_, rfl, HO2.out, HB2.out⟩
/-! ### a cache and a session, new -/
/-- A cache's cells. -/
def cacheCs (room : Int) (order : Value) (m : Nat) (hits misses : Int) : Array Value := #[.int .i64 room, order, .map (some m), .int .i64 hits, .int .i64 misses]
theorem cacheNew_1 (w : World) : Calls Tryz.prog 15 #[.int .i64 1] w fun e w' => e = .returned (.pointer (some ⟨w.heap.size + 1, 0, none⟩)) ∧ (w.alloc (.map #[] 0)).alloc (.cells (cacheCs 1 (.slice none 0 0) w.heap.size 0 0) 112) = w' := by
  have hmm := @run_makeMap Tryz.prog
  go_enter Tryz.func15, Tryz.ntmps15
  go_wp2_with fail
  go_ret
  exact ⟨rfl, rfl⟩
/-- A session's cells: the first field, the first buffer, the cache. -/
def sessCs (f0 b0 : Value) (c : Nat) : Array Value := #[f0, .pointer none, .pointer none, .pointer none, b0, .slice none 0 0, .slice none 0 0, .slice none 0 0, .slice none 0 0, .slice none 0 0, .pointer (some ⟨c, 0, none⟩)]
theorem sessNew_1 (w : World) : Calls Tryz.prog 26 #[.int .i64 1] w fun e w' => e = .returned (.pointer (some ⟨w.heap.size + 2, 0, none⟩)) ∧
    ((w.alloc (.map #[] 0)).alloc (.cells (cacheCs 1 (.slice none 0 0) w.heap.size 0 0) 112)).alloc (.cells (sessCs (.pointer none) (.slice none 0 0) (w.heap.size + 1)) 142) = w' := by
  go_enter Tryz.func26, Tryz.ntmps26
  go_wp2_with fail
  with_reducible refine ((cacheNew_1 w)).mono ?_
  rintro e w1 ⟨rfl, rfl⟩
  go_wp2_with fail
  go_ret
  exact ⟨rfl, rfl⟩
theorem slot_0 (w : World) : Calls Tryz.prog 159 #[.int .i64 0] w fun e w' => e = .returned (.bool true) ∧ w = w' := by
  go_enter Tryz.func159, Tryz.ntmps159
  go_wp2_with fail
  go_ret
  exact ⟨rfl, rfl⟩
theorem field_0 (gs : Nat) (f0 b0 : Value) (c : Nat) (w : World) (h : Blk w gs 142 (sessCs f0 b0 c)) : Calls Tryz.prog 109 #[.pointer (some ⟨gs, 0, none⟩), .int .i64 0] w fun e w' => e = .returned f0 ∧ w = w' := by
  have d0 := h.cell 0
  clear h
  have d0' : w.cell? ⟨gs, 0, none⟩ = some f0 := d0
  clear d0
  go_enter Tryz.func109, Tryz.ntmps109
  go_wp2_with fail
  with_reducible refine ((slot_0 w)).mono ?_
  rintro e w1 ⟨rfl, rfl⟩
  go_wp2_with fail
  go_ret
  exact ⟨rfl, rfl⟩
theorem put_0 (gs : Nat) (f0 b0 : Value) (c gf : Nat) (w : World) (h : Blk w gs 142 (sessCs f0 b0 c)) :
    Calls Tryz.prog 105 #[.pointer (some ⟨gs, 0, none⟩), .int .i64 0, .pointer (some ⟨gf, 0, none⟩), .int .i64 0] w fun e w' => e = .returned (.int .i64 0) ∧ w.setCell ⟨gs, 0, none⟩ (.pointer (some ⟨gf, 0, none⟩)) = w' := by
  have d0 : w.cell? ⟨gs, 0, none⟩ = some f0 := h.cell 0
  have d1 := h.frozen 0
  clear h
  go_enter Tryz.func105, Tryz.ntmps105
  go_wp2_with fail
  with_reducible refine ((slot_0 w)).mono ?_
  rintro e w1 ⟨rfl, rfl⟩
  go_wp2_with fail
  go_ret
  exact ⟨rfl, rfl⟩
theorem has_0 (gs : Nat) (f0 : Value) (gb cb : Nat) (c : Nat) (w : World) (h : Blk w gs 142 (sessCs f0 (.slice (some ⟨gb, 0, none⟩) 4 cb) c)) :
    Calls Tryz.prog 64 #[.pointer (some ⟨gs, 0, none⟩), .int .i64 0] w fun e w' => e = .returned (.bool true) ∧ w = w' := by
  have d4 : w.cell? ⟨gs, 4, none⟩ = some (.slice (some ⟨gb, 0, none⟩) 4 cb) := h.cell 4
  clear h
  go_enter Tryz.func64, Tryz.ntmps64
  go_wp2_with fail
  go_ret
  exact ⟨rfl, rfl⟩
theorem Len_1 (gc : Nat) (room : Int) (A : Option Addr) (cp m : Nat) (hits misses : Int) (w : World) (h : Blk w gc 112 (cacheCs room (.slice A 1 cp) m hits misses)) :
    Calls Tryz.prog 66 #[.pointer (some ⟨gc, 0, none⟩)] w fun e w' => e = .returned (.int .i64 1) ∧ w = w' := by
  have d1 : w.cell? ⟨gc, 1, none⟩ = some (.slice A 1 cp) := h.cell 1
  clear h
  go_enter Tryz.func66, Tryz.ntmps66
  go_wp2_with fail
  go_ret
  exact ⟨rfl, rfl⟩
theorem Kept_1 (gs : Nat) (f0 b0 : Value) (gc : Nat) (room : Int) (A : Option Addr) (cp m : Nat) (hits misses : Int) (w : World) (h : Blk w gs 142 (sessCs f0 b0 gc)) (hc : Blk w gc 112 (cacheCs room (.slice A 1 cp) m hits misses)) :
    Calls Tryz.prog 30 #[.pointer (some ⟨gs, 0, none⟩)] w fun e w' => e = .returned (.int .i64 1) ∧ w = w' := by
  have d10 : w.cell? ⟨gs, 10, none⟩ = some (.pointer (some ⟨gc, 0, none⟩)) := h.cell 10
  have HC := Lib.hid (Len_1 gc room A cp m hits misses w hc)
  clear h hc
  go_enter Tryz.func30, Tryz.ntmps30
  go_wp2_with fail
  with_reducible refine (HC.out).mono ?_
  rintro e w1 ⟨rfl, rfl⟩
  go_wp2_with fail
  go_ret
  exact ⟨rfl, rfl⟩
set_option maxHeartbeats 1000000 in
theorem lay_0 (gs : Nat) (f0 b0 : Value) (c : Nat) (ad : Addr) (cp : Nat) (l : List Int) (w : World) (h : Blk w gs 142 (sessCs f0 b0 c)) (hr : RI .u64 w (some ad) l) (hl : l.length = 4) :
    Calls Tryz.prog 106 #[.pointer (some ⟨gs, 0, none⟩), .int .i64 0, .slice (some ad) 4 cp] w fun e w' => ∃ gb cb, e = .returned (.int .i64 0) ∧ OI .u64 22 w' w.heap.size (.slice (some ⟨gb, 0, none⟩) 4 cb) l ∧
      Blk w' gs 142 (sessCs f0 (.slice (some ⟨gb, 0, none⟩) 4 cb) c) ∧ Fr (· = gs) w w' := by
  have K0 := Lib.hid h
  have CC := Lib.hid (show Calls Tryz.prog 65 #[.slice (some ad) 4 cp] w.drew fun e w' => ∃ v, e = .returned v ∧ OI .u64 22 w' w.drew.heap.size v l ∧ Below w.drew.heap.size w.drew w' from by
    have := Clone65_any ad cp l w.drew (hr.drewN 1) (by omega)
    rw [hl] at this
    exact this)
  have HL := Lib.hid hl
  have hlt := h.lt
  clear h hr hl
  go_enter Tryz.func106, Tryz.ntmps106
  go_upto_region 7 with fail
  go_region_with (go_at_call 65; refine CC.out.mono ?_; rintro e w1 ⟨v, rfl, ho, hb⟩; obtain ⟨A, cb, rfl, _⟩ := ho.form; obtain ⟨gb, rfl⟩ := OI.some (i := 0) ho (by rw [HL.out]; decide); rw [HL.out] at ho ⊢; (have HO := Lib.hid ho); (have HB := Lib.hid hb); (have K1 := Lib.hid ((show Blk w.drew gs 142 _ from K0.out).below hb hlt)); have d4 : w1.cell? ⟨gs, 4, none⟩ = some b0 := K1.out.cell 4; have f4 := K1.out.frozen 4; clear ho hb)
  have HO2 := Lib.hid (OI.kept HO.out (w1 := w1.setCell ⟨gs, 4, none⟩ (.slice (some ⟨gb, 0, none⟩) 4 cb)) (row := some gs) ⟨rfl, rfl, rfl, by simp, fun k _ hk => Below.heap_setCell _ _ _ _ (fun e => hk (by rw [e]))⟩ (fun g' hv e => by have h1 := (HO.out.lt g' hv).1; have h2 : gs = g' := Option.some.inj e; have h3 : w.drew.heap.size = w.heap.size := rfl; omega))
  have HF := Lib.hid (show Fr (· = gs) w (w1.setCell ⟨gs, 4, none⟩ (.slice (some ⟨gb, 0, none⟩) 4 cb)) from ((Fr.drewN (· = gs) w 1).trans (Fr.of_below (· = gs) HB.out)).trans (Fr.setCell (by rfl) _ _))
  have HK := Lib.hid (K1.out.set_ 4 (.slice (some ⟨gb, 0, none⟩) 4 cb))
  go_wp2_with fail
  go_ret
  exact ⟨gb, cb, rfl, HO2.out, HK.out, HF.out⟩
theorem Cells_0 (gs : Nat) (f0 : Value) (c gb cb : Nat) (l : List Int) (w : World) (h : Blk w gs 142 (sessCs f0 (.slice (some ⟨gb, 0, none⟩) 4 cb) c)) (hr : RI .u64 w (some ⟨gb, 0, none⟩) l) (hl : l.length = 4) :
    Calls Tryz.prog 29 #[.pointer (some ⟨gs, 0, none⟩), .int .i64 0] w fun e w' => ∃ g c, e = .returned (.slice (some ⟨g, 0, none⟩) 4 c) ∧ OI .u64 22 w' w.heap.size (.slice (some ⟨g, 0, none⟩) 4 c) l ∧ Below w.heap.size w w' := by
  have CH := Lib.hid (has_0 gs f0 gb cb c w h)
  have d4 : w.cell? ⟨gs, 4, none⟩ = some (.slice (some ⟨gb, 0, none⟩) 4 cb) := h.cell 4
  have CC := Lib.hid (show Calls Tryz.prog 65 #[.slice (some ⟨gb, 0, none⟩) 4 cb] w fun e w' => ∃ v, e = .returned v ∧ OI .u64 22 w' w.heap.size v l ∧ Below w.heap.size w w' from by
    have := Clone65_any ⟨gb, 0, none⟩ cb l w hr (by omega)
    rw [hl] at this
    exact this)
  have HL := Lib.hid hl
  clear h hr hl
  go_enter Tryz.func29, Tryz.ntmps29
  go_wp2_with fail
  with_reducible refine (CH.out).mono ?_
  rintro e w1 ⟨rfl, rfl⟩
  go_wp2_with fail
  with_reducible refine (CC.out).mono ?_
  rintro e w1 ⟨v, rfl, ho, hb⟩
  obtain ⟨A, c1, rfl, _⟩ := ho.form
  obtain ⟨g, rfl⟩ := OI.some (i := 0) ho (by rw [HL.out]; decide)
  rw [HL.out] at ho ⊢
  have HO := Lib.hid ho
  have HB := Lib.hid hb
  clear ho hb
  go_wp2_with fail
  go_ret
  exact ⟨g, c1, rfl, HO.out, HB.out⟩
end Go.Proofs.YtpkpadepccneeaaGreatDoor

/- The walks of the small functions beneath plan, at single numbers (4; 1). No condition. -/
namespace Go.Proofs.YtpkpadepccneeaaGreatDoor
open Go.RowKit
set_option linter.unusedVariables false
set_option linter.unusedSimpArgs false
theorem Pad_7 (w : World) : Calls Tryz.prog 47 #[.int .i64 7] w fun e w' => e = .returned (.int .i64 8) ∧ w = w' := by
  go_enter Tryz.func47, Tryz.ntmps47
  go_wp2_with fail
  repeat ((first | rw [rounds_succ] | refine wp_loop_rounds 8 ?_); go_wp2_with fail)
  go_ret
  exact ⟨rfl, rfl⟩
theorem Pad_1 (w : World) : Calls Tryz.prog 47 #[.int .i64 1] w fun e w' => e = .returned (.int .i64 1) ∧ w = w' := by
  go_enter Tryz.func47, Tryz.ntmps47
  go_wp2_with fail
  repeat ((first | rw [rounds_succ] | refine wp_loop_rounds 8 ?_); go_wp2_with fail)
  go_ret
  exact ⟨rfl, rfl⟩
theorem rFits_4 (w : World) : Calls Tryz.prog 145 #[.int .i64 4] w fun e w' => e = .returned (.bool true) ∧ w = w' := by
  go_enter Tryz.func145, Tryz.ntmps145
  go_wp2_with fail
  go_ret
  exact ⟨rfl, rfl⟩
theorem rFits_1 (w : World) : Calls Tryz.prog 145 #[.int .i64 1] w fun e w' => e = .returned (.bool true) ∧ w = w' := by
  go_enter Tryz.func145, Tryz.ntmps145
  go_wp2_with fail
  go_ret
  exact ⟨rfl, rfl⟩
theorem info3 : (Tryz.prog.info? 3).map (fun i => (i.zero, i.size, i.bytes)) = some (some (.int .i64 0), 1, 8) := by kernel_rfl
set_option maxRecDepth 100000 in
set_option maxHeartbeats 2000000 in
theorem Radices_4 (w : World) : Calls Tryz.prog 194 #[.int .i64 4] w fun e w' => ∃ v, e = .returned (.tuple #[v, .bool true]) ∧ OI .i64 3 w' w.heap.size v [2, 2] ∧ Below w.heap.size w w' := by
  have i0 : ∀ w, (Instr.index 116 (.agg #[.int .i64 2, .int .i64 3, .int .i64 5, .int .i64 7]) (.int .i64 0)).run Tryz.prog w = .ok (.int .i64 2) w := fun _ => by kernel_rfl
  have i1 : ∀ w, (Instr.index 116 (.agg #[.int .i64 2, .int .i64 3, .int .i64 5, .int .i64 7]) (.int .i64 1)).run Tryz.prog w = .ok (.int .i64 3) w := fun _ => by kernel_rfl
  have i2 : ∀ w, (Instr.index 116 (.agg #[.int .i64 2, .int .i64 3, .int .i64 5, .int .i64 7]) (.int .i64 2)).run Tryz.prog w = .ok (.int .i64 5) w := fun _ => by kernel_rfl
  have i3 : ∀ w, (Instr.index 116 (.agg #[.int .i64 2, .int .i64 3, .int .i64 5, .int .i64 7]) (.int .i64 3)).run Tryz.prog w = .ok (.int .i64 7) w := fun _ => by kernel_rfl
  go_enter Tryz.func194, Tryz.ntmps194
  go_wp2_with fail
  refine wp_loop_rounds 8 ?_
  rw [rounds_succ]
  go_wp2_with fail
  refine wp_loop_rounds 8 ?_
  rw [rounds_succ]
  go_wp2_with (at_builtin; refine wpList_append1 rfl (.tmp 21) (.tmp 23) 27 rfl w.heap.size 3 .i64 8 Tryz.underlying27 info3 (by decide) (.slice none 0 0) [] 2 rfl rfl (OI.nil _ _ _ _) (by simp) (Nat.le_refl _) ?_; intro v w1 ho hb; have HO := Lib.hid ho; have HB := Lib.hid hb; clear ho hb)
  rw [rounds_succ]
  go_wp2_with (at_builtin; refine wpList_append1 rfl (.tmp 21) (.tmp 23) 27 rfl w.heap.size 3 .i64 8 Tryz.underlying27 info3 (by decide) v [2] 2 rfl rfl HO.out (by simp) HB.out.size ?_; intro v2 w2 ho hb; have HO2 := Lib.hid ho; have HB2 := Lib.hid (HB.out.trans hb); clear ho hb)
  repeat ((first | rw [rounds_succ] | refine wp_loop_rounds 8 ?_); go_wp2_with fail)
  go_ret2
  exact ⟨v2, rfl, HO2.out, HB2.out⟩
theorem Gcd_22 (w : World) : Calls Tryz.prog 293 #[.int .u64 2, .int .u64 2] w fun e w' => e = .returned (.int .u64 2) ∧ Drawn w w' := by
  go_enter Tryz.func293, Tryz.ntmps293
  go_wp2_with fail
  refine wp_loop_rounds 3 ?_
  rw [rounds_succ]
  go_wp2_with fail
  go_quiet (fail)
  go_wp2_with fail
  rw [rounds_succ]
  go_wp2_with fail
  go_ret
  exact ⟨rfl, _, rfl⟩
theorem Coprime_22 (w : World) : Calls Tryz.prog 248 #[.int .u64 2, .int .u64 2] w fun e w' => e = .returned (.bool false) ∧ Drawn w w' := by
  go_enter Tryz.func248, Tryz.ntmps248
  go_wp2_with fail
  with_reducible refine ((Gcd_22 w)).mono ?_
  rintro e w' ⟨rfl, hd⟩
  go_wp2_with fail
  go_ret
  exact ⟨rfl, hd⟩
theorem cFits_42 (w : World) : Calls Tryz.prog 197 #[.int .i64 4, .int .i64 2] w fun e w' => e = .returned (.bool false) ∧ Drawn w w' := by
  go_enter Tryz.func197, Tryz.ntmps197
  go_wp2_with fail
  with_reducible refine ((Coprime_22 w)).mono ?_
  rintro e w' ⟨rfl, hd⟩
  go_wp2_with fail
  go_ret
  exact ⟨rfl, hd⟩
theorem cFits_43 (w : World) : Calls Tryz.prog 197 #[.int .i64 4, .int .i64 3] w fun e w' => e = .returned (.bool false) ∧ Drawn w w' := by
  go_enter Tryz.func197, Tryz.ntmps197
  go_wp2_with fail
  go_ret
  exact ⟨rfl, Drawn.refl _⟩
theorem raderPad_4 (w : World) : Calls Tryz.prog 204 #[.int .i64 4] w fun e w' => e = .returned (.int .i64 0) ∧ Below w.heap.size w w' := by
  go_enter Tryz.func204, Tryz.ntmps204
  go_wp2_with fail
  with_reducible refine ((Prime_4 w)).mono ?_
  rintro e w' ⟨rfl, hb⟩
  go_wp2_with fail
  go_ret
  exact ⟨rfl, hb⟩
theorem chirpPad_4 (w : World) : Calls Tryz.prog 206 #[.int .i64 4] w fun e w' => e = .returned (.int .i64 8) ∧ w = w' := by
  go_enter Tryz.func206, Tryz.ntmps206
  go_wp2_with fail
  with_reducible refine ((Pad_7 w)).mono ?_
  rintro e w' ⟨rfl, rfl⟩
  go_wp2_with fail
  go_ret
  exact ⟨rfl, rfl⟩
/-- What dft.Check says of a length that divides p - 1. -/
theorem dCheck_ok (gf p g n most : Nat) (w : World) (hf : FD w gf p g) (h1 : 1 ≤ n) (h2 : n ≤ most) (hm : most ≤ 9223372036854775807) (hd : divs p (n : Int) = true) :
    Rd 144 #[.pointer (some ⟨gf, 0, none⟩), .int .i64 (n : Int), .int .i64 (most : Int)] w (.int .i64 0) := by
  refine Rd.of_drawn fun q => ?_
  have C := fDivides_rd gf p g (n : Int) w hf (by omega)
  rw [hd] at C
  have g1 : decide ((n : Int) < 1) = false := decide_eq_false (by omega)
  have g2 : decide (most < n) = false := decide_eq_false (by omega)
  clear hf hd
  go_enter Tryz.func144, Tryz.ntmps144
  go_wp2_with fail
  with_reducible refine (Rd.go (C) _).mono ?_
  rintro e_ w_ ⟨rfl, k1, rfl⟩
  go_wp2_with fail
  go_ret
  exact ⟨rfl, drawn_le (by omega)⟩
theorem pCheck_ok (gf p g n : Nat) (w : World) (hf : FD w gf p g) (h1 : 1 ≤ n) (h2 : n ≤ 1024) (hd : divs p (n : Int) = true) : Rd 188 #[.pointer (some ⟨gf, 0, none⟩), .int .i64 (n : Int)] w (.int .i64 0) := by
  refine Rd.of_drawn fun q => ?_
  have C := dCheck_ok gf p g n 1024 w hf h1 h2 (by decide) hd
  have C' : Rd 144 #[.pointer (some ⟨gf, 0, none⟩), .int .i64 (n : Int), .int .i64 1024] w (.int .i64 0) := C
  clear hf hd C
  go_enter Tryz.func188, Tryz.ntmps188
  go_wp2_with fail
  with_reducible refine (Rd.go (C') _).mono ?_
  rintro e_ w_ ⟨rfl, k1, rfl⟩
  go_wp2_with fail
  go_ret
  exact ⟨rfl, drawn_le (by omega)⟩
end Go.Proofs.YtpkpadepccneeaaGreatDoor

/- The walks of plan's shaped, Fits, reckon at the plans of length 4, in the field of 5. No condition. -/
namespace Go.Proofs.YtpkpadepccneeaaGreatDoor
open Go.RowKit
set_option linter.unusedVariables false
set_option linter.unusedSimpArgs false
def pl (k a : Int) : Value := .agg #[.int .i64 k, .int .i64 4, .int .i64 a]
theorem chirpPad_rd (w : World) : Rd 206 #[.int .i64 4] w (.int .i64 8) := .of_same fun n => chirpPad_4 _
theorem box54 (w : World) (k a : Int) : Below w.heap.size w (w.alloc (.cells #[.int .i64 k, .int .i64 4, .int .i64 a] 54)) := (Below.refl _ _).alloc (Nat.le_refl _) _
set_option maxRecDepth 100000 in
theorem shaped_0_0 (w : World) : Calls Tryz.prog 192 #[.agg #[.int .i64 0, .int .i64 4, .int .i64 0]] w fun e w' => e = .returned (.bool true) ∧ Below w.heap.size w w' := by
  have HB := Lib.hid (box54 w 0 0)
  go_enter Tryz.func192, Tryz.ntmps192
  go_wp2_with fail
  go_ret
  exact ⟨rfl, HB.out⟩
set_option maxRecDepth 100000 in
theorem shaped_1_0 (w : World) : Calls Tryz.prog 192 #[.agg #[.int .i64 1, .int .i64 4, .int .i64 0]] w fun e w' => e = .returned (.bool true) ∧ Below w.heap.size w w' := by
  have HB := Lib.hid (box54 w 1 0)
  go_enter Tryz.func192, Tryz.ntmps192
  go_wp2_with fail
  with_reducible refine ((rFits_4 _)).mono ?_
  rintro e w1 ⟨rfl, rfl⟩
  go_wp2_with fail
  go_ret
  exact ⟨rfl, HB.out⟩
set_option maxRecDepth 100000 in
theorem shaped_2_0 (w : World) : Calls Tryz.prog 192 #[.agg #[.int .i64 2, .int .i64 4, .int .i64 0]] w fun e w' => e = .returned (.bool true) ∧ Below w.heap.size w w' := by
  have HB := Lib.hid (box54 w 2 0)
  go_enter Tryz.func192, Tryz.ntmps192
  go_wp2_with fail
  with_reducible refine ((rFits_4 _)).mono ?_
  rintro e w1 ⟨rfl, rfl⟩
  go_wp2_with fail
  go_ret
  exact ⟨rfl, HB.out⟩
set_option maxRecDepth 100000 in
theorem shaped_3_0 (w : World) : Calls Tryz.prog 192 #[.agg #[.int .i64 3, .int .i64 4, .int .i64 0]] w fun e w' => e = .returned (.bool true) ∧ Below w.heap.size w w' := by
  have HB := Lib.hid (box54 w 3 0)
  go_enter Tryz.func192, Tryz.ntmps192
  go_wp2_with fail
  with_reducible refine ((Radices_4 _)).mono ?_
  rintro e w1 ⟨v, rfl, ho, hb⟩
  have HB1 := Lib.hid (below_then HB.out HB.out.size hb)
  have K1 := Lib.hid ((Blk.new w 54 #[.int .i64 3, .int .i64 4, .int .i64 0]).below hb (by simp))
  clear hb ho
  have d2 := K1.out.cell 2
  go_wp2_with fail
  go_ret
  exact ⟨rfl, HB1.out⟩
set_option maxRecDepth 100000 in
theorem shaped_4_2 (w : World) : Calls Tryz.prog 192 #[.agg #[.int .i64 4, .int .i64 4, .int .i64 2]] w fun e w' => e = .returned (.bool false) ∧ Below w.heap.size w w' := by
  have HB := Lib.hid (box54 w 4 2)
  go_enter Tryz.func192, Tryz.ntmps192
  go_wp2_with fail
  with_reducible refine ((cFits_42 _)).mono ?_
  rintro e w1 ⟨rfl, n1, rfl⟩
  go_wp2_with fail
  go_ret
  exact ⟨rfl, below_drewN HB.out _⟩
set_option maxRecDepth 100000 in
theorem shaped_4_3 (w : World) : Calls Tryz.prog 192 #[.agg #[.int .i64 4, .int .i64 4, .int .i64 3]] w fun e w' => e = .returned (.bool false) ∧ Below w.heap.size w w' := by
  have HB := Lib.hid (box54 w 4 3)
  go_enter Tryz.func192, Tryz.ntmps192
  go_wp2_with fail
  with_reducible refine ((cFits_43 _)).mono ?_
  rintro e w1 ⟨rfl, n1, rfl⟩
  go_wp2_with fail
  go_ret
  exact ⟨rfl, below_drewN HB.out _⟩
set_option maxRecDepth 100000 in
theorem shaped_5_0 (w : World) : Calls Tryz.prog 192 #[.agg #[.int .i64 5, .int .i64 4, .int .i64 0]] w fun e w' => e = .returned (.bool false) ∧ Below w.heap.size w w' := by
  have HB := Lib.hid (box54 w 5 0)
  go_enter Tryz.func192, Tryz.ntmps192
  go_wp2_with fail
  go_quiet (fail)
  go_wp2_with fail
  go_ret
  exact ⟨rfl, below_drewN HB.out _⟩
set_option maxRecDepth 100000 in
theorem shaped_6_8 (w : World) : Calls Tryz.prog 192 #[.agg #[.int .i64 6, .int .i64 4, .int .i64 8]] w fun e w' => e = .returned (.bool true) ∧ Below w.heap.size w w' := by
  have HB := Lib.hid (box54 w 6 8)
  go_enter Tryz.func192, Tryz.ntmps192
  have C := chirpPad_rd (w.alloc (.cells #[.int .i64 6, .int .i64 4, .int .i64 8] 54))
  go_wp2_with fail
  go_quiet ((go_at_call 206; first | exact Rd.qa (C) _ _ | exact Rd.q (C) _))
  go_wp2_with fail
  go_ret
  exact ⟨rfl, below_drewN HB.out _⟩
set_option maxRecDepth 100000 in
theorem pFits_0_0 (gf : Nat) (w : World) (hf : FD w gf 5 2) : Calls Tryz.prog 136 #[.pointer (some ⟨gf, 0, none⟩), .agg #[.int .i64 0, .int .i64 4, .int .i64 0]] w fun e w' => e = .returned (.int .i64 0) ∧ Below w.heap.size w w' ∧ w.heap.size < w'.heap.size := by
  have HB := Lib.hid (box54 w 0 0)
  have K0 := Lib.hid (Blk.new w 54 #[.int .i64 0, .int .i64 4, .int .i64 0])
  have HF := Lib.hid (hf.below HB.out)
  have C := pCheck_ok gf 5 2 4 _ HF.out (by decide) (by decide) (by decide)
  have C' : Rd 188 #[.pointer (some ⟨gf, 0, none⟩), .int .i64 4] (w.alloc (.cells #[.int .i64 0, .int .i64 4, .int .i64 0] 54)) (.int .i64 0) := C
  clear hf C
  go_enter Tryz.func136, Tryz.ntmps136
  go_wp2_with fail
  with_reducible refine C'.now.mono ?_
  rintro e_ w_ ⟨rfl, n1, rfl⟩
  go_wp2_with fail
  with_reducible refine ((shaped_0_0 _)).mono ?_
  rintro e w2 ⟨rfl, hb2⟩
  have B2 := Lib.hid (below_then (below_drewN HB.out n1) (below_drewN HB.out n1).size hb2)
  have K2 := Lib.hid ((K0.out.drewN n1).below hb2 (K0.out.drewN n1).lt)
  have S2 := Lib.hid K2.out.lt
  clear hb2
  have d0 := K2.out.cell 0
  have d2 := K2.out.cell 2
  go_wp2_with fail
  go_ret
  exact ⟨rfl, B2.out, S2.out⟩
set_option maxRecDepth 100000 in
theorem pFits_1_0 (gf : Nat) (w : World) (hf : FD w gf 5 2) : Calls Tryz.prog 136 #[.pointer (some ⟨gf, 0, none⟩), .agg #[.int .i64 1, .int .i64 4, .int .i64 0]] w fun e w' => e = .returned (.int .i64 0) ∧ Below w.heap.size w w' ∧ w.heap.size < w'.heap.size := by
  have HB := Lib.hid (box54 w 1 0)
  have K0 := Lib.hid (Blk.new w 54 #[.int .i64 1, .int .i64 4, .int .i64 0])
  have HF := Lib.hid (hf.below HB.out)
  have C := pCheck_ok gf 5 2 4 _ HF.out (by decide) (by decide) (by decide)
  have C' : Rd 188 #[.pointer (some ⟨gf, 0, none⟩), .int .i64 4] (w.alloc (.cells #[.int .i64 1, .int .i64 4, .int .i64 0] 54)) (.int .i64 0) := C
  clear hf C
  go_enter Tryz.func136, Tryz.ntmps136
  go_wp2_with fail
  with_reducible refine C'.now.mono ?_
  rintro e_ w_ ⟨rfl, n1, rfl⟩
  go_wp2_with fail
  with_reducible refine ((shaped_1_0 _)).mono ?_
  rintro e w2 ⟨rfl, hb2⟩
  have B2 := Lib.hid (below_then (below_drewN HB.out n1) (below_drewN HB.out n1).size hb2)
  have K2 := Lib.hid ((K0.out.drewN n1).below hb2 (K0.out.drewN n1).lt)
  have S2 := Lib.hid K2.out.lt
  clear hb2
  have d0 := K2.out.cell 0
  have d2 := K2.out.cell 2
  go_wp2_with fail
  go_ret
  exact ⟨rfl, B2.out, S2.out⟩
set_option maxRecDepth 100000 in
theorem pFits_2_0 (gf : Nat) (w : World) (hf : FD w gf 5 2) : Calls Tryz.prog 136 #[.pointer (some ⟨gf, 0, none⟩), .agg #[.int .i64 2, .int .i64 4, .int .i64 0]] w fun e w' => e = .returned (.int .i64 0) ∧ Below w.heap.size w w' ∧ w.heap.size < w'.heap.size := by
  have HB := Lib.hid (box54 w 2 0)
  have K0 := Lib.hid (Blk.new w 54 #[.int .i64 2, .int .i64 4, .int .i64 0])
  have HF := Lib.hid (hf.below HB.out)
  have C := pCheck_ok gf 5 2 4 _ HF.out (by decide) (by decide) (by decide)
  have C' : Rd 188 #[.pointer (some ⟨gf, 0, none⟩), .int .i64 4] (w.alloc (.cells #[.int .i64 2, .int .i64 4, .int .i64 0] 54)) (.int .i64 0) := C
  clear hf C
  go_enter Tryz.func136, Tryz.ntmps136
  go_wp2_with fail
  with_reducible refine C'.now.mono ?_
  rintro e_ w_ ⟨rfl, n1, rfl⟩
  go_wp2_with fail
  with_reducible refine ((shaped_2_0 _)).mono ?_
  rintro e w2 ⟨rfl, hb2⟩
  have B2 := Lib.hid (below_then (below_drewN HB.out n1) (below_drewN HB.out n1).size hb2)
  have K2 := Lib.hid ((K0.out.drewN n1).below hb2 (K0.out.drewN n1).lt)
  have S2 := Lib.hid K2.out.lt
  clear hb2
  have d0 := K2.out.cell 0
  have d2 := K2.out.cell 2
  go_wp2_with fail
  go_ret
  exact ⟨rfl, B2.out, S2.out⟩
set_option maxRecDepth 100000 in
theorem pFits_3_0 (gf : Nat) (w : World) (hf : FD w gf 5 2) : Calls Tryz.prog 136 #[.pointer (some ⟨gf, 0, none⟩), .agg #[.int .i64 3, .int .i64 4, .int .i64 0]] w fun e w' => e = .returned (.int .i64 0) ∧ Below w.heap.size w w' ∧ w.heap.size < w'.heap.size := by
  have HB := Lib.hid (box54 w 3 0)
  have K0 := Lib.hid (Blk.new w 54 #[.int .i64 3, .int .i64 4, .int .i64 0])
  have HF := Lib.hid (hf.below HB.out)
  have C := pCheck_ok gf 5 2 4 _ HF.out (by decide) (by decide) (by decide)
  have C' : Rd 188 #[.pointer (some ⟨gf, 0, none⟩), .int .i64 4] (w.alloc (.cells #[.int .i64 3, .int .i64 4, .int .i64 0] 54)) (.int .i64 0) := C
  clear hf C
  go_enter Tryz.func136, Tryz.ntmps136
  go_wp2_with fail
  with_reducible refine C'.now.mono ?_
  rintro e_ w_ ⟨rfl, n1, rfl⟩
  go_wp2_with fail
  with_reducible refine ((shaped_3_0 _)).mono ?_
  rintro e w2 ⟨rfl, hb2⟩
  have B2 := Lib.hid (below_then (below_drewN HB.out n1) (below_drewN HB.out n1).size hb2)
  have K2 := Lib.hid ((K0.out.drewN n1).below hb2 (K0.out.drewN n1).lt)
  have S2 := Lib.hid K2.out.lt
  clear hb2
  have d0 := K2.out.cell 0
  have d2 := K2.out.cell 2
  go_wp2_with fail
  go_ret
  exact ⟨rfl, B2.out, S2.out⟩
set_option maxRecDepth 100000 in
theorem pFits_4_2 (gf : Nat) (w : World) (hf : FD w gf 5 2) : Calls Tryz.prog 136 #[.pointer (some ⟨gf, 0, none⟩), .agg #[.int .i64 4, .int .i64 4, .int .i64 2]] w fun e w' => e = .returned (.int .i64 11) ∧ Below w.heap.size w w' ∧ w.heap.size < w'.heap.size := by
  have HB := Lib.hid (box54 w 4 2)
  have K0 := Lib.hid (Blk.new w 54 #[.int .i64 4, .int .i64 4, .int .i64 2])
  have HF := Lib.hid (hf.below HB.out)
  have C := pCheck_ok gf 5 2 4 _ HF.out (by decide) (by decide) (by decide)
  have C' : Rd 188 #[.pointer (some ⟨gf, 0, none⟩), .int .i64 4] (w.alloc (.cells #[.int .i64 4, .int .i64 4, .int .i64 2] 54)) (.int .i64 0) := C
  clear hf C
  go_enter Tryz.func136, Tryz.ntmps136
  go_wp2_with fail
  with_reducible refine C'.now.mono ?_
  rintro e_ w_ ⟨rfl, n1, rfl⟩
  go_wp2_with fail
  with_reducible refine ((shaped_4_2 _)).mono ?_
  rintro e w2 ⟨rfl, hb2⟩
  have B2 := Lib.hid (below_then (below_drewN HB.out n1) (below_drewN HB.out n1).size hb2)
  have K2 := Lib.hid ((K0.out.drewN n1).below hb2 (K0.out.drewN n1).lt)
  have S2 := Lib.hid K2.out.lt
  clear hb2
  have d0 := K2.out.cell 0
  have d2 := K2.out.cell 2
  go_wp2_with fail
  go_ret
  exact ⟨rfl, B2.out, S2.out⟩
set_option maxRecDepth 100000 in
theorem pFits_4_3 (gf : Nat) (w : World) (hf : FD w gf 5 2) : Calls Tryz.prog 136 #[.pointer (some ⟨gf, 0, none⟩), .agg #[.int .i64 4, .int .i64 4, .int .i64 3]] w fun e w' => e = .returned (.int .i64 11) ∧ Below w.heap.size w w' ∧ w.heap.size < w'.heap.size := by
  have HB := Lib.hid (box54 w 4 3)
  have K0 := Lib.hid (Blk.new w 54 #[.int .i64 4, .int .i64 4, .int .i64 3])
  have HF := Lib.hid (hf.below HB.out)
  have C := pCheck_ok gf 5 2 4 _ HF.out (by decide) (by decide) (by decide)
  have C' : Rd 188 #[.pointer (some ⟨gf, 0, none⟩), .int .i64 4] (w.alloc (.cells #[.int .i64 4, .int .i64 4, .int .i64 3] 54)) (.int .i64 0) := C
  clear hf C
  go_enter Tryz.func136, Tryz.ntmps136
  go_wp2_with fail
  with_reducible refine C'.now.mono ?_
  rintro e_ w_ ⟨rfl, n1, rfl⟩
  go_wp2_with fail
  with_reducible refine ((shaped_4_3 _)).mono ?_
  rintro e w2 ⟨rfl, hb2⟩
  have B2 := Lib.hid (below_then (below_drewN HB.out n1) (below_drewN HB.out n1).size hb2)
  have K2 := Lib.hid ((K0.out.drewN n1).below hb2 (K0.out.drewN n1).lt)
  have S2 := Lib.hid K2.out.lt
  clear hb2
  have d0 := K2.out.cell 0
  have d2 := K2.out.cell 2
  go_wp2_with fail
  go_ret
  exact ⟨rfl, B2.out, S2.out⟩
set_option maxRecDepth 100000 in
theorem pFits_5_0 (gf : Nat) (w : World) (hf : FD w gf 5 2) : Calls Tryz.prog 136 #[.pointer (some ⟨gf, 0, none⟩), .agg #[.int .i64 5, .int .i64 4, .int .i64 0]] w fun e w' => e = .returned (.int .i64 11) ∧ Below w.heap.size w w' ∧ w.heap.size < w'.heap.size := by
  have HB := Lib.hid (box54 w 5 0)
  have K0 := Lib.hid (Blk.new w 54 #[.int .i64 5, .int .i64 4, .int .i64 0])
  have HF := Lib.hid (hf.below HB.out)
  have C := pCheck_ok gf 5 2 4 _ HF.out (by decide) (by decide) (by decide)
  have C' : Rd 188 #[.pointer (some ⟨gf, 0, none⟩), .int .i64 4] (w.alloc (.cells #[.int .i64 5, .int .i64 4, .int .i64 0] 54)) (.int .i64 0) := C
  clear hf C
  go_enter Tryz.func136, Tryz.ntmps136
  go_wp2_with fail
  with_reducible refine C'.now.mono ?_
  rintro e_ w_ ⟨rfl, n1, rfl⟩
  go_wp2_with fail
  with_reducible refine ((shaped_5_0 _)).mono ?_
  rintro e w2 ⟨rfl, hb2⟩
  have B2 := Lib.hid (below_then (below_drewN HB.out n1) (below_drewN HB.out n1).size hb2)
  have K2 := Lib.hid ((K0.out.drewN n1).below hb2 (K0.out.drewN n1).lt)
  have S2 := Lib.hid K2.out.lt
  clear hb2
  have d0 := K2.out.cell 0
  have d2 := K2.out.cell 2
  go_wp2_with fail
  go_ret
  exact ⟨rfl, B2.out, S2.out⟩
set_option maxRecDepth 100000 in
theorem pFits_6_8 (gf : Nat) (w : World) (hf : FD w gf 5 2) : Calls Tryz.prog 136 #[.pointer (some ⟨gf, 0, none⟩), .agg #[.int .i64 6, .int .i64 4, .int .i64 8]] w fun e w' => e = .returned (.int .i64 11) ∧ Below w.heap.size w w' ∧ w.heap.size < w'.heap.size := by
  have HB := Lib.hid (box54 w 6 8)
  have K0 := Lib.hid (Blk.new w 54 #[.int .i64 6, .int .i64 4, .int .i64 8])
  have HF := Lib.hid (hf.below HB.out)
  have C := pCheck_ok gf 5 2 4 _ HF.out (by decide) (by decide) (by decide)
  have C' : Rd 188 #[.pointer (some ⟨gf, 0, none⟩), .int .i64 4] (w.alloc (.cells #[.int .i64 6, .int .i64 4, .int .i64 8] 54)) (.int .i64 0) := C
  clear hf C
  go_enter Tryz.func136, Tryz.ntmps136
  go_wp2_with fail
  with_reducible refine C'.now.mono ?_
  rintro e_ w_ ⟨rfl, n1, rfl⟩
  go_wp2_with fail
  with_reducible refine ((shaped_6_8 _)).mono ?_
  rintro e w2 ⟨rfl, hb2⟩
  have B2 := Lib.hid (below_then (below_drewN HB.out n1) (below_drewN HB.out n1).size hb2)
  have K2 := Lib.hid ((K0.out.drewN n1).below hb2 (K0.out.drewN n1).lt)
  have F2 := Lib.hid ((HF.out.drewN n1).below hb2)
  have S2 := Lib.hid K2.out.lt
  clear hb2
  have d0 := K2.out.cell 0
  have d2 := K2.out.cell 2
  have C3 := fDivides_rd gf 5 2 8 w2 F2.out (by decide)
  rw [show divs 5 8 = false by decide] at C3
  go_wp2_with fail
  with_reducible refine C3.now.mono ?_
  rintro e_ w_ ⟨rfl, n3, rfl⟩
  go_wp2_with fail
  go_ret
  exact ⟨rfl, below_drewN B2.out _, S2.out⟩
end Go.Proofs.YtpkpadepccneeaaGreatDoor
