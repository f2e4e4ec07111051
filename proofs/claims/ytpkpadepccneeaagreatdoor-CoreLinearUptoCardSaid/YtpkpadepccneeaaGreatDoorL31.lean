/- The three things that the top's alive does with a session, whole. No condition. -/
import Derived.Test.YtpkpadepccneeaaGreatDoorL28
namespace Go.Proofs.YtpkpadepccneeaaGreatDoor
set_option linter.unusedVariables false
set_option linter.unusedSimpArgs false
open Go Go.RowKit Go.Shelf Go.Maps
theorem two_alloc (w : World) (o1 o2 : Array Value) (t1 t2 : TypeId) : Blk ((w.alloc (.cells o1 t1)).alloc (.cells o2 t2)) (w.heap.size + 1) t2 o2 ∧ Below w.heap.size w ((w.alloc (.cells o1 t1)).alloc (.cells o2 t2)) := by
  have h2 := Blk.new (w.alloc (.cells o1 t1)) t2 o2
  simp only [World.size_alloc] at h2
  exact ⟨h2, ((Below.refl _ w).alloc (Nat.le_refl _) _).alloc (by simp) _⟩
theorem Do_small (gs : Nat) (f0 b0 : Value) (c : Nat) (w : World) (hsb : Blk w gs 142 (sessCs f0 b0 c)) :
    Calls Tryz.prog 27 #[.pointer (some ⟨gs, 0, none⟩), .agg (opA 0 5 (.slice none 0 0) (.slice none 0 0) (.slice none 0 0) (.slice none 0 0) 0)] w fun e w' =>
      ∃ gf lo hi, e = .returned (.agg #[.int .i64 0, .slice none 0 0]) ∧ FB lo hi w' gf 5 2 ∧ w.heap.size ≤ lo ∧ hi ≤ w'.heap.size ∧ Blk w' gs 142 (sessCs (.pointer (some ⟨gf, 0, none⟩)) b0 c) ∧ Fr (fun i => i = gs) w w' := by
  obtain ⟨k2, hb2⟩ := two_alloc w (opA 0 5 (.slice none 0 0) (.slice none 0 0) (.slice none 0 0) (.slice none 0 0) 0) #[.int .i64 0, .slice none 0 0] 86 82
  have hlt := hsb.lt
  have C := do_small gs f0 b0 c _ (hsb.below hb2 hlt)
  refine (Do_of gs 0 5 _ _ _ _ 0 rfl w (fun w' => ∃ gf hi, FB (w.heap.size + 2) hi w' gf 5 2 ∧ hi ≤ w'.heap.size ∧ Blk w' gs 142 (sessCs (.pointer (some ⟨gf, 0, none⟩)) b0 c) ∧ Fr (fun i => i = gs) w w') (C.mono ?_)).mono ?_
  · rintro e w' ⟨gf, hi, rfl, hf, hle, hk, hfr⟩
    refine ⟨rfl, ⟨gf, hi, ?_, hle, hk, (Fr.of_below _ hb2).trans hfr⟩, hfr.blk k2 (show ¬ w.heap.size + 1 = gs by omega)⟩
    have : ((w.alloc (.cells (opA 0 5 (.slice none 0 0) (.slice none 0 0) (.slice none 0 0) (.slice none 0 0) 0) 86)).alloc (.cells #[.int .i64 0, .slice none 0 0] 82)).heap.size = w.heap.size + 2 := by simp only [World.size_alloc]
    rw [this] at hf
    exact hf
  · rintro e w' ⟨rfl, w1, ⟨gf, hi, hf, hle, hk, hfr⟩, hfr2⟩
    exact ⟨gf, w.heap.size + 2, hi, rfl, hf.fr hfr2 (fun i h1 h2 h => by omega), by omega, Nat.le_trans hle hfr2.size, hfr2.blk hk (show ¬ gs = w.heap.size + 1 by omega), hfr.or hfr2 (fun i _ h => h) (fun i hi h => by omega)⟩
theorem Do_buffer (gs : Nat) (f0 b0 : Value) (c : Nat) (ad : Addr) (cp : Nat) (l : List Int) (w : World) (hsb : Blk w gs 142 (sessCs f0 b0 c)) (hr : RI .u64 w (some ad) l) (hl : l.length = 4) :
    Calls Tryz.prog 27 #[.pointer (some ⟨gs, 0, none⟩), .agg (opA 2 0 (.slice (some ad) 4 cp) (.slice none 0 0) (.slice none 0 0) (.slice none 0 0) 0)] w fun e w' =>
      ∃ gb cb, e = .returned (.agg #[.int .i64 0, .slice none 0 0]) ∧ OI .u64 22 w' w.heap.size (.slice (some ⟨gb, 0, none⟩) 4 cb) l ∧ Blk w' gs 142 (sessCs f0 (.slice (some ⟨gb, 0, none⟩) 4 cb) c) ∧ Fr (fun i => i = gs) w w' := by
  obtain ⟨k2, hb2⟩ := two_alloc w (opA 2 0 (.slice (some ad) 4 cp) (.slice none 0 0) (.slice none 0 0) (.slice none 0 0) 0) #[.int .i64 0, .slice none 0 0] 86 82
  have hlt := hsb.lt
  have C := do_buffer gs f0 b0 c ad cp l _ (hsb.below hb2 hlt) (hr.below hb2) hl
  refine (Do_of gs 2 0 _ _ _ _ 0 rfl w (fun w' => ∃ gb cb, OI .u64 22 w' (w.heap.size + 2) (.slice (some ⟨gb, 0, none⟩) 4 cb) l ∧ Blk w' gs 142 (sessCs f0 (.slice (some ⟨gb, 0, none⟩) 4 cb) c) ∧ Fr (fun i => i = gs) w w') (C.mono ?_)).mono ?_
  · rintro e w' ⟨gb, cb, rfl, ho, hk, hfr⟩
    refine ⟨rfl, ⟨gb, cb, ?_, hk, (Fr.of_below _ hb2).trans hfr⟩, hfr.blk k2 (show ¬ w.heap.size + 1 = gs by omega)⟩
    have : ((w.alloc (.cells (opA 2 0 (.slice (some ad) 4 cp) (.slice none 0 0) (.slice none 0 0) (.slice none 0 0) 0) 86)).alloc (.cells #[.int .i64 0, .slice none 0 0] 82)).heap.size = w.heap.size + 2 := by simp only [World.size_alloc]
    rw [this] at ho
    exact ho
  · rintro e w' ⟨rfl, w1, ⟨gb, cb, ho, hk, hfr⟩, hfr2⟩
    refine ⟨gb, cb, rfl, ?_, hfr2.blk hk (show ¬ gs = w.heap.size + 1 by omega), hfr.or hfr2 (fun i _ h => h) (fun i hi h => by omega)⟩
    refine OI.mono (OI.fr ho hfr2 (fun g hv h => ?_)) (by omega)
    have := (OI.base ho).1
    have hg : gb = g := by simpa [Value.ownBlock] using hv
    omega
theorem Do_run (gs c m n gf lo hi gx gb cb Bb : Nat) (adA adB : Addr) (ca cv cx : Nat) (bs : List Nat) (w : World) (hsb : Blk w gs 142 (sessCs (.pointer (some ⟨gf, 0, none⟩)) (.slice (some ⟨gb, 0, none⟩) 4 cb) c)) (hf : FB lo hi w gf 5 2) (hr : RI .i64 w (some adA) [4]) (hs : RI .i64 w (some adB) [1]) (hx : w.cell? ⟨gx, 0, none⟩ = some (.int .i64 0))
    (ho : OL w Bb gb cb bs) (hl : bs.length = 4) (hb : ∀ j, j < 4 → bs.getD j 0 < 5)
    (hc : Blk w c 112 (cacheCs 1 (.slice none 0 0) m 0 0)) (hm : KM w m n (.map [])) (hn : n < 1000) (hcm : c ≠ m) (hlc : c < lo ∨ hi ≤ c) (hlm : m < lo ∨ hi ≤ m) (hhi : hi ≤ w.heap.size)
    (hA : adA.block ≠ c ∧ adA.block ≠ m ∧ adA.block ≠ gb) (hB : adB.block ≠ c ∧ adB.block ≠ m ∧ adB.block ≠ gb) (hX : gx ≠ c ∧ gx ≠ m ∧ gx ≠ gb) (hG : gb ≠ c ∧ gb ≠ m) (hlo : gb < lo ∨ hi ≤ gb) (hgb : gb < w.heap.size) :
    Calls Tryz.prog 27 #[.pointer (some ⟨gs, 0, none⟩), .agg (opA 5 0 (.slice none 0 0) (.slice (some adA) 1 ca) (.slice (some adB) 1 cv) (.slice (some ⟨gx, 0, none⟩) 1 cx) (-1))] w fun e w' =>
      e = .returned (.agg #[.int .i64 0, .slice none 0 0]) ∧ OL w' Bb gb cb (done4 bs) ∧ (∃ A cap, Blk w' c 112 (cacheCs 1 (.slice A 1 cap) m 0 1)) ∧ Fr (fun i => i = c ∨ i = m ∨ i = gb) w w' := by
  obtain ⟨k2, hb2⟩ := two_alloc w (opA 5 0 (.slice none 0 0) (.slice (some adA) 1 ca) (.slice (some adB) 1 cv) (.slice (some ⟨gx, 0, none⟩) 1 cx) (-1)) #[.int .i64 0, .slice none 0 0] 86 82
  have hlt := hsb.lt
  have hcw := hc.lt
  have hmw : m < w.heap.size := World.ownsMap.lt hm
  have C := do_run gs c m n gf lo hi gx gb cb Bb adA adB ca cv cx bs _ (hsb.below hb2 hlt) (hf.below hb2) (hr.below hb2) (hs.below hb2) (bcell hb2 hx) (OI.below ho hb2) hl hb (hc.below hb2 hcw) ((Fr.of_below (fun _ => False) hb2).map hm (fun h => h)) hn hcm hlc hlm (Nat.le_trans hhi hb2.size) hA hB hX hG hlo (Nat.lt_of_lt_of_le hgb hb2.size)
  refine (Do_of gs 5 0 _ _ _ _ (-1) rfl w (fun w' => OL w' Bb gb cb (done4 bs) ∧ (∃ A cap, Blk w' c 112 (cacheCs 1 (.slice A 1 cap) m 0 1)) ∧ Fr (fun i => i = c ∨ i = m ∨ i = gb) w w') (C.mono ?_)).mono ?_
  · rintro e w' ⟨rfl, ho, hk, hfr⟩
    exact ⟨rfl, ⟨ho, hk, (Fr.of_below _ hb2).trans hfr⟩, hfr.blk k2 (show ¬ (w.heap.size + 1 = c ∨ w.heap.size + 1 = m ∨ w.heap.size + 1 = gb) by omega)⟩
  · rintro e w' ⟨rfl, w1, ⟨ho, ⟨A, cap, hk⟩, hfr⟩, hfr2⟩
    exact ⟨rfl, OL.fr ho hfr2 (show ¬ gb = w.heap.size + 1 by omega), ⟨A, cap, hfr2.blk hk (show ¬ c = w.heap.size + 1 by omega)⟩, hfr.or hfr2 (fun i _ h => h) (fun i hi h => by omega)⟩
end Go.Proofs.YtpkpadepccneeaaGreatDoor
