/- The walk of sieve.gather at 5. No condition. -/
import Derived.Test.YtpkpadepccneeaaGreatDoorP13
import Derived.Test.YtpkpadepccneeaaGreatDoorP14
namespace Go.Proofs.YtpkpadepccneeaaGreatDoor
open Go.RowKit Go.Maps
set_option linter.unusedVariables false
theorem key22 : Keyed Tryz.prog 22 := int_keyed Tryz.underlying22
theorem zero126 (w : World) : (zeroValue 126).run Tryz.prog w = .ok (.agg #[.int .u64 0, .int .u64 0, .slice none 0 0]) w := by kernel_rfl
/-- The map of the sieve, as it stands. -/
def SM (w : World) (b n : Nat) (D : DataW Value) : Prop := w.ownsMap Tryz.prog 22 tok b n D
def ent5 (g c : Nat) : Value := .agg #[.int .u64 5, .int .u64 2, .slice (some ⟨g, 0, none⟩) 1 c]
theorem gather_2 (b n g c : Nat) (w : World) (hm : SM w b n (.map [(.int .u64 5, .held (ent5 g c))])) :
    Calls Tryz.prog 120 #[.map (some b), .int .u64 2] w fun e w' => e = .returned undef ∧ Below w.heap.size w w' := by
  have HM := Lib.hid hm
  clear hm
  go_enter Tryz.func120, Tryz.ntmps120
  go_wp2_with (at_lookup; refine wpList_lookup_own_ok _ rfl (.tmp 10) (.tmp 11) 206 rfl 22 126 key22 Tryz.underlying206 tok (zero126 _) (.held (.agg #[.int .u64 0, .int .u64 0, .slice none 0 0])) [] rfl b n _ rfl HM.out (.int .u64 2) (.int .u64 2) rfl (keyOf_int_mk Tryz.underlying22 (by decide)) ?_; intro v ps hv; obtain rfl := tok_eq (show tok v = some (.held (.agg #[.int .u64 0, .int .u64 0, .slice none 0 0]), ps) from hv); clear hv)
  exact bodyPost_ret (results_none rfl _ _ _) rfl ⟨rfl, (Below.refl _ _).alloc (Nat.le_refl _) _⟩
set_option maxHeartbeats 1000000 in
theorem gather_5 (b n : Nat) (w : World) (hm : SM w b n (.map [])) (hn : n < 1000) :
    Calls Tryz.prog 120 #[.map (some b), .int .u64 5] w fun e w' => ∃ g c, e = .returned undef ∧ SM w' b (n + 1) (.map [(.int .u64 5, .held (ent5 g c))]) ∧ Fr (· = b) w w' ∧ w.heap.size ≤ g ∧ g < w'.heap.size ∧ 1 ≤ c ∧ c ≤ maxLen ∧
      w'.cell? ⟨g, 0, none⟩ = some (.int .u64 2) ∧ w'.cell? ⟨g, 1, none⟩ = some (.int .i64 2) := by
  have hbw : b < w.heap.size := World.ownsMap.lt hm
  have HM := Lib.hid hm
  have HM1 := Lib.hid (World.ownsMap.alloc hm (.cells #[.int .u64 0, .int .u64 0, .slice none 0 0] 126))
  have F1 := Lib.hid (Fr.alloc (· = b) w (.cells #[.int .u64 0, .int .u64 0, .slice none 0 0] 126))
  clear hm
  go_enter Tryz.func120, Tryz.ntmps120
  go_wp2_with (at_lookup; refine wpList_lookup_own_ok _ rfl (.tmp 10) (.tmp 11) 206 rfl 22 126 key22 Tryz.underlying206 tok (zero126 _) (.held (.agg #[.int .u64 0, .int .u64 0, .slice none 0 0])) [] rfl b n _ rfl HM.out (.int .u64 5) (.int .u64 5) rfl (keyOf_int_mk Tryz.underlying22 (by decide)) ?_; intro v ps hv; obtain rfl := tok_eq (show tok v = some (.held (.agg #[.int .u64 0, .int .u64 0, .slice none 0 0]), ps) from hv); clear hv)
  with_reducible refine (Factor_4r _).mono ?_
  rintro e w1 ⟨g, c, rfl, h⟩
  have F2 := Lib.hid (F1.out.trans (Fr.of_below (· = b) h.bl))
  have M2 := Lib.hid ((Fr.of_below (fun _ => False) h.bl).map HM1.out (fun h => h))
  have HR := Lib.hid h
  clear h F1 HM1 HM
  go_wp2_with fail
  with_reducible refine ((Generator_5 w1)).mono ?_
  rintro e w2 ⟨rfl, hb⟩
  have F3 := Lib.hid (F2.out.trans (Fr.of_below (· = b) hb))
  have M3 := Lib.hid ((Fr.of_below (fun _ => False) hb).map M2.out (fun h => h))
  have K0 := Lib.hid (bcell hb HR.out.k0)
  have K1 := Lib.hid (bcell hb HR.out.k1)
  have S3 := Lib.hid (Nat.lt_of_lt_of_le HR.out.b2 hb.size)
  clear hb F2 M2
  go_wp2_with (at_mapUpdate; refine wpList_mapUpdate_own _ rfl (.tmp 23) (.tmp 24) (.tmp 29) 206 rfl 22 126 key22 Tryz.underlying206 tok b n _ rfl M3.out (by unfold maxLen; omega) (.int .u64 5) (ent5 g c) (.int .u64 5) rfl rfl (keyOf_int_mk Tryz.underlying22 (by decide)) (.held (ent5 g c)) [] rfl ?_; intro w3 hm3 hg3; have M4 := Lib.hid (show SM w3 b (n + 1) (.map [(.int .u64 5, .held (ent5 g c))]) from hm3); have F4 := Lib.hid (F3.out.trans (Fr.of_grown hg3 (fun r e => (Option.some.inj e).symm))); have J := Lib.hid hg3; clear hm3 hg3)
  have hgb : ¬ g = b := by have h1 := HR.out.b1; simp at h1; omega
  have k0 : w3.cell? ⟨g, 0, none⟩ = some (.int .u64 2) := (Fr.of_grown (S := (· = b)) J.out (fun r e => (Option.some.inj e).symm)).cell K0.out hgb
  have k1 : w3.cell? ⟨g, 1, none⟩ = some (.int .i64 2) := (Fr.of_grown (S := (· = b)) J.out (fun r e => (Option.some.inj e).symm)).cell K1.out hgb
  have HK0 := Lib.hid k0
  have HK1 := Lib.hid k1
  have S4 := Lib.hid (Nat.lt_of_lt_of_le S3.out J.out.size)
  have M5 := Lib.hid (show SM (w3.alloc (.cells #[.int .u64 2, .int .i64 2] 130)) b (n + 1) (.map [(.int .u64 5, .held (ent5 g c))]) from World.ownsMap.alloc M4.out (.cells #[.int .u64 2, .int .i64 2] 130))
  have F5 := Lib.hid (F4.out.trans (Fr.alloc (· = b) w3 (.cells #[.int .u64 2, .int .i64 2] 130)))
  refine wp_loop_rounds 3 ?_
  rw [rounds_succ]
  go_wp2_with fail
  with_reducible refine ((gather_2 b (n + 1) g c _ M5.out)).mono ?_
  rintro e w4 ⟨rfl, hb4⟩
  have HB4 := Lib.hid (Below.trans ((Below.refl w3.heap.size w3).alloc (Nat.le_refl _) (.cells #[.int .u64 2, .int .i64 2] 130)) (hb4.mono (by simp)))
  have F6 := Lib.hid (F4.out.trans (Fr.of_below (· = b) HB4.out))
  have M6 := Lib.hid ((Fr.of_below (fun _ => False) HB4.out).map M4.out (fun h => h))
  clear hb4 k0 k1
  go_wp2_with fail
  rw [rounds_succ]
  go_wp2_with fail
  exact bodyPost_end (results_none rfl _ _ _) rfl ⟨g, c, rfl, M6.out, F6.out, by have h1 := HR.out.b1; simp at h1; omega, Nat.lt_of_lt_of_le S4.out HB4.out.size, HR.out.c1, HR.out.c2, bcell HB4.out HK0.out, bcell HB4.out HK1.out⟩
end Go.Proofs.YtpkpadepccneeaaGreatDoor
