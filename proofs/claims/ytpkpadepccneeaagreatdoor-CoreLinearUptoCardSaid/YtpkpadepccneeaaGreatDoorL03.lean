/- What the walks of the Core seat share: a block of cells that lies. No condition. -/
import Derived.Test.YtpkpadepccneeaaGreatDoorL01
import Derived.Test.YtpkpadepccneeaaGreatDoorL02
import Derived.Lib.ItoaNum
import Derived.Lib.BitFns
namespace Go.Proofs.YtpkpadepccneeaaGreatDoor
open Go.RowKit
set_option linter.unusedVariables false
/-- A block of cells lies. -/
def Blk (w : World) (g : Nat) (t : TypeId) (cs : Array Value) : Prop := w.heap[g]? = some (.cells cs t (0, 0))
section
variable {w w' : World} {g : Nat} {t : TypeId} {cs : Array Value}
theorem Blk.lt (h : Blk w g t cs) : g < w.heap.size := by
  rcases Nat.lt_or_ge g w.heap.size with hlt | hge
  · exact hlt
  · unfold Blk at h; rw [Array.getElem?_eq_none hge] at h; cases h
theorem Blk.cell (h : Blk w g t cs) (i : Nat) : w.cell? ⟨g, i, none⟩ = cs[i]? := cell_of_row w g i cs t (0, 0) h
theorem Blk.frozen (h : Blk w g t cs) (i : Nat) : w.frozen? ⟨g, i, none⟩ = false := frozen_of_row w g i cs t h
theorem Blk.new (w : World) (t : TypeId) (cs : Array Value) : Blk (w.alloc (.cells cs t)) w.heap.size t cs := heap_alloc_new w _
theorem Blk.drewN (h : Blk w g t cs) (n : Nat) : Blk (w.drewN n) g t cs := h
theorem Blk.alloc (h : Blk w g t cs) (o : Obj) : Blk (w.alloc o) g t cs := (Below.heap_alloc w o g h.lt).trans h
theorem Blk.set_ (h : Blk w g t cs) (i : Nat) (u : Value) : Blk (w.setCell ⟨g, i, none⟩ u) g t (cs.setIfInBounds i u) := heap_setCell_same w g i cs t u h
theorem Blk.far (h : Blk w g t cs) {p : Addr} (hp : g ≠ p.block) (u : Value) : Blk (w.setCell p u) g t cs := (Below.heap_setCell w p u g hp).trans h
theorem Blk.below {B : Nat} (h : Blk w g t cs) (hb : Below B w w') (hg : g < B) : Blk w' g t cs := (hb.block g hg).trans h
end
theorem quietD {P : Program} {f : FuncId} {args : Array Value} {w : World} {a n : Nat} {v : Value}
    (h : Calls P f args (w.drewN (a + n)) fun e w' => e = .returned v ∧ Drawn (w.drewN (a + n)) w') :
    Calls P f args (w.drewN (a + n)) fun e w'' => e = .returned v ∧ ∃ m, w'' = w.drewN (a + m) :=
  h.mono fun _ _ ⟨he, k, hk⟩ => ⟨he, n + k, by rw [hk, World.drewN_drewN, Nat.add_assoc]⟩
theorem quietB {P : Program} {f : FuncId} {args : Array Value} {w : World} {n : Nat} {v : Value}
    (h : Calls P f args (w.drewN n) fun e w' => e = .returned v ∧ w.drewN n = w') :
    Calls P f args (w.drewN n) fun e w'' => e = .returned v ∧ ∃ m, w'' = w.drewN m :=
  h.mono fun _ _ ⟨he, hm⟩ => ⟨he, n, hm.symm⟩
theorem quietBD {P : Program} {f : FuncId} {args : Array Value} {w : World} {n : Nat} {v : Value}
    (h : Calls P f args (w.drewN n) fun e w' => e = .returned v ∧ Drawn (w.drewN n) w') :
    Calls P f args (w.drewN n) fun e w'' => e = .returned v ∧ ∃ m, w'' = w.drewN m :=
  h.mono fun _ _ ⟨he, k, hk⟩ => ⟨he, n + k, by rw [hk, World.drewN_drewN]⟩
theorem Drawn.trans {a b c : World} (h : Drawn a b) (k : Drawn b c) : Drawn a c := by
  obtain ⟨n, rfl⟩ := h
  obtain ⟨m, rfl⟩ := k
  exact ⟨n + m, World.drewN_drewN ..⟩
theorem and_one (x : Nat) (hx : x < 18446744073709551616) : bits .and .u64 (x : Int) 1 = ((x % 2 : Nat) : Int) := by
  rw [show (1 : Int) = ((1 : Nat) : Int) from rfl, u64_and_nat _ _ hx (by decide), Nat.and_one_is_mod]
end Go.Proofs.YtpkpadepccneeaaGreatDoor

/- Plain numbers for math/bits.Div64: the words moved up, wraps that fall away. No condition. -/
namespace Go.Proofs.YtpkpadepccneeaaGreatDoor
open Go.RowKit
set_option linter.unusedVariables false
theorem and_low (x : Int) (h0 : 0 ≤ x) (h1 : x < 18446744073709551616) : bits .and .u64 x 4294967295 = x % 4294967296 := by
  obtain ⟨x, rfl⟩ := Int.eq_ofNat_of_zero_le h0
  rw [show (4294967295 : Int) = ((4294967295 : Nat) : Int) from rfl, u64_and_nat _ _ (by omega) (by decide), show (4294967295 : Nat) = 2 ^ 32 - 1 from rfl, Nat.and_two_pow_sub_one_eq_mod]
  rfl
/-- Words of a division, moved up so that the divisor's highest bit is set. -/
structure Sh (hi lo y : Int) (s Y U V : Int) : Prop where
  wy : IntKind.u64.wrap (y * 2 ^ s.toNat) = Y
  wu : bits .or .u64 (IntKind.u64.wrap (hi * 2 ^ s.toNat)) (lo / 2 ^ (64 - s).toNat) = U
  wv : IntKind.u64.wrap (lo * 2 ^ s.toNat) = V
  ok : 9223372036854775808 ≤ Y ∧ Y < 18446744073709551616 ∧ 0 ≤ U ∧ U < Y ∧ 0 ≤ V ∧ V < 18446744073709551616
  rest : (U * 18446744073709551616 + V) % Y / 2 ^ s.toNat = (hi * 18446744073709551616 + lo) % y
theorem sh_nat (hi lo y : Nat) (h2 : lo < 18446744073709551616) (h3 : hi < y) (h4 : y < 18446744073709551616) :
    Lib.bitLen y ≤ 64 ∧ 1 ≤ Lib.bitLen y ∧ ∃ Y U V, Sh hi lo y (64 - (Lib.bitLen y : Int)) Y U V := by
  obtain ⟨n1, n2, n3⟩ := Lib.bitLenAux_bounds 64 y (by omega) (by omega)
  have n4 := Lib.bitLen_le y 64 (by decide) (by omega)
  have e : Lib.bitLenAux 64 y = Lib.bitLen y := rfl
  rw [e] at n1 n2 n3
  generalize Lib.bitLen y = n at *
  refine ⟨n4, n1, ?_⟩
  have t1 : ((64 : Int) - (n : Int)).toNat = 64 - n := by omega
  have t2 : ((64 : Int) - (64 - (n : Int))).toNat = n := by omega
  obtain ⟨s, hs⟩ : ∃ s, s = 64 - n := ⟨_, rfl⟩
  have hsn : 2 ^ s * 2 ^ n = 18446744073709551616 := by rw [← Nat.pow_add, show s + n = 64 by omega]
  have hp : 0 < 2 ^ s := Nat.pow_pos (by decide)
  have hpn : 0 < 2 ^ n := Nat.pow_pos (by decide)
  have hY1 : y * 2 ^ s < 18446744073709551616 := by
    rw [← hsn, Nat.mul_comm]; exact Nat.mul_lt_mul_of_pos_left n3 hp
  have hY0 : 9223372036854775808 ≤ y * 2 ^ s := by
    have h : 2 ^ (n - 1) * 2 ^ s ≤ y * 2 ^ s := Nat.mul_le_mul_right _ n2
    rw [← Nat.pow_add, show n - 1 + s = 63 by omega] at h
    exact h
  have hlo : lo / 2 ^ n < 2 ^ s := Nat.div_lt_of_lt_mul (by rw [Nat.mul_comm, hsn]; exact h2)
  have hU1 : (hi + 1) * 2 ^ s ≤ y * 2 ^ s := Nat.mul_le_mul_right _ (by omega)
  rw [Nat.add_mul, Nat.one_mul] at hU1
  have hV : lo * 2 ^ s = lo / 2 ^ n * 18446744073709551616 + lo * 2 ^ s % 18446744073709551616 := by
    have hd := Nat.div_add_mod (lo * 2 ^ s) 18446744073709551616
    have hq : lo * 2 ^ s / 18446744073709551616 = lo / 2 ^ n := by rw [← hsn, Nat.mul_comm lo, Nat.mul_div_mul_left _ _ hp]
    omega
  have hN : (hi * 2 ^ s + lo / 2 ^ n) * 18446744073709551616 + lo * 2 ^ s % 18446744073709551616 = (hi * 18446744073709551616 + lo) * 2 ^ s := by
    rw [Nat.add_mul, Nat.add_mul, Nat.mul_right_comm]
    omega
  refine ⟨((y * 2 ^ s : Nat) : Int), ((hi * 2 ^ s + lo / 2 ^ n : Nat) : Int), ((lo * 2 ^ s % 18446744073709551616 : Nat) : Int), ?_, ?_, ?_, ?_, ?_⟩
  · rw [t1, ← hs, IntKind.wrap_u64]
    have : ((y : Int) * 2 ^ s) = ((y * 2 ^ s : Nat) : Int) := by push_cast; rfl
    rw [this]; omega
  · rw [t1, t2, ← hs, IntKind.wrap_u64]
    have a : ((hi : Int) * 2 ^ s) % 18446744073709551616 = ((hi * 2 ^ s : Nat) : Int) := by
      have : ((hi : Int) * 2 ^ s) = ((hi * 2 ^ s : Nat) : Int) := by push_cast; rfl
      rw [this]; omega
    have b : (lo : Int) / 2 ^ n = ((lo / 2 ^ n : Nat) : Int) := by push_cast; rfl
    rw [a, b, u64_or_nat _ _ (by omega) (by omega)]
    congr 1
    rw [Nat.mul_comm hi, ← Nat.two_pow_add_eq_or_of_lt hlo]
  · rw [t1, ← hs, IntKind.wrap_u64, Int.natCast_emod, Int.natCast_mul, Int.natCast_pow]; rfl
  · have hm : lo * 2 ^ s % 18446744073709551616 < 18446744073709551616 := Nat.mod_lt _ (by decide)
    omega
  · rw [t1, ← hs]
    have e1 : (((hi * 2 ^ s + lo / 2 ^ n : Nat) : Int) * 18446744073709551616 + ((lo * 2 ^ s % 18446744073709551616 : Nat) : Int)) = (((hi * 18446744073709551616 + lo) * 2 ^ s : Nat) : Int) := by
      rw [← hN, Int.natCast_add (_ * 18446744073709551616), Int.natCast_mul (hi * 2 ^ s + lo / 2 ^ n)]; rfl
    rw [e1, ← Int.natCast_emod, Nat.mul_mod_mul_right, show ((2 : Int) ^ s) = ((2 ^ s : Nat) : Int) by push_cast; rfl, ← Int.natCast_ediv, Nat.mul_div_cancel _ hp, Int.natCast_emod, Int.natCast_add, Int.natCast_mul]; rfl
theorem w_small {x : Int} (h0 : 0 ≤ x) (h1 : x < 18446744073709551616) : IntKind.u64.wrap x = x := by rw [IntKind.wrap_u64]; exact Int.emod_eq_of_lt h0 h1
theorem w_rest {a b c d : Int} (h0 : 0 ≤ a * 4294967296 + b - c * d) (h1 : a * 4294967296 + b - c * d < 18446744073709551616) :
    IntKind.u64.wrap (IntKind.u64.wrap (IntKind.u64.wrap (a * 4294967296) + b) - IntKind.u64.wrap (c * d)) = a * 4294967296 + b - c * d := by
  simp only [IntKind.wrap_u64]
  generalize c * d = x at *
  omega
/-- The two digits' rests are the whole's. -/
theorem two_rests (U v1 v0 Y : Int) : ((U * 4294967296 + v1) % Y * 4294967296 + v0) % Y = (U * 18446744073709551616 + (v1 * 4294967296 + v0)) % Y := by
  rw [Int.add_emod, Int.mul_emod, Int.emod_emod, ← Int.mul_emod, ← Int.add_emod]
  congr 1
  omega
end Go.Proofs.YtpkpadepccneeaaGreatDoor
