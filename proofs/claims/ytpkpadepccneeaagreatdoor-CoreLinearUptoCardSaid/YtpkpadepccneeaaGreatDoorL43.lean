/- The walk of sieve.Factor at any number from 1 to 65536: its factors, rising. No condition. -/
import Derived.Test.YtpkpadepccneeaaGreatDoorL41
import Derived.Test.YtpkpadepccneeaaGreatDoorL10
import Derived.Test.YtpkpadepccneeaaGreatDoorL11
namespace Go.Proofs.YtpkpadepccneeaaGreatDoor
open Go.RowKit
set_option linter.unusedVariables false
set_option linter.unusedSimpArgs false
theorem strip_in {d n j m e : Nat} (h : strip d 64 n = ((strip d (j + 1) m).1, (strip d (j + 1) m).2 + e)) (hz : m % d = 0) : strip d 64 n = ((strip d j (m / d)).1, (strip d j (m / d)).2 + (e + 1)) := by
  rw [h, strip_yes hz]
  show ((strip d j (m / d)).1, (strip d j (m / d)).2 + 1 + e) = _
  rw [Nat.add_assoc, Nat.add_comm 1 e]
theorem strip_out {d n j m e : Nat} (h : strip d 64 n = ((strip d (j + 1) m).1, (strip d (j + 1) m).2 + e)) (hz : m % d ≠ 0) : strip d 64 n = (m, e) := by
  rw [h, strip_no hz]
  show (m, 0 + e) = _
  rw [Nat.zero_add]
theorem half_lt {d m j : Nat} (hd : 2 ≤ d) (h0 : 0 < m) (hz : m % d = 0) (h : m < 2 ^ (j + 1)) : m / d < 2 ^ j ∧ 0 < m / d ∧ m / d < m := by
  have hdv : d * (m / d) = m := Nat.mul_div_cancel' (Nat.dvd_of_mod_eq_zero hz)
  have h1 : 0 < m / d := Nat.pos_of_ne_zero fun e => by rw [e, Nat.mul_zero] at hdv; omega
  have h2 : 2 * (m / d) ≤ d * (m / d) := Nat.mul_le_mul_right _ hd
  rw [Nat.pow_succ] at h
  exact ⟨by omega, h1, by omega⟩
/-- One round of the outer loop. -/
theorem fac_round {n0 k n d dd m e : Nat} {l : List Fac} (h : facsN n0 = l ++ facsGo (k + 1) n d) (hg : facsGo (k + 1) n d = gain dd (strip dd 64 n).2 ++ facsGo k (strip dd 64 n).1 (dd + 1)) (hs : strip dd 64 n = (m, e)) : facsN n0 = l ++ gain dd e ++ facsGo k m (dd + 1) := by
  rw [h, hg, hs, List.append_assoc]
theorem gain_pos {d e : Nat} (h : 0 < e) : gain d e = [⟨d, (e : Int)⟩] := by
  cases e with
  | zero => omega
  | succ e => rfl
theorem facsN_len {n : Nat} (h0 : 0 < n) (hn : n ≤ 65536) : (facsN n).length ≤ 16 := by
  have := (facsN_spec h0 hn).len
  have h5 : 2 ^ (facsN n).length < 2 ^ 17 := by rw [show (2 : Nat) ^ 17 = 131072 from rfl]; omega
  have := (Nat.pow_lt_pow_iff_right (show 1 < 2 by decide)).1 h5
  omega
theorem sq_le {d n : Nat} (h : d * d ≤ n) (hn : n ≤ 65536) : d ≤ 256 := by
  by_cases h5 : d ≤ 256
  · exact h5
  · have : 257 * 257 ≤ d * d := Nat.mul_le_mul (by omega) (by omega)
    omega
def fmeas (a b : Value) : Nat := if intOf a ≤ 1 then 0 else 400 - (intOf b).toNat
theorem fmeas_lt {m n d d' : Int} (h1 : 1 < n) (h2 : d ≤ 257) (h3 : 0 ≤ d) (h4 : m ≤ 1 ∨ d < d') : fmeas (.int .u64 m) (.int .u64 d') < fmeas (.int .u64 n) (.int .u64 d) := by
  show (if m ≤ 1 then 0 else 400 - d'.toNat) < if n ≤ 1 then 0 else 400 - d.toNat
  have hn : ¬ n ≤ 1 := by omega
  rw [if_neg hn]
  split <;> omega
set_option maxRecDepth 100000 in
set_option maxHeartbeats 4000000 in
theorem Factor_any (n0 : Nat) (h2 : 2 ≤ n0) (hn : n0 ≤ 65536) (w : World) : Calls Tryz.prog 178 #[.int .u64 n0] w fun e w' => ∃ v, e = .returned v ∧ OX facEnc 2 130 w' w.heap.size v (facsN n0) ∧ Below w.heap.size w w' := by
  have HL := Lib.hid (facsN_len (by omega) hn)
  have g0 : decide ((n0 : Int) < 2) = false := decide_eq_false (by omega)
  have g0' : decide (n0 < 2) = false := decide_eq_false (by omega)
  have g1 : decide ((4294967296 : Int) < (n0 : Int)) = false := decide_eq_false (by omega)
  have g1' : decide (4294967296 < n0) = false := decide_eq_false (by omega)
  have S0 := Lib.hid (show facsN n0 = [] ++ facsGo 300 n0 2 from rfl)
  have O0 := Lib.hid (OX.nil facEnc 2 130 w w.heap.size)
  go_enter Tryz.func178, Tryz.ntmps178
  go_wp2_with fail
  go_loopw [0, 3, 4] (fun a v b wr => ∃ (n d k : Nat) (l : List Fac), a = .int .u64 n ∧ b = .int .u64 d ∧ Hid (facsN n0 = l ++ facsGo k n d) ∧ Hid (OX facEnc 2 130 wr w.heap.size v l) ∧ Hid (Below w.heap.size w wr) ∧ 1 ≤ n ∧ n ≤ 65536 ∧ 2 ≤ d ∧ d ≤ 65537 ∧ (n = 1 ∨ (d ≤ 257 ∧ k + d = 302))) (fun a _ b _ => fmeas a b)
  case atStart => exact ⟨n0, 2, 300, [], rfl, rfl, S0, O0, Lib.hid (Below.refl _ _), by omega, by omega, by omega, by omega, .inr ⟨by omega, by omega⟩⟩
  case round =>
    clear g0 g0' g1 g1' S0 O0 h2 hn
    obtain ⟨n, d, k, l, rfl, rfl, HS, HO, HB, hn1, hn2, hd1, hd2, hk⟩ := hrel
    have hll : l.length ≤ 16 := by
      have h1 := HL.out
      rw [HS.out, List.length_append] at h1
      omega
    by_cases h1 : n = 1
    · subst h1
      have HF := Lib.hid (show facsN n0 = l by rw [HS.out, facsGo_one, List.append_nil])
      clear hk
      go_wp2_with fail
      go_ret
      exact ⟨_, rfl, by rw [HF.out]; exact HO.out, HB.out⟩
    · obtain ⟨hk1, hk2⟩ : d ≤ 257 ∧ k + d = 302 := by
        rcases hk with h | h
        · exact absurd h h1
        · exact h
      obtain ⟨k, rfl⟩ : ∃ k', k = k' + 1 := ⟨k - 1, by omega⟩
      have gn : decide ((1 : Int) < (n : Int)) = true := decide_eq_true (by omega)
      have gn' : decide (1 < n) = true := decide_eq_true (by omega)
      have eDD : IntKind.u64.wrap ((d : Int) * d) = ((d * d : Nat) : Int) := by
        have h : d * d ≤ 257 * 257 := Nat.mul_le_mul hk1 hk1
        rw [← Int.natCast_mul]
        exact w_small (Int.natCast_nonneg _) (by omega)
      clear hk
      have JOIN : ∀ dd : Nat, Hid (facsGo (k + 1) n d = gain dd (strip dd 64 n).2 ++ facsGo k (strip dd 64 n).1 (dd + 1)) → True := fun _ _ => trivial
      clear JOIN
      by_cases hdd : n < d * d
      · have q1 : decide ((n : Int) < ((d * d : Nat) : Int)) = true := decide_eq_true (by omega)
        have q1' : decide (n < d * d) = true := decide_eq_true hdd
        have HG := Lib.hid (facsGo_great (k := k) (by omega : 1 < n) hdd)
        have HT := Lib.hid (strip_self (by omega : 1 < n))
        have hn22 : 2 ≤ n := by omega
        clear hdd
        generalize d * d = s at *
        go_wp2_with fail
        go_loopw [0, 5] (fun a b wq => ∃ m e j : Nat, a = .int .u64 m ∧ b = .int .i64 e ∧ wq = wr ∧ Hid (strip n 64 n = ((strip n j m).1, (strip n j m).2 + e)) ∧ Hid (m < 2 ^ j) ∧ 0 < m ∧ m ≤ n ∧ e + j = 64) (fun a _ _ => (intOf a).toNat)
        case atStart => exact ⟨n, 0, 64, rfl, rfl, by first | rfl | trivial, Lib.hid rfl, Lib.hid (Nat.lt_of_le_of_lt hn2 (by decide)), by omega, by omega, by omega⟩
        case round =>
          obtain ⟨m, e, j, rfl, rfl, rfl, HI, HJ, hm0, hmn, hej⟩ := hrel
          have hj : 0 < j := Nat.pos_of_ne_zero fun h => by have := HJ.out; subst h; rw [Nat.pow_zero] at this; omega
          obtain ⟨j, rfl⟩ : ∃ j', j = j' + 1 := ⟨j - 1, by omega⟩
          have q4 : ¬ (n : Int) = 0 := by omega
          have q4' : ¬ n = 0 := by omega
          have e3 : (m : Int) % n = ((m % n : Nat) : Int) := (Int.natCast_emod _ _).symm
          have e4 : (m : Int) / n = ((m / n : Nat) : Int) := (Int.natCast_ediv _ _).symm
          by_cases hz : m % n = 0
          · obtain ⟨b1, b2, b3⟩ := half_lt hn22 hm0 hz HJ.out
            have HI2 := Lib.hid (strip_in HI.out hz)
            have HJ2 := Lib.hid b1
            have q5 : (((m % n : Nat) : Int) == 0) = true := by rw [hz]; rfl
            clear b1 hz
            generalize m % n = r at *
            generalize m / n = m2 at *
            go_wp2_with fail
            go_roundw
            case rel => exact ⟨m2, e + 1, j, by first | rfl | go_num, by go_num, by first | rfl | trivial, HI2, HJ2, by omega, by omega, by omega⟩
            case measure => simp [intOf]; omega
          · have HX := Lib.hid (strip_out HI.out hz)
            have q5 : (((m % n : Nat) : Int) == 0) = false := beq_eq_false_iff_ne.2 (by omega)
            have hme : m = 1 ∧ e = 1 := by
              have := HX.out
              rw [HT.out] at this
              injection this with a b
              exact ⟨a.symm, b.symm⟩
            have HME := Lib.hid hme
            have HR := Lib.hid (fac_round HS.out HG.out HX.out)
            have EG := Lib.hid (show facsN n0 = (l ++ [⟨n, (e : Int)⟩]) ++ facsGo k m (n + 1) by rw [HR.out, gain_pos (by omega)])
            have q6 : decide ((0 : Int) < (e : Int)) = true := decide_eq_true (by omega)
            have q6' : decide (0 < e) = true := decide_eq_true (by omega)
            clear hz hme
            generalize m % n = r at *
            go_wp2_with (at_builtin; refine wpList_appendX1 rfl (.tmp 33) (.tmp 37) 124 rfl facEnc 2 w.heap.size 130 _ 16 Tryz.underlying124 info130 (by decide) rfl (by decide) _ l ⟨n, (e : Int)⟩ _ rfl rfl rfl HO.out rfl (by intro u hu; simp [facEnc] at hu; rcases hu with rfl | rfl <;> rfl) (by omega) HB.out.size ?_; intro v' w1 ho hb _; have HO1 := Lib.hid ho; have HB1 := Lib.hid (HB.out.trans hb); clear ho hb)
            go_roundw
            case rel => exact ⟨m, n + 1, k, _, rfl, by go_num, EG, HO1, HB1, by omega, by omega, by omega, by omega, .inl HME.out.1⟩
            case measure => exact fmeas_lt (by omega) (by omega) (by omega) (.inl (by have := HME.out.1; omega))
      · have q1 : decide ((n : Int) < ((d * d : Nat) : Int)) = false := decide_eq_false (by omega)
        have q1' : decide (n < d * d) = false := decide_eq_false hdd
        have HG := Lib.hid (facsGo_small (k := k) (by omega : 1 < n) (Nat.le_of_not_lt hdd))
        have hd3 := sq_le (Nat.le_of_not_lt hdd) hn2
        clear hdd
        generalize d * d = s at *
        go_wp2_with fail
        go_loopw [0, 5] (fun a b wq => ∃ m e j : Nat, a = .int .u64 m ∧ b = .int .i64 e ∧ wq = wr ∧ Hid (strip d 64 n = ((strip d j m).1, (strip d j m).2 + e)) ∧ Hid (m < 2 ^ j) ∧ 0 < m ∧ m ≤ n ∧ e + j = 64) (fun a _ _ => (intOf a).toNat)
        case atStart => exact ⟨n, 0, 64, rfl, rfl, by first | rfl | trivial, Lib.hid rfl, Lib.hid (Nat.lt_of_le_of_lt hn2 (by decide)), by omega, by omega, by omega⟩
        case round =>
          obtain ⟨m, e, j, rfl, rfl, rfl, HI, HJ, hm0, hmn, hej⟩ := hrel
          have hj : 0 < j := Nat.pos_of_ne_zero fun h => by have := HJ.out; subst h; rw [Nat.pow_zero] at this; omega
          obtain ⟨j, rfl⟩ : ∃ j', j = j' + 1 := ⟨j - 1, by omega⟩
          have q4 : ¬ (d : Int) = 0 := by omega
          have q4' : ¬ d = 0 := by omega
          have e3 : (m : Int) % d = ((m % d : Nat) : Int) := (Int.natCast_emod _ _).symm
          have e4 : (m : Int) / d = ((m / d : Nat) : Int) := (Int.natCast_ediv _ _).symm
          by_cases hz : m % d = 0
          · obtain ⟨b1, b2, b3⟩ := half_lt hd1 hm0 hz HJ.out
            have HI2 := Lib.hid (strip_in HI.out hz)
            have HJ2 := Lib.hid b1
            have q5 : (((m % d : Nat) : Int) == 0) = true := by rw [hz]; rfl
            clear b1 hz
            generalize m % d = r at *
            generalize m / d = m2 at *
            go_wp2_with fail
            go_roundw
            case rel => exact ⟨m2, e + 1, j, by first | rfl | go_num, by go_num, by first | rfl | trivial, HI2, HJ2, by omega, by omega, by omega⟩
            case measure => simp [intOf]; omega
          · have HX := Lib.hid (strip_out HI.out hz)
            have q5 : (((m % d : Nat) : Int) == 0) = false := beq_eq_false_iff_ne.2 (by omega)
            have HR := Lib.hid (fac_round HS.out HG.out HX.out)
            clear hz
            generalize m % d = r at *
            by_cases he : e = 0
            · subst he
              have EG := Lib.hid (show facsN n0 = l ++ facsGo k m (d + 1) by rw [HR.out]; show l ++ [] ++ _ = _; rw [List.append_nil])
              go_wp2_with fail
              go_roundw
              case rel => exact ⟨m, d + 1, k, _, rfl, by go_num, EG, HO, HB, by omega, by omega, by omega, by omega, .inr ⟨by omega, by omega⟩⟩
              case measure => exact fmeas_lt (by omega) (by omega) (by omega) (.inr (by omega))
            · have EG := Lib.hid (show facsN n0 = (l ++ [⟨d, (e : Int)⟩]) ++ facsGo k m (d + 1) by rw [HR.out, gain_pos (by omega)])
              have q6 : decide ((0 : Int) < (e : Int)) = true := decide_eq_true (by omega)
              have q6' : decide (0 < e) = true := decide_eq_true (by omega)
              go_wp2_with (at_builtin; refine wpList_appendX1 rfl (.tmp 33) (.tmp 37) 124 rfl facEnc 2 w.heap.size 130 _ 16 Tryz.underlying124 info130 (by decide) rfl (by decide) _ l ⟨d, (e : Int)⟩ _ rfl rfl rfl HO.out rfl (by intro u hu; simp [facEnc] at hu; rcases hu with rfl | rfl <;> rfl) (by omega) HB.out.size ?_; intro v' w1 ho hb _; have HO1 := Lib.hid ho; have HB1 := Lib.hid (HB.out.trans hb); clear ho hb)
              go_roundw
              case rel => exact ⟨m, d + 1, k, _, rfl, by go_num, EG, HO1, HB1, by omega, by omega, by omega, by omega, .inr ⟨by omega, by omega⟩⟩
              case measure => exact fmeas_lt (by omega) (by omega) (by omega) (.inr (by omega))
end Go.Proofs.YtpkpadepccneeaaGreatDoor

/- The walks of sieve.Prime, odd and Generator at any number up to 65536. No condition. -/
namespace Go.Proofs.YtpkpadepccneeaaGreatDoor
open Go.RowKit
set_option linter.unusedVariables false
set_option linter.unusedSimpArgs false
/-- A row of factors of one's own, laid open. -/
structure FRow (w w' : World) (F : Option Addr) (c : Nat) (l : List Fac) : Prop where
  le : l.length ≤ c
  cap : c ≤ maxLen
  at_ : FI w' F l
  new : ∀ a, F = some a → w.heap.size ≤ a.block ∧ a.block < w'.heap.size
  bl : Below w.heap.size w w'
theorem frow_of {w w' : World} {v : Value} {l : List Fac} (h : OX facEnc 2 130 w' w.heap.size v l) (hb : Below w.heap.size w w') : ∃ F c, v = .slice F l.length c ∧ FRow w w' F c l := by
  rcases h.form facEnc_len with ⟨h0, h1⟩ | ⟨g, c, rfl, h1, h2, h3, h4, h5⟩
  · subst h1
    exact ⟨none, 0, h0, Nat.le_refl _, Nat.zero_le _, fun i hi => absurd hi (Nat.not_lt_zero i), fun a h => (by cases h), hb⟩
  · refine ⟨_, c, rfl, h3, h4, fun i hi => ⟨g, 0, rfl, ?_, ?_⟩, fun a h => by cases h; exact ⟨h1, h2⟩, hb⟩
    · have := h5 i 0 hi (by decide)
      rw [List.getD_eq_getElem?_getD, List.getElem?_eq_getElem hi]
      rw [List.getElem?_eq_getElem hi] at this
      simpa [facEnc] using this
    · have := h5 i 1 hi (by decide)
      rw [List.getD_eq_getElem?_getD, List.getElem?_eq_getElem hi]
      rw [List.getElem?_eq_getElem hi] at this
      simpa [facEnc] using this
theorem Factor_row (n : Nat) (h2 : 2 ≤ n) (hn : n ≤ 65536) (w : World) : Calls Tryz.prog 178 #[.int .u64 n] w fun e w' => ∃ F c, e = .returned (.slice F (facsN n).length c) ∧ FRow w w' F c (facsN n) :=
  (Factor_any n h2 hn w).mono fun e w' ⟨v, he, ho, hb⟩ => by obtain ⟨F, c, rfl, h⟩ := frow_of ho hb; exact ⟨F, c, he, h⟩
theorem prime_facs {n : Nat} (h2 : 2 ≤ n) (hn : n ≤ 65536) : primeB n = (decide ((facsN n).length = 1) && decide (((facsN n).getD 0 .z).e = 1)) := by
  have hs := facsN_spec (n := n) (by omega) hn
  generalize facsN n = l at *
  by_cases hp : Nt.Prime n
  · rw [primeB_yes hp]
    have hq : ∀ f ∈ l, f.q = n := fun f hf => by
      rcases hp.2 f.q (hs.dvd hf) with h | h
      · have := (hs.all f hf).1.1; omega
      · exact h
    cases l with
    | nil => have : 1 = n := hs.prod; omega
    | cons a r =>
      cases r with
      | nil =>
        have hpr : a.q ^ a.e.toNat * 1 = n := hs.prod
        have ha := hs.all a (List.mem_cons_self ..)
        rw [hq a (List.mem_cons_self ..), Nat.mul_one] at hpr
        have : a.e.toNat = 1 := by
          have h1 : n ^ a.e.toNat = n ^ 1 := by rw [hpr, Nat.pow_one]
          exact (Nat.pow_right_inj (by omega)).1 h1
        have he : a.e = 1 := by omega
        simp [he]
      | cons b r =>
        exfalso
        have h1 := (List.pairwise_cons.1 hs.up).1 b (List.mem_cons_self ..)
        rw [hq a (List.mem_cons_self ..), hq b (List.mem_cons_of_mem _ (List.mem_cons_self ..))] at h1
        omega
  · rw [primeB_no hp]
    cases l with
    | nil => rfl
    | cons a r =>
      cases r with
      | nil =>
        by_cases he : a.e = 1
        · exfalso
          have hpr : a.q ^ a.e.toNat * 1 = n := hs.prod
          rw [he, Nat.mul_one, show (1 : Int).toNat = 1 from rfl, Nat.pow_one] at hpr
          exact hp (hpr ▸ (hs.all a (List.mem_cons_self ..)).1)
        · simp [he]
      | cons b r => simp
theorem sPrime_any (n : Nat) (h2 : 2 ≤ n) (hn : n ≤ 65536) (w : World) : Calls Tryz.prog 177 #[.int .u64 n] w fun e w' => e = .returned (.bool (primeB n)) ∧ Below w.heap.size w w' := by
  have C := Lib.hid (Factor_row n h2 hn w)
  have HP := Lib.hid (prime_facs h2 hn)
  clear h2 hn
  generalize primeB n = b at *
  generalize facsN n = l at *
  go_enter Tryz.func177, Tryz.ntmps177
  go_wp2_with fail
  with_reducible refine (C.out).mono ?_
  rintro e w1 ⟨F, c, rfl, h⟩
  have H := Lib.hid h
  clear h C
  by_cases hl : l.length = 1
  · obtain ⟨bb, o, rfl, c0, c1⟩ := H.out.at_ 0 (by omega)
    have HQ := Lib.hid HP.out
    rw [hl] at HQ ⊢
    have c1' : w1.cell? ⟨bb, o + 1, none⟩ = some (.int .i64 (l.getD 0 .z).e) := by simpa using c1
    clear c0 c1 HP hl
    generalize (l.getD 0 .z).e = e0 at *
    by_cases he : e0 = 1
    · subst he
      have HB := Lib.hid (show b = true by rw [HQ.out]; rfl)
      clear HQ
      go_wp2_with fail
      go_ret
      exact ⟨by rw [HB.out]; rfl, H.out.bl⟩
    · have HB := Lib.hid (show b = false by rw [HQ.out]; simp [he])
      have q1 : (e0 == 1) = false := beq_eq_false_iff_ne.2 he
      clear HQ he
      go_wp2_with fail
      go_ret
      exact ⟨by rw [HB.out]; rfl, H.out.bl⟩
  · have HB := Lib.hid (show b = false by rw [HP.out]; simp [hl])
    have q1 : ((l.length : Int) == 1) = false := beq_eq_false_iff_ne.2 (by omega)
    have q1' : (l.length == 1) = false := beq_eq_false_iff_ne.2 hl
    clear HP hl
    go_wp2_with fail
    go_ret
    exact ⟨by rw [HB.out]; rfl, H.out.bl⟩
theorem sOdd_any (p : Nat) (w : World) : Calls Tryz.prog 119 #[.int .u64 p] w fun e w' => e = .returned (.bool (oddP p)) ∧ Below w.heap.size w w' := by
  unfold oddP
  by_cases h : 2 < p ∧ p ≤ 65536
  · obtain ⟨h1, h2⟩ := h
    have C := Lib.hid (sPrime_any p (by omega) h2 w)
    have g0 : decide ((2 : Int) < (p : Int)) = true := decide_eq_true (by omega)
    have g0' : decide (2 < p) = true := decide_eq_true h1
    have g1 : decide ((p : Int) ≤ 65536) = true := decide_eq_true (by omega)
    have g1' : decide (p ≤ 65536) = true := decide_eq_true h2
    generalize primeB p = b at *
    go_enter Tryz.func119, Tryz.ntmps119
    go_wp2_with fail
    refine C.out.mono ?_
    rintro e w' ⟨rfl, hb⟩
    have HB := Lib.hid hb
    clear hb
    go_wp2_with fail
    go_ret
    exact ⟨by simp [g0', g1'], HB.out⟩
  · by_cases h1 : 2 < p
    · have g0 : decide ((2 : Int) < (p : Int)) = true := decide_eq_true (by omega)
      have g0' : decide (2 < p) = true := decide_eq_true h1
      have g1 : decide ((p : Int) ≤ 65536) = false := decide_eq_false (by omega)
      have g1' : decide (p ≤ 65536) = false := decide_eq_false (by omega)
      generalize primeB p = b at *
      go_enter Tryz.func119, Tryz.ntmps119
      go_wp2_with fail
      go_ret
      exact ⟨by simp [g0', g1'], Below.refl _ _⟩
    · have g0 : decide ((2 : Int) < (p : Int)) = false := decide_eq_false (by omega)
      have g0' : decide (2 < p) = false := decide_eq_false h1
      generalize primeB p = b at *
      go_enter Tryz.func119, Tryz.ntmps119
      go_wp2_with fail
      go_ret
      exact ⟨by simp [g0'], Below.refl _ _⟩
/-- Whether some factor gives a power 1. -/
def hitB (p g : Nat) (l : List Fac) : Bool := l.any fun f => decide (g ^ ((p - 1) / f.q) % p = 1)
theorem hitB_yes {p g i : Nat} {l : List Fac} (hi : i < l.length) (h : g ^ ((p - 1) / (l.getD i .z).q) % p = 1) : hitB p g l = true := by
  unfold hitB
  rw [List.any_eq_true]
  exact ⟨_, getD_mem l .z hi, decide_eq_true h⟩
theorem hitB_no {p g : Nat} {l : List Fac} (h : ∀ i, i < l.length → g ^ ((p - 1) / (l.getD i .z).q) % p ≠ 1) : hitB p g l = false := by
  unfold hitB
  rw [List.any_eq_false]
  intro f hf hd
  obtain ⟨i, hi, rfl⟩ := List.getElem_of_mem hf
  have := h i hi
  rw [List.getD_eq_getElem?_getD, List.getElem?_eq_getElem hi] at this
  exact this (of_decide_eq_true hd)
theorem genC_any (gg gp : Nat) (p g q : Nat) (e : Int) (w : World) (hp1 : 1 ≤ p) (hpR : p < Mg.R) (hgR : g < Mg.R) (hq : 1 ≤ q) (h1 : w.cell? ⟨gg, 0, none⟩ = some (.int .u64 g)) (h2 : w.cell? ⟨gp, 0, none⟩ = some (.int .u64 p)) :
    Calls Tryz.prog 234 #[.agg #[.int .u64 q, .int .i64 e], .pointer (some ⟨gg, 0, none⟩), .pointer (some ⟨gp, 0, none⟩)] w fun ex w' => ex = .returned (.bool (decide (g ^ ((p - 1) / q) % p = 1))) ∧ Below w.heap.size w w' := by
  have hb1 := World.block_lt_of_cell? w _ h1
  have hb2 := World.block_lt_of_cell? w _ h2
  have hle : (p - 1) / q < Mg.R := Nat.lt_of_le_of_lt (Nat.div_le_self _ _) (by omega)
  have C := dPow_rd g ((p - 1) / q) p hgR hle hp1 hpR (w.alloc (.cells #[.int .u64 q, .int .i64 e] 130))
  have s1 : IntKind.u64.wrap ((p : Int) - 1) = ((p - 1 : Nat) : Int) := by
    rw [show (p : Int) - 1 = ((p - 1 : Nat) : Int) by omega]
    exact w_small (Int.natCast_nonneg _) (by simp only [Mg.R] at hpR; omega)
  have s2 : ((p - 1 : Nat) : Int) / (q : Int) = (((p - 1) / q : Nat) : Int) := (Int.natCast_ediv _ _).symm
  have s3 : ¬ (q : Int) = 0 := by omega
  have s4 : IntKind.u64.wrap (((p - 1) / q : Nat) : Int) = (((p - 1) / q : Nat) : Int) := w_small (Int.natCast_nonneg _) (by simp only [Mg.R] at hle; omega)
  have s3' : ¬ q = 0 := by omega
  have HB := Lib.hid ((Below.refl w.heap.size w).alloc (Nat.le_refl _) (.cells #[.int .u64 q, .int .i64 e] 130))
  clear hle hp1 hpR hgR hq
  generalize (p - 1) / q = k at *
  generalize g ^ k % p = r at *
  generalize p - 1 = p1 at *
  go_enter Tryz.func234, Tryz.ntmps234
  go_wp2_with fail
  go_quiet ((go_at_call 235; first | exact Rd.qa (C) _ _ | exact Rd.q (C) _))
  go_wp2_with fail
  go_ret
  refine ⟨?_, below_drewN HB.out _⟩
  by_cases h : r = 1
  · subst h; rfl
  · rw [decide_eq_false h, beq_eq_false_iff_ne.2 (show ((r : Int)) ≠ 1 by omega)]
    rfl
set_option maxHeartbeats 1000000 in
theorem genI_any (gg gp : Nat) (F : Option Addr) (c p g : Nat) (l : List Fac) (w : World) (hf : FI w F l) (hlen : l.length ≤ 1000) (hp1 : 1 ≤ p) (hpR : p < Mg.R) (hgR : g < Mg.R) (hq : ∀ i, i < l.length → 1 ≤ (l.getD i .z).q)
    (h1 : w.cell? ⟨gg, 0, none⟩ = some (.int .u64 g)) (h2 : w.cell? ⟨gp, 0, none⟩ = some (.int .u64 p)) :
    Calls Tryz.prog 278 #[.slice F l.length c, .func (.func 234) #[] #[.pointer (some ⟨gg, 0, none⟩), .pointer (some ⟨gp, 0, none⟩)]] w fun ex w' => ∃ r : Int, ex = .returned (.int .i64 r) ∧ decide (0 ≤ r) = hitB p g l ∧ Below w.heap.size w w' := by
  have C := Lib.hid fun W (q : Nat) (e : Int) (hq : 1 ≤ q) (hb : Below w.heap.size w W) => genC_any gg gp p g q e W hp1 hpR hgR hq (bcell hb h1) (bcell hb h2)
  have HF := Lib.hid hf
  have HQ := Lib.hid hq
  clear h1 h2 hf hq hp1 hpR hgR
  go_enter Tryz.func278, Tryz.ntmps278
  go_wp2_with fail
  go_loopw [8] (fun i wr => ∃ k : Nat, k ≤ l.length ∧ i = .int .i64 k ∧ Hid (∀ j, j < k → g ^ ((p - 1) / (l.getD j .z).q) % p ≠ 1) ∧ Hid (Below w.heap.size w wr)) (fun i _ => l.length - (intOf i).toNat)
  case atStart => exact ⟨0, by omega, rfl, Lib.hid (fun j hj => by omega), Lib.hid (Below.refl _ _)⟩
  case round =>
    obtain ⟨k, hk, rfl, HN, HB⟩ := hrel
    by_cases hlt : k < l.length
    · obtain ⟨b, o, rfl, c0, c1⟩ := HF.out k hlt
      have k0 := bcell HB.out c0
      have k1 := bcell HB.out c1
      have CC := Lib.hid (C.out wr (l.getD k .z).q (l.getD k .z).e (HQ.out k hlt) HB.out)
      have HY := Lib.hid (fun h => hitB_yes (p := p) (g := g) hlt h)
      have HS := Lib.hid (show g ^ ((p - 1) / (l.getD k .z).q) % p ≠ 1 → ∀ j, j < k + 1 → g ^ ((p - 1) / (l.getD j .z).q) % p ≠ 1 from fun h j hj => by
        by_cases e : j = k
        · subst e; exact h
        · exact HN.out j (by omega))
      have hi0 : (0 : Int) ≤ (k : Int) := by omega
      have hi1 : (k : Int) < (l.length : Int) := by omega
      clear c0 c1
      by_cases hh : g ^ ((p - 1) / (l.getD k .z).q) % p = 1
      · have HT := Lib.hid (HY.out hh)
        rw [decide_eq_true hh] at CC
        clear hh HY HS
        generalize (l.getD k .z).q = q at *
        generalize (l.getD k .z).e = e at *
        go_wp2_with fail
        with_reducible refine (CC.out).mono ?_
        rintro e1 w1 ⟨rfl, hb⟩
        have HB2 := Lib.hid (below_then HB.out HB.out.size hb)
        clear hb
        go_wp2_with fail
        go_ret
        exact ⟨(k : Int), rfl, by rw [HT.out]; exact decide_eq_true hi0, HB2.out⟩
      · have HT := Lib.hid (HS.out hh)
        rw [decide_eq_false hh] at CC
        clear hh HY HS
        generalize (l.getD k .z).q = q at *
        generalize (l.getD k .z).e = e at *
        go_wp2_with fail
        with_reducible refine (CC.out).mono ?_
        rintro e1 w1 ⟨rfl, hb⟩
        have HB2 := Lib.hid (below_then HB.out HB.out.size hb)
        clear hb
        go_wp2_with fail
        go_roundw
        case rel => exact ⟨k + 1, by omega, by go_num, HT, HB2⟩
        case measure => simp [intOf]; omega
    · have hkk : k = l.length := by omega
      subst hkk
      have HT := Lib.hid (hitB_no HN.out)
      go_wp2_with fail
      go_ret
      exact ⟨-1, rfl, by rw [HT.out]; rfl, HB.out⟩
theorem genK_any (gg gp : Nat) (F : Option Addr) (c p g : Nat) (l : List Fac) (w : World) (hf : FI w F l) (hlen : l.length ≤ 1000) (hp1 : 1 ≤ p) (hpR : p < Mg.R) (hgR : g < Mg.R) (hq : ∀ i, i < l.length → 1 ≤ (l.getD i .z).q)
    (h1 : w.cell? ⟨gg, 0, none⟩ = some (.int .u64 g)) (h2 : w.cell? ⟨gp, 0, none⟩ = some (.int .u64 p)) :
    Calls Tryz.prog 233 #[.slice F l.length c, .func (.func 234) #[] #[.pointer (some ⟨gg, 0, none⟩), .pointer (some ⟨gp, 0, none⟩)]] w fun ex w' => ex = .returned (.bool (hitB p g l)) ∧ Below w.heap.size w w' := by
  have C := Lib.hid (genI_any gg gp F c p g l w hf hlen hp1 hpR hgR hq h1 h2)
  clear h1 h2 hf hq hp1 hpR hgR hlen
  generalize hitB p g l = b at *
  generalize l.length = n at *
  go_enter Tryz.func233, Tryz.ntmps233
  go_wp2_with fail
  with_reducible refine (C.out).mono ?_
  rintro e w1 ⟨r, rfl, hr, hb⟩
  have HB := Lib.hid hb
  have HR := Lib.hid hr
  clear hb hr
  go_wp2_with fail
  go_ret
  exact ⟨by rw [← HR.out]; rfl, HB.out⟩
def cellNat (w : World) (b : Nat) : Nat := match w.cell? ⟨b, 0, none⟩ with | some v => (intOf v).toNat | none => 0
theorem cellNat_of {w : World} {b n : Nat} (h : w.cell? ⟨b, 0, none⟩ = some (.int .u64 (n : Int))) : cellNat w b = n := by
  unfold cellNat
  rw [h]
  rfl
theorem u64_dec (p : Nat) (h1 : 1 ≤ p) (hR : p < Mg.R) : IntKind.u64.wrap ((p : Int) - 1) = ((p - 1 : Nat) : Int) := by
  rw [show (p : Int) - 1 = ((p - 1 : Nat) : Int) by omega]
  exact w_small (Int.natCast_nonneg _) (by simp only [Mg.R] at hR; omega)
theorem hitB_gen {p g : Nat} (h : hitB p g (facsN (p - 1)) = false) : GenOk p g := fun f hf he => by
  unfold hitB at h
  rw [List.any_eq_false] at h
  exact h f hf (decide_eq_true he)
theorem gen_hitB {p g : Nat} (h : GenOk p g) : hitB p g (facsN (p - 1)) = false := by
  unfold hitB
  rw [List.any_eq_false]
  exact fun f hf hd => h f hf (of_decide_eq_true hd)
theorem cell_far {w : World} {a p : Addr} {u v : Value} (hc : w.cell? a = some v) (h : a.block ≠ p.block) : (w.setCell p u).cell? a = some v :=
  (World.cell?_of_block (Below.heap_setCell w p u a.block h)).trans hc
set_option maxHeartbeats 1000000 in
theorem Generator_any (p : Nat) (hp : Nt.Prime p) (h2 : 2 < p) (hb : p ≤ 65536) (w : World) : Calls Tryz.prog 179 #[.int .u64 p] w fun e w' => ∃ g : Nat, e = .returned (.int .u64 g) ∧ 2 ≤ g ∧ g < p ∧ GenOk p g ∧ Below w.heap.size w w' := by
  obtain ⟨c, hc0, hcp, hc⟩ := Nt.gen hp h2
  have hc2 := gen_two h2 hc hc0
  have HG := Lib.hid (gen_ok hp h2 hb hc)
  have HO := Lib.hid (show oddP p = true by unfold oddP; rw [decide_eq_true h2, decide_eq_true hb, primeB_yes hp]; rfl)
  have CO := Lib.hid fun W => sOdd_any p W
  rw [HO.out] at CO
  have CF := Lib.hid fun W => Factor_row (p - 1) (by omega) (by omega) W
  have hs := facsN_spec (n := p - 1) (by omega) (by omega)
  have HQ := Lib.hid (show ∀ i, i < (facsN (p - 1)).length → 1 ≤ ((facsN (p - 1)).getD i .z).q from fun i hi => (hs.all _ (getD_mem _ _ hi)).1.pos)
  have HLN := Lib.hid (facsN_len (n := p - 1) (by omega) (by omega))
  have s1 := u64_dec p (by omega) (by simp only [Mg.R]; omega)
  have HFIN := Lib.hid fun (g : Nat) (h : hitB p g (facsN (p - 1)) = false) => hitB_gen h
  have HHIT := Lib.hid fun (g : Nat) (h : hitB p g (facsN (p - 1)) = true) => (show g ≠ c from fun e => by rw [e, gen_hitB HG.out] at h; cases h)
  have HB0 := Lib.hid ((Below.refl w.heap.size w).alloc (Nat.le_refl _) (.cells #[.int .u64 p] 22))
  have K0 := Lib.hid (Blk.new w 22 #[.int .u64 p])
  clear hs hp hc hc0 HG HO
  generalize facsN (p - 1) = l at *
  generalize p - 1 = p1 at *
  go_enter Tryz.func179, Tryz.ntmps179
  go_wp2_with fail
  with_reducible refine ((CO.out _)).mono ?_
  rintro e w1 ⟨rfl, hb1⟩
  have HB1 := Lib.hid (below_then HB0.out HB0.out.size hb1)
  have K1 := Lib.hid (K0.out.below hb1 K0.out.lt)
  clear hb1 K0 HB0 CO
  have d0 := K1.out.cell 0
  go_wp2_with fail
  with_reducible refine ((CF.out _)).mono ?_
  rintro e w2 ⟨F, cf, rfl, h⟩
  have HB2 := Lib.hid (below_then HB1.out HB1.out.size h.bl)
  have K2 := Lib.hid (K1.out.below h.bl K1.out.lt)
  have HR := Lib.hid h
  clear h d0 K1 CF
  have hb3 := (Below.refl w2.heap.size w2).alloc (Nat.le_refl _) (.cells #[.int .u64 2] 22)
  have HB3 := Lib.hid (below_then HB2.out HB2.out.size hb3)
  have K3 := Lib.hid (Blk.new w2 22 #[.int .u64 2])
  have KP := Lib.hid (K2.out.alloc (.cells #[.int .u64 2] 22))
  have FF := Lib.hid (HR.out.at_.below hb3)
  have hsz := HB2.out.size
  have hk2 := K2.out.lt
  clear hb3
  go_wp2_with fail
  generalize hU : w2.alloc (.cells #[.int .u64 2] 22) = U at *
  have hne : ¬ w.heap.size = w2.heap.size := by omega
  have HFB := Lib.hid (show ∀ a, F = some a → a.block ≠ w2.heap.size from fun a h => by have := (HR.out.new a h).2; omega)
  clear hU
  generalize w2.heap.size = G4 at *
  go_loopw [11] (fun v wr => ∃ g : Nat, 2 ≤ g ∧ g ≤ c ∧ Hid (Blk wr G4 22 #[.int .u64 g]) ∧ Hid (Blk wr w.heap.size 22 #[.int .u64 p]) ∧ Hid (Below w.heap.size w wr) ∧ Hid (FI wr F l)) (fun _ wr => c - cellNat wr G4)
  case atStart => exact ⟨2, by omega, by omega, K3, KP, HB3, FF⟩
  case round =>
    obtain ⟨g, hg2, hgc, HK, HP, HB, HF⟩ := hrel
    have c4 := HK.out.cell 0
    have CK := Lib.hid (genK_any G4 w.heap.size F cf p g l wr HF.out (by have := HLN.out; omega) (by omega) (by simp only [Mg.R]; omega) (by simp only [Mg.R]; omega) HQ.out (HK.out.cell 0) (HP.out.cell 0))
    have HY := Lib.hid (HHIT.out g)
    have HN := Lib.hid (HFIN.out g)
    cases hh : hitB p g l with
    | false =>
      rw [hh] at CK
      have HE := Lib.hid (HN.out hh)
      clear hh HY HN c4
      go_wp2_with fail
      with_reducible refine (CK.out).mono ?_
      rintro e w4 ⟨rfl, hb4⟩
      have HB4 := Lib.hid (below_then HB.out HB.out.size hb4)
      have K4 := Lib.hid (HK.out.below hb4 HK.out.lt)
      clear hb4
      have d4 := K4.out.cell 0
      go_wp2_with fail
      go_ret
      exact ⟨g, rfl, hg2, by omega, HE.out, HB4.out⟩
    | true =>
      rw [hh] at CK
      have hne2 := HY.out hh
      clear hh HY HN c4
      have hm0 := cellNat_of (HK.out.cell 0)
      have HM0 := Lib.hid hm0
      go_wp2_with fail
      with_reducible refine (CK.out).mono ?_
      rintro e w4 ⟨rfl, hb4⟩
      have HB4 := Lib.hid (below_then HB.out HB.out.size hb4)
      have K4 := Lib.hid (HK.out.below hb4 HK.out.lt)
      have P4 := Lib.hid (HP.out.below hb4 HP.out.lt)
      have F4 := Lib.hid (HF.out.below hb4)
      clear hb4 hm0
      have d4 := K4.out.cell 0
      have f4 := K4.out.frozen 0
      have s3 : IntKind.u64.wrap ((g : Int) + 1) = ((g + 1 : Nat) : Int) := by
        rw [show (g : Int) + 1 = ((g + 1 : Nat) : Int) by omega]
        exact w_small (Int.natCast_nonneg _) (by omega)
      have K5 := Lib.hid (show Blk (w4.setCell ⟨G4, 0, none⟩ (.int .u64 ((g + 1 : Nat) : Int))) G4 22 #[.int .u64 ((g + 1 : Nat) : Int)] from K4.out.set_ 0 (.int .u64 ((g + 1 : Nat) : Int)))
      have P5 := Lib.hid (P4.out.far (p := ⟨G4, 0, none⟩) hne (.int .u64 ((g + 1 : Nat) : Int)))
      have B5 := Lib.hid (HB4.out.setCell (p := ⟨G4, 0, none⟩) hsz (.int .u64 ((g + 1 : Nat) : Int)))
      have F5 := Lib.hid (show FI (w4.setCell ⟨G4, 0, none⟩ (.int .u64 ((g + 1 : Nat) : Int))) F l from fun i hi => by
        obtain ⟨b, o, e, c1, c2⟩ := F4.out i hi
        have hbl := HFB.out _ e
        exact ⟨b, o, e, cell_far c1 (fun h => hbl h), cell_far c2 (fun h => hbl h)⟩)
      go_wp2_with fail
      go_roundw
      case rel => exact ⟨g + 1, by omega, by omega, K5, P5, B5, F5⟩
      case measure => rw [HM0.out, show ((g : Int) + 1) = ((g + 1 : Nat) : Int) from by omega, cellNat_of (K5.out.cell 0)]; omega
end Go.Proofs.YtpkpadepccneeaaGreatDoor

/- The walk of sieve.gather at any prime up to 65536: the entries of the prime and of all that its proof needs. No condition. -/
namespace Go.Proofs.YtpkpadepccneeaaGreatDoor
open Go.RowKit Go.Maps
set_option linter.unusedVariables false
set_option linter.unusedSimpArgs false
def kx (x : Nat) : Lit := .int .u64 (x : Int)
theorem kx_wf {x : Nat} (h : x ≤ 65536) : (kx x).wf = true := by
  unfold kx
  simp [Lit.wf, IntKind.min, IntKind.max, IntKind.signed, IntKind.bits]
  omega
theorem kx_ne {x y : Nat} (h : x ≠ y) : kx x ≠ kx y := fun e => by
  unfold kx at e
  injection e with _ e
  exact h (by omega)
def entV (x g : Nat) (F : Option Addr) (n c : Nat) : Value := .agg #[.int .u64 x, .int .u64 g, .slice F n c]
/-- The map has an entry for x, whose factors lie. -/
structure EntM (w : World) (b : Nat) (D : DataW Value) (x g : Nat) (F : Option Addr) (c : Nat) : Prop where
  at_ : ∀ z, D.atKey (kx x) z = .held (entV x g F (facsN (x - 1)).length c)
  ok : EntG ⟨x, g, facsN (x - 1)⟩
  le : (facsN (x - 1)).length ≤ c
  cap : c ≤ maxLen
  fi : FI w F (facsN (x - 1))
  far : ∀ a, F = some a → a.block ≠ b
/-- Just the keys K, each with its entry. -/
structure GM (w : World) (b : Nat) (D : DataW Value) (K : List Nat) : Prop where
  is : IsMap D
  keys : ∀ x : Nat, has D (kx x) = decide (x ∈ K)
  ent : ∀ x, x ∈ K → ∃ g F c, EntM w b D x g F c
theorem FI.fr {w w' : World} {S : Nat → Prop} {F : Option Addr} {l : List Fac} (h : FI w F l) (hf : Fr S w w') (hS : ∀ a, F = some a → ¬ S a.block) : FI w' F l := fun i hi => by
  obtain ⟨b, o, e, c1, c2⟩ := h i hi
  have hn := hS _ e
  exact ⟨b, o, e, hf.cell c1 hn, hf.cell c2 hn⟩
theorem GM.fr {w w' : World} {b : Nat} {D : DataW Value} {K : List Nat} (h : GM w b D K) (hf : Fr (· = b) w w') : GM w' b D K :=
  ⟨h.is, h.keys, fun x hx => by
    obtain ⟨g, F, c, e⟩ := h.ent x hx
    exact ⟨g, F, c, e.at_, e.ok, e.le, e.cap, e.fi.fr hf e.far, e.far⟩⟩
theorem GM.put {w : World} {b : Nat} {D : DataW Value} {K : List Nat} (h : GM w b D K) {x g c : Nat} {F : Option Addr} (hx : x ∉ K) (hb : x ≤ 65536) (ok : EntG ⟨x, g, facsN (x - 1)⟩) (le : (facsN (x - 1)).length ≤ c) (cap : c ≤ maxLen) (fi : FI w F (facsN (x - 1))) (far : ∀ a, F = some a → a.block ≠ b)
    (hk : WideAt.IsKeyLit (kx x)) : GM w b (D.put (kx x) (.held (entV x g F (facsN (x - 1)).length c))) (x :: K) :=
  ⟨h.is.put _ _, fun y => by
    by_cases e : y = x
    · subst e
      rw [has_put_same h.is hk]
      simp
    · rw [has_put_other (kx_ne e), h.keys y]
      simp [e], fun y hy => by
    by_cases e : y = x
    · subst e
      exact ⟨g, F, c, fun z => atKey_put_same h.is hk _ z, ok, le, cap, fi, far⟩
    · obtain ⟨g', F', c', k⟩ := h.ent y (by rcases List.mem_cons.1 hy with h | h; exact absurd h e; exact h)
      exact ⟨g', F', c', fun z => by rw [atKey_put_other (kx_ne e)]; exact k.at_ z, k.ok, k.le, k.cap, k.fi, k.far⟩⟩
/-- What gather leaves. -/
def GPost (m p b : Nat) (K : List Nat) (w w' : World) : Prop :=
  ∃ (D' : DataW Value) (K' : List Nat), SM w' b K'.length D' ∧ GM w' b D' K' ∧ Ext K K' ∧ (p = 2 ∨ p ∈ K') ∧ K'.length ≤ K.length + tc m p ∧ Fr (· = b) w w'
theorem GPost.same {m p b : Nat} {K : List Nat} {D : DataW Value} {w w' : World} (hm : SM w b K.length D) (hg : GM w b D K) (hp : p = 2 ∨ p ∈ K) (hb : Below w.heap.size w w') : GPost m p b K w w' :=
  ⟨D, K, (Fr.of_below (fun _ => False) hb).map hm (fun h => h), hg.fr (.of_below _ hb), Ext.refl K, hp, by omega, .of_below _ hb⟩
/-- As far as a prime's factors are gathered. -/
structure GLoop (m p b : Nat) (K : List Nat) (F : Option Addr) (w wr : World) (k : Nat) (D : DataW Value) (Ki : List Nat) : Prop where
  gat : Gat K Ki p (facsN (p - 1)) k
  sm : SM wr b Ki.length D
  gm : GM wr b D Ki
  len : Ki.length ≤ K.length + 1 + tsum (tc m) ((facsN (p - 1)).take k)
  fr : Fr (· = b) w wr
  fi : FI wr F (facsN (p - 1))
theorem GLoop.step {m p b k : Nat} {K Ki : List Nat} {F : Option Addr} {w wr w' : World} {D : DataW Value} (h : GLoop m p b K F w wr k D Ki) (hk : k < (facsN (p - 1)).length) (hF : ∀ a, F = some a → a.block ≠ b) (hp : GPost m ((facsN (p - 1)).getD k .z).q b Ki wr w') : ∃ D' K', GLoop m p b K F w w' (k + 1) D' K' := by
  obtain ⟨D', K', h1, h2, h3, h4, h5, h6⟩ := hp
  refine ⟨D', K', h.gat.step h3 h4, h1, h2, ?_, h.fr.trans h6, h.fi.fr h6 hF⟩
  rw [tsum_take _ _ _ hk]
  have := h.len
  omega
theorem GLoop.done {m p b : Nat} {K Ki : List Nat} {F : Option Addr} {w wr : World} {D : DataW Value} (h : GLoop m p b K F w wr (facsN (p - 1)).length D Ki) (h2 : p ≠ 2) : GPost (m + 1) p b K w wr := by
  obtain ⟨a, b⟩ := h.gat.done
  refine ⟨D, Ki, h.sm, h.gm, a, .inr b, ?_, h.fr⟩
  rw [tc_odd m h2]
  have := h.len
  rw [List.take_length] at this
  omega
theorem GPost.then {m p b : Nat} {K : List Nat} {w w1 w2 : World} (hb : Below w.heap.size w w1) (h : GPost m p b K w1 w2) : GPost m p b K w w2 := by
  obtain ⟨D', K', h1, h2, h3, h4, h5, h6⟩ := h
  exact ⟨D', K', h1, h2, h3, h4, h5, (Fr.of_below _ hb).trans h6⟩
/-- A prime, odd or 2. -/
def PQ (p : Nat) : Prop := p = 2 ∨ (Nt.Prime p ∧ 2 < p)
theorem child_ok {p m k : Nat} (hp : Nt.Prime p) (h2 : 2 < p) (hb : p ≤ 65536) (hm : p ≤ 2 ^ (m + 1)) (hk : k < (facsN (p - 1)).length) : PQ ((facsN (p - 1)).getD k .z).q ∧ ((facsN (p - 1)).getD k .z).q ≤ 65536 ∧ ((facsN (p - 1)).getD k .z).q ≤ 2 ^ m := by
  obtain ⟨e, r, hl, hr, _⟩ := pred_facs hp h2 hb
  have hmem := getD_mem (facsN (p - 1)) .z hk
  generalize (facsN (p - 1)).getD k .z = f at *
  rw [hl] at hmem
  rw [Nat.pow_succ] at hm
  rcases List.mem_cons.1 hmem with rfl | h
  · exact ⟨.inl rfl, by show 2 ≤ 65536; omega, by show 2 ≤ 2 ^ m; omega⟩
  · obtain ⟨a, b, c⟩ := hr f h
    exact ⟨.inr ⟨a, b⟩, by omega, by omega⟩
theorem zero_tok : tok (.agg #[.int .u64 0, .int .u64 0, .slice none 0 0]) = some (.held (.agg #[.int .u64 0, .int .u64 0, .slice none 0 0]), []) := rfl
set_option maxRecDepth 100000 in
set_option maxHeartbeats 4000000 in
theorem gather_any : ∀ (m p b : Nat) (K : List Nat) (D : DataW Value) (w : World), PQ p → p ≤ 65536 → p ≤ 2 ^ m → SM w b K.length D → GM w b D K → K.length + tc m p ≤ 1000 →
    Calls Tryz.prog 120 #[.map (some b), .int .u64 p] w fun e w' => e = .returned undef ∧ GPost m p b K w w' := by
  intro m
  induction m with
  | zero =>
    intro p b K D w hp hb h
    rw [Nat.pow_zero] at h
    rcases hp with rfl | ⟨h1, h2⟩ <;> omega
  | succ m ih =>
    intro p b K D w hp hb hm hsm hgm hlen
    have HM := Lib.hid hsm
    have HG := Lib.hid hgm
    have hkey := hgm.keys p
    have hbw : b < w.heap.size := World.ownsMap.lt hsm
    have HK := Lib.hid (keyOf_int_mk (P := Tryz.prog) Tryz.underlying22 (a := (p : Int)) (kx_wf hb))
    have HS := Lib.hid fun (h : p = 2 ∨ p ∈ K) (w' : World) (hb : Below w.heap.size w w') => GPost.same (m := m + 1) hsm hgm h hb
    by_cases hpK : p ∈ K
    · obtain ⟨g, F, c, he⟩ := hgm.ent p hpK
      have hat := he.at_
      rw [decide_eq_true hpK] at hkey
      have HAT := Lib.hid hat
      have HR := Lib.hid (HS.out (.inr hpK))
      have HKEY := Lib.hid hkey
      clear hsm hgm hkey he hat hp hm hlen hpK ih HS
      generalize (facsN (p - 1)).length = nf at *
      go_enter Tryz.func120, Tryz.ntmps120
      go_wp2_with (at_lookup; refine wpList_lookup_own_ok _ rfl (.tmp 10) (.tmp 11) 206 rfl 22 126 key22 Tryz.underlying206 tok (zero126 _) (.held (.agg #[.int .u64 0, .int .u64 0, .slice none 0 0])) [] rfl b K.length _ rfl HM.out (.int .u64 (p : Int)) (kx p) rfl HK.out ?_; intro v ps hv; rw [HAT.out] at hv; rw [HKEY.out]; obtain rfl := tok_eq hv; clear hv; unfold entV)
      exact bodyPost_ret (results_none rfl _ _ _) rfl ⟨rfl, HR.out _ ((Below.refl _ _).alloc (Nat.le_refl _) _)⟩
    · have hat := atKey_of_not_has (D := D) (k := kx p) (by rw [hkey]; exact decide_eq_false hpK) (.held (.agg #[.int .u64 0, .int .u64 0, .slice none 0 0]))
      rw [decide_eq_false hpK] at hkey
      have HAT := Lib.hid hat
      have HKEY := Lib.hid hkey
      clear hkey hat
      by_cases hp2 : p = 2
      · subst hp2
        have HR := Lib.hid (HS.out (.inl rfl))
        clear hsm hgm hp hm hlen hpK ih HS
        go_enter Tryz.func120, Tryz.ntmps120
        go_wp2_with (at_lookup; refine wpList_lookup_own_ok _ rfl (.tmp 10) (.tmp 11) 206 rfl 22 126 key22 Tryz.underlying206 tok (zero126 _) (.held (.agg #[.int .u64 0, .int .u64 0, .slice none 0 0])) [] rfl b K.length _ rfl HM.out (.int .u64 ((2 : Nat) : Int)) (kx 2) rfl HK.out ?_; intro v ps hv; rw [HAT.out] at hv; rw [HKEY.out]; obtain rfl := tok_eq hv; clear hv)
        exact bodyPost_ret (results_none rfl _ _ _) rfl ⟨rfl, HR.out _ ((Below.refl _ _).alloc (Nat.le_refl _) _)⟩
      · obtain ⟨hpr, h2⟩ : Nt.Prime p ∧ 2 < p := by
          rcases hp with h | h
          · exact absurd h hp2
          · exact h
        have CF := Lib.hid fun W => Factor_row (p - 1) (by omega) (by omega) W
        have CG := Lib.hid fun W => Generator_any p hpr h2 hb W
        have HCH := Lib.hid fun k hk => child_ok (k := k) hpr h2 hb hm hk
        have htc := tc_odd m hp2
        have hln := facsN_len (n := p - 1) (by omega) (by omega)
        have HDONE := Lib.hid fun (F : Option Addr) (W X : World) (D : DataW Value) (Ki : List Nat) (h : GLoop m p b K F W X (facsN (p - 1)).length D Ki) => h.done hp2
        have HPUT := Lib.hid fun (W : World) (g c : Nat) (F : Option Addr) (h : GM W b D K) ok le cap fi far => GM.put (x := p) (g := g) (c := c) (F := F) h hpK hb ok le cap fi far trivial
        have HTL := Lib.hid (tsum_take_le (tc m) (facsN (p - 1)))
        have HTS := Lib.hid (tsum_take (tc m) (facsN (p - 1)))
        have HENT := Lib.hid fun (g : Nat) (a : 2 ≤ g) (b' : g < p) (c : GenOk p g) => (show EntG ⟨p, g, facsN (p - 1)⟩ from ⟨hpr, h2, hb, a, b', c, rfl⟩)
        have s1 := u64_dec p (by omega) (by simp only [Mg.R]; omega)
        have q1 : ((p : Int) == 2) = false := beq_eq_false_iff_ne.2 (by omega)
        have q1' : (p == 2) = false := beq_eq_false_iff_ne.2 (by omega)
        have HM1 := Lib.hid (World.ownsMap.alloc hsm (.cells #[.int .u64 0, .int .u64 0, .slice none 0 0] 126))
        have F1 := Lib.hid (Fr.alloc (· = b) w (.cells #[.int .u64 0, .int .u64 0, .slice none 0 0] 126))
        rw [htc] at hlen
        have IH := Lib.hid ih
        clear hsm hgm hp hm hpK ih HS hp2 hpr h2 htc
        generalize hfs : facsN (p - 1) = fs at *
        have HFS := Lib.hid hfs
        clear hfs
        generalize hp1 : p - 1 = p1 at *
        have HFS := Lib.hid (show facsN (p - 1) = fs by rw [hp1]; exact HFS.out)
        clear hp1
        go_enter Tryz.func120, Tryz.ntmps120
        go_wp2_with (at_lookup; refine wpList_lookup_own_ok _ rfl (.tmp 10) (.tmp 11) 206 rfl 22 126 key22 Tryz.underlying206 tok (zero126 _) (.held (.agg #[.int .u64 0, .int .u64 0, .slice none 0 0])) [] rfl b K.length _ rfl HM.out (.int .u64 (p : Int)) (kx p) rfl HK.out ?_; intro v ps hv; rw [HAT.out] at hv; rw [HKEY.out]; obtain rfl := tok_eq hv; clear hv)
        with_reducible refine (CF.out _).mono ?_
        rintro e w1 ⟨F, c, rfl, h⟩
        have F2 := Lib.hid (F1.out.trans (Fr.of_below (· = b) h.bl))
        have M2 := Lib.hid ((Fr.of_below (fun _ => False) h.bl).map HM1.out (fun h => h))
        have HR := Lib.hid h
        have HFAR := Lib.hid (show ∀ a, F = some a → a.block ≠ b from fun a ha => by
          have := (h.new a ha).1
          simp at this
          omega)
        clear h F1 HM1 HM CF
        go_wp2_with fail
        with_reducible refine ((CG.out w1)).mono ?_
        rintro e w2 ⟨g, rfl, hg2, hgp, hgo, hb2⟩
        have F3 := Lib.hid (F2.out.trans (Fr.of_below (· = b) hb2))
        have M3 := Lib.hid ((Fr.of_below (fun _ => False) hb2).map M2.out (fun h => h))
        have G3 := Lib.hid (HG.out.fr F3.out)
        have I3 := Lib.hid (HR.out.at_.below hb2)
        have E3 := Lib.hid (HENT.out g hg2 hgp hgo)
        clear hb2 F2 M2 HENT CG hg2 hgp hgo
        go_wp2_with (at_mapUpdate; refine wpList_mapUpdate_own _ rfl (.tmp 23) (.tmp 24) (.tmp 29) 206 rfl 22 126 key22 Tryz.underlying206 tok b K.length _ rfl M3.out (by unfold maxLen; omega) (.int .u64 (p : Int)) (entV p g F fs.length c) (kx p) rfl rfl HK.out (.held (entV p g F fs.length c)) [] rfl ?_; intro w3 hm3 hg3; have M4 := Lib.hid hm3; have J := Lib.hid hg3; clear hm3 hg3)
        have FJ := Lib.hid (Fr.of_grown (S := (· = b)) J.out (fun r e => (Option.some.inj e).symm))
        have F4 := Lib.hid (F3.out.trans FJ.out)
        have I4 := Lib.hid (I3.out.fr FJ.out HFAR.out)
        have G4 := Lib.hid (HPUT.out w3 g c F (G3.out.fr FJ.out) E3.out HR.out.le HR.out.cap I4.out HFAR.out)
        have L0 := Lib.hid (show GLoop m p b K F w w3 0 (D.put (kx p) (.held (entV p g F fs.length c))) (p :: K) from
          ⟨Gat.start _ _ _, M4.out, G4.out, by simp, F4.out, by rw [HFS.out]; exact I4.out⟩)
        clear M4 G4 J F4 I4 I3 G3 M3 F3 HPUT E3 FJ HG
        have HNF := HR.out.le
        go_wp2_with fail
        go_loopw [32] (fun i wr => ∃ (k : Nat) (Dk : DataW Value) (Kk : List Nat), k ≤ fs.length ∧ i = .int .i64 k ∧ Hid (GLoop m p b K F w wr k Dk Kk)) (fun i _ => fs.length - (intOf i).toNat)
        case atStart => exact ⟨0, _, _, by omega, rfl, L0⟩
        case round =>
          clear L0
          obtain ⟨k, Dk, Kk, hk, rfl, HL⟩ := hrel
          by_cases hlt : k < fs.length
          · have hfi := HL.out.fi
            rw [HFS.out] at hfi
            obtain ⟨fb, fo, rfl, c0, c1⟩ := hfi k hlt
            obtain ⟨a1, a2, a3⟩ := HCH.out k hlt
            have hlen2 : Kk.length + tc m (fs.getD k .z).q ≤ 1000 := by
              have h1 := HL.out.len
              rw [HFS.out] at h1
              have h2 := HTS.out k hlt
              have h3 := HTL.out (k + 1)
              omega
            have hb5 := (Below.refl wr.heap.size wr).alloc (Nat.le_refl _) (.cells #[.int .u64 ((fs.getD k .z).q : Int), .int .i64 (fs.getD k .z).e] 130)
            have KB := Lib.hid (Blk.new wr 130 #[.int .u64 ((fs.getD k .z).q : Int), .int .i64 (fs.getD k .z).e])
            have CH := Lib.hid (IH.out (fs.getD k .z).q b Kk Dk (wr.alloc (.cells #[.int .u64 ((fs.getD k .z).q : Int), .int .i64 (fs.getD k .z).e] 130)) a1 a2 a3 (World.ownsMap.alloc HL.out.sm _) (HL.out.gm.fr (.of_below _ hb5)) hlen2)
            have HST := Lib.hid fun (w' : World) (h : GPost m (fs.getD k .z).q b Kk (wr.alloc (.cells #[.int .u64 ((fs.getD k .z).q : Int), .int .i64 (fs.getD k .z).e] 130)) w') =>
              HL.out.step (w' := w') (by rw [HFS.out]; exact hlt) HFAR.out (by rw [HFS.out]; exact h.then hb5)
            have hi0 : (0 : Int) ≤ (k : Int) := by omega
            have hi1 : (k : Int) < (fs.length : Int) := by omega
            clear hfi a1 a2 a3 hlen2 hb5 HL
            generalize (fs.getD k .z).q = q at *
            generalize (fs.getD k .z).e = e at *
            go_upto_region 7 with fail
            generalize wr.alloc (.cells #[.int .u64 (q : Int), .int .i64 e] 130) = W1 at *
            have k0 := KB.out.cell 0
            generalize wr.heap.size = b5 at *
            go_wp2_with fail
            with_reducible refine (CH.out).mono ?_
            rintro e w4 ⟨rfl, hgp⟩
            obtain ⟨D2, K2, h2⟩ := HST.out w4 hgp
            have HL2 := Lib.hid h2
            clear hgp h2 k0
            go_wp2_with fail
            go_roundw
            case rel => exact ⟨k + 1, D2, K2, by omega, by go_num, HL2⟩
            case measure => simp [intOf]; omega
          · have hkk : k = fs.length := by omega
            subst hkk
            have HD := Lib.hid (HDONE.out F w wr Dk Kk HL.out)
            go_wp2_with fail
            exact bodyPost_end (results_none rfl _ _ _) rfl ⟨rfl, HD.out⟩
end Go.Proofs.YtpkpadepccneeaaGreatDoor
