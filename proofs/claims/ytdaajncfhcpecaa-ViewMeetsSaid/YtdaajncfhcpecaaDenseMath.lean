/- Plain words of chapter 8's law on Dense: the cells of a dense view are all numbers, in order. No condition. -/
import Derived.Test.YtdaajncfhcpecaaVTwo
namespace Go.Proofs.Ytdaajncfhcpecaa
set_option linter.unusedVariables false
namespace V
theorem stride_le {l : List Int} (h : S.Ok l) (k : Nat) : 1 ≤ S.stride l k ∧ S.stride l k ≤ 4096 := by
  have h1 := S.prod_drop_pos l (k + 1) h.2.1
  have h2 := S.prod_drop_le l (k + 1) h.2.1
  have h3 := h.2.2
  unfold S.stride
  omega
theorem sumR_strides (l i : List Int) (hok : S.Ok l) (hl : l.length ≤ i.length) (hi : S.isL l i = true) : ∀ k, k ≤ l.length → sumR (S.strides l) i k = S.sumTo l i k
  | 0, _ => by rw [S.sumTo_zero]; rfl
  | k + 1, hk => by
    have ih := sumR_strides l i hok hl hi k (by omega)
    have hs := S.sum_step l i k (by omega) hl hok.2.1 hi
    have hb := stride_le hok k
    simp only [sumR]
    rw [ih, S.strides_getD l (by omega), cut_near (by omega) (by omega)]
    exact hs.2.2.2.2
theorem dense_cell {l : List Int} (hok : S.Ok l) {n : Nat} (hn : n < sizeN l) : cellOf 0 l (S.strides l) n = n := by
  have hN := sizeN_ok hok
  have h := S.num_at hok (n := n) (by omega) (by omega)
  have h4 : (S.pad (S.atL l n)).length = 4 := S.pad_length (by rw [S.atL_length]; exact hok.1)
  unfold cellOf cellR
  rw [S.strides_length, sumR_strides l _ hok (by rw [h4]; exact hok.1) h.1 _ (Nat.le_refl _), S.sumTo_all l _ (by rw [h4]; exact hok.1), h.2]
  rw [cut_near (by omega) (by omega)]
  omega
theorem dense_check {l : List Int} (hok : S.Ok l) {c : Int} (h0 : sizeN l ≤ c) (hc : c ≤ 4096) : check 0 l (S.strides l) c = 0 := by
  refine check_ok (S.strides_length l).symm (by omega) hc hok rfl (fun n hn => ?_) (fun j hj i hi => ?_)
  · rw [dense_cell hok hn]; omega
  · rw [dense_cell hok hj, dense_cell hok (by omega)]; omega
theorem dense_less {l : List Int} (hok : S.Ok l) : check 0 l (S.strides l) (sizeN l - 1) = 6 := by
  have hN := sizeN_ok hok
  have hp := hok.pos
  have h3 := hok.2.2
  unfold check
  rw [if_neg (by rw [S.strides_length]; omega), hok.size, if_neg (by simp)]
  have hlt : sizeN l - 1 < sizeN l := by omega
  refine chk_out hlt ?_
  rw [dense_cell hok hlt]
  omega
theorem dense_cells {l : List Int} (hok : S.Ok l) : cells 0 l (S.strides l) = (List.range (sizeN l)).map fun n : Nat => (n : Int) := by
  have hN := sizeN_ok hok
  have h3 := hok.2.2
  unfold cells
  rw [if_pos (dense_check hok (by omega) (by decide))]
  exact List.map_congr_left fun n hn => dense_cell hok (List.mem_range.1 hn)
end V
end Go.Proofs.Ytdaajncfhcpecaa
