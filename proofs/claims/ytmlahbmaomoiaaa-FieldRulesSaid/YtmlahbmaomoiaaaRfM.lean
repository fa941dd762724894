/-
  The reference's numbers: Limbs, plain.
-/
import Derived.Test.YtmlahbmaomoiaaaRfL
namespace Go.Proofs.Ytmlahbmaomoiaaa
open Go.RowKit

/-- The limb l, of which the bytes from j on are laid. -/
def lst (x j l : Nat) : Nat := limb x l / 2 ^ (8 * (j - 8 * l))
theorem lst_full (x l : Nat) : lst x 0 l = limb x l := by unfold lst; simp
theorem lst_none (x l : Nat) (h : l < 4) : lst x 32 l = 0 := by
  unfold lst
  refine Nat.div_eq_of_lt (Nat.lt_of_lt_of_le (limb_lt x l) ?_)
  exact Nat.le_trans (show (18446744073709551616 : Nat) ≤ 2 ^ 64 by decide) (Nat.pow_le_pow_right (by decide) (by omega))
theorem lst_far (x k l : Nat) (h : l ≠ k / 8) : lst x k l = lst x (k + 1) l := by
  unfold lst
  by_cases h1 : k < 8 * l
  · rw [show k - 8 * l = 0 from by omega, show k + 1 - 8 * l = 0 from by omega]
  · have e : (18446744073709551616 : Nat) ≤ 2 ^ 64 := by decide
    have h2 := limb_lt x l
    have h3 : 2 ^ 64 ≤ 2 ^ (8 * (k - 8 * l)) := Nat.pow_le_pow_right (by decide) (by omega)
    have h4 : 2 ^ 64 ≤ 2 ^ (8 * (k + 1 - 8 * l)) := Nat.pow_le_pow_right (by decide) (by omega)
    rw [Nat.div_eq_of_lt (Nat.lt_of_lt_of_le h2 (Nat.le_trans e h3)), Nat.div_eq_of_lt (Nat.lt_of_lt_of_le h2 (Nat.le_trans e h4))]
theorem byte_limb (x k : Nat) : limb x (k / 8) / 2 ^ (8 * (k % 8)) % 256 = dg 8 x k := by
  unfold limb dg
  have h1 : (18446744073709551616 : Nat) = 2 ^ (8 * (k % 8)) * 2 ^ (64 - 8 * (k % 8)) := by
    rw [← Nat.pow_add, show 8 * (k % 8) + (64 - 8 * (k % 8)) = 64 from by omega]
  rw [h1, Nat.mod_mul_right_div_self, Nat.div_div_eq_div_mul, ← Nat.pow_add, show 64 * (k / 8) + 8 * (k % 8) = 8 * k from by omega]
  obtain ⟨m, hm⟩ : ∃ m, 64 - 8 * (k % 8) = m + 8 := ⟨56 - 8 * (k % 8), by omega⟩
  rw [hm, Nat.pow_add, Nat.mul_comm (2 ^ m), Nat.mod_mul_right_mod]
theorem lst_step (x k : Nat) : lst x k (k / 8) = lst x (k + 1) (k / 8) * 256 + dg 8 x k := by
  rw [← byte_limb]
  unfold lst
  rw [show k - 8 * (k / 8) = k % 8 from by omega, show 8 * (k + 1 - 8 * (k / 8)) = 8 * (k % 8) + 8 from by omega, Nat.pow_add, ← Nat.div_div_eq_div_mul]
  omega
theorem lst_lt (x j l : Nat) : lst x j l < 18446744073709551616 := Nat.lt_of_le_of_lt (Nat.div_le_self _ _) (limb_lt _ _)
theorem lst_put (x k : Nat) (l : Nat) : put (lst x (k + 1)) (k / 8) (lst x (k + 1) (k / 8) * 256 + dg 8 x k) l = lst x k l := by
  unfold put
  split
  · next h => rw [h, lst_step]
  · next h => rw [lst_far x k l h]
end Go.Proofs.Ytmlahbmaomoiaaa
