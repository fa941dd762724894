/-
  Digits of so many bits, filled bit by bit (plain).
-/
import Derived.Test.YtmlahbmaomoiaaaRfJ
namespace Go.Proofs.Ytmlahbmaomoiaaa
open Go.RowKit

def dg (b z j : Nat) : Nat := z / 2 ^ (b * j) % 2 ^ b
theorem dg_lt (b z j : Nat) : dg b z j < 2 ^ b := Nat.mod_lt _ (Nat.two_pow_pos _)
theorem dig_dg (x i : Nat) : dig x i = dg 15 x i := rfl
theorem limb_dg (x i : Nat) : limb x i = dg 64 x i := rfl
theorem dg_bit (b : Nat) (hb : 0 < b) (x i : Nat) : dg b x (i / b) / 2 ^ (i % b) % 2 = x / 2 ^ i % 2 := by
  unfold dg
  have hlt := Nat.mod_lt i hb
  have h1 : (2 ^ b : Nat) = 2 ^ (i % b) * 2 ^ (b - i % b) := by
    rw [← Nat.pow_add, show i % b + (b - i % b) = b from by omega]
  rw [h1, Nat.mod_mul_right_div_self, Nat.div_div_eq_div_mul, ← Nat.pow_add, Nat.div_add_mod]
  obtain ⟨k, hk⟩ : ∃ k, b - i % b = k + 1 := ⟨b - i % b - 1, by omega⟩
  rw [hk, Nat.pow_succ, Nat.mul_comm (2 ^ k), Nat.mod_mul_right_mod]
theorem dg_add (b : Nat) (hb : 0 < b) (z i : Nat) (hz : z < 2 ^ i) (j : Nat) : dg b (z + 2 ^ i) j = dg b z j + if j = i / b then 2 ^ (i % b) else 0 := by
  have hi := Nat.div_add_mod i b
  have hlt := Nat.mod_lt i hb
  unfold dg
  by_cases h1 : j = i / b
  · rw [if_pos h1]
    subst h1
    have e : (2 : Nat) ^ i = 2 ^ (i % b) * 2 ^ (b * (i / b)) := by rw [← Nat.pow_add, Nat.add_comm, hi]
    have hq : z / 2 ^ (b * (i / b)) < 2 ^ (i % b) := by
      rw [Nat.div_lt_iff_lt_mul (Nat.two_pow_pos _), ← e]; exact hz
    have hp : 2 * 2 ^ (i % b) ≤ 2 ^ b := by
      rw [← Nat.pow_succ']; exact Nat.pow_le_pow_right (by decide) hlt
    conv => lhs; rw [e]
    rw [Nat.add_mul_div_right _ _ (Nat.two_pow_pos _), Nat.mod_eq_of_lt (a := z / 2 ^ (b * (i / b)) + 2 ^ (i % b)) (by omega), Nat.mod_eq_of_lt (a := z / 2 ^ (b * (i / b))) (by omega)]
  · rw [if_neg h1, Nat.add_zero]
    by_cases h2 : j < i / b
    · obtain ⟨m, hm⟩ : ∃ m, i = m + b + b * j := by
        have : b * (j + 1) ≤ b * (i / b) := Nat.mul_le_mul_left _ h2
        rw [Nat.mul_add] at this
        exact ⟨i - b - b * j, by omega⟩
      have e : (2 : Nat) ^ i = 2 ^ m * 2 ^ b * 2 ^ (b * j) := by rw [← Nat.pow_add, ← Nat.pow_add, ← hm]
      rw [e, Nat.add_mul_div_right _ _ (Nat.two_pow_pos _), Nat.add_mul_mod_self_right]
    · have h3 : i < b * j := by
        have : b * (i / b + 1) ≤ b * j := Nat.mul_le_mul_left _ (by omega)
        rw [Nat.mul_add] at this
        omega
      have h4 : 2 ^ (i + 1) ≤ 2 ^ (b * j) := Nat.pow_le_pow_right (by decide) h3
      rw [Nat.pow_succ] at h4
      rw [Nat.div_eq_of_lt (by omega), Nat.div_eq_of_lt (by omega)]
theorem mod_succ (x i : Nat) : x % 2 ^ (i + 1) = if x / 2 ^ i % 2 = 1 then x % 2 ^ i + 2 ^ i else x % 2 ^ i := by
  rw [Nat.pow_succ, Nat.mod_mul]
  split
  · next h => rw [h, Nat.mul_one]
  · next h => rw [show x / 2 ^ i % 2 = 0 from by omega, Nat.mul_zero, Nat.add_zero]
/-- A bit that is set. -/
theorem dg_set (b : Nat) (hb : 0 < b) (x i : Nat) (h : x / 2 ^ i % 2 = 1) (j : Nat) : dg b (x % 2 ^ (i + 1)) j = put (dg b (x % 2 ^ i)) (i / b) (dg b (x % 2 ^ i) (i / b) + 2 ^ (i % b)) j := by
  rw [mod_succ, if_pos h, dg_add b hb _ _ (Nat.mod_lt _ (Nat.two_pow_pos _))]
  unfold put
  by_cases h1 : j = i / b
  · rw [if_pos h1, if_pos h1, h1]
  · rw [if_neg h1, if_neg h1, Nat.add_zero]
theorem dg_unset (x i : Nat) (h : ¬ x / 2 ^ i % 2 = 1) : x % 2 ^ (i + 1) = x % 2 ^ i := by rw [mod_succ, if_neg h]
theorem dg_zero (b x j : Nat) : dg b (x % 2 ^ 0) j = 0 := by unfold dg; simp [Nat.mod_one]
end Go.Proofs.Ytmlahbmaomoiaaa
