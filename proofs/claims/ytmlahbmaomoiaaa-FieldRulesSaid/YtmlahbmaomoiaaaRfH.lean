/-
  The reference's numbers: Mul.
-/
import Derived.Test.YtmlahbmaomoiaaaRfG
namespace Go.Proofs.Ytmlahbmaomoiaaa
open Go.RowKit

/-- So many cells. -/
def arrc (n : Nat) (d : Nat → Nat) : Array Value := ((List.range n).map fun i => Value.int .i64 ((d i : Nat) : Int)).toArray
theorem arrc_get (n : Nat) (d : Nat → Nat) (i : Nat) (h : i < n) : (arrc n d)[i]? = some (.int .i64 ((d i : Nat) : Int)) := by
  unfold arrc; simp [h]
theorem arrc_put (n : Nat) (d : Nat → Nat) (k v : Nat) : (arrc n d).setIfInBounds k (.int .i64 ((v : Nat) : Int)) = arrc n (put d k v) := by
  unfold arrc
  apply Array.ext_getElem?
  intro i
  simp only [Array.getElem?_setIfInBounds, List.getElem?_toArray, List.getElem?_map, List.size_toArray, List.length_map, List.length_range]
  by_cases hi : i < n
  · rw [List.getElem?_range hi]
    by_cases hk : k = i
    · subst hk; simp [hi, put]
    · rw [if_neg hk]; simp [put, Ne.symm hk]
  · rw [List.getElem?_eq_none (by simp; omega)]
    split
    · split
      · omega
      · rfl
    · rfl
theorem vs_put (d : Nat → Nat) (p v : Nat) : ∀ n, vs (put d p v) n + (if p < n then d p * 2 ^ (15 * p) else 0) = vs d n + (if p < n then v * 2 ^ (15 * p) else 0)
  | 0 => by simp [vs]
  | n + 1 => by
    have ih := vs_put d p v n
    rw [vs, vs]
    by_cases h1 : p < n
    · rw [if_pos h1, if_pos h1] at ih
      rw [if_pos (by omega), if_pos (by omega)]
      have : put d p v n = d n := by unfold put; rw [if_neg (by omega)]
      rw [this]; omega
    · rw [if_neg h1, if_neg h1] at ih
      by_cases h2 : p = n
      · subst h2
        rw [if_pos (by omega), if_pos (by omega)]
        have : put d p v p = v := by unfold put; rw [if_pos rfl]
        rw [this]; omega
      · rw [if_neg (by omega), if_neg (by omega)]
        have : put d p v n = d n := by unfold put; rw [if_neg (by omega)]
        rw [this]; omega
theorem vs_succ (d : Nat → Nat) (k : Nat) : vs d (k + 1) = vs d k + d k * 2 ^ (15 * k) := rfl
theorem vs_zero : ∀ n, vs (fun _ => 0) n = 0
  | 0 => rfl
  | n + 1 => by rw [vs_succ, vs_zero n, Nat.zero_mul]
theorem vs_split (d : Nat → Nat) (c : Nat) : ∀ m, vs d (c + m) = vs d c + 2 ^ (15 * c) * vs (fun i => d (i + c)) m
  | 0 => by simp [vs]
  | m + 1 => by
    have e : d (c + m) * 2 ^ (15 * (c + m)) = 2 ^ (15 * c) * (d (m + c) * 2 ^ (15 * m)) := by
      rw [Nat.mul_add, Nat.pow_add, Nat.mul_left_comm, Nat.add_comm c m]
    rw [← Nat.add_assoc, vs_succ, e, vs_split d c m, vs_succ, Nat.mul_add (2 ^ (15 * c)), Nat.add_assoc]
theorem mod_step (x i : Nat) : x % 2 ^ (15 * (i + 1)) = x % 2 ^ (15 * i) + dig x i * 2 ^ (15 * i) := by
  rw [← vs_dig, ← vs_dig, vs]

structure WideO (x y i : Nat) (ws : Nat → Nat) : Prop where
  val : vs ws 34 = x % 2 ^ (15 * i) * y
  low : ∀ j, ws j ≤ i * 1073741824
structure WideI (x y i k : Nat) (ws : Nat → Nat) : Prop where
  val : vs ws 34 = x % 2 ^ (15 * i) * y + dig x i * 2 ^ (15 * i) * (y % 2 ^ (15 * k))
  low : ∀ j, ws j ≤ (i + 1) * 1073741824
  high : ∀ j, i + k ≤ j → ws j ≤ i * 1073741824
theorem WideO.start (x y : Nat) : WideO x y 0 (fun _ => 0) := ⟨(vs_zero 34).trans (by simp [Nat.mod_one]), fun _ => by simp⟩
theorem WideO.inner {x y i : Nat} {ws : Nat → Nat} (h : WideO x y i ws) : WideI x y i 0 ws :=
  ⟨h.val.trans (by simp [Nat.mod_one]), fun j => Nat.le_trans (h.low j) (Nat.mul_le_mul_right _ (Nat.le_succ i)), fun j _ => h.low j⟩
theorem dig_mul_le (x y i k : Nat) : dig x i * dig y k ≤ 1073741824 := by
  have h1 := dig_lt x i; have h2 := dig_lt y k
  exact Nat.le_trans (Nat.mul_le_mul (Nat.le_of_lt h1) (Nat.le_of_lt h2)) (by decide)
theorem WideI.step {x y i k : Nat} {ws : Nat → Nat} (hi : i < 17) (hk : k < 17) (h : WideI x y i k ws) : WideI x y i (k + 1) (put ws (i + k) (ws (i + k) + dig x i * dig y k)) := by
  have hm := dig_mul_le x y i k
  have hh := h.high (i + k) (Nat.le_refl _)
  refine ⟨?_, fun j => ?_, fun j hj => ?_⟩
  · have h1 := vs_put ws (i + k) (ws (i + k) + dig x i * dig y k) 34
    rw [if_pos (by omega), if_pos (by omega), h.val, Nat.add_mul] at h1
    rw [mod_step y k, Nat.mul_add]
    have e : dig x i * dig y k * 2 ^ (15 * (i + k)) = dig x i * 2 ^ (15 * i) * (dig y k * 2 ^ (15 * k)) := by
      rw [Nat.mul_add, Nat.pow_add, Nat.mul_mul_mul_comm]
    rw [← e]
    generalize vs (put ws (i + k) (ws (i + k) + dig x i * dig y k)) 34 = A at *
    generalize ws (i + k) * 2 ^ (15 * (i + k)) = B at *
    generalize dig x i * dig y k * 2 ^ (15 * (i + k)) = C at *
    generalize x % 2 ^ (15 * i) * y = D at *
    generalize dig x i * 2 ^ (15 * i) * (y % 2 ^ (15 * k)) = E at *
    omega
  · unfold put; split
    · omega
    · exact h.low j
  · unfold put; rw [if_neg (by omega)]; exact h.high j (by omega)
theorem WideI.outer {x y i : Nat} {ws : Nat → Nat} (hy : y < W255) (h : WideI x y i 17 ws) : WideO x y (i + 1) ws := by
  refine ⟨?_, h.low⟩
  rw [h.val, mod_step x i, Nat.add_mul, show y % 2 ^ (15 * 17) = y from Nat.mod_eq_of_lt hy]
/-- What is folded. -/
def fold19 (ws : Nat → Nat) (i : Nat) : Nat := ws i + 19 * ws (i + 17)
theorem vs_fold (ws : Nat → Nat) : ∀ n, vs (fold19 ws) n = vs ws n + 19 * vs (fun i => ws (i + 17)) n
  | 0 => rfl
  | n + 1 => by
    rw [vs_succ, vs_fold ws n, vs_succ, vs_succ]
    unfold fold19
    rw [Nat.add_mul, Nat.mul_add, Nat.mul_assoc]; omega
theorem WideO.final {x y : Nat} {ws : Nat → Nat} (hx : x < W255) (h : WideO x y 17 ws) : val17 (fold19 ws) % P255 = x * y % P255 ∧ ∀ i, i < 17 → fold19 ws i < 35184372088832 := by
  refine ⟨?_, fun i _ => ?_⟩
  · have h1 := h.val
    have hx17 : x % 2 ^ (15 * 17) = x := Nat.mod_eq_of_lt hx
    have h2 := vs_split ws 17 17
    have h3 := vs_fold ws 17
    have hW : 2 ^ (15 * 17) = P255 + 19 := rfl
    rw [hx17] at h1
    rw [hW] at h2
    rw [show (17 + 17 : Nat) = 34 from rfl, h1] at h2
    unfold val17
    rw [h3, h2]
    generalize vs ws 17 = A
    generalize vs (fun i => ws (i + 17)) 17 = B
    rw [Nat.add_mul, show A + (P255 * B + 19 * B) = A + 19 * B + P255 * B from by omega, Nat.add_mul_mod_self_left]
  · have h1 := h.low i; have h2 := h.low (i + 17)
    unfold fold19; omega
end Go.Proofs.Ytmlahbmaomoiaaa
