/-
  The reference's numbers: settle, the plain part.
-/
import Derived.Test.YtmlahbmaomoiaaaRfC
namespace Go.Proofs.Ytmlahbmaomoiaaa
open Go.RowKit

/-- The number of so many digits. -/
def vs (d : Nat → Nat) : Nat → Nat
  | 0 => 0
  | k + 1 => vs d k + d k * 2 ^ (15 * k)
def val17 (d : Nat → Nat) : Nat := vs d 17
/-- What goes over behind k digits. -/
def cry (d : Nat → Nat) (k : Nat) : Nat := vs d k / 2 ^ (15 * k)
theorem pow15 (k : Nat) : 2 ^ (15 * (k + 1)) = 2 ^ (15 * k) * 32768 := by rw [Nat.mul_add, Nat.pow_add]
theorem vs_div (d : Nat → Nat) (k : Nat) : vs d (k + 1) / 2 ^ (15 * k) = d k + cry d k := by
  rw [vs, Nat.add_mul_div_right _ _ (Nat.two_pow_pos _), Nat.add_comm]; rfl
theorem cry_succ (d : Nat → Nat) (k : Nat) : cry d (k + 1) = (d k + cry d k) / 32768 := by
  rw [← vs_div, cry, pow15, Nat.div_div_eq_div_mul]
theorem cry_zero (d : Nat → Nat) : cry d 0 = 0 := by unfold cry vs; simp
theorem cry_lt (d : Nat → Nat) (h : ∀ i, i < 17 → d i < 35184372088832) : ∀ k, k ≤ 17 → cry d k < 2147483648
  | 0, _ => by rw [cry_zero]; omega
  | k + 1, hk => by
    have h1 := cry_lt d h k (by omega)
    have h2 := h k (by omega)
    rw [cry_succ]; omega
theorem dig_vs (d : Nat → Nat) (k : Nat) : ∀ n, k + 1 ≤ n → dig (vs d n) k = (d k + cry d k) % 32768
  | 0, h => by omega
  | n + 1, h => by
    by_cases hn : n = k
    · subst hn; unfold dig; rw [vs_div]
    · have ih := dig_vs d k n (by omega)
      rw [← ih, vs]
      obtain ⟨m, rfl⟩ : ∃ m, n = k + 1 + m := ⟨n - (k + 1), by omega⟩
      unfold dig
      have e : d (k + 1 + m) * 2 ^ (15 * (k + 1 + m)) = d (k + 1 + m) * 2 ^ (15 * m) * 32768 * 2 ^ (15 * k) := by
        rw [show 15 * (k + 1 + m) = 15 * m + (15 + 15 * k) from by omega, Nat.pow_add, Nat.pow_add]
        simp only [Nat.mul_assoc]
      rw [e, Nat.add_mul_div_right _ _ (Nat.two_pow_pos _), Nat.add_mul_mod_self_right]
theorem vs_dig (x : Nat) : ∀ k, vs (dig x) k = x % 2 ^ (15 * k)
  | 0 => by simp [vs, Nat.mod_one]
  | k + 1 => by
    rw [vs, vs_dig x k, pow15, Nat.mod_mul]
    unfold dig; rw [Nat.mul_comm (x / _ % _)]
theorem vs_congr {d e : Nat → Nat} : ∀ k, (∀ i, i < k → d i = e i) → vs d k = vs e k
  | 0, _ => rfl
  | k + 1, h => by rw [vs, vs, vs_congr k (fun i hi => h i (by omega)), h k (by omega)]
theorem val_dig (x : Nat) (h : x < W255) : val17 (dig x) = x := by
  unfold val17; rw [vs_dig]; exact Nat.mod_eq_of_lt h
theorem vs_put0 (d : Nat → Nat) (e : Nat) : ∀ k, vs (put d 0 (d 0 + e)) (k + 1) = vs d (k + 1) + e
  | 0 => by simp [vs, put]
  | k + 1 => by
    rw [vs, vs_put0 d e k]
    have : put d 0 (d 0 + e) (k + 1) = d (k + 1) := by simp [put]
    rw [this]
    show _ = vs d (k + 1) + d (k + 1) * 2 ^ (15 * (k + 1)) + e
    omega
/-- The digits behind a round. -/
def rd (V : Nat) : Nat → Nat := put (dig V) 0 (dig V 0 + 19 * (V / W255))
theorem val_rd (V : Nat) : val17 (rd V) = V % W255 + 19 * (V / W255) := by
  unfold val17 rd
  rw [vs_put0 (dig V) (19 * (V / W255)) 16, vs_dig]
  rfl
theorem rd_mod (V : Nat) : val17 (rd V) % P255 = V % P255 := by
  rw [val_rd]
  have h := Nat.div_add_mod V W255
  have hW : W255 = P255 + 19 := rfl
  have e : V = V % W255 + 19 * (V / W255) + P255 * (V / W255) := by
    have : W255 * (V / W255) = P255 * (V / W255) + 19 * (V / W255) := by rw [hW, Nat.add_mul]
    omega
  conv => rhs; rw [e]
  rw [Nat.add_mul_mod_self_left]
theorem rd_dig (V : Nat) (h : V < W255) (i : Nat) : rd V i = dig V i := by
  unfold rd put
  rw [Nat.div_eq_of_lt h]
  split
  · next hi => subst hi; rfl
  · rfl
theorem cry17 (d : Nat → Nat) : cry d 17 = val17 d / W255 := rfl

structure Rnd (d : Nat → Nat) (r : Nat) (e : Nat → Nat) : Prop where
  small : ∀ i, i < 17 → e i < 35184372088832
  same : val17 e % P255 = val17 d % P255
  one : 1 ≤ r → val17 e < W255 + 1099511627776
  two : 2 ≤ r → val17 e < W255
  three : 3 ≤ r → ∀ i, i < 17 → e i = dig (val17 e) i
theorem Rnd.step {d e : Nat → Nat} {r : Nat} (h : Rnd d r e) : Rnd d (r + 1) (rd (val17 e)) := by
  have hc := cry_lt e h.small 17 (by omega)
  rw [cry17] at hc
  have hv := val_rd (val17 e)
  have hm : val17 e % W255 < W255 := Nat.mod_lt _ (by decide)
  have hdm := Nat.div_add_mod (val17 e) W255
  have hW : W255 = 57896044618658097711785492504343953926634992332820282019728792003956564819968 := rfl
  refine ⟨fun i _ => ?_, (rd_mod _).trans h.same, fun _ => by rw [hv]; omega, fun hr => ?_, fun hr => ?_⟩
  · unfold rd put
    have := dig_lt (val17 e) i
    split
    · have := dig_lt (val17 e) 0; omega
    · omega
  · have h1 := h.one (by omega)
    rw [hv]
    generalize val17 e = V at *
    rw [hW] at *
    omega
  · have h2 := h.two (by omega)
    have e1 : val17 (rd (val17 e)) = val17 e := by
      rw [hv, Nat.mod_eq_of_lt h2, Nat.div_eq_of_lt h2]; omega
    intro i hi
    rw [e1]; exact rd_dig _ h2 i
theorem Rnd.start {d : Nat → Nat} (h : ∀ i, i < 17 → d i < 35184372088832) : Rnd d 0 d := ⟨h, rfl, fun h => by omega, fun h => by omega, fun h => by omega⟩
theorem Rnd.final {d e : Nat → Nat} (h : Rnd d 4 e) : ∃ V, V < W255 ∧ nc e = rc V ∧ V % P255 = val17 d % P255 :=
  ⟨val17 e, h.two (by omega), nc_congr (h.three (by omega)), h.same⟩
end Go.Proofs.Ytmlahbmaomoiaaa
