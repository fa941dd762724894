/-
  Plain: the field: inverses, roots, the other sides.
-/
import Derived.Test.YtmlahbmaomoiaaaPrB
import Derived.Test.YtmlahbmaomoiaaaRfR
import Derived.Test.YtmlahbmaomoiaaaLwB
namespace Go.Proofs.Ytmlahbmaomoiaaa

theorem p_not_dvd {x : Nat} (h0 : x ≠ 0) (h : x < P255) : ¬ P255 ∣ x := fun hd => by
  have := Nat.le_of_dvd (by omega) hd; omega
theorem fermatP {x : Nat} (h0 : x ≠ 0) (h : x < P255) : powN x (P255 - 1) = 1 := irrP.fermat (p_not_dvd h0 h)
theorem powN_add (x a b : Nat) : powN x (a + b) = powN x a * powN x b % P255 := by
  unfold powN; rw [Nat.pow_add, Nat.mul_mod]
theorem powN_mul (x a b : Nat) : powN x (a * b) = powN (powN x a) b := by
  unfold powN; rw [Nat.pow_mul, Nat.pow_mod]
theorem powN_one (x : Nat) (h : x < P255) : powN x 1 = x := by unfold powN; rw [Nat.pow_one, Nat.mod_eq_of_lt h]
theorem powN_ltP (x e : Nat) : powN x e < P255 := Nat.mod_lt _ (by decide)
theorem powN_base (x y e : Nat) : powN (x * y) e = powN x e * powN y e % P255 := by
  unfold powN; rw [Nat.mul_pow, Nat.mul_mod]
theorem powN_modb (x e : Nat) : powN (x % P255) e = powN x e := by unfold powN; rw [← Nat.pow_mod]
theorem one_powN (e : Nat) : powN 1 e = 1 := by unfold powN; rw [Nat.one_pow]; rfl
theorem zero_powN (e : Nat) (h : 0 < e) : powN 0 e = 0 := by unfold powN; rw [Nat.zero_pow h]; rfl
theorem invN_lt (x : Nat) : invN x < P255 := powN_ltP _ _
theorem invN_zero : invN 0 = 0 := zero_powN _ (by decide)
theorem mul_inv {x : Nat} (h0 : x ≠ 0) (h : x < P255) : x * invN x % P255 = 1 := by
  have h1 := powN_add x 1 (P255 - 2)
  rw [show 1 + (P255 - 2) = P255 - 1 from rfl, fermatP h0 h, powN_one x h] at h1
  exact h1.symm
/-- No two numbers but 0 make 0. -/
theorem mul_zeroP {x y : Nat} (hx : x < P255) (hy : y < P255) (h : x * y % P255 = 0) : x = 0 ∨ y = 0 := by
  rcases irrP.euclid (Nat.dvd_of_mod_eq_zero h) with h1 | h1
  · by_cases h0 : x = 0
    · exact .inl h0
    · exact absurd h1 (p_not_dvd h0 hx)
  · by_cases h0 : y = 0
    · exact .inr h0
    · exact absurd h1 (p_not_dvd h0 hy)
theorem add_neg (x : Nat) (h : x < P255) : (x + negN x) % P255 = 0 := by
  unfold negN; split
  · next h0 => subst h0; rfl
  · rw [show x + (P255 - x) = P255 from by omega, Nat.mod_self]
theorem neg_of_add {a b : Nat} (ha : a < P255) (hb : b < P255) (h : (a + b) % P255 = 0) : a = negN b := by
  unfold negN
  by_cases h0 : b = 0
  · rw [if_pos h0]; rw [h0, Nat.add_zero, Nat.mod_eq_of_lt ha] at h; exact h
  · rw [if_neg h0]
    by_cases h1 : a + b < P255
    · rw [Nat.mod_eq_of_lt h1] at h; omega
    · rw [Nat.mod_eq_sub_mod (by omega), Nat.mod_eq_of_lt (by omega)] at h; omega
theorem negN_neg (x : Nat) (h : x < P255) : negN (negN x) = x :=
  (neg_of_add h (negN_ltP x) (by rw [add_neg x h])).symm
theorem negN_mul (x y : Nat) (hx : x < P255) : negN x * y % P255 = negN (x * y % P255) := by
  refine neg_of_add (Nat.mod_lt _ (by decide)) (Nat.mod_lt _ (by decide)) ?_
  rw [← Nat.add_mod, ← Nat.add_mul, Nat.mul_mod, Nat.add_comm, add_neg x hx, Nat.zero_mul, Nat.zero_mod]
theorem negN_sq (x : Nat) (hx : x < P255) : negN x * negN x % P255 = x * x % P255 := by
  rw [negN_mul x _ hx, Nat.mul_comm, negN_mul x x hx, negN_neg _ (Nat.mod_lt _ (by decide))]
theorem negN_zero : negN 0 = 0 := rfl
theorem negN_ne {x : Nat} (h : x ≠ 0) (hx : x < P255) : negN x ≠ 0 := by unfold negN; rw [if_neg h]; omega
/-- The squares are one: so are the numbers, or each is the other's other side. -/
theorem sq_inj {x y : Nat} (hx : x < P255) (hy : y < P255) (h : x * x % P255 = y * y % P255) : x = y ∨ x = negN y := by
  have h1 : (x + y) % P255 * ((x + negN y) % P255) % P255 = 0 := by
    have e : (x + y) * (x + negN y) = x * x + y * negN y + x * (y + negN y) := by
      rw [Nat.add_mul, Nat.mul_add, Nat.mul_add, Nat.mul_add, Nat.mul_comm x y]; omega
    rw [← Nat.mul_mod, e, Nat.add_mod, Nat.mul_mod x (y + negN y), add_neg y hy, Nat.mul_zero, Nat.zero_mod, Nat.add_zero, Nat.mod_mod, Nat.add_mod, h, Nat.mul_comm y (negN y), negN_mul y y hy]
    exact add_neg _ (Nat.mod_lt _ (by decide))
  rcases mul_zeroP (Nat.mod_lt _ (by decide)) (Nat.mod_lt _ (by decide)) h1 with h2 | h2
  · exact .inr (neg_of_add hx hy h2)
  · have := neg_of_add hx (negN_ltP y) h2
    rw [negN_neg y hy] at this; exact .inl this
theorem odd_neg {x : Nat} (h0 : x ≠ 0) (hx : x < P255) (h : x % 2 = 1) : negN x % 2 = 0 := by
  unfold negN; rw [if_neg h0]; unfold P255 at *; omega

/-! ### Roots -/
theorem eroot_two : ERoot + ERoot = 1 + (P255 - 1) / 4 := by decide
theorem quarter : (P255 - 1) / 4 + (P255 - 1) / 4 = (P255 - 1) / 2 := by decide
theorem half_two : (P255 - 1) / 2 * 2 = P255 - 1 := by decide
theorem half_two' : 2 * ((P255 - 1) / 2) = P255 - 1 := by decide
theorem root0_sq (x : Nat) (hx : x < P255) : root0 x * root0 x % P255 = x * powN x ((P255 - 1) / 4) % P255 := by
  have h := powN_add x ERoot ERoot
  rw [eroot_two, powN_add, powN_one x hx] at h
  exact h.symm
/-- A square's half power is 1. -/
theorem half_of_sq {s x : Nat} (hs : s < P255) (h0 : x ≠ 0) (h : s * s % P255 = x) : powN x ((P255 - 1) / 2) = 1 := by
  have hs0 : s ≠ 0 := fun e => by subst e; exact h0 (by rw [← h]; rfl)
  have h1 := powN_mul s 2 ((P255 - 1) / 2)
  rw [half_two', fermatP hs0 hs] at h1
  have h2 : powN s 2 = x := by unfold powN; rw [Nat.pow_two, h]
  rw [h2] at h1; exact h1.symm
theorem one_sq {u : Nat} (hu : u < P255) (h : u * u % P255 = 1) : u = 1 ∨ u = P255 - 1 := by
  rcases sq_inj hu (show 1 < P255 by decide) (by rw [h]; rfl) with h1 | h1
  · exact .inl h1
  · exact .inr h1
theorem root1_of_half {x : Nat} (hx : x < P255) (h : powN x ((P255 - 1) / 2) = 1) : root1 x * root1 x % P255 = x := by
  have hr := root0_sq x hx
  have hu : powN x ((P255 - 1) / 4) * powN x ((P255 - 1) / 4) % P255 = 1 := by rw [← powN_add, quarter, h]
  unfold root1
  split
  · next h1 => exact h1
  · next h1 =>
    rcases one_sq (powN_ltP _ _) hu with h2 | h2
    · rw [h2, Nat.mul_one, Nat.mod_eq_of_lt hx] at hr; exact absurd hr h1
    · have e : root0 x * IRoot % P255 * (root0 x * IRoot % P255) % P255 = (root0 x * root0 x % P255) * (IRoot * IRoot % P255) % P255 := by
        rw [← Nat.mul_mod, ← Nat.mul_mod]; congr 1; ac_rfl
      rw [e, hr, h2, isq]
      have e2 : x * (P255 - 1) % P255 = negN x := by
        refine neg_of_add (Nat.mod_lt _ (by decide)) hx ?_
        rw [Nat.mod_add_mod, ← Nat.mul_succ, show (P255 - 1).succ = P255 from rfl, Nat.mul_mod_left]
      have e3 : negN x * (P255 - 1) % P255 = x := by
        have : negN x * (P255 - 1) % P255 = negN (negN x) := by
          refine neg_of_add (Nat.mod_lt _ (by decide)) (negN_ltP x) ?_
          rw [Nat.mod_add_mod, ← Nat.mul_succ, show (P255 - 1).succ = P255 from rfl, Nat.mul_mod_left]
        rw [this, negN_neg x hx]
      rw [e2, e3]
theorem root1_of {x r : Nat} (h : root0 x = r) : root1 x = if r * r % P255 = x then r else r * IRoot % P255 := by unfold root1; rw [h]
theorem root0_zero : root0 0 = 0 := zero_powN ERoot (by decide)
theorem root_zero : root1 0 = 0 := (root1_of root0_zero).trans (by decide)
theorem rootB_of_sq {s x : Nat} (hs : s < P255) (h : s * s % P255 = x) : rootB x = true := by
  have hx : x < P255 := by rw [← h]; exact Nat.mod_lt _ (by decide)
  unfold rootB
  by_cases h0 : x = 0
  · rw [h0, root_zero]; rfl
  · exact decide_eq_true (root1_of_half hx (half_of_sq hs h0 h))
theorem rootB_sq {x : Nat} (hx : x < P255) : rootB x = sqB x := by
  unfold sqB
  by_cases h0 : x = 0
  · rw [h0, decide_eq_true rfl, Bool.true_or]; exact rootB_of_sq (s := 0) (by decide) rfl
  · rw [decide_eq_false h0, Bool.false_or]
    by_cases h1 : powN x ((P255 - 1) / 2) = 1
    · rw [decide_eq_true h1]; unfold rootB; exact decide_eq_true (root1_of_half hx h1)
    · rw [decide_eq_false h1]
      cases hb : rootB x with
      | false => rfl
      | true => exact absurd (half_of_sq (root1_lt x) h0 (of_decide_eq_true hb)) h1
theorem rootN_lt (x : Nat) : rootN x < P255 := by
  unfold rootN
  split
  · split
    · exact negN_ltP _
    · exact root1_lt x
  · decide
theorem rootN_sq {x : Nat} (h : rootB x = true) : rootN x * rootN x % P255 = x := by
  have h1 : root1 x * root1 x % P255 = x := of_decide_eq_true h
  unfold rootN
  rw [if_pos h]
  split
  · rw [negN_sq _ (root1_lt x), h1]
  · exact h1
theorem rootN_even {x : Nat} (h : rootB x = true) : rootN x % 2 = 0 := by
  unfold rootN
  rw [if_pos h]
  split
  · next h1 => exact odd_neg (fun e => by rw [e] at h1; omega) (root1_lt x) h1
  · omega
theorem rootN_no {x : Nat} (h : rootB x = false) : rootN x = 0 := by unfold rootN; rw [h]; rfl
end Go.Proofs.Ytmlahbmaomoiaaa
