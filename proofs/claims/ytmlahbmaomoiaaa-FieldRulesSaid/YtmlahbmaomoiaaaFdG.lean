/-
  Field: Power, Invert, Root.
-/
import Derived.Test.YtmlahbmaomoiaaaFdF
namespace Go.Proofs.Ytmlahbmaomoiaaa
open Go.RowKit

/-- A number to a power, modulo P. -/
def powN (x e : Nat) : Nat := x ^ e % P255
theorem powN_lt (x e : Nat) : powN x e < W256 := Nat.lt_trans (Nat.mod_lt _ (by decide)) p_lt
theorem powN_step (x e j : Nat) : powN x (e / 2 ^ j) = if e / 2 ^ j % 2 = 1 then powN x (e / 2 ^ (j + 1)) * powN x (e / 2 ^ (j + 1)) % P255 * x % P255 else powN x (e / 2 ^ (j + 1)) * powN x (e / 2 ^ (j + 1)) % P255 := by
  have h : e / 2 ^ (j + 1) = e / 2 ^ j / 2 := by rw [Nat.pow_succ, Nat.div_div_eq_div_mul]
  rw [h]
  generalize e / 2 ^ j = q
  unfold powN
  have hq : q = q / 2 + q / 2 + q % 2 := by omega
  generalize hr : q / 2 = r at *
  split
  · next h1 => rw [h1] at hq; rw [hq, Nat.pow_succ, Nat.pow_add]; simp [Nat.mul_mod]
  · next h1 =>
    have h0 : q % 2 = 0 := by omega
    rw [h0] at hq; rw [hq, Nat.add_zero, Nat.pow_add]; simp [Nat.mul_mod]
theorem limb_bit (e i : Nat) : limb e (i / 64) / 2 ^ (i % 64) % 2 = e / 2 ^ i % 2 := by
  unfold limb
  have h1 : (18446744073709551616 : Nat) = 2 ^ (i % 64) * 2 ^ (64 - i % 64) := by
    rw [← Nat.pow_add, show i % 64 + (64 - i % 64) = 64 from by omega]
  rw [h1, Nat.mod_mul_right_div_self, Nat.div_div_eq_div_mul, ← Nat.pow_add, show 64 * (i / 64) + i % 64 = i from by omega]
  obtain ⟨k, hk⟩ : ∃ k, 64 - i % 64 = k + 1 := ⟨63 - i % 64, by omega⟩
  rw [hk, Nat.pow_succ, Nat.mul_comm (2 ^ k), Nat.mod_mul_right_mod]

theorem bit_and (e k : Nat) : bits .and .u64 (((limb e (k / 64) : Nat) : Int) / 2 ^ (k % 64)) 1 = ((e / 2 ^ k % 2 : Nat) : Int) := by
  have h1 : (((limb e (k / 64) : Nat) : Int) / 2 ^ (k % 64)) = ((limb e (k / 64) / 2 ^ (k % 64) : Nat) : Int) := by
    rw [Int.natCast_ediv, Int.natCast_pow]; rfl
  have hl : limb e (k / 64) / 2 ^ (k % 64) < 18446744073709551616 := Nat.lt_of_le_of_lt (Nat.div_le_self _ _) (limb_lt _ _)
  have h := bits_and_u64_nat (limb e (k / 64) / 2 ^ (k % 64)) 1 hl (by omega)
  rw [Nat.and_one_is_mod, limb_bit] at h
  rw [h1]; exact h

set_option maxRecDepth 100000 in
set_option maxHeartbeats 4000000 in
theorem power_any (x e : Nat) (hx : x < W256) (he : e < W256) (w : World) : Calls Try.prog 26 #[ev x, ev e] w fun r w' => r = .returned (ev (powN x e)) ∧ Only [] w w' := by
  have HX := Lib.hid hx; have HE := Lib.hid he
  clear hx he
  go_enter Try.func26, Try.ntmps26
  go_wp2_with fail
  refine (small_any 1 (by decide) _).mono ?_
  rintro r w1 ⟨rfl, ho1⟩
  have hbx := ho1.blk (((Blk.new w (lc x) 37).alloc (.cells (lc e) 36)).alloc (.cells (lc 0) 37)) (by simp)
  have hbe := ho1.blk ((Blk.newAt (w := w.alloc (.cells (lc x) 37)) (n := w.heap.size + 1) (lc e) 36 (by simp)).alloc (.cells (lc 0) 37)) (by simp)
  have hbr := ho1.blk (Blk.newAt (w := (w.alloc (.cells (lc x) 37)).alloc (.cells (lc e) 36)) (n := w.heap.size + 1 + 1) (lc 0) 37 (by simp)) (by simp)
  have ho : Only [] w w1 := ((((Only.refl _ _).alloc (.cells (lc x) 37)).alloc (.cells (lc e) 36)).alloc (.cells (lc 0) 37)).trans ho1
  clear ho1
  have hs1 := hbr.lt
  have hbo := Blk.new w1 (lc 1) 37
  have hbx := hbx.alloc (.cells (lc 1) 37)
  have hbe := hbe.alloc (.cells (lc 1) 37)
  have hbr := hbr.alloc (.cells (lc 1) 37)
  have ho := ho.alloc (.cells (lc 1) 37)
  generalize hbY : w1.heap.size = b1 at *
  go_wp2_with fail
  go_loopw [6] (fun i wr => ∃ j : Nat, i = .int .i64 ((j : Int) - 1) ∧ j ≤ 256 ∧ Blk wr w.heap.size (lc x) 37 ∧ Blk wr (w.heap.size + 1) (lc e) 36 ∧ Blk wr (w.heap.size + 1 + 1) (lc 0) 37 ∧ Blk wr b1 (lc (powN x (e / 2 ^ j))) 37 ∧ Only [] w wr) (fun i _ => (intOf i + 1).toNat)
  case atStart =>
    refine ⟨256, rfl, by omega, hbx, hbe, hbr, ?_, ho⟩
    have h1 : powN x (e / 2 ^ 256) = 1 := by
      rw [Nat.div_eq_of_lt (show e < 2 ^ 256 from HE.out)]
      unfold powN; rw [Nat.pow_zero]; rfl
    rw [h1]; exact hbo
  case round =>
    obtain ⟨j, rfl, hj, hbx, hbe, hbr, hbo, ho⟩ := hrel
    by_cases hj0 : j = 0
    · subst hj0
      have h1 : e / 2 ^ 0 = e := by simp
      rw [h1] at hbo
      clear h1
      obtain ⟨q0, q1, q2, q3, qf⟩ := hbo.four
      obtain ⟨r0, r1, r2, r3, rf⟩ := hbr.four
      go_wp2_with fail
      exact bodyPost_ret (v := ev (powN x e)) (by simp [results, Try.results26, go_sem, r0, r1, r2, r3]) rfl ⟨rfl, ho.set4 (b := w.heap.size + 1 + 1) (.inr (by omega)) _ _ _ _⟩
    · obtain ⟨k, rfl⟩ : ∃ k, j = k + 1 := ⟨j - 1, by omega⟩
      rw [show (((k + 1 : Nat) : Int) - 1) = (k : Int) from by omega]
      have hst := powN_step x e k
      obtain ⟨z, hz⟩ : ∃ z, z = powN x (e / 2 ^ (k + 1)) := ⟨_, rfl⟩
      have hzl : z < W256 := by rw [hz]; exact powN_lt _ _
      rw [← hz] at hbo hst
      have HZ := Lib.hid hzl; have HS := Lib.hid hst
      clear hz hzl hst hj0
      have hk8 : (k : Int) < 256 := by omega
      obtain ⟨q0, q1, q2, q3, qf⟩ := hbo.four
      go_wp2_with fail
      refine (times_any z z HZ.out HZ.out _).mono ?_
      rintro r w4 ⟨rfl, ho4⟩
      have hbx := ho4.blk hbx (by simp)
      have hbe := ho4.blk hbe (by simp)
      have hbr := ho4.blk hbr (by simp)
      have hbo := ho4.blk hbo (by simp)
      have ho := ho.trans ho4
      obtain ⟨z2, hz2⟩ : ∃ z2, z2 = z * z % P255 := ⟨_, rfl⟩
      rw [← hz2]
      have HZ2 := Lib.hid hz2; clear hz2 q0 q1 q2 q3 qf
      obtain ⟨q0, q1, q2, q3, qf⟩ := hbo.four
      have hk64 : k / 64 < 4 := by omega
      have qe := (hbe.cell (k / 64)).trans (lc_get e (k / 64) hk64)
      obtain ⟨x0, x1, x2, x3, xf⟩ := hbx.four
      have hand := bit_and e k
      by_cases hbit : e / 2 ^ k % 2 = 1
      · have hq : (bits .and .u64 (((limb e (k / 64) : Nat) : Int) / 2 ^ (k % 64)) 1 == 1) = true := by rw [hand, hbit]; rfl
        have hst := HS.out
        rw [if_pos hbit, ← HZ2.out] at hst
        have HST := Lib.hid hst
        clear hst hand hbit
        go_wp2_with fail
        have hz2 : z2 < W256 := by rw [HZ2.out]; exact Nat.lt_trans (Nat.mod_lt _ (by decide)) p_lt
        refine (times_any z2 x hz2 HX.out _).mono ?_
        rintro r w5 ⟨rfl, ho5⟩
        rw [← HST.out]
        have hbx := ho5.blk (hbx.far4 (by omega) _ _ _ _) (by simp)
        have hbe := ho5.blk (hbe.far4 (by omega) _ _ _ _) (by simp)
        have hbr := ho5.blk (hbr.far4 (by omega) _ _ _ _) (by simp)
        have hbo := ho5.blk (hbo.set4 _ _ _ _) (by simp)
        have ho := (ho.set4 (b := b1) (.inr (by omega)) _ _ _ _).trans ho5
        clear q0 q1 q2 q3 qf x0 x1 x2 x3 xf qe hq
        obtain ⟨q0, q1, q2, q3, qf⟩ := hbo.four
        go_wp2_with fail
        go_roundw
        case rel => exact ⟨k, by go_num, by omega, hbx.far4 (by omega) _ _ _ _, hbe.far4 (by omega) _ _ _ _, hbr.far4 (by omega) _ _ _ _, hbo.set4 _ _ _ _, ho.set4 (b := b1) (.inr (by omega)) _ _ _ _⟩
        case measure => simp [intOf]
      · have hq : (bits .and .u64 (((limb e (k / 64) : Nat) : Int) / 2 ^ (k % 64)) 1 == 1) = false := by
          rw [hand]; have : e / 2 ^ k % 2 = 0 := by omega
          rw [this]; rfl
        have hst := HS.out
        rw [if_neg hbit, ← HZ2.out] at hst
        have HST := Lib.hid hst
        clear hst hand hbit
        go_wp2_with fail
        rw [← HST.out]
        go_roundw
        case rel => exact ⟨k, by go_num, by omega, hbx.far4 (by omega) _ _ _ _, hbe.far4 (by omega) _ _ _ _, hbr.far4 (by omega) _ _ _ _, hbo.set4 _ _ _ _, ho.set4 (b := b1) (.inr (by omega)) _ _ _ _⟩
        case measure => simp [intOf]
end Go.Proofs.Ytmlahbmaomoiaaa
