/-
  The reference's numbers: Power.
-/
import Derived.Test.YtmlahbmaomoiaaaRfI
namespace Go.Proofs.Ytmlahbmaomoiaaa
open Go.RowKit

theorem bit_rem (e k : Nat) : (((limb e (k / 64) : Nat) : Int) / 2 ^ (k % 64)).tmod 2 = ((e / 2 ^ k % 2 : Nat) : Int) := by
  have h1 : (((limb e (k / 64) : Nat) : Int) / 2 ^ (k % 64)) = ((limb e (k / 64) / 2 ^ (k % 64) : Nat) : Int) := by
    rw [Int.natCast_ediv, Int.natCast_pow]; rfl
  rw [h1, ← limb_bit, Int.tmod_eq_emod_of_nonneg (Int.natCast_nonneg _)]; exact (Int.natCast_emod _ 2).symm
theorem powN_lt255 (x e : Nat) : powN x e < W255 := Nat.lt_trans (Nat.mod_lt _ (by decide)) p255_lt

set_option maxRecDepth 100000 in
set_option maxHeartbeats 4000000 in
theorem rpower_any (x e : Nat) (hx : x < W255) (he : e < W256) (w : World) : Calls Try.prog 27 #[rv x, ev e] w fun r w' => r = .returned (rv (powN x e)) ∧ Only [] w w' := by
  have HX := Lib.hid hx; have HE := Lib.hid he
  clear hx he
  have h1 := fun w1 : World => rsmall_any 1 (by decide) w1
  rw [show 1 % P255 = 1 from rfl] at h1
  have H1 := Lib.hid h1; clear h1
  go_enter Try.func27, Try.ntmps27
  go_wp2_with fail
  refine (H1.out _).mono ?_
  rintro r w1 ⟨rfl, ho1⟩
  have hbx := ho1.blk (((Blk.new w (rc x) 39).alloc (.cells (lc e) 36)).alloc (.cells zc 39)) (by simp)
  have hbe := ho1.blk ((Blk.newAt (w := w.alloc (.cells (rc x) 39)) (n := w.heap.size + 1) (lc e) 36 (by simp)).alloc (.cells zc 39)) (by simp)
  have hbr : Blk w1 (w.heap.size + 1 + 1) (nc fun _ => 0) 39 := ho1.blk (Blk.newAt (w := (w.alloc (.cells (rc x) 39)).alloc (.cells (lc e) 36)) (n := w.heap.size + 1 + 1) zc 39 (by simp)) (by simp)
  have ho : Only [] w w1 := ((((Only.refl _ _).alloc (.cells (rc x) 39)).alloc (.cells (lc e) 36)).alloc (.cells zc 39)).trans ho1
  clear ho1
  have hs1 := hbr.lt
  have hbo : Blk (w1.alloc (.cells zc 39)) w1.heap.size (nc fun _ => 0) 39 := Blk.new w1 zc 39
  replace hbx := hbx.alloc (.cells zc 39)
  replace hbe := hbe.alloc (.cells zc 39)
  replace hbr := hbr.alloc (.cells zc 39)
  replace ho := ho.alloc (.cells zc 39)
  go_wp2_with (first | refine load_nc rfl _ rfl rfl (by assumption) ?_ | refine store_nc rfl _ _ rfl rfl rfl (by assumption) ?_)
  replace hbx := hbx.farRow (g := w1.heap.size) (by omega) (rc 1)
  replace hbe := hbe.farRow (g := w1.heap.size) (by omega) (rc 1)
  replace hbr := hbr.farRow (g := w1.heap.size) (by omega) (rc 1)
  replace ho := ho.setRow (g := w1.heap.size) (.inr (by omega)) (rc 1)
  replace hbo := hbo.setRow (rc 1)
  generalize hbY : w1.heap.size = b1 at *
  go_loopw [6] (fun i wr => ∃ j : Nat, i = .int .i64 ((j : Int) - 1) ∧ j ≤ 256 ∧ Blk wr w.heap.size (rc x) 39 ∧ Blk wr (w.heap.size + 1) (lc e) 36 ∧ Blk wr (w.heap.size + 1 + 1) (nc fun _ => 0) 39 ∧ Blk wr b1 (rc (powN x (e / 2 ^ j))) 39 ∧ Only [] w wr) (fun i _ => (intOf i + 1).toNat)
  case atStart =>
    refine ⟨256, rfl, by omega, hbx, hbe, hbr, ?_, ho⟩
    have h1 : powN x (e / 2 ^ 256) = 1 := by
      rw [Nat.div_eq_of_lt (show e < 2 ^ 256 from HE.out)]
      unfold powN; rw [Nat.pow_zero]; rfl
    rw [h1]; exact hbo
  case round =>
    obtain ⟨j, rfl, hj, hbx, hbe, hbr, hbo, ho⟩ := hrel
    by_cases hj0 : j = 0
    · subst hj0
      have h1 : e / 2 ^ 0 = e := by simp
      rw [h1] at hbo
      clear h1
      go_wp2_with (first | refine load_nc rfl _ rfl rfl (by assumption) ?_ | refine store_nc rfl _ _ rfl rfl rfl (by assumption) ?_)
      exact post_nc (d := dig (powN x e)) rfl (hbr.setRow _) rfl rfl ⟨rfl, ho.setRow (.inr (by omega)) _⟩
    · obtain ⟨k, rfl⟩ : ∃ k, j = k + 1 := ⟨j - 1, by omega⟩
      rw [show (((k + 1 : Nat) : Int) - 1) = (k : Int) from by omega]
      have hst := powN_step x e k
      obtain ⟨z, hz⟩ : ∃ z, z = powN x (e / 2 ^ (k + 1)) := ⟨_, rfl⟩
      have hzl : z < W255 := by rw [hz]; exact powN_lt255 _ _
      rw [← hz] at hbo hst
      have HZ := Lib.hid hzl; have HS := Lib.hid hst
      clear hz hzl hst hj0
      have hk8 : (k : Int) < 256 := by omega
      go_wp2_with (first | refine load_nc rfl _ rfl rfl (by assumption) ?_ | refine store_nc rfl _ _ rfl rfl rfl (by assumption) ?_)
      refine (rmul_any z z HZ.out HZ.out _).mono ?_
      rintro r w4 ⟨rfl, ho4⟩
      replace hbx := ho4.blk hbx (by simp)
      replace hbe := ho4.blk hbe (by simp)
      replace hbr := ho4.blk hbr (by simp)
      replace hbo := ho4.blk hbo (by simp)
      replace ho := ho.trans ho4
      obtain ⟨z2, hz2⟩ : ∃ z2, z2 = z * z % P255 := ⟨_, rfl⟩
      rw [← hz2]
      have HZ2 := Lib.hid hz2; clear hz2 ho4
      have hk64 : k / 64 < 4 := by omega
      have hbx2 := hbx.farRow (g := b1) (by omega) (rc z2)
      have hbe2 := hbe.farRow (g := b1) (by omega) (rc z2)
      have hbr2 := hbr.farRow (g := b1) (by omega) (rc z2)
      have hbo2 := hbo.setRow (rc z2)
      have ho2 := ho.setRow (g := b1) (.inr (by omega)) (rc z2)
      have qe := (hbe2.cell (k / 64)).trans (lc_get e (k / 64) hk64)
      have hand := bit_rem e k
      by_cases hbit : e / 2 ^ k % 2 = 1
      · have hq : ((((limb e (k / 64) : Nat) : Int) / 2 ^ (k % 64)).tmod 2 == 1) = true := by rw [hand, hbit]; rfl
        have hst := HS.out
        rw [if_pos hbit, ← HZ2.out] at hst
        have HST := Lib.hid hst
        clear hst hand hbit
        go_wp2_with (first | refine load_nc rfl _ rfl rfl (by assumption) ?_ | refine store_nc rfl _ _ rfl rfl rfl (by assumption) ?_)
        have hz2 : z2 < W255 := by rw [HZ2.out]; exact Nat.lt_trans (Nat.mod_lt _ (by decide)) p255_lt
        refine (rmul_any z2 x hz2 HX.out _).mono ?_
        rintro r w5 ⟨rfl, ho5⟩
        rw [← HST.out]
        have hbx := ho5.blk hbx2 (by simp)
        have hbe := ho5.blk hbe2 (by simp)
        have hbr := ho5.blk hbr2 (by simp)
        have hbo := ho5.blk hbo2 (by simp)
        have ho := ho2.trans ho5
        clear qe hq
        go_wp2_with (first | refine load_nc rfl _ rfl rfl (by assumption) ?_ | refine store_nc rfl _ _ rfl rfl rfl (by assumption) ?_)
        go_roundw
        case rel => exact ⟨k, by go_num, by omega, hbx.farRow (by omega) _, hbe.farRow (by omega) _, hbr.farRow (by omega) _, hbo.setRow _, ho.setRow (g := b1) (.inr (by omega)) _⟩
        case measure => simp [intOf]
      · have hq : ((((limb e (k / 64) : Nat) : Int) / 2 ^ (k % 64)).tmod 2 == 1) = false := by
          rw [hand]; have : e / 2 ^ k % 2 = 0 := by omega
          rw [this]; rfl
        have hst := HS.out
        rw [if_neg hbit, ← HZ2.out] at hst
        have HST := Lib.hid hst
        clear hst hand hbit
        go_wp2_with (first | refine load_nc rfl _ rfl rfl (by assumption) ?_ | refine store_nc rfl _ _ rfl rfl rfl (by assumption) ?_)
        go_roundw
        case rel =>
          rw [← HST.out]
          exact ⟨k, by go_num, by omega, hbx.farRow (by omega) _, hbe.farRow (by omega) _, hbr.farRow (by omega) _, hbo.setRow _, ho.setRow (g := b1) (.inr (by omega)) _⟩
        case measure => simp [intOf]
end Go.Proofs.Ytmlahbmaomoiaaa
