/-
  The reference's numbers: FromLimbs.
-/
import Derived.Test.YtmlahbmaomoiaaaRfP
namespace Go.Proofs.Ytmlahbmaomoiaaa
open Go.RowKit

set_option maxRecDepth 100000 in
set_option maxHeartbeats 2000000 in
theorem fromlimbs_any (x : Nat) (hx : x < W256) (w : World) : Calls Try.prog 34 #[ev x] w fun e w' => e = .returned (rv (x % P255)) ∧ Only [] w w' := by
  have hf := fun w1 : World => frombytes_any x hx w1
  have HF := Lib.hid hf; clear hf
  have HX := Lib.hid hx; clear hx
  go_enter Try.func34, Try.ntmps34
  go_wp2_with fail
  go_loopw [4] (fun c wr => ∃ i : Nat, c = .int .i64 (i : Int) ∧ i ≤ 32 ∧ Blk wr w.heap.size (lc x) 36 ∧ Blk wr (w.heap.size + 1) (nc fun _ => 0) 39 ∧ Blk wr (w.heap.size + 1 + 1) (arrk .u8 32 fun j => if j < i then dg 8 x j else 0) 67 ∧ Only [] w wr) (fun c _ => 32 - (intOf c).toNat)
  case atStart =>
    refine ⟨0, rfl, by omega, ((Blk.new _ _ _).alloc _).alloc _, (show Blk _ _ (nc fun _ => 0) 39 from (Blk.newAt _ _ (by simp)).alloc _), (show Blk _ _ (arrk .u8 32 fun _ => 0) 67 from Blk.newAt _ _ (by simp)), (((Only.refl _ _).alloc _).alloc _).alloc _⟩
  case round =>
    obtain ⟨i, rfl, hi, hbx, hbr, hbo, ho⟩ := hrel
    by_cases hlt : i < 32
    · have hl : (i : Int) < 32 := by omega
      have h8 : i / 8 < 4 := by omega
      have qe := (hbx.cell (i / 8)).trans (lc_get x (i / 8) h8)
      have cx := (hbo.cell i).trans (arrk_get _ _ _ i hlt)
      have fx := hbo.free i
      have hv : (((limb x (i / 8) : Nat) : Int) / 2 ^ (8 * (i % 8))) % 256 = ((dg 8 x i : Nat) : Int) := by
        have h4 : (2 : Int) ^ (8 * (i % 8)) = ((2 ^ (8 * (i % 8)) : Nat) : Int) := (Int.natCast_pow 2 _).symm
        rw [h4, ← byte_limb, ← Int.natCast_ediv]; omega
      have hset := hbo.set i (.int .u8 ((dg 8 x i : Nat) : Int))
      rw [arrk_put, arrk_congr (e := fun j => if j < i + 1 then dg 8 x j else 0) (fun j hj => by
        simp only [put]
        by_cases hjk : j = i
        · subst hjk; simp
        · rw [if_neg hjk]; by_cases hj2 : j < i
          · rw [if_pos hj2, if_pos (by omega)]
          · rw [if_neg hj2, if_neg (by omega)])] at hset
      have HV := Lib.hid hv; have HS := Lib.hid hset; clear hv hset
      go_wp2_with fail
      rw [HV.out]
      go_roundw
      case rel => exact ⟨i + 1, by go_num, by omega, hbx.far (by simp; omega) _, hbr.far (by simp) _, HS.out, ho.setCell (.inr (by simp; omega)) _⟩
      case measure => simp [intOf]; omega
    · have hie : i = 32 := by omega
      subst hie
      rw [arrk_congr (e := dg 8 x) (fun j hj => if_pos hj)] at hbo
      go_wp2_with (first | refine load_nc rfl _ rfl rfl (by assumption) ?_ | refine load_bc rfl _ rfl rfl (by assumption) ?_ | refine store_nc rfl _ _ rfl rfl rfl (by assumption) ?_ | refine store_bc rfl _ _ rfl rfl rfl (by assumption) ?_)
      refine (HF.out _).mono ?_
      rintro e w1 ⟨rfl, ho1⟩
      have hbr1 := ho1.blk hbr (by simp)
      have ho2 := ho.trans ho1
      have hs1 := hbr1.lt
      have hbn : Blk (w1.alloc (.cells zc 39)) w1.heap.size (nc fun _ => 0) 39 := Blk.new w1 zc 39
      replace hbr1 := hbr1.alloc (.cells zc 39)
      replace ho2 := ho2.alloc (.cells zc 39)
      have hbn2 := hbn.setRow (rc (x % W255))
      have hbr2 := hbr1.farRow (g := w1.heap.size) (by omega) (rc (x % W255))
      have ho3 := ho2.setRow (g := w1.heap.size) (.inr (by omega)) (rc (x % W255))
      have hset := fun w2 : World => settle_any (dig (x % W255)) (fun i _ => by have := dig_lt (x % W255) i; omega) w2
      rw [val_dig _ (Nat.mod_lt _ (by decide))] at hset
      have HSET := Lib.hid hset; clear hset
      by_cases hh : W255 ≤ x
      · rw [decide_eq_true hh]
        have hsm := fun w2 : World => rsmall_any 19 (by decide) w2
        rw [show 19 % P255 = 19 from rfl] at hsm
        have hadd := fun w2 : World => radd_any (x % W255 % P255) 19 (Nat.lt_trans (Nat.mod_lt _ (by decide)) p255_lt) (by decide) w2
        have hres : (x % W255 % P255 + 19) % P255 = x % P255 := by
          have h1 := HX.out
          have h2 : x % W255 = x - W255 := by rw [Nat.mod_eq_sub_mod hh, Nat.mod_eq_of_lt (by unfold W255 W256 at *; omega)]
          have h3 : W255 = P255 + 19 := rfl
          rw [Nat.add_mod, Nat.mod_mod, ← Nat.add_mod, h2, show x - W255 + 19 = x - P255 from by omega, ← Nat.mod_eq_sub_mod (by omega)]
        rw [hres] at hadd
        have HSM := Lib.hid hsm; have HADD := Lib.hid hadd
        clear hsm hadd hres hh
        go_wp2_with (first | refine load_nc rfl _ rfl rfl (by assumption) ?_ | refine load_bc rfl _ rfl rfl (by assumption) ?_ | refine store_nc rfl _ _ rfl rfl rfl (by assumption) ?_ | refine store_bc rfl _ _ rfl rfl rfl (by assumption) ?_)
        refine (HSET.out _).mono ?_
        rintro e w4 ⟨rfl, ho4⟩
        go_wp2_with (first | refine load_nc rfl _ rfl rfl (by assumption) ?_ | refine load_bc rfl _ rfl rfl (by assumption) ?_ | refine store_nc rfl _ _ rfl rfl rfl (by assumption) ?_ | refine store_bc rfl _ _ rfl rfl rfl (by assumption) ?_)
        refine (HSM.out _).mono ?_
        rintro e w5 ⟨rfl, ho5⟩
        go_wp2_with (first | refine load_nc rfl _ rfl rfl (by assumption) ?_ | refine load_bc rfl _ rfl rfl (by assumption) ?_ | refine store_nc rfl _ _ rfl rfl rfl (by assumption) ?_ | refine store_bc rfl _ _ rfl rfl rfl (by assumption) ?_)
        refine (HADD.out _).mono ?_
        rintro e w6 ⟨rfl, ho6⟩
        have hbr6 := ho6.blk (ho5.blk (ho4.blk hbr2 (by simp)) (by simp)) (by simp)
        have ho7 := ((ho3.trans ho4).trans ho5).trans ho6
        go_wp2_with (first | refine load_nc rfl _ rfl rfl (by assumption) ?_ | refine load_bc rfl _ rfl rfl (by assumption) ?_ | refine store_nc rfl _ _ rfl rfl rfl (by assumption) ?_ | refine store_bc rfl _ _ rfl rfl rfl (by assumption) ?_)
        exact post_nc (d := dig (x % P255)) rfl (hbr6.setRow _) rfl rfl ⟨rfl, ho7.setRow (.inr (by omega)) _⟩
      · rw [decide_eq_false hh]
        have hres : x % W255 % P255 = x % P255 := by rw [Nat.mod_eq_of_lt (show x < W255 by omega)]
        rw [hres] at HSET
        clear hres hh
        go_wp2_with (first | refine load_nc rfl _ rfl rfl (by assumption) ?_ | refine load_bc rfl _ rfl rfl (by assumption) ?_ | refine store_nc rfl _ _ rfl rfl rfl (by assumption) ?_ | refine store_bc rfl _ _ rfl rfl rfl (by assumption) ?_)
        refine (HSET.out _).mono ?_
        rintro e w4 ⟨rfl, ho4⟩
        have hbr6 := ho4.blk hbr2 (by simp)
        have ho7 := ho3.trans ho4
        go_wp2_with (first | refine load_nc rfl _ rfl rfl (by assumption) ?_ | refine load_bc rfl _ rfl rfl (by assumption) ?_ | refine store_nc rfl _ _ rfl rfl rfl (by assumption) ?_ | refine store_bc rfl _ _ rfl rfl rfl (by assumption) ?_)
        exact post_nc (d := dig (x % P255)) rfl (hbr6.setRow _) rfl rfl ⟨rfl, ho7.setRow (.inr (by omega)) _⟩
end Go.Proofs.Ytmlahbmaomoiaaa
