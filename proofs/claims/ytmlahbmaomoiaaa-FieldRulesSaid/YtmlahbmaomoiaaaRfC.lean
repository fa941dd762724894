/-
  The reference's numbers: under.
-/
import Derived.Test.YtmlahbmaomoiaaaRfB
namespace Go.Proofs.Ytmlahbmaomoiaaa
open Go.RowKit

def brw (x y k : Nat) : Nat := if x % 2 ^ (15 * k) < y % 2 ^ (15 * k) then 1 else 0
theorem brw_le (x y k : Nat) : brw x y k ≤ 1 := by unfold brw; split <;> omega
theorem brw_div (x y k : Nat) (h : y ≤ x) : x / 2 ^ (15 * k) = (x - y) / 2 ^ (15 * k) + y / 2 ^ (15 * k) + brw x y k := by
  unfold brw
  have hp : 0 < 2 ^ (15 * k) := Nat.two_pow_pos _
  generalize 2 ^ (15 * k) = p at *
  obtain ⟨z, rfl⟩ : ∃ z, x = z + y := ⟨x - y, by omega⟩
  rw [Nat.add_sub_cancel]
  have e : z + y = p * (z / p + y / p) + (z % p + y % p) := by
    rw [Nat.mul_add]
    have h1 := Nat.div_add_mod z p
    have h2 := Nat.div_add_mod y p
    omega
  have hz := Nat.mod_lt z hp
  have hy := Nat.mod_lt y hp
  rw [e, Nat.mul_add_div hp, Nat.mul_add_mod]
  by_cases hr : z % p + y % p < p
  · rw [Nat.div_eq_of_lt hr, Nat.mod_eq_of_lt hr, if_neg (by omega)]
  · obtain ⟨r, hr2⟩ : ∃ r, z % p + y % p = r + p := ⟨z % p + y % p - p, by omega⟩
    rw [hr2, Nat.add_div_right _ hp, Nat.add_mod_right, Nat.div_eq_of_lt (show r < p by omega), Nat.mod_eq_of_lt (show r < p by omega), if_pos (by omega)]
theorem div_dig (x k : Nat) : x / 2 ^ (15 * (k + 1)) = x / 2 ^ (15 * k) / 32768 := by
  rw [Nat.mul_add, Nat.pow_add, ← Nat.div_div_eq_div_mul]
theorem under_dig (x y k : Nat) (h : y ≤ x) :
    (dig x k < dig y k + brw x y k → dig x k + 32768 = dig (x - y) k + dig y k + brw x y k ∧ brw x y (k + 1) = 1) ∧
    (¬ dig x k < dig y k + brw x y k → dig x k = dig (x - y) k + dig y k + brw x y k ∧ brw x y (k + 1) = 0) := by
  have h1 := brw_div x y k h
  have h2 := brw_div x y (k + 1) h
  rw [div_dig, div_dig, div_dig] at h2
  have b1 := brw_le x y k
  have b2 := brw_le x y (k + 1)
  unfold dig
  generalize x / 2 ^ (15 * k) = X at *
  generalize (x - y) / 2 ^ (15 * k) = Z at *
  generalize y / 2 ^ (15 * k) = Y at *
  omega

set_option maxRecDepth 100000 in
set_option maxHeartbeats 1000000 in
theorem under_any (x y : Nat) (h : y ≤ x) (w : World) : Calls Try.prog 91 #[rv x, rv y] w fun e w' => e = .returned (rv (x - y)) ∧ Only [] w w' := by
  have HU := Lib.hid fun k => under_dig x y k h
  clear h
  go_enter Try.func91, Try.ntmps91
  go_wp2_with fail
  go_loopw [5, 6] (fun b c wr => ∃ k : Nat, c = .int .i64 (k : Int) ∧ k ≤ 17 ∧ b = .int .i64 ((brw x y k : Nat) : Int) ∧ Blk wr w.heap.size (nc fun j => if j < k then dig (x - y) j else dig x j) 39 ∧ Blk wr (w.heap.size + 1) (rc y) 39 ∧ Blk wr (w.heap.size + 1 + 1) (nc fun _ => 0) 39 ∧ Only [] w wr) (fun _ c _ => 17 - (intOf c).toNat)
  case atStart =>
    refine ⟨0, rfl, Nat.zero_le _, ?_, ((Blk.new _ _ _).alloc _).alloc _, (Blk.newAt _ _ (by simp)).alloc _, (show Blk _ _ (nc fun _ => 0) 39 from Blk.newAt _ _ (by simp)), (((Only.refl _ _).alloc _).alloc _).alloc _⟩
    unfold brw; simp [Nat.mod_one]
  case round =>
    obtain ⟨k, rfl, hk, rfl, hbx, hby, hbr, ho⟩ := hrel
    by_cases hlt : k < 17
    · have hl : (k : Int) < 17 := by omega
      have cx := (hbx.cell k).trans (nc_get _ k hlt)
      simp only [Nat.lt_irrefl, if_false] at cx
      have fx := hbx.free k
      have cy := (hby.cell k).trans (nc_get _ k hlt)
      have dx := dig_lt x k
      have dy := dig_lt y k
      have db := brw_le x y k
      have hset := hbx.set k (.int .i64 ((dig (x - y) k : Nat) : Int))
      rw [nc_put _ k _ hlt, nc_congr (e := fun j => if j < k + 1 then dig (x - y) j else dig x j) (fun j hj => by
        simp only [put]
        by_cases hjk : j = k
        · subst hjk; simp
        · rw [if_neg hjk]; by_cases hj2 : j < k
          · rw [if_pos hj2, if_pos (by omega)]
          · rw [if_neg hj2, if_neg (by omega)])] at hset
      by_cases hc : dig x k < dig y k + brw x y k
      · have hd := (HU.out k).1 hc
        have hneg : ((dig x k : Nat) : Int) - ((dig y k : Nat) : Int) - ((brw x y k : Nat) : Int) < 0 := by omega
        have hv : ((dig x k : Nat) : Int) - ((dig y k : Nat) : Int) - ((brw x y k : Nat) : Int) + 32768 = ((dig (x - y) k : Nat) : Int) := by omega
        have HV := Lib.hid hv; have HD := Lib.hid hd; have HS := Lib.hid hset
        clear hv hd hset hc
        go_wp2_with fail
        go_quiet (fail)
        go_wp2_with fail
        rw [HV.out]
        go_roundw
        case rel => exact ⟨k + 1, by go_num, by omega, by rw [HD.out.2]; rfl, HS.out, hby.far (by simp) _, hbr.far (by simp; omega) _, (ho.trans (drewN_only _ _)).setCell (.inr (by simp)) _⟩
        case measure => simp [intOf]; omega
      · have hd := (HU.out k).2 hc
        have hneg : ¬ ((dig x k : Nat) : Int) - ((dig y k : Nat) : Int) - ((brw x y k : Nat) : Int) < 0 := by omega
        have hv : ((dig x k : Nat) : Int) - ((dig y k : Nat) : Int) - ((brw x y k : Nat) : Int) = ((dig (x - y) k : Nat) : Int) := by omega
        have HV := Lib.hid hv; have HD := Lib.hid hd; have HS := Lib.hid hset
        clear hv hd hset hc
        go_wp2_with fail
        go_quiet (fail)
        go_wp2_with fail
        rw [HV.out]
        go_roundw
        case rel => exact ⟨k + 1, by go_num, by omega, by rw [HD.out.2]; rfl, HS.out, hby.far (by simp) _, hbr.far (by simp; omega) _, (ho.trans (drewN_only _ _)).setCell (.inr (by simp)) _⟩
        case measure => simp [intOf]; omega
    · have hke : k = 17 := by omega
      subst hke
      rw [nc_congr (e := dig (x - y)) (fun j hj => if_pos hj)] at hbx
      go_wp2_with (first | refine load_nc rfl _ rfl rfl (by assumption) ?_ | refine store_nc rfl _ _ rfl rfl rfl (by assumption) ?_)
      exact post_nc (d := dig (x - y)) rfl (hbr.setRow _) rfl rfl ⟨rfl, ho.setRow (.inr (by omega)) _⟩
end Go.Proofs.Ytmlahbmaomoiaaa
