/-
  The reference's numbers: settle.
-/
import Derived.Test.YtmlahbmaomoiaaaRfD
namespace Go.Proofs.Ytmlahbmaomoiaaa
open Go.RowKit

set_option maxRecDepth 100000 in
set_option maxHeartbeats 2000000 in
theorem settle_any (d : Nat → Nat) (hd : ∀ i, i < 17 → d i < 35184372088832) (w : World) : Calls Try.prog 92 #[nv d] w fun e w' => e = .returned (rv (val17 d % P255)) ∧ Only [] w w' := by
  have hst := Rnd.start hd
  have HST := Lib.hid hst
  clear hd hst
  go_enter Try.func92, Try.ntmps92
  go_wp2_with fail
  go_loopw [3] (fun c wr => ∃ (r : Nat) (e : Nat → Nat), c = .int .i64 (r : Int) ∧ r ≤ 4 ∧ Hid (Rnd d r e) ∧ Blk wr w.heap.size (nc e) 39 ∧ Blk wr (w.heap.size + 1) (nc fun _ => 0) 39 ∧ Only [] w wr) (fun c _ => 4 - (intOf c).toNat)
  case atStart => exact ⟨0, d, rfl, by omega, HST.out, (Blk.new _ _ _).alloc _, (show Blk _ _ (nc fun _ => 0) 39 from Blk.newAt _ _ (by simp)), ((Only.refl _ _).alloc _).alloc _⟩
  case round =>
    obtain ⟨r, e, rfl, hr, HR, hbx, hbr, ho⟩ := hrel
    by_cases hlt : r < 4
    · have hl : (r : Int) < 4 := by omega
      go_wp2_with fail
      go_loopw [4, 5] (fun c i wr => ∃ k : Nat, i = .int .i64 (k : Int) ∧ k ≤ 17 ∧ c = .int .i64 ((cry e k : Nat) : Int) ∧ Blk wr w.heap.size (nc fun j => if j < k then dig (val17 e) j else e j) 39 ∧ Blk wr (w.heap.size + 1) (nc fun _ => 0) 39 ∧ Only [] w wr) (fun _ i _ => 17 - (intOf i).toNat)
      case atStart => exact ⟨0, rfl, by omega, by rw [cry_zero]; rfl, hbx, hbr, ho⟩
      case round =>
        obtain ⟨k, rfl, hk, rfl, hbx, hbr, ho⟩ := hrel
        by_cases hk17 : k < 17
        · have hl : (k : Int) < 17 := by omega
          have cx := (hbx.cell k).trans (nc_get _ k hk17)
          simp only [Nat.lt_irrefl, if_false] at cx
          have fx := hbx.free k
          have b1 := HR.out.small k hk17
          have b2 := cry_lt e HR.out.small k hk
          have hset := hbx.set k (.int .i64 ((dig (val17 e) k : Nat) : Int))
          rw [nc_put _ k _ hk17, nc_congr (e := fun j => if j < k + 1 then dig (val17 e) j else e j) (fun j hj => by
            simp only [put]
            by_cases hjk : j = k
            · subst hjk; simp
            · rw [if_neg hjk]; by_cases hj2 : j < k
              · rw [if_pos hj2, if_pos (by omega)]
              · rw [if_neg hj2, if_neg (by omega)])] at hset
          have hv : (((e k : Nat) : Int) + ((cry e k : Nat) : Int)) % 32768 = ((dig (val17 e) k : Nat) : Int) := by
            rw [val17, dig_vs e k 17 (by omega)]; omega
          have hc : (((e k : Nat) : Int) + ((cry e k : Nat) : Int)) / 32768 = ((cry e (k + 1) : Nat) : Int) := by
            rw [cry_succ]; omega
          have HV := Lib.hid hv; have HC := Lib.hid hc; have HS := Lib.hid hset
          clear hv hc hset
          go_wp2_with fail
          rw [HV.out, HC.out]
          go_roundw
          case rel => exact ⟨k + 1, by go_num, by omega, rfl, HS.out, hbr.far (by simp) _, ho.setCell (.inr (by simp)) _⟩
          case measure => simp [intOf]; omega
        · have hke : k = 17 := by omega
          subst hke
          rw [nc_congr (e := dig (val17 e)) (fun j hj => if_pos hj)] at hbx
          have cx := (hbx.cell 0).trans (nc_get _ 0 (by omega))
          have fx := hbx.free 0
          have b1 := dig_lt (val17 e) 0
          have b2 := cry_lt e HR.out.small 17 (by omega)
          have hset := hbx.set 0 (.int .i64 ((dig (val17 e) 0 + 19 * cry e 17 : Nat) : Int))
          rw [nc_put _ 0 _ (by omega), show put (dig (val17 e)) 0 (dig (val17 e) 0 + 19 * cry e 17) = rd (val17 e) from rfl] at hset
          have hv : ((dig (val17 e) 0 : Nat) : Int) + 19 * ((cry e 17 : Nat) : Int) = ((dig (val17 e) 0 + 19 * cry e 17 : Nat) : Int) := by omega
          have HV := Lib.hid hv; have HS := Lib.hid hset
          clear hv hset
          go_wp2_with fail
          rw [HV.out]
          go_roundw
          case rel => exact ⟨r + 1, rd (val17 e), by go_num, by omega, HR.out.step, HS.out, hbr.far (by simp) _, ho.setCell (.inr (by simp)) _⟩
          case measure => simp [intOf]; omega
    · have hre : r = 4 := by omega
      subst hre
      obtain ⟨V, hV, hnc, hmod⟩ := HR.out.final
      rw [hnc] at hbx
      have HVL := Lib.hid hV; have HM := Lib.hid hmod
      clear hV hnc hmod HR HST
      go_wp2_with fail
      refine region_free mixed 2 [0, 0, 3, 7] (by kernel_rfl) (Only []) (Only.refl _) (fun _ _ _ => Only.trans) ?_
      simp only [List.take_succ_cons, List.take_zero, List.drop_succ_cons, List.drop_zero]
      refine wpFree_op (Only.refl _) (rv V) (fun V w _ => rfl) ?_ ?_
      · intro U w1 hE hF K hK
        exact wp_load_row 39 _ rfl _ rfl 39 (rc V) (0, 0) _ (hE.blk hbx.drew (by simp)) Try.underlying39 rfl info39 hK
      simp only [Act.put, List.setIfInBounds_toArray, List.set_cons_succ, List.set_cons_zero, Nat.zero_add]
      refine wpFree_call (rv P255) 35 (fun V => #[]) (fun V w _ => rfl) ?_ ?_ ?_
      · intro V w1 hE hF
        go_simp
      · intro V w1 hE hF
        exact rp_any w1
      simp only [Act.put, List.setIfInBounds_toArray, List.set_cons_succ, List.set_cons_zero, Nat.reduceAdd]
      refine wpFree_nil ?_
      intro U w3 hE hR
      simp only [allR, List.nil_append, List.cons_append] at hR
      simp only [hR]
      clear hR
      replace hbx := hE.blk hbx.drew (by simp)
      replace hbr := hE.blk hbr.drew (by simp)
      replace ho : Only [] w w3 := ho.drew.trans hE
      clear hE
      go_wp2_with fail
      refine (rless_any V P255 HVL.out (by decide) w3).mono ?_
      rintro e w4 ⟨rfl, ho4⟩
      replace hbx := ho4.blk hbx (by simp)
      replace hbr := ho4.blk hbr (by simp)
      replace ho := ho.trans ho4
      clear ho4
      by_cases hlt2 : V < P255
      · have hres : V = val17 d % P255 := by rw [← HM.out, Nat.mod_eq_of_lt hlt2]
        rw [decide_eq_true hlt2]
        have HRES := Lib.hid hres
        clear hres hlt2
        go_wp2_with (first | refine load_nc rfl _ rfl rfl (by assumption) ?_ | refine store_nc rfl _ _ rfl rfl rfl (by assumption) ?_)
        rw [← HRES.out]
        exact post_nc (d := dig V) rfl (hbr.setRow _) rfl rfl ⟨rfl, ho.setRow (.inr (by omega)) _⟩
      · have hle : P255 ≤ V := by omega
        have hres : V - P255 = val17 d % P255 := by
          have h1 := HVL.out
          have h2 : W255 = P255 + 19 := rfl
          have h3 : (19 : Nat) < P255 := by decide
          rw [← HM.out, Nat.mod_eq_sub_mod hle, Nat.mod_eq_of_lt (by omega)]
        rw [decide_eq_false hlt2]
        have HRES := Lib.hid hres
        have HLE := Lib.hid hle
        clear hres hlt2 hle
        go_wp2_with fail
        refine region_free mixed 2 [0, 0, 3, 7] (by kernel_rfl) (Only []) (Only.refl _) (fun _ _ _ => Only.trans) ?_
        simp only [List.take_succ_cons, List.take_zero, List.drop_succ_cons, List.drop_zero]
        refine wpFree_op (Only.refl _) (rv V) (fun V w _ => rfl) ?_ ?_
        · intro U w1 hE hF K hK
          exact wp_load_row 39 _ rfl _ rfl 39 (rc V) (0, 0) _ (hE.blk hbx.drew (by simp)) Try.underlying39 rfl info39 hK
        simp only [Act.put, List.setIfInBounds_toArray, List.set_cons_succ, List.set_cons_zero, Nat.zero_add]
        refine wpFree_call (rv P255) 35 (fun V => #[]) (fun V w _ => rfl) ?_ ?_ ?_
        · intro V w1 hE hF
          go_simp
        · intro V w1 hE hF
          exact rp_any w1
        simp only [Act.put, List.setIfInBounds_toArray, List.set_cons_succ, List.set_cons_zero, Nat.reduceAdd]
        refine wpFree_nil ?_
        intro U w5 hE hR
        simp only [allR, List.nil_append, List.cons_append] at hR
        simp only [hR]
        clear hR
        replace hbx := hE.blk hbx.drew (by simp)
        replace hbr := hE.blk hbr.drew (by simp)
        replace ho : Only [] w w5 := ho.drew.trans hE
        clear hE
        go_wp2_with fail
        refine (under_any V P255 HLE.out w5).mono ?_
        rintro e w6 ⟨rfl, ho6⟩
        replace hbx := ho6.blk hbx (by simp)
        replace hbr := ho6.blk hbr (by simp)
        replace ho := ho.trans ho6
        clear ho6
        have hbx2 := hbx.setRow (rc (V - P255))
        have hbr2 := hbr.farRow (g := w.heap.size) (by omega) (rc (V - P255))
        go_wp2_with (first | refine load_nc rfl _ rfl rfl (by assumption) ?_ | refine store_nc rfl _ _ rfl rfl rfl (by assumption) ?_)
        rw [← HRES.out]
        exact post_nc (d := dig (V - P255)) rfl (hbr2.setRow _) rfl rfl ⟨rfl, (ho.setRow (g := w.heap.size) (.inr (by omega)) _).setRow (.inr (by omega)) _⟩
end Go.Proofs.Ytmlahbmaomoiaaa
