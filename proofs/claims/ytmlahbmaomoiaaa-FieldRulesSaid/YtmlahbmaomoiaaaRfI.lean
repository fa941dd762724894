/-
  The reference's numbers: Mul, the walk.
-/
import Derived.Test.YtmlahbmaomoiaaaRfH
namespace Go.Proofs.Ytmlahbmaomoiaaa
open Go.RowKit

set_option maxRecDepth 100000 in
set_option maxHeartbeats 2000000 in
theorem rmul_any (x y : Nat) (hx : x < W255) (hy : y < W255) (w : World) : Calls Try.prog 39 #[rv x, rv y] w fun e w' => e = .returned (rv (x * y % P255)) ∧ Only [] w w' := by
  have HX := Lib.hid hx; have HY := Lib.hid hy
  clear hx hy
  go_enter Try.func39, Try.ntmps39
  go_wp2_with fail
  go_loopw [6] (fun c wr => ∃ (i : Nat) (ws : Nat → Nat), c = .int .i64 (i : Int) ∧ i ≤ 17 ∧ Blk wr w.heap.size (rc x) 39 ∧ Blk wr (w.heap.size + 1) (rc y) 39 ∧ Blk wr (w.heap.size + 1 + 1) (nc fun _ => 0) 39 ∧ Blk wr (w.heap.size + 1 + 1 + 1) (arrc 34 ws) 133 ∧ Hid (WideO x y i ws) ∧ Only [] w wr) (fun c _ => 17 - (intOf c).toNat)
  case atStart => exact ⟨0, fun _ => 0, rfl, by omega, (((Blk.new _ _ _).alloc _).alloc _).alloc _, ((Blk.newAt _ _ (by simp)).alloc _).alloc _, (show Blk _ _ (nc fun _ => 0) 39 from (Blk.newAt _ _ (by simp)).alloc _), (show Blk _ _ (arrc 34 fun _ => 0) 133 from Blk.newAt _ _ (by simp)), WideO.start x y, ((((Only.refl _ _).alloc _).alloc _).alloc _).alloc _⟩
  case round =>
    obtain ⟨i, ws, rfl, hi, hbx, hby, hbr, hbw, HW, ho⟩ := hrel
    by_cases hlt : i < 17
    · have hl : (i : Int) < 17 := by omega
      go_wp2_with fail
      go_loopw [7] (fun c wr => ∃ (k : Nat) (us : Nat → Nat), c = .int .i64 (k : Int) ∧ k ≤ 17 ∧ Blk wr w.heap.size (rc x) 39 ∧ Blk wr (w.heap.size + 1) (rc y) 39 ∧ Blk wr (w.heap.size + 1 + 1) (nc fun _ => 0) 39 ∧ Blk wr (w.heap.size + 1 + 1 + 1) (arrc 34 us) 133 ∧ Hid (WideI x y i k us) ∧ Only [] w wr) (fun c _ => 17 - (intOf c).toNat)
      case atStart => exact ⟨0, ws, rfl, by omega, hbx, hby, hbr, hbw, HW.out.inner, ho⟩
      case round =>
        obtain ⟨k, us, rfl, hk, hbx, hby, hbr, hbw, HU, ho⟩ := hrel
        by_cases hk17 : k < 17
        · have hkl : (k : Int) < 17 := by omega
          have hik : i + k < 34 := by omega
          have hikl : (i : Int) + (k : Int) < 34 := by omega
          obtain ⟨m, hm⟩ : ∃ m, m = dig x i * dig y k := ⟨_, rfl⟩
          have hml : m ≤ 1073741824 := by rw [hm]; exact dig_mul_le x y i k
          have hmI : ((dig x i : Nat) : Int) * ((dig y k : Nat) : Int) = (m : Int) := by rw [hm]; exact (Int.natCast_mul _ _).symm
          have hul : us (i + k) ≤ 18253611008 + 1073741824 := by have h1 := HU.out.low (i + k); have h2 : (i + 1) * 1073741824 ≤ 17 * 1073741824 := Nat.mul_le_mul_right _ (by omega); omega
          have hstep := HU.out.step hlt hk17
          rw [← hm] at hstep
          have HST := Lib.hid hstep
          clear hstep hm
          go_wp2_with fail
          refine region_free mixed 12 [0, 0, 3, 7, 15, 0, 32, 96, 0, 256, 768, 2016, 4095, 8191, 16383] (by kernel_rfl) (Only []) (Only.refl _) (fun _ _ _ => Only.trans) ?_
          simp only [List.take_succ_cons, List.take_zero, List.drop_succ_cons, List.drop_zero]
          iterate 12
            refine wpFree_op (Only.refl _) ?_ (fun V w _ => rfl) ?_ ?_
            rotate_left
            · intro V w1 hE hF K hK
              simp only [facts, Nat.reduceMod, Nat.reduceDiv, Nat.reduceEqDiff, forall_const, false_implies, List.nil_append, List.cons_append, true_and, and_true] at hF
              have q0 := ((hE.blk hbx.drew (by simp)).cell i).trans (nc_get _ i hlt)
              have q1 := ((hE.blk hby.drew (by simp)).cell k).trans (nc_get _ k hk17)
              have q2 := ((hE.blk hbw.drew (by simp)).cell (i + k)).trans (arrc_get 34 _ (i + k) hik)
              try simp only [hF] at hK ⊢
              go_step
              exact hK
            simp only [Act.put, List.setIfInBounds_toArray, List.set_cons_succ, List.set_cons_zero, Nat.reduceAdd, Nat.zero_add]
          refine wpFree_nil ?_
          intro V w3 hE hR
          simp only [allR, List.nil_append, List.cons_append] at hR
          simp only [hR]
          clear hR
          replace hbx := hE.blk hbx.drew (by simp)
          replace hby := hE.blk hby.drew (by simp)
          replace hbr := hE.blk hbr.drew (by simp)
          replace hbw := hE.blk hbw.drew (by simp)
          replace ho : Only [] w w3 := ho.drew.trans hE
          clear hE
          have cx := (hbw.cell (i + k)).trans (arrc_get 34 _ (i + k) hik)
          have fx := hbw.free (i + k)
          have hset := hbw.set (i + k) (.int .i64 ((us (i + k) + m : Nat) : Int))
          rw [arrc_put] at hset
          go_wp2_with fail
          go_roundw
          case rel => exact ⟨k + 1, put us (i + k) (us (i + k) + m), by go_num, by omega, hbx.far (by simp; omega) _, hby.far (by simp) _, hbr.far (by simp) _, hset, HST.out, ho.setCell (.inr (by simp; omega)) _⟩
          case measure => simp [intOf]; omega
        · have hke : k = 17 := by omega
          subst hke
          go_wp2_with fail
          go_roundw
          case rel => exact ⟨i + 1, us, by go_num, by omega, hbx, hby, hbr, hbw, HU.out.outer HY.out, ho⟩
          case measure => simp [intOf]; omega
    · have hie : i = 17 := by omega
      subst hie
      rw [show ((17 : Nat) : Int) = 17 from rfl]
      have hfin := HW.out.final HX.out
      have hsm := HW.out.low
      have hset := fun w1 : World => settle_any (fold19 ws) hfin.2 w1
      rw [hfin.1] at hset
      have HF := Lib.hid hset; have HS := Lib.hid hsm
      clear hfin hsm hset
      clear hbx hby
      have hs1 := hbw.lt
      have hbn : Blk (wr.alloc (.cells zc 39)) wr.heap.size (nc fun _ => 0) 39 := Blk.new _ _ _
      replace hbr := hbr.alloc (.cells zc 39)
      replace hbw := hbw.alloc (.cells zc 39)
      replace ho := ho.alloc (.cells zc 39)
      go_wp2_with fail
      generalize hbY : wr.heap.size = bN at *
      go_loopw [9] (fun c wr => ∃ k : Nat, c = .int .i64 (k : Int) ∧ k ≤ 17 ∧ Blk wr (w.heap.size + 1 + 1) (nc fun _ => 0) 39 ∧ Blk wr (w.heap.size + 1 + 1 + 1) (arrc 34 ws) 133 ∧ Blk wr bN (nc fun j => if j < k then fold19 ws j else 0) 39 ∧ Only [] w wr) (fun c _ => 17 - (intOf c).toNat)
      case atStart => exact ⟨0, rfl, by omega, hbr, hbw, hbn, ho⟩
      case round =>
        obtain ⟨k, rfl, hk, hbr, hbw, hbn, ho⟩ := hrel
        by_cases hk17 : k < 17
        · have hkl : (k : Int) < 17 := by omega
          have hk34 : k < 34 := by omega
          have hk34' : k + 17 < 34 := by omega
          have b1 := HS.out k
          have b2 := HS.out (k + 17)
          have hset := fun (w1 : World) (h : Blk w1 bN (nc fun j => if j < k then fold19 ws j else 0) 39) => h.set k (.int .i64 ((fold19 ws k : Nat) : Int))
          simp only [nc_put _ k _ hk17] at hset
          rw [nc_congr (d := put (fun j => if j < k then fold19 ws j else 0) k (fold19 ws k)) (e := fun j => if j < k + 1 then fold19 ws j else 0) (fun j hj => by
            simp only [put]
            by_cases hjk : j = k
            · subst hjk; simp
            · rw [if_neg hjk]; by_cases hj2 : j < k
              · rw [if_pos hj2, if_pos (by omega)]
              · rw [if_neg hj2, if_neg (by omega)])] at hset
          have HSET := Lib.hid hset; clear hset
          have hv : ((ws k : Nat) : Int) + 19 * ((ws (k + 17) : Nat) : Int) = ((fold19 ws k : Nat) : Int) := by unfold fold19; omega
          have HV := Lib.hid hv; clear hv
          go_wp2_with fail
          refine region_free mixed 10 [0, 0, 2, 6, 0, 16, 48, 112, 240, 510, 1023, 2047] (by kernel_rfl) (Only []) (Only.refl _) (fun _ _ _ => Only.trans) ?_
          simp only [List.take_succ_cons, List.take_zero, List.drop_succ_cons, List.drop_zero]
          iterate 10
            refine wpFree_op (Only.refl _) ?_ (fun V w _ => rfl) ?_ ?_
            rotate_left
            · intro V w1 hE hF K hK
              simp only [facts, Nat.reduceMod, Nat.reduceDiv, Nat.reduceEqDiff, forall_const, false_implies, List.nil_append, List.cons_append, true_and, and_true] at hF
              have q0 := ((hE.blk hbw.drew (by simp)).cell k).trans (arrc_get 34 _ k hk34)
              have q1 := ((hE.blk hbw.drew (by simp)).cell (k + 17)).trans (arrc_get 34 _ (k + 17) hk34')
              try simp only [hF] at hK ⊢
              go_step
              exact hK
            simp only [Act.put, List.setIfInBounds_toArray, List.set_cons_succ, List.set_cons_zero, Nat.reduceAdd, Nat.zero_add]
          refine wpFree_nil ?_
          intro V w3 hE hR
          simp only [allR, List.nil_append, List.cons_append] at hR
          simp only [hR]
          clear hR
          replace hbr := hE.blk hbr.drew (by simp)
          replace hbw := hE.blk hbw.drew (by simp)
          replace hbn := hE.blk hbn.drew (by simp)
          replace ho : Only [] w w3 := ho.drew.trans hE
          clear hE
          have cx := (hbn.cell k).trans (nc_get _ k hk17)
          have fx := hbn.free k
          go_wp2_with fail
          rw [HV.out]
          go_roundw
          case rel => exact ⟨k + 1, by go_num, by omega, hbr.far (by simp; omega) _, hbw.far (by simp; omega) _, HSET.out _ hbn, ho.setCell (.inr (by simp; omega)) _⟩
          case measure => simp [intOf]; omega
        · have hke : k = 17 := by omega
          subst hke
          rw [nc_congr (e := fold19 ws) (fun j hj => if_pos hj)] at hbn
          go_wp2_with (first | refine load_nc rfl _ rfl rfl (by assumption) ?_ | refine store_nc rfl _ _ rfl rfl rfl (by assumption) ?_)
          refine (HF.out _).mono ?_
          rintro e w4 ⟨rfl, ho4⟩
          have hbr4 := ho4.blk hbr (by simp)
          have ho5 := ho.trans ho4
          go_wp2_with (first | refine load_nc rfl _ rfl rfl (by assumption) ?_ | refine store_nc rfl _ _ rfl rfl rfl (by assumption) ?_)
          exact post_nc (d := dig (x * y % P255)) rfl (hbr4.setRow _) rfl rfl ⟨rfl, ho5.setRow (.inr (by omega)) _⟩
end Go.Proofs.Ytmlahbmaomoiaaa
