/-
  The reference's numbers: FromBytes.
-/
import Derived.Test.YtmlahbmaomoiaaaRfO
namespace Go.Proofs.Ytmlahbmaomoiaaa
open Go.RowKit

set_option maxRecDepth 100000 in
set_option maxHeartbeats 2000000 in
theorem frombytes_any (x : Nat) (hx : x < W256) (w : World) : Calls Try.prog 51 #[.agg (arrk .u8 32 (dg 8 x))] w fun e w' => e = .returned (.tuple #[rv (x % W255), .bool (decide (W255 ≤ x))]) ∧ Only [] w w' := by
  have HX := Lib.hid hx; clear hx
  go_enter Try.func51, Try.ntmps51
  go_wp2_with fail
  go_loopw [5] (fun c wr => ∃ i : Nat, c = .int .i64 (i : Int) ∧ i ≤ 255 ∧ Blk wr w.heap.size (arrk .u8 32 (dg 8 x)) 67 ∧ Blk wr (w.heap.size + 1) (nc fun _ => 0) 39 ∧ Blk wr (w.heap.size + 1 + 1) (rc (x % 2 ^ i)) 39 ∧ Only [] w wr) (fun c _ => 255 - (intOf c).toNat)
  case atStart =>
    refine ⟨0, rfl, by omega, ((Blk.new _ _ _).alloc _).alloc _, (show Blk _ _ (nc fun _ => 0) 39 from (Blk.newAt _ _ (by simp)).alloc _), ?_, (((Only.refl _ _).alloc _).alloc _).alloc _⟩
    have e0 : rc (x % 2 ^ 0) = nc fun _ => 0 := nc_congr (fun j _ => dg_zero 15 x j)
    rw [e0]
    exact (show Blk _ _ (nc fun _ => 0) 39 from Blk.newAt _ _ (by simp))
  case round =>
    obtain ⟨i, rfl, hi, hbx, hbr, hbo, ho⟩ := hrel
    by_cases hlt : i < 255
    · have hl : (i : Int) < 255 := by omega
      have h32 : i / 8 < 32 := by omega
      have h17 : i / 15 < 17 := by omega
      have qe := (hbx.cell (i / 8)).trans (arrk_get _ _ _ (i / 8) h32)
      have hd8 : dg 8 x (i / 8) < 256 := dg_lt 8 x (i / 8)
      have hb := dg_bit 8 (by omega) x i
      have hand : (((dg 8 x (i / 8) : Nat) : Int) / 2 ^ (i % 8)).tmod 2 = ((x / 2 ^ i % 2 : Nat) : Int) := by
        have h1 : (((dg 8 x (i / 8) : Nat) : Int) / 2 ^ (i % 8)) = ((dg 8 x (i / 8) / 2 ^ (i % 8) : Nat) : Int) := by
          rw [Int.natCast_ediv, Int.natCast_pow]; rfl
        rw [h1, ← hb, Int.tmod_eq_emod_of_nonneg (Int.natCast_nonneg _)]; exact (Int.natCast_emod _ 2).symm
      by_cases hbit : x / 2 ^ i % 2 = 1
      · have hq : ((((dg 8 x (i / 8) : Nat) : Int) / 2 ^ (i % 8)).tmod 2 == 1) = true := by rw [hand, hbit]; rfl
        have hstep : rc (x % 2 ^ (i + 1)) = nc (put (dig (x % 2 ^ i)) (i / 15) (dig (x % 2 ^ i) (i / 15) + 2 ^ (i % 15))) := nc_congr (fun j _ => dg_set 15 (by omega) x i hbit j)
        have HST := Lib.hid hstep
        have hv : ((dig (x % 2 ^ i) (i / 15) : Nat) : Int) + 2 ^ (i % 15) = ((dig (x % 2 ^ i) (i / 15) + 2 ^ (i % 15) : Nat) : Int) := by
          have h4 : (2 : Int) ^ (i % 15) = ((2 ^ (i % 15) : Nat) : Int) := (Int.natCast_pow 2 _).symm
          rw [h4]; exact (Int.natCast_add _ _).symm
        have hpw : (2 : Nat) ^ (i % 15) ≤ 16384 := Nat.le_trans (Nat.pow_le_pow_right (by decide) (show i % 15 ≤ 14 by omega)) (by decide)
        have hdl := dig_lt (x % 2 ^ i) (i / 15)
        have HV := Lib.hid hv
        clear hstep hand hb hbit hv
        go_wp2_with fail
        refine region_free mixed 7 [0, 1, 3, 7, 0, 16, 48, 127, 255, 511] (by kernel_rfl) (Only []) (Only.refl _) (fun _ _ _ => Only.trans) ?_
        simp only [List.take_succ_cons, List.take_zero, List.drop_succ_cons, List.drop_zero]
        iterate 7
          refine wpFree_op (Only.refl _) ?_ (fun V w _ => rfl) ?_ ?_
          rotate_left
          · intro V w1 hE hF K hK
            simp only [facts, Nat.reduceMod, Nat.reduceDiv, Nat.reduceEqDiff, forall_const, false_implies, List.nil_append, List.cons_append, true_and, and_true] at hF
            have q0 := ((hE.blk hbo.drew (by simp)).cell (i / 15)).trans (nc_get _ (i / 15) h17)
            try simp only [hF] at hK ⊢
            go_step
            exact hK
          simp only [Act.put, List.setIfInBounds_toArray, List.set_cons_succ, List.set_cons_zero, Nat.reduceAdd, Nat.zero_add]
        refine wpFree_nil ?_
        intro V w3 hE hR
        simp only [allR, List.nil_append, List.cons_append] at hR
        simp only [hR]
        clear hR
        replace hbx := hE.blk hbx.drew (by simp)
        replace hbr := hE.blk hbr.drew (by simp)
        replace hbo := hE.blk hbo.drew (by simp)
        replace ho : Only [] w w3 := ho.drew.trans hE
        clear hE
        have cx := (hbo.cell (i / 15)).trans (nc_get _ (i / 15) h17)
        have fx := hbo.free (i / 15)
        have hset := hbo.set (i / 15) (.int .i64 ((dig (x % 2 ^ i) (i / 15) + 2 ^ (i % 15) : Nat) : Int))
        rw [nc_put _ _ _ h17, ← HST.out] at hset
        have HSET := Lib.hid hset; clear hset
        go_wp2_with fail
        have hw : wrap64 (((dig (x % 2 ^ i) (i / 15) : Nat) : Int) + wrap64 (2 ^ (i % 15))) = ((dig (x % 2 ^ i) (i / 15) + 2 ^ (i % 15) : Nat) : Int) := by
          have h4 : (2 : Int) ^ (i % 15) = ((2 ^ (i % 15) : Nat) : Int) := (Int.natCast_pow 2 _).symm
          rw [h4]
          generalize 2 ^ (i % 15) = A at *
          simp only [wrap64]
          omega
        rw [hw]
        go_roundw
        case rel => exact ⟨i + 1, by go_num, by omega, hbx.far (by simp; omega) _, hbr.far (by simp) _, HSET.out, ho.setCell (.inr (by simp; omega)) _⟩
        case measure => simp [intOf]; omega
      · have hq : ((((dg 8 x (i / 8) : Nat) : Int) / 2 ^ (i % 8)).tmod 2 == 1) = false := by
          rw [hand]; have : x / 2 ^ i % 2 = 0 := by omega
          rw [this]; rfl
        have hu := dg_unset x i hbit
        rw [← hu] at hbo
        clear hand hb hbit hu
        go_wp2_with fail
        go_roundw
        case rel => exact ⟨i + 1, by go_num, by omega, hbx, hbr, hbo, ho⟩
        case measure => simp [intOf]; omega
    · have hie : i = 255 := by omega
      subst hie
      have e255 : rc (x % 2 ^ 255) = rc (x % W255) := rfl
      rw [e255] at hbo
      have hd31 : dg 8 x 31 < 256 := dg_lt 8 x 31
      go_wp2_with fail
      refine region_free mixed 5 [0, 0, 2, 6, 1, 31] (by kernel_rfl) (Turn (w.heap.size + 1) (rc (x % W255)) 39) (Turn.refl _ _ _) Turn.trans ?_
      simp only [List.take_succ_cons, List.take_zero, List.drop_succ_cons, List.drop_zero]
      refine wpFree_op (Turn.refl _ _ _) (rv (x % W255)) (fun V w _ => rfl) ?_ ?_
      · intro U w1 hE hF K hK
        exact wp_load_row 39 _ rfl _ rfl 39 (rc (x % W255)) (0, 0) _ (hE.1.blk hbo.drew (nin1 (by omega))) Try.underlying39 rfl info39 hK
      simp only [Act.put, List.setIfInBounds_toArray, List.set_cons_succ, List.set_cons_zero, Nat.zero_add]
      iterate 3
        refine wpFree_op (Turn.refl _ _ _) ?_ (fun V w _ => rfl) ?_ ?_
        rotate_left
        · intro V w1 hE hF K hK
          simp only [facts, Nat.reduceMod, Nat.reduceDiv, Nat.reduceEqDiff, forall_const, false_implies, List.nil_append, List.cons_append, true_and, and_true] at hF
          have q0 := ((hE.1.blk hbx.drew (nin1 (by omega))).cell 31).trans (arrk_get _ _ _ 31 (by omega))
          try simp only [hF] at hK ⊢
          go_step
          exact hK
        simp only [Act.put, List.setIfInBounds_toArray, List.set_cons_succ, List.set_cons_zero, Nat.reduceAdd]
      refine wpFree_root (fun _ w' => Blk w' (w.heap.size + 1) (rc (x % W255)) 39) (fun _ => Turn.done) (fun V w _ => rfl) ?_ ?_
      · intro U w1 hE hF K hK
        simp only [facts, Nat.reduceMod, Nat.reduceDiv, Nat.reduceEqDiff, forall_const, false_implies, List.nil_append, List.cons_append, and_true] at hF
        simp only [hF] at hK ⊢
        obtain ⟨d0, hb0⟩ : ∃ d0, Blk w1 (w.heap.size + 1) (nc d0) 39 := by
          rcases hE.blk hbr.drew with h | h
          · exact ⟨_, h⟩
          · exact ⟨_, h⟩
        refine wp_store_row 39 _ _ rfl (w.heap.size + 1) (rc (x % W255)) rfl rfl 39 (nc d0) hb0 info39 rfl (nc_one _) ?_
        exact hK undef _ (Turn.of ((Only.refl _ _).setRow (.inl (by simp)) _) (hb0.setRow _)) (hb0.setRow _)
      refine wpFree_nil ?_
      intro U w3 hE hR
      simp only [allR, List.nil_append, List.cons_append] at hR
      simp only [Act.put, hR]
      obtain ⟨-, -, -, -, hbf, -⟩ := hR
      have ho' : Only [] w w3 := (ho.drew).then hE.1 (by intro z hz; simp at hz; omega)
      go_wp2_with fail
      have hbool : decide ((128 : Int) ≤ ((dg 8 x 31 : Nat) : Int)) = decide (W255 ≤ x) := by
        have h1 := HX.out
        rw [decide_eq_decide]
        simp only [dg, Nat.reduceMul, Nat.reducePow] at *
        unfold W255 W256 at *
        omega
      have hl := run_loadVar_row w3 (w.heap.size + 1) 39 39 (rc (x % W255)) (0, 0) _ hbf Try.underlying39 rfl info39
      refine bodyPost_ret (v := .tuple #[rv (x % W255), .bool (decide (W255 ≤ x))]) ?_ rfl ⟨rfl, ho'⟩
      rw [← hbool]
      simp [results, Try.results51, asAddr, hl, Result.andThen]
end Go.Proofs.Ytmlahbmaomoiaaa
