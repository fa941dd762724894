/-
  The reference's numbers: Limbs.
-/
import Derived.Test.YtmlahbmaomoiaaaRfM
namespace Go.Proofs.Ytmlahbmaomoiaaa
open Go.RowKit

abbrev zb : Array Value := #[.int .u8 0, .int .u8 0, .int .u8 0, .int .u8 0, .int .u8 0, .int .u8 0, .int .u8 0, .int .u8 0, .int .u8 0, .int .u8 0, .int .u8 0, .int .u8 0, .int .u8 0, .int .u8 0, .int .u8 0, .int .u8 0, .int .u8 0, .int .u8 0, .int .u8 0, .int .u8 0, .int .u8 0, .int .u8 0, .int .u8 0, .int .u8 0, .int .u8 0, .int .u8 0, .int .u8 0, .int .u8 0, .int .u8 0, .int .u8 0, .int .u8 0, .int .u8 0]
theorem zb_eq : zb = arrk .u8 32 fun _ => 0 := rfl
set_option maxRecDepth 100000 in
set_option maxHeartbeats 2000000 in
theorem limbs_any (x : Nat) (hx : x < W255) (w : World) : Calls Try.prog 87 #[rv x] w fun e w' => e = .returned (ev x) ∧ Only [] w w' := by
  have hb := fun w1 : World => bytes_any x hx w1
  have HB := Lib.hid hb; clear hb hx
  have hbx : Blk (((w.alloc (.cells (rc x) 39)).alloc (.cells (lc 0) 36)).alloc (.cells (lc 0) 36)) w.heap.size (rc x) 39 := ((Blk.new w _ 39).alloc _).alloc _
  have hbr : Blk (((w.alloc (.cells (rc x) 39)).alloc (.cells (lc 0) 36)).alloc (.cells (lc 0) 36)) (w.heap.size + 1) (lc 0) 36 := (Blk.newAt _ _ (by simp)).alloc _
  have hbo : Blk (((w.alloc (.cells (rc x) 39)).alloc (.cells (lc 0) 36)).alloc (.cells (lc 0) 36)) (w.heap.size + 1 + 1) (lc 0) 36 := Blk.newAt _ _ (by simp)
  have ho : Only [] w (((w.alloc (.cells (rc x) 39)).alloc (.cells (lc 0) 36)).alloc (.cells (lc 0) 36)) := (((Only.refl _ _).alloc _).alloc _).alloc _
  have hbx2 : Blk (((w.alloc (.cells (rc x) 39)).alloc (.cells #[.int .u64 0, .int .u64 0, .int .u64 0, .int .u64 0] 36)).alloc (.cells #[.int .u64 0, .int .u64 0, .int .u64 0, .int .u64 0] 36)) w.heap.size (rc x) 39 := hbx
  go_enter Try.func87, Try.ntmps87
  go_wp2_with (first | refine load_nc rfl _ rfl rfl (by assumption) ?_ | refine load_bc rfl _ rfl rfl (by assumption) ?_ | refine store_nc rfl _ _ rfl rfl rfl (by assumption) ?_ | refine store_bc rfl _ _ rfl rfl rfl (by assumption) ?_)
  refine (HB.out _).mono ?_
  rintro e w1 ⟨rfl, ho1⟩
  replace hbr := ho1.blk hbr (by simp)
  replace hbo := ho1.blk hbo (by simp)
  replace ho := ho.trans ho1
  clear hbx hbx2 ho1
  have hs1 := hbo.lt
  have hbb : Blk (w1.alloc (.cells zb 67)) w1.heap.size (arrk .u8 32 fun _ => 0) 67 := Blk.new w1 zb 67
  replace hbr := hbr.alloc (.cells zb 67)
  replace hbo := hbo.alloc (.cells zb 67)
  replace ho := ho.alloc (.cells zb 67)
  go_wp2_with (first | refine load_nc rfl _ rfl rfl (by assumption) ?_ | refine load_bc rfl _ rfl rfl (by assumption) ?_ | refine store_nc rfl _ _ rfl rfl rfl (by assumption) ?_ | refine store_bc rfl _ _ rfl rfl rfl (by assumption) ?_)
  replace hbr := hbr.farRow (g := w1.heap.size) (by omega) (arrk .u8 32 (dg 8 x))
  replace hbo := hbo.farRow (g := w1.heap.size) (by omega) (arrk .u8 32 (dg 8 x))
  replace ho := ho.setRow (g := w1.heap.size) (.inr (by omega)) (arrk .u8 32 (dg 8 x))
  replace hbb := hbb.setRow (arrk .u8 32 (dg 8 x))
  generalize hbY : w1.heap.size = b1 at *
  go_loopw [5] (fun i wr => ∃ j : Nat, i = .int .i64 ((j : Int) - 1) ∧ j ≤ 32 ∧ Blk wr (w.heap.size + 1) (lc 0) 36 ∧ Blk wr (w.heap.size + 1 + 1) (c4 (lst x j)) 36 ∧ Blk wr b1 (arrk .u8 32 (dg 8 x)) 67 ∧ Only [] w wr) (fun i _ => (intOf i + 1).toNat)
  case atStart =>
    refine ⟨32, rfl, by omega, hbr, ?_, hbb, ho⟩
    have e : c4 (lst x 32) = lc 0 := by
      unfold c4; rw [lst_none x 0 (by omega), lst_none x 1 (by omega), lst_none x 2 (by omega), lst_none x 3 (by omega)]; rfl
    rw [e]; exact hbo
  case round =>
    obtain ⟨j, rfl, hj, hbr, hbo, hbb, ho⟩ := hrel
    by_cases hj0 : j = 0
    · subst hj0
      have e : c4 (lst x 0) = lc x := by
        unfold c4 lc; rw [lst_full, lst_full, lst_full, lst_full]
      rw [e] at hbo
      clear e
      obtain ⟨q0, q1, q2, q3, qf⟩ := hbo.four
      obtain ⟨r0, r1, r2, r3, rf⟩ := hbr.four
      go_wp2_with fail
      exact bodyPost_ret (v := ev x) (by simp [results, Try.results87, go_sem, r0, r1, r2, r3]) rfl ⟨rfl, ho.set4 (b := w.heap.size + 1) (.inr (by omega)) _ _ _ _⟩
    · obtain ⟨k, rfl⟩ : ∃ k, j = k + 1 := ⟨j - 1, by omega⟩
      rw [show (((k + 1 : Nat) : Int) - 1) = (k : Int) from by omega]
      have hk : k < 32 := by omega
      have hkI : (k : Int) < 32 := by omega
      have hk8 : k / 8 < 4 := by omega
      have hl := lst_lt x k (k / 8)
      have hd : dg 8 x k < 256 := dg_lt 8 x k
      rw [lst_step] at hl
      have hput : c4 (put (lst x (k + 1)) (k / 8) (lst x (k + 1) (k / 8) * 256 + dg 8 x k)) = c4 (lst x k) := by
        unfold c4; rw [lst_put, lst_put, lst_put, lst_put]
      have HP := Lib.hid hput; clear hput hj0
      go_wp2_with fail
      refine region_free mixed 12 [0, 1, 0, 4, 12, 28, 60, 0, 128, 384, 896, 2044, 4095, 8191] (by kernel_rfl) (Only []) (Only.refl _) (fun _ _ _ => Only.trans) ?_
      simp only [List.take_succ_cons, List.take_zero, List.drop_succ_cons, List.drop_zero]
      iterate 12
        refine wpFree_op (Only.refl _) ?_ (fun V w _ => rfl) ?_ ?_
        rotate_left
        · intro V w2 hE hF K hK
          simp only [facts, Nat.reduceMod, Nat.reduceDiv, Nat.reduceEqDiff, forall_const, false_implies, List.nil_append, List.cons_append, true_and, and_true] at hF
          have q0 := ((hE.blk hbo.drew (by simp)).cell (k / 8)).trans (c4_get _ (k / 8) hk8)
          have q1 := ((hE.blk hbb.drew (by simp)).cell k).trans (arrk_get _ _ _ k hk)
          try simp only [hF] at hK ⊢
          go_step
          exact hK
        simp only [Act.put, List.setIfInBounds_toArray, List.set_cons_succ, List.set_cons_zero, Nat.reduceAdd, Nat.zero_add]
      refine wpFree_nil ?_
      intro V w3 hE hR
      simp only [allR, List.nil_append, List.cons_append] at hR
      simp only [hR]
      clear hR
      replace hbr := hE.blk hbr.drew (by simp)
      replace hbo := hE.blk hbo.drew (by simp)
      replace hbb := hE.blk hbb.drew (by simp)
      replace ho : Only [] w w3 := ho.drew.trans hE
      clear hE
      have cx := (hbo.cell (k / 8)).trans (c4_get _ (k / 8) hk8)
      have fx := hbo.free (k / 8)
      have hset := hbo.set (k / 8) (.int .u64 ((lst x (k + 1) (k / 8) * 256 + dg 8 x k : Nat) : Int))
      rw [c4_put _ _ _ hk8, HP.out] at hset
      have HSET := Lib.hid hset; clear hset
      go_wp2_with fail
      go_roundw
      case rel => exact ⟨k, by go_num, by omega, hbr.far (by simp) _, HSET.out, hbb.far (by simp; omega) _, ho.setCell (.inr (by simp; omega)) _⟩
      case measure => simp [intOf]
end Go.Proofs.Ytmlahbmaomoiaaa
