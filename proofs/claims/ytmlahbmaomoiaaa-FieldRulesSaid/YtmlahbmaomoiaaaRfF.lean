/-
  The reference's numbers: Small, Add, Neg, Sub.
-/
import Derived.Test.YtmlahbmaomoiaaaRfE
namespace Go.Proofs.Ytmlahbmaomoiaaa
open Go.RowKit

theorem vs_only0 (n : Nat) : ∀ k, vs (put (fun _ => 0) 0 n) (k + 1) = n
  | 0 => by simp [vs, put]
  | k + 1 => by rw [vs, vs_only0 n k]; simp [put]
abbrev zc : Array Value := #[.int .i64 0, .int .i64 0, .int .i64 0, .int .i64 0, .int .i64 0, .int .i64 0, .int .i64 0, .int .i64 0, .int .i64 0, .int .i64 0, .int .i64 0, .int .i64 0, .int .i64 0, .int .i64 0, .int .i64 0, .int .i64 0, .int .i64 0]
abbrev nzc (n : Nat) : Array Value := #[.int .i64 (n : Int), .int .i64 0, .int .i64 0, .int .i64 0, .int .i64 0, .int .i64 0, .int .i64 0, .int .i64 0, .int .i64 0, .int .i64 0, .int .i64 0, .int .i64 0, .int .i64 0, .int .i64 0, .int .i64 0, .int .i64 0, .int .i64 0]
theorem zc_nc : zc = nc fun _ => 0 := rfl
theorem nzc_nc (n : Nat) : nzc n = nc (put (fun _ => 0) 0 n) := by unfold nc; simp [put]
set_option maxRecDepth 100000 in
set_option maxHeartbeats 1000000 in
theorem rsmall_any (n : Nat) (hn : n < 35184372088832) (w : World) : Calls Try.prog 44 #[.int .i64 (n : Int)] w fun e w' => e = .returned (rv (n % P255)) ∧ Only [] w w' := by
  have hs := fun w1 : World => settle_any (put (fun _ => 0) 0 n) (fun i _ => by simp only [put]; split <;> omega) w1
  rw [show val17 (put (fun _ => 0) 0 n) = n from vs_only0 n 16] at hs
  have HS := Lib.hid hs; clear hs hn
  generalize n % P255 = z at *
  have hb1 : Blk ((w.alloc (.cells zc 39)).alloc (.cells (nzc n) 39)) (w.heap.size + 1) (nc (put (fun _ => 0) 0 n)) 39 := by rw [← nzc_nc]; exact Blk.newAt _ _ (by simp)
  have hb0 : Blk ((w.alloc (.cells zc 39)).alloc (.cells (nzc n) 39)) w.heap.size (nc fun _ => 0) 39 := (Blk.new w zc 39).alloc _
  have ho : Only [] w ((w.alloc (.cells zc 39)).alloc (.cells (nzc n) 39)) := ((Only.refl _ _).alloc _).alloc _
  go_enter Try.func44, Try.ntmps44
  go_wp2_with (first | refine load_nc rfl _ rfl rfl (by assumption) ?_ | refine store_nc rfl _ _ rfl rfl rfl (by assumption) ?_)
  refine (HS.out _).mono ?_
  rintro e w4 ⟨rfl, ho4⟩
  have hbr4 := ho4.blk hb0 (by simp)
  have ho5 := ho.trans ho4
  go_wp2_with (first | refine load_nc rfl _ rfl rfl (by assumption) ?_ | refine store_nc rfl _ _ rfl rfl rfl (by assumption) ?_)
  exact post_nc (d := dig z) rfl (hbr4.setRow _) rfl rfl ⟨rfl, ho5.setRow (.inr (by omega)) _⟩

theorem vs_add (d e : Nat → Nat) : ∀ k, vs (fun i => d i + e i) k = vs d k + vs e k
  | 0 => rfl
  | k + 1 => by rw [vs, vs_add d e k, vs, vs, Nat.add_mul]; omega
theorem addD_val (x y : Nat) (hx : x < W255) (hy : y < W255) : val17 (fun i => dig x i + dig y i) = x + y := by
  unfold val17; rw [vs_add, ← val17, ← val17, val_dig x hx, val_dig y hy]

set_option maxRecDepth 100000 in
set_option maxHeartbeats 2000000 in
theorem radd_any (x y : Nat) (hx : x < W255) (hy : y < W255) (w : World) : Calls Try.prog 38 #[rv x, rv y] w fun e w' => e = .returned (rv ((x + y) % P255)) ∧ Only [] w w' := by
  have hs := fun w1 : World => settle_any (fun i => dig x i + dig y i) (fun i _ => by have := dig_lt x i; have := dig_lt y i; omega) w1
  rw [addD_val x y hx hy] at hs
  have HS := Lib.hid hs; clear hs hx hy
  generalize (x + y) % P255 = z at *
  go_enter Try.func38, Try.ntmps38
  go_wp2_with fail
  go_loopw [5] (fun c wr => ∃ k : Nat, c = .int .i64 (k : Int) ∧ k ≤ 17 ∧ Blk wr w.heap.size (nc fun j => if j < k then dig x j + dig y j else dig x j) 39 ∧ Blk wr (w.heap.size + 1) (rc y) 39 ∧ Blk wr (w.heap.size + 1 + 1) (nc fun _ => 0) 39 ∧ Only [] w wr) (fun c _ => 17 - (intOf c).toNat)
  case atStart => exact ⟨0, rfl, Nat.zero_le _, ((Blk.new _ _ _).alloc _).alloc _, (Blk.newAt _ _ (by simp)).alloc _, (show Blk _ _ (nc fun _ => 0) 39 from Blk.newAt _ _ (by simp)), (((Only.refl _ _).alloc _).alloc _).alloc _⟩
  case round =>
    obtain ⟨k, rfl, hk, hbx, hby, hbr, ho⟩ := hrel
    by_cases hlt : k < 17
    · have hl : (k : Int) < 17 := by omega
      have dx := dig_lt x k
      have dy := dig_lt y k
      have hset := fun (w1 : World) (h : Blk w1 w.heap.size (nc fun j => if j < k then dig x j + dig y j else dig x j) 39) => h.set k (.int .i64 ((dig x k + dig y k : Nat) : Int))
      simp only [nc_put _ k _ hlt] at hset
      rw [nc_congr (d := put (fun j => if j < k then dig x j + dig y j else dig x j) k (dig x k + dig y k)) (e := fun j => if j < k + 1 then dig x j + dig y j else dig x j) (fun j hj => by
        simp only [put]
        by_cases hjk : j = k
        · subst hjk; simp
        · rw [if_neg hjk]; by_cases hj2 : j < k
          · rw [if_pos hj2, if_pos (by omega)]
          · rw [if_neg hj2, if_neg (by omega)])] at hset
      have HSET := Lib.hid hset; clear hset
      go_wp2_with fail
      refine region_free mixed 6 [0, 1, 3, 0, 8, 24, 63, 127, 255] (by kernel_rfl) (Only []) (Only.refl _) (fun _ _ _ => Only.trans) ?_
      simp only [List.take_succ_cons, List.take_zero, List.drop_succ_cons, List.drop_zero]
      iterate 6
        refine wpFree_op (Only.refl _) ?_ (fun V w _ => rfl) ?_ ?_
        rotate_left
        · intro V w1 hE hF K hK
          simp only [facts, Nat.reduceMod, Nat.reduceDiv, Nat.reduceEqDiff, forall_const, false_implies, List.nil_append, List.cons_append, true_and, and_true] at hF
          have q0 := ((hE.blk hbx.drew (by simp)).cell k).trans (nc_get _ k hlt)
          simp only [Nat.lt_irrefl, if_false] at q0
          have q1 := ((hE.blk hby.drew (by simp)).cell k).trans (nc_get _ k hlt)
          try simp only [hF] at hK ⊢
          go_step
          exact hK
        simp only [Act.put, List.setIfInBounds_toArray, List.set_cons_succ, List.set_cons_zero, Nat.reduceAdd, Nat.zero_add]
      refine wpFree_nil ?_
      intro V w3 hE hR
      simp only [allR, List.nil_append, List.cons_append] at hR
      simp only [hR]
      clear hR
      replace hbx := hE.blk hbx.drew (by simp)
      replace hby := hE.blk hby.drew (by simp)
      replace hbr := hE.blk hbr.drew (by simp)
      replace ho : Only [] w w3 := ho.drew.trans hE
      clear hE
      have cx := (hbx.cell k).trans (nc_get _ k hlt)
      have fx := hbx.free k
      go_wp2_with fail
      go_roundw
      case rel => exact ⟨k + 1, by go_num, by omega, HSET.out _ hbx, hby.far (by simp) _, hbr.far (by simp; omega) _, ho.setCell (.inr (by simp)) _⟩
      case measure => simp [intOf]; omega
    · have hke : k = 17 := by omega
      subst hke
      rw [nc_congr (e := fun j => dig x j + dig y j) (fun j hj => if_pos hj)] at hbx
      go_wp2_with (first | refine load_nc rfl _ rfl rfl (by assumption) ?_ | refine store_nc rfl _ _ rfl rfl rfl (by assumption) ?_)
      refine (HS.out _).mono ?_
      rintro e w4 ⟨rfl, ho4⟩
      have hbr4 := ho4.blk hbr (by simp)
      have ho5 := ho.trans ho4
      go_wp2_with (first | refine load_nc rfl _ rfl rfl (by assumption) ?_ | refine store_nc rfl _ _ rfl rfl rfl (by assumption) ?_)
      exact post_nc (d := dig z) rfl (hbr4.setRow _) rfl rfl ⟨rfl, ho5.setRow (.inr (by omega)) _⟩
end Go.Proofs.Ytmlahbmaomoiaaa
