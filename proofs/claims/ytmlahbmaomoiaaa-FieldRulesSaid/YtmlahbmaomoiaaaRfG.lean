/-
  The reference's numbers: Neg, Sub.
-/
import Derived.Test.YtmlahbmaomoiaaaRfF
namespace Go.Proofs.Ytmlahbmaomoiaaa
open Go.RowKit

theorem p255_lt : P255 < W255 := by decide
set_option maxRecDepth 100000 in
set_option maxHeartbeats 2000000 in
theorem rneg_any (x : Nat) (hx : x ≤ P255) (w : World) : Calls Try.prog 43 #[rv x] w fun e w' => e = .returned (rv ((P255 - x) % P255)) ∧ Only [] w w' := by
  have hs := fun w1 : World => settle_any (dig (P255 - x)) (fun i _ => by have := dig_lt (P255 - x) i; omega) w1
  rw [val_dig (P255 - x) (Nat.lt_of_le_of_lt (Nat.sub_le _ _) p255_lt)] at hs
  have hu := fun w1 : World => under_any P255 x hx w1
  obtain ⟨y, hy⟩ : ∃ y, y = P255 - x := ⟨_, rfl⟩
  rw [← hy] at hs hu ⊢
  have HS := Lib.hid hs; have HU := Lib.hid hu; clear hs hu hy hx
  generalize y % P255 = z at *
  have hbx : Blk ((w.alloc (.cells (rc x) 39)).alloc (.cells zc 39)) w.heap.size (rc x) 39 := (Blk.new w _ 39).alloc _
  have hbr : Blk ((w.alloc (.cells (rc x) 39)).alloc (.cells zc 39)) (w.heap.size + 1) (nc fun _ => 0) 39 := Blk.newAt _ _ (by simp)
  have ho : Only [] w ((w.alloc (.cells (rc x) 39)).alloc (.cells zc 39)) := ((Only.refl _ _).alloc _).alloc _
  go_enter Try.func43, Try.ntmps43
  go_wp2_with fail
  refine region_free mixed 2 [0, 0, 3, 7, 15] (by kernel_rfl) (Only []) (Only.refl _) (fun _ _ _ => Only.trans) ?_
  simp only [List.take_succ_cons, List.take_zero, List.drop_succ_cons, List.drop_zero]
  refine wpFree_call (rv P255) 35 (fun V => #[]) (fun V w _ => rfl) ?_ ?_ ?_
  · intro V w1 hE hF
    go_simp
  · intro V w1 hE hF
    exact rp_any w1
  simp only [Act.put, List.setIfInBounds_toArray, List.set_cons_succ, List.set_cons_zero, Nat.zero_add]
  refine wpFree_op (Only.refl _) (rv x) (fun V w _ => rfl) ?_ ?_
  · intro U w1 hE hF K hK
    exact wp_load_row 39 _ rfl _ rfl 39 (rc x) (0, 0) _ (hE.blk hbx.drew (by simp)) Try.underlying39 rfl info39 hK
  simp only [Act.put, List.setIfInBounds_toArray, List.set_cons_succ, List.set_cons_zero, Nat.reduceAdd]
  refine wpFree_nil ?_
  intro U w3 hE hR
  simp only [allR, List.nil_append, List.cons_append] at hR
  simp only [hR]
  clear hR
  replace hbr := hE.blk hbr.drew (by simp)
  replace ho : Only [] w w3 := ho.drew.trans hE
  clear hE hbx
  go_wp2_with fail
  refine (HU.out w3).mono ?_
  rintro e w4 ⟨rfl, ho4⟩
  replace hbr := ho4.blk hbr (by simp)
  replace ho := ho.trans ho4
  go_wp2_with fail
  refine (HS.out w4).mono ?_
  rintro e w5 ⟨rfl, ho5⟩
  replace hbr := ho5.blk hbr (by simp)
  replace ho := ho.trans ho5
  go_wp2_with (first | refine load_nc rfl _ rfl rfl (by assumption) ?_ | refine store_nc rfl _ _ rfl rfl rfl (by assumption) ?_)
  exact post_nc (d := dig z) rfl (hbr.setRow _) rfl rfl ⟨rfl, ho.setRow (.inr (by omega)) _⟩

def rsubN (x y : Nat) : Nat := (x + (P255 - y) % P255) % P255
set_option maxRecDepth 100000 in
set_option maxHeartbeats 2000000 in
theorem rsub_any (x y : Nat) (hx : x < W255) (hy : y ≤ P255) (w : World) : Calls Try.prog 42 #[rv x, rv y] w fun e w' => e = .returned (rv (rsubN x y)) ∧ Only [] w w' := by
  have hn := fun w1 : World => rneg_any y hy w1
  have ha := fun w1 : World => radd_any x ((P255 - y) % P255) hx (Nat.lt_trans (Nat.mod_lt _ (by decide)) p255_lt) w1
  rw [← rsubN] at ha
  generalize (P255 - y) % P255 = v at *
  generalize rsubN x y = z at *
  have HN := Lib.hid hn; have HA := Lib.hid ha; clear hn ha hx hy
  have hbx : Blk (((w.alloc (.cells (rc x) 39)).alloc (.cells (rc y) 39)).alloc (.cells zc 39)) w.heap.size (rc x) 39 := ((Blk.new w _ 39).alloc _).alloc _
  have hby : Blk (((w.alloc (.cells (rc x) 39)).alloc (.cells (rc y) 39)).alloc (.cells zc 39)) (w.heap.size + 1) (rc y) 39 := (Blk.newAt _ _ (by simp)).alloc _
  have hbr : Blk (((w.alloc (.cells (rc x) 39)).alloc (.cells (rc y) 39)).alloc (.cells zc 39)) (w.heap.size + 1 + 1) (nc fun _ => 0) 39 := Blk.newAt _ _ (by simp)
  have ho : Only [] w (((w.alloc (.cells (rc x) 39)).alloc (.cells (rc y) 39)).alloc (.cells zc 39)) := (((Only.refl _ _).alloc _).alloc _).alloc _
  go_enter Try.func42, Try.ntmps42
  go_wp2_with fail
  refine region_free mixed 3 [0, 0, 2, 7, 15] (by kernel_rfl) (Only []) (Only.refl _) (fun _ _ _ => Only.trans) ?_
  simp only [List.take_succ_cons, List.take_zero, List.drop_succ_cons, List.drop_zero]
  refine wpFree_op (Only.refl _) (rv x) (fun V w _ => rfl) ?_ ?_
  · intro U w1 hE hF K hK
    exact wp_load_row 39 _ rfl _ rfl 39 (rc x) (0, 0) _ (hE.blk hbx.drew (by simp)) Try.underlying39 rfl info39 hK
  simp only [Act.put, List.setIfInBounds_toArray, List.set_cons_succ, List.set_cons_zero, Nat.zero_add]
  refine wpFree_op (Only.refl _) (rv y) (fun V w _ => rfl) ?_ ?_
  · intro U w1 hE hF K hK
    exact wp_load_row 39 _ rfl _ rfl 39 (rc y) (0, 0) _ (hE.blk hby.drew (by simp)) Try.underlying39 rfl info39 hK
  simp only [Act.put, List.setIfInBounds_toArray, List.set_cons_succ, List.set_cons_zero, Nat.reduceAdd]
  refine wpFree_call (rv v) 43 (fun V => #[V 1]) (fun V w _ => rfl) ?_ ?_ ?_
  · intro V w1 hE hF
    go_simp
  · intro V w1 hE hF
    simp only [facts, Nat.reduceMod, Nat.reduceDiv, Nat.reduceEqDiff, forall_const, false_implies, List.nil_append, List.cons_append, true_and, and_true] at hF
    rw [hF]
    exact HN.out w1
  simp only [Act.put, List.setIfInBounds_toArray, List.set_cons_succ, List.set_cons_zero, Nat.reduceAdd]
  refine wpFree_nil ?_
  intro U w3 hE hR
  simp only [allR, List.nil_append, List.cons_append] at hR
  simp only [hR]
  clear hR
  replace hbr := hE.blk hbr.drew (by simp)
  replace ho : Only [] w w3 := ho.drew.trans hE
  clear hE hbx hby
  go_wp2_with fail
  refine (HA.out w3).mono ?_
  rintro e w4 ⟨rfl, ho4⟩
  replace hbr := ho4.blk hbr (by simp)
  replace ho := ho.trans ho4
  go_wp2_with (first | refine load_nc rfl _ rfl rfl (by assumption) ?_ | refine store_nc rfl _ _ rfl rfl rfl (by assumption) ?_)
  exact post_nc (d := dig z) rfl (hbr.setRow _) rfl rfl ⟨rfl, ho.setRow (.inr (by omega)) _⟩
end Go.Proofs.Ytmlahbmaomoiaaa
