/-
  The reference's numbers: Invert.
-/
import Derived.Test.YtmlahbmaomoiaaaRfN
namespace Go.Proofs.Ytmlahbmaomoiaaa
open Go.RowKit

set_option maxRecDepth 100000 in
set_option maxHeartbeats 2000000 in
theorem rinvert_any (x : Nat) (hx : x < W255) (w : World) : Calls Try.prog 29 #[rv x] w fun e w' => e = .returned (rv (invN x)) ∧ Only [] w w' := by
  have hu := fun w1 : World => under_any P255 2 (by decide) w1
  have hl := fun w1 : World => limbs_any (P255 - 2) (by decide) w1
  have hp := fun w1 : World => rpower_any x (P255 - 2) hx (by decide) w1
  have h2 := fun w1 : World => rsmall_any 2 (by decide) w1
  rw [show 2 % P255 = 2 from rfl] at h2
  rw [← invN] at hp
  generalize P255 - 2 = E at *
  have HU := Lib.hid hu; have HL := Lib.hid hl; have HP := Lib.hid hp; have H2 := Lib.hid h2
  clear hu hl hp h2 hx
  have hbx : Blk ((w.alloc (.cells (rc x) 39)).alloc (.cells zc 39)) w.heap.size (rc x) 39 := (Blk.new w _ 39).alloc _
  have hbr : Blk ((w.alloc (.cells (rc x) 39)).alloc (.cells zc 39)) (w.heap.size + 1) (nc fun _ => 0) 39 := Blk.newAt _ _ (by simp)
  have ho : Only [] w ((w.alloc (.cells (rc x) 39)).alloc (.cells zc 39)) := ((Only.refl _ _).alloc _).alloc _
  go_enter Try.func29, Try.ntmps29
  go_wp2_with fail
  refine region_free mixed 5 [0, 0, 2, 6, 14, 31, 63] (by kernel_rfl) (Only []) (Only.refl _) (fun _ _ _ => Only.trans) ?_
  simp only [List.take_succ_cons, List.take_zero, List.drop_succ_cons, List.drop_zero]
  refine wpFree_op (Only.refl _) (rv x) (fun V w _ => rfl) ?_ ?_
  · intro U w1 hE hF K hK
    exact wp_load_row 39 _ rfl _ rfl 39 (rc x) (0, 0) _ (hE.blk hbx.drew (by simp)) Try.underlying39 rfl info39 hK
  simp only [Act.put, List.setIfInBounds_toArray, List.set_cons_succ, List.set_cons_zero, Nat.zero_add]
  refine wpFree_call (rv P255) 35 (fun V => #[]) (fun V w _ => rfl) ?_ ?_ ?_
  · intro V w1 hE hF
    go_simp
  · intro V w1 hE hF
    exact rp_any w1
  simp only [Act.put, List.setIfInBounds_toArray, List.set_cons_succ, List.set_cons_zero, Nat.reduceAdd]
  refine wpFree_call (rv 2) 44 (fun V => #[.int .i64 2]) (fun V w _ => rfl) ?_ ?_ ?_
  · intro V w1 hE hF
    go_simp
  · intro V w1 hE hF
    exact H2.out w1
  simp only [Act.put, List.setIfInBounds_toArray, List.set_cons_succ, List.set_cons_zero, Nat.reduceAdd]
  refine wpFree_call (rv E) 91 (fun V => #[V 1, V 2]) (fun V w _ => rfl) ?_ ?_ ?_
  · intro V w1 hE hF
    go_simp
  · intro V w1 hE hF
    simp only [facts, Nat.reduceMod, Nat.reduceDiv, Nat.reduceEqDiff, forall_const, false_implies, List.nil_append, List.cons_append, true_and, and_true] at hF
    rw [hF.1, hF.2]
    exact HU.out w1
  simp only [Act.put, List.setIfInBounds_toArray, List.set_cons_succ, List.set_cons_zero, Nat.reduceAdd]
  refine wpFree_call (ev E) 87 (fun V => #[V 3]) (fun V w _ => rfl) ?_ ?_ ?_
  · intro V w1 hE hF
    go_simp
  · intro V w1 hE hF
    simp only [facts, Nat.reduceMod, Nat.reduceDiv, Nat.reduceEqDiff, forall_const, false_implies, List.nil_append, List.cons_append, true_and, and_true] at hF
    rw [hF.2.2]
    exact HL.out w1
  simp only [Act.put, List.setIfInBounds_toArray, List.set_cons_succ, List.set_cons_zero, Nat.reduceAdd]
  refine wpFree_nil ?_
  intro U w3 hE hR
  simp only [allR, List.nil_append, List.cons_append] at hR
  simp only [hR]
  clear hR
  replace hbr := hE.blk hbr.drew (by simp)
  replace ho : Only [] w w3 := ho.drew.trans hE
  clear hE hbx
  go_wp2_with fail
  refine (HP.out w3).mono ?_
  rintro e w4 ⟨rfl, ho4⟩
  replace hbr := ho4.blk hbr (by simp)
  replace ho := ho.trans ho4
  go_wp2_with (first | refine load_nc rfl _ rfl rfl (by assumption) ?_ | refine store_nc rfl _ _ rfl rfl rfl (by assumption) ?_)
  exact post_nc (d := dig (invN x)) rfl (hbr.setRow _) rfl rfl ⟨rfl, ho.setRow (.inr (by omega)) _⟩
end Go.Proofs.Ytmlahbmaomoiaaa
