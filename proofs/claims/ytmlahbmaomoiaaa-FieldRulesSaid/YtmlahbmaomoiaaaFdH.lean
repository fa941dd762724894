/-
  Field: Invert, Root.
-/
import Derived.Test.YtmlahbmaomoiaaaFdG
namespace Go.Proofs.Ytmlahbmaomoiaaa
open Go.RowKit

def invN (x : Nat) : Nat := powN x (P255 - 2)

set_option maxRecDepth 100000 in
set_option maxHeartbeats 2000000 in
theorem invert_any (x : Nat) (hx : x < W256) (w : World) : Calls Try.prog 28 #[ev x] w fun e w' => e = .returned (ev (invN x)) ∧ Only [] w w' := by
  have hm := fun w1 : World => minus_any P255 2 p_lt (by decide) w1
  rw [show minusN P255 2 = P255 - 2 from minus_le p_lt (by decide)] at hm
  have hp := fun w1 : World => power_any x (P255 - 2) hx (by decide) w1
  rw [← invN] at hp
  generalize hE : P255 - 2 = E at *
  generalize hI : invN x = z at *
  have HM := Lib.hid hm; have HP := Lib.hid hp
  clear hm hp hx hE hI
  go_enter Try.func28, Try.ntmps28
  go_wp2_with fail
  refine region_free mixed 4 [0, 0, 2, 6, 15, 31] (by kernel_rfl) (Only []) (Only.refl _) (fun _ _ _ => Only.trans) ?_
  simp only [List.take_succ_cons, List.take_zero, List.drop_succ_cons, List.drop_zero]
  have hbx : Blk ((w.alloc (.cells (lc x) 37)).alloc (.cells (lc 0) 37)) w.heap.size (lc x) 37 := (Blk.new _ _ _).alloc _
  have hbr : Blk ((w.alloc (.cells (lc x) 37)).alloc (.cells (lc 0) 37)) (w.heap.size + 1) (lc 0) 37 := Blk.newAt _ _ (by simp)
  have ho : Only [] w ((w.alloc (.cells (lc x) 37)).alloc (.cells (lc 0) 37)) := ((Only.refl _ _).alloc _).alloc _
  refine wpFree_op (Only.refl _) ?_ (fun V w _ => rfl) ?_ ?_
  rotate_left
  · intro V w1 hE hF K hK
    obtain ⟨q0, q1, q2, q3, qf⟩ := (hE.blk hbx.drew (by simp)).four
    go_step
    exact hK
  simp only [Act.put, List.setIfInBounds_toArray, List.set_cons_succ, List.set_cons_zero, Nat.zero_add]
  refine wpFree_call (ev P255) 90 (fun V => #[]) (fun V w _ => rfl) ?_ ?_ ?_
  · intro V w1 hE hF
    go_simp
  · intro V w1 hE hF
    exact modulus_any w1
  simp only [Act.put, List.setIfInBounds_toArray, List.set_cons_succ, List.set_cons_zero, Nat.reduceAdd]
  refine wpFree_call (ev 2) 45 (fun V => #[.int .u64 2]) (fun V w _ => rfl) ?_ ?_ ?_
  · intro V w1 hE hF
    go_simp
  · intro V w1 hE hF
    exact small_any 2 (by decide) w1
  simp only [Act.put, List.setIfInBounds_toArray, List.set_cons_succ, List.set_cons_zero, Nat.reduceAdd]
  refine wpFree_call (ev E) 89 (fun V => #[V 1, V 2]) (fun V w _ => rfl) ?_ ?_ ?_
  · intro V w1 hE hF
    go_simp
  · intro V w1 hE hF
    simp only [facts, Nat.reduceMod, Nat.reduceDiv, Nat.reduceEqDiff, forall_const, false_implies, List.nil_append, List.cons_append, true_and, and_true] at hF
    rw [hF.1, hF.2]
    exact HM.out w1
  simp only [Act.put, List.setIfInBounds_toArray, List.set_cons_succ, List.set_cons_zero, Nat.reduceAdd]
  refine wpFree_nil ?_
  intro V w3 hE hR
  simp only [allR, List.nil_append, List.cons_append] at hR
  simp only [hR]
  clear hR
  have hbr3 := hE.blk hbr.drew (by simp)
  have ho3 : Only [] w w3 := ho.drew.trans hE
  clear hbx hbr ho hE
  go_wp2_with fail
  refine (HP.out w3).mono ?_
  rintro e w4 ⟨rfl, ho4⟩
  obtain ⟨r0, r1, r2, r3, rf⟩ := (ho4.blk hbr3 (by simp)).four
  have ho5 := ho3.trans ho4
  go_wp2_with fail
  exact bodyPost_ret (v := ev z) (by simp [results, Try.results28, go_sem, r0, r1, r2, r3]) rfl ⟨rfl, ho5.set4 (b := w.heap.size + 1) (.inr (by omega)) _ _ _ _⟩

def ERoot : Nat := 7237005577332262213973186563042994240829374041602535252466099000494570602494
def IRoot : Nat := 19681161376707505956807079304988542015446066515923890162744021073123829784752
def root0 (x : Nat) : Nat := powN x ERoot
def root1 (x : Nat) : Nat := if root0 x * root0 x % P255 = x then root0 x else root0 x * IRoot % P255
/-- Is there a root? -/
def rootB (x : Nat) : Bool := decide (root1 x * root1 x % P255 = x)
def rootN (x : Nat) : Nat := if rootB x then (if root1 x % 2 = 1 then negN (root1 x) else root1 x) else 0
theorem root1_lt (x : Nat) : root1 x < P255 := by
  unfold root1; split
  · exact Nat.mod_lt _ (by decide)
  · exact Nat.mod_lt _ (by decide)
theorem eroot_ev : ev ERoot = .agg #[.int .u64 18446744073709551614, .int .u64 18446744073709551615, .int .u64 18446744073709551615, .int .u64 1152921504606846975] := by
  have h0 : limb ERoot 0 = 18446744073709551614 := by decide
  have h1 : limb ERoot 1 = 18446744073709551615 := by decide
  have h2 : limb ERoot 2 = 18446744073709551615 := by decide
  have h3 : limb ERoot 3 = 1152921504606846975 := by decide
  unfold ev; rw [h0, h1, h2, h3]; rfl
theorem iroot_ev : ev IRoot = .agg #[.int .u64 14190309331451158704, .int .u64 3405592160176694392, .int .u64 3120150775007532967, .int .u64 3135389899092516619] := by
  have h0 : limb IRoot 0 = 14190309331451158704 := by decide
  have h1 : limb IRoot 1 = 3405592160176694392 := by decide
  have h2 : limb IRoot 2 = 3120150775007532967 := by decide
  have h3 : limb IRoot 3 = 3135389899092516619 := by decide
  unfold ev; rw [h0, h1, h2, h3]; rfl
theorem isq : IRoot * IRoot % P255 = P255 - 1 := by decide
end Go.Proofs.Ytmlahbmaomoiaaa
