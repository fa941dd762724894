/-
  Field: Root.
-/
import Derived.Test.YtmlahbmaomoiaaaFdH
namespace Go.Proofs.Ytmlahbmaomoiaaa
open Go.RowKit

set_option maxRecDepth 100000 in
set_option maxHeartbeats 4000000 in
theorem root_any (x : Nat) (hx : x < W256) (w : World) : Calls Try.prog 30 #[ev x] w fun e w' => e = .returned (.tuple #[ev (rootN x), .bool (rootB x)]) ∧ Only [] w w' := by
  have hpow := fun w1 : World => power_any x ERoot hx (by decide) w1
  rw [eroot_ev, ← root0] at hpow
  obtain ⟨r, hr⟩ : ∃ r, r = root0 x := ⟨_, rfl⟩
  have hr1 : root1 x = if r * r % P255 = x then r else r * IRoot % P255 := by rw [hr]; rfl
  rw [← hr] at hpow
  have hrl : r < W256 := by rw [hr]; exact powN_lt _ _
  have htimes := fun w1 : World => times_any r IRoot hrl (by decide) w1
  rw [iroot_ev] at htimes
  have hneq : ∀ w1 : World, (binOp .neq 37 (ev (r * r % P255)) (ev x)).run Try.prog w1 = .ok (.bool (!decide (r * r % P255 = x))) w1 := fun w1 => neq_ev _ x (Nat.lt_trans (Nat.mod_lt _ (by decide)) p_lt) hx w1
  obtain ⟨s, hs⟩ : ∃ s, s = root1 x := ⟨_, rfl⟩
  have hsl : s < W256 := by rw [hs]; exact Nat.lt_trans (root1_lt x) p_lt
  have hsp : s ≤ P255 := by rw [hs]; exact Nat.le_of_lt (root1_lt x)
  have hneq2 : ∀ w1 : World, (binOp .neq 37 (ev (s * s % P255)) (ev x)).run Try.prog w1 = .ok (.bool (!decide (s * s % P255 = x))) w1 := fun w1 => neq_ev _ x (Nat.lt_trans (Nat.mod_lt _ (by decide)) p_lt) hx w1
  have hrb : rootB x = decide (s * s % P255 = x) := by rw [hs]; rfl
  have hrn : rootN x = if rootB x then (if s % 2 = 1 then negN s else s) else 0 := by rw [hs]; rfl
  rw [← hs] at hr1
  have HP := Lib.hid hpow; have HT := Lib.hid htimes; have HRL := Lib.hid hrl; have HSL := Lib.hid hsl; have HSP := Lib.hid hsp; have HN1 := Lib.hid hneq; have HN2 := Lib.hid hneq2; have HRB := Lib.hid hrb; have HRN := Lib.hid hrn; have HR1 := Lib.hid hr1
  clear hpow htimes hrl hsl hsp hneq hneq2 hrb hrn hr1 hr hs hx
  go_enter Try.func30, Try.ntmps30
  go_wp2_with fail
  refine (HP.out _).mono ?_
  rintro e w1 ⟨rfl, ho1⟩
  have hbx := ho1.blk ((Blk.new w (lc x) 37).alloc (.cells (lc 0) 37)) (by simp)
  have hbr := ho1.blk (Blk.newAt (w := w.alloc (.cells (lc x) 37)) (n := w.heap.size + 1) (lc 0) 37 (by simp)) (by simp)
  have ho : Only [] w w1 := (((Only.refl _ _).alloc (.cells (lc x) 37)).alloc (.cells (lc 0) 37)).trans ho1
  clear ho1
  have hs1 := hbr.lt
  have hbo := Blk.new w1 (lc r) 37
  replace hbx := hbx.alloc (.cells (lc r) 37)
  replace hbr := hbr.alloc (.cells (lc r) 37)
  replace ho := ho.alloc (.cells (lc r) 37)
  generalize hbY : w1.heap.size = b1 at *
  go_wp2_with fail
  refine region_free mixed 4 [0, 0, 3, 0, 15] (by kernel_rfl) (Only []) (Only.refl _) (fun _ _ _ => Only.trans) ?_
  simp only [List.take_succ_cons, List.take_zero, List.drop_succ_cons, List.drop_zero]
  iterate 2
    refine wpFree_op (Only.refl _) ?_ (fun V w _ => rfl) ?_ ?_
    rotate_left
    · intro V w1 hE hF K hK
      obtain ⟨q0, q1, q2, q3, qf⟩ := (hE.blk hbo.drew (by simp)).four
      go_step
      exact hK
    simp only [Act.put, List.setIfInBounds_toArray, List.set_cons_succ, List.set_cons_zero, Nat.reduceAdd, Nat.zero_add]
  refine wpFree_call (ev (r * r % P255)) 88 (fun V => #[V 0, V 1]) (fun V w _ => rfl) ?_ ?_ ?_
  · intro V w1 hE hF
    go_simp
  · intro V w1 hE hF
    simp only [facts, Nat.reduceMod, Nat.reduceDiv, forall_const, List.nil_append, List.cons_append, and_true] at hF
    rw [hF.1, hF.2]
    exact times_any r r HRL.out HRL.out w1
  simp only [Act.put, List.setIfInBounds_toArray, List.set_cons_succ, List.set_cons_zero, Nat.reduceAdd]
  refine wpFree_op (Only.refl _) ?_ (fun V w _ => rfl) ?_ ?_
  rotate_left
  · intro V w1 hE hF K hK
    obtain ⟨q0, q1, q2, q3, qf⟩ := (hE.blk hbx.drew (by simp)).four
    go_step
    exact hK
  simp only [Act.put, List.setIfInBounds_toArray, List.set_cons_succ, List.set_cons_zero, Nat.reduceAdd]
  refine wpFree_nil ?_
  intro V w3 hE hR
  simp only [allR, List.nil_append, List.cons_append] at hR
  simp only [hR]
  clear hR
  replace hbx := hE.blk hbx.drew (by simp)
  replace hbr := hE.blk hbr.drew (by simp)
  replace hbo := hE.blk hbo.drew (by simp)
  replace ho : Only [] w w3 := ho.drew.trans hE
  clear hE
  by_cases h1 : r * r % P255 = x
  · have hn := HN1.out
    rw [decide_eq_true h1] at hn
    have hsr : s = r := by rw [HR1.out, if_pos h1]
    rw [← hsr] at hn hbo ⊢
    have HSR := Lib.hid hsr
    clear h1 hsr
    go_wp2_with fail
    clear hn
    refine region_free mixed 4 [0, 0, 3, 0, 15] (by kernel_rfl) (Only []) (Only.refl _) (fun _ _ _ => Only.trans) ?_
    simp only [List.take_succ_cons, List.take_zero, List.drop_succ_cons, List.drop_zero]
    iterate 2
      refine wpFree_op (Only.refl _) ?_ (fun V w _ => rfl) ?_ ?_
      rotate_left
      · intro V w1 hE hF K hK
        obtain ⟨q0, q1, q2, q3, qf⟩ := (hE.blk hbo.drew (by simp)).four
        go_step
        exact hK
      simp only [Act.put, List.setIfInBounds_toArray, List.set_cons_succ, List.set_cons_zero, Nat.reduceAdd, Nat.zero_add]
    refine wpFree_call (ev (s * s % P255)) 88 (fun V => #[V 0, V 1]) (fun V w _ => rfl) ?_ ?_ ?_
    · intro V w1 hE hF
      go_simp
    · intro V w1 hE hF
      simp only [facts, Nat.reduceMod, Nat.reduceDiv, forall_const, List.nil_append, List.cons_append, and_true] at hF
      rw [hF.1, hF.2]
      exact times_any s s HSL.out HSL.out w1
    simp only [Act.put, List.setIfInBounds_toArray, List.set_cons_succ, List.set_cons_zero, Nat.reduceAdd]
    refine wpFree_op (Only.refl _) ?_ (fun V w _ => rfl) ?_ ?_
    rotate_left
    · intro V w1 hE hF K hK
      obtain ⟨q0, q1, q2, q3, qf⟩ := (hE.blk hbx.drew (by simp)).four
      go_step
      exact hK
    simp only [Act.put, List.setIfInBounds_toArray, List.set_cons_succ, List.set_cons_zero, Nat.reduceAdd]
    refine wpFree_nil ?_
    intro V w3 hE hR
    simp only [allR, List.nil_append, List.cons_append] at hR
    simp only [hR]
    clear hR
    replace hbx := hE.blk hbx.drew (by simp)
    replace hbr := hE.blk hbr.drew (by simp)
    replace hbo := hE.blk hbo.drew (by simp)
    replace ho : Only [] w w3 := ho.drew.trans hE
    clear hE
    by_cases h2 : s * s % P255 = x
    · have hn := HN2.out
      rw [decide_eq_true h2] at hn
      have hB : rootB x = true := by rw [HRB.out, decide_eq_true h2]
      have hR : rootN x = if s % 2 = 1 then negN s else s := by rw [HRN.out, if_pos hB]
      have HB2 := Lib.hid hB; have HR2 := Lib.hid hR
      clear hB hR h2
      obtain ⟨q0, q1, q2, q3, qf⟩ := hbo.four
      go_wp2_with fail
      refine (odd_any s _).mono ?_
      rintro e w4 ⟨rfl, ho4⟩
      have hbr4 := ho4.blk hbr (by simp)
      have hbo4 := ho4.blk hbo (by simp)
      have hoo := ho.trans ho4
      clear q0 q1 q2 q3 qf hn
      by_cases h3 : s % 2 = 1
      · have hR : rootN x = negN s := by rw [HR2.out, if_pos h3]
        have HR3 := Lib.hid hR
        rw [show (s % 2 == 1) = true from by rw [h3]; rfl]
        clear hR h3
        obtain ⟨q0, q1, q2, q3, qf⟩ := hbo4.four
        go_wp2_with fail
        refine (neg_any s HSP.out _).mono ?_
        rintro e w5 ⟨rfl, ho5⟩
        have hbr5 := ho5.blk hbr4 (by simp)
        have hbo5 := ho5.blk hbo4 (by simp)
        have hoo5 := hoo.trans ho5
        clear q0 q1 q2 q3 qf
        obtain ⟨q0, q1, q2, q3, qf⟩ := hbo5.four
        obtain ⟨r0, r1, r2, r3, rf⟩ := (hbr5.far4 (g := b1) (by omega) (.int .u64 ((limb (negN s) 0 : Nat) : Int)) (.int .u64 ((limb (negN s) 1 : Nat) : Int)) (.int .u64 ((limb (negN s) 2 : Nat) : Int)) (.int .u64 ((limb (negN s) 3 : Nat) : Int))).four
        go_wp2_with fail
        rw [HR3.out, HB2.out]
        exact bodyPost_ret (v := .tuple #[ev (negN s), .bool true]) (by simp [results, Try.results30, go_sem, r0, r1, r2, r3]) rfl ⟨rfl, (hoo5.set4 (b := b1) (.inr (by omega)) _ _ _ _).set4 (b := w.heap.size + 1) (.inr (by omega)) _ _ _ _⟩
      · have hR : rootN x = s := by rw [HR2.out, if_neg h3]
        have HR3 := Lib.hid hR
        rw [show (s % 2 == 1) = false from by rw [Bool.eq_false_iff]; simp only [ne_eq, beq_iff_eq]; exact h3]
        clear hR h3
        obtain ⟨q0, q1, q2, q3, qf⟩ := hbo4.four
        obtain ⟨r0, r1, r2, r3, rf⟩ := hbr4.four
        go_wp2_with fail
        rw [HR3.out, HB2.out]
        exact bodyPost_ret (v := .tuple #[ev s, .bool true]) (by simp [results, Try.results30, go_sem, r0, r1, r2, r3]) rfl ⟨rfl, hoo.set4 (b := w.heap.size + 1) (.inr (by omega)) _ _ _ _⟩
    · have hn := HN2.out
      rw [decide_eq_false h2] at hn
      have hB : rootB x = false := by rw [HRB.out, decide_eq_false h2]
      have hR : rootN x = 0 := by rw [HRN.out, hB]; rfl
      have HB2 := Lib.hid hB; have HR2 := Lib.hid hR
      clear hB hR h2
      obtain ⟨r0, r1, r2, r3, rf⟩ := hbr.four
      go_wp2_with fail
      rw [HR2.out, HB2.out]
      exact bodyPost_ret (v := .tuple #[ev 0, .bool false]) (by simp [results, Try.results30, go_sem, r0, r1, r2, r3]; decide) rfl ⟨rfl, ho.set4 (b := w.heap.size + 1) (.inr (by omega)) _ _ _ _⟩
  · have hn := HN1.out
    rw [decide_eq_false h1] at hn
    have hsr : s = r * IRoot % P255 := by rw [HR1.out, if_neg h1]
    have HSR := Lib.hid hsr
    clear h1 hsr
    obtain ⟨q0, q1, q2, q3, qf⟩ := hbo.four
    go_wp2_with fail
    refine (HT.out _).mono ?_
    rintro e w4 ⟨rfl, ho4⟩
    rw [← HSR.out]
    replace hbx := ho4.blk hbx (by simp)
    replace hbr := ho4.blk hbr (by simp)
    replace hbo := ho4.blk hbo (by simp)
    replace ho := ho.trans ho4
    clear q0 q1 q2 q3 qf hn ho4
    obtain ⟨q0, q1, q2, q3, qf⟩ := hbo.four
    go_wp2_with fail
    replace hbx := hbx.far4 (g := b1) (by omega) (.int .u64 ((limb s 0 : Nat) : Int)) (.int .u64 ((limb s 1 : Nat) : Int)) (.int .u64 ((limb s 2 : Nat) : Int)) (.int .u64 ((limb s 3 : Nat) : Int))
    replace hbr := hbr.far4 (g := b1) (by omega) (.int .u64 ((limb s 0 : Nat) : Int)) (.int .u64 ((limb s 1 : Nat) : Int)) (.int .u64 ((limb s 2 : Nat) : Int)) (.int .u64 ((limb s 3 : Nat) : Int))
    replace hbo := hbo.set4 (.int .u64 ((limb s 0 : Nat) : Int)) (.int .u64 ((limb s 1 : Nat) : Int)) (.int .u64 ((limb s 2 : Nat) : Int)) (.int .u64 ((limb s 3 : Nat) : Int))
    replace ho := ho.set4 (b := b1) (.inr (by omega)) (.int .u64 ((limb s 0 : Nat) : Int)) (.int .u64 ((limb s 1 : Nat) : Int)) (.int .u64 ((limb s 2 : Nat) : Int)) (.int .u64 ((limb s 3 : Nat) : Int))
    clear q0 q1 q2 q3 qf
    refine region_free mixed 4 [0, 0, 3, 0, 15] (by kernel_rfl) (Only []) (Only.refl _) (fun _ _ _ => Only.trans) ?_
    simp only [List.take_succ_cons, List.take_zero, List.drop_succ_cons, List.drop_zero]
    iterate 2
      refine wpFree_op (Only.refl _) ?_ (fun V w _ => rfl) ?_ ?_
      rotate_left
      · intro V w1 hE hF K hK
        obtain ⟨q0, q1, q2, q3, qf⟩ := (hE.blk hbo.drew (by simp)).four
        go_step
        exact hK
      simp only [Act.put, List.setIfInBounds_toArray, List.set_cons_succ, List.set_cons_zero, Nat.reduceAdd, Nat.zero_add]
    refine wpFree_call (ev (s * s % P255)) 88 (fun V => #[V 0, V 1]) (fun V w _ => rfl) ?_ ?_ ?_
    · intro V w1 hE hF
      go_simp
    · intro V w1 hE hF
      simp only [facts, Nat.reduceMod, Nat.reduceDiv, forall_const, List.nil_append, List.cons_append, and_true] at hF
      rw [hF.1, hF.2]
      exact times_any s s HSL.out HSL.out w1
    simp only [Act.put, List.setIfInBounds_toArray, List.set_cons_succ, List.set_cons_zero, Nat.reduceAdd]
    refine wpFree_op (Only.refl _) ?_ (fun V w _ => rfl) ?_ ?_
    rotate_left
    · intro V w1 hE hF K hK
      obtain ⟨q0, q1, q2, q3, qf⟩ := (hE.blk hbx.drew (by simp)).four
      go_step
      exact hK
    simp only [Act.put, List.setIfInBounds_toArray, List.set_cons_succ, List.set_cons_zero, Nat.reduceAdd]
    refine wpFree_nil ?_
    intro V w3 hE hR
    simp only [allR, List.nil_append, List.cons_append] at hR
    simp only [hR]
    clear hR
    replace hbx := hE.blk hbx.drew (by simp)
    replace hbr := hE.blk hbr.drew (by simp)
    replace hbo := hE.blk hbo.drew (by simp)
    replace ho : Only [] w w3 := ho.drew.trans hE
    clear hE
    by_cases h2 : s * s % P255 = x
    · have hn := HN2.out
      rw [decide_eq_true h2] at hn
      have hB : rootB x = true := by rw [HRB.out, decide_eq_true h2]
      have hR : rootN x = if s % 2 = 1 then negN s else s := by rw [HRN.out, if_pos hB]
      have HB2 := Lib.hid hB; have HR2 := Lib.hid hR
      clear hB hR h2
      obtain ⟨q0, q1, q2, q3, qf⟩ := hbo.four
      go_wp2_with fail
      refine (odd_any s _).mono ?_
      rintro e w4 ⟨rfl, ho4⟩
      have hbr4 := ho4.blk hbr (by simp)
      have hbo4 := ho4.blk hbo (by simp)
      have hoo := ho.trans ho4
      clear q0 q1 q2 q3 qf hn
      by_cases h3 : s % 2 = 1
      · have hR : rootN x = negN s := by rw [HR2.out, if_pos h3]
        have HR3 := Lib.hid hR
        rw [show (s % 2 == 1) = true from by rw [h3]; rfl]
        clear hR h3
        obtain ⟨q0, q1, q2, q3, qf⟩ := hbo4.four
        go_wp2_with fail
        refine (neg_any s HSP.out _).mono ?_
        rintro e w5 ⟨rfl, ho5⟩
        have hbr5 := ho5.blk hbr4 (by simp)
        have hbo5 := ho5.blk hbo4 (by simp)
        have hoo5 := hoo.trans ho5
        clear q0 q1 q2 q3 qf
        obtain ⟨q0, q1, q2, q3, qf⟩ := hbo5.four
        obtain ⟨r0, r1, r2, r3, rf⟩ := (hbr5.far4 (g := b1) (by omega) (.int .u64 ((limb (negN s) 0 : Nat) : Int)) (.int .u64 ((limb (negN s) 1 : Nat) : Int)) (.int .u64 ((limb (negN s) 2 : Nat) : Int)) (.int .u64 ((limb (negN s) 3 : Nat) : Int))).four
        go_wp2_with fail
        rw [HR3.out, HB2.out]
        exact bodyPost_ret (v := .tuple #[ev (negN s), .bool true]) (by simp [results, Try.results30, go_sem, r0, r1, r2, r3]) rfl ⟨rfl, (hoo5.set4 (b := b1) (.inr (by omega)) _ _ _ _).set4 (b := w.heap.size + 1) (.inr (by omega)) _ _ _ _⟩
      · have hR : rootN x = s := by rw [HR2.out, if_neg h3]
        have HR3 := Lib.hid hR
        rw [show (s % 2 == 1) = false from by rw [Bool.eq_false_iff]; simp only [ne_eq, beq_iff_eq]; exact h3]
        clear hR h3
        obtain ⟨q0, q1, q2, q3, qf⟩ := hbo4.four
        obtain ⟨r0, r1, r2, r3, rf⟩ := hbr4.four
        go_wp2_with fail
        rw [HR3.out, HB2.out]
        exact bodyPost_ret (v := .tuple #[ev s, .bool true]) (by simp [results, Try.results30, go_sem, r0, r1, r2, r3]) rfl ⟨rfl, hoo.set4 (b := w.heap.size + 1) (.inr (by omega)) _ _ _ _⟩
    · have hn := HN2.out
      rw [decide_eq_false h2] at hn
      have hB : rootB x = false := by rw [HRB.out, decide_eq_false h2]
      have hR : rootN x = 0 := by rw [HRN.out, hB]; rfl
      have HB2 := Lib.hid hB; have HR2 := Lib.hid hR
      clear hB hR h2
      obtain ⟨r0, r1, r2, r3, rf⟩ := hbr.four
      go_wp2_with fail
      rw [HR2.out, HB2.out]
      exact bodyPost_ret (v := .tuple #[ev 0, .bool false]) (by simp [results, Try.results30, go_sem, r0, r1, r2, r3]; decide) rfl ⟨rfl, ho.set4 (b := w.heap.size + 1) (.inr (by omega)) _ _ _ _⟩
end Go.Proofs.Ytmlahbmaomoiaaa
