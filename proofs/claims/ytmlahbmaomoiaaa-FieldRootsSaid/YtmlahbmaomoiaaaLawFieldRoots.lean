/-
  PROVED: bosunlaw05.FieldRoots returns true for every input (every array of four numbers of sixty-four bits), and the argument reads afterwards as it read before. Conditions: none.
-/
import Derived.Test.YtmlahbmaomoiaaaRows
import Derived.Test.YtmlahbmaomoiaaaLwC
import Derived.Test.YtmlahbmaomoiaaaOpn
import Derived.Test.YtmlahbmaomoiaaaPfA
namespace Go.Proofs.Ytmlahbmaomoiaaa.fieldRoots
open Go.ChangeShapes Go.WideShapes Go.ChangeAt Go.RowKit
set_option linter.unusedVariables false

theorem own : ownKnob Try.prog.godebug = none := by kernel_rfl
theorem laidOut : laidOutB Try.prog = true := by kernel_rfl

set_option maxRecDepth 100000 in
set_option maxHeartbeats 4000000 in
theorem walk0 (x m r q s : Nat) (b : Bool) (hx : x < W256) (hxm : x % P255 = m) (hm : m < P255) (hr : r < P255) (hs : s < P255) (hq : q < P255)
    (hroot : ∀ w1, Calls Try.prog 30 #[ev m] w1 fun e w' => e = .returned (.tuple #[ev r, .bool b]) ∧ Only [] w1 w')
    (hsq : ∀ w1, Calls Try.prog 31 #[rv m] w1 fun e w' => e = .returned (.bool b) ∧ Only [] w1 w')
    (hb1 : b = true → r % 2 = 0 ∧ r * r % P255 = m) (hb0 : b = false → r = 0) (hmm : m * m % P255 = q)
    (hroot2 : ∀ w1, Calls Try.prog 30 #[ev q] w1 fun e w' => e = .returned (.tuple #[ev s, .bool true]) ∧ Only [] w1 w')
    (hs2 : s % 2 = 0) (hsm : s = m ∨ s = negN m) (w : World) :
    Calls Try.prog 5 #[ev x] w fun e w' => e = .returned (.bool true) ∧ Only [] w w' := by
  have p5 : ∀ a, a < P255 → a < W255 := fun a h => Nat.lt_trans h p255_lt
  have p6 : ∀ a, a < P255 → a < W256 := fun a h => Nat.lt_trans h p_lt
  have hnum := fun w1 => num_any x hx w1
  rw [hxm] at hnum
  have ho2 := fun w1 => odd_any s w1
  rw [show (s % 2 == 1) = false from by rw [hs2]; rfl] at ho2
  have hu := fun (base : Nat) (v : Value) (w1 : World) (h : MadeAt base 2 2 (cells3 [m, m]).toArray 37 v w1) => mul_made [m, m] rfl (fun a ha => by
    simp only [List.mem_cons, List.not_mem_nil, or_false, or_self] at ha
    rw [ha]; exact p6 _ hm) (by simp) h
  rw [mulN_two, hmm] at hu
  have he1 := fun w1 => eqIn_ev s m (p6 _ hs) (p6 _ hm) w1
  have hng := fun w1 => neg_any m (Nat.le_of_lt hm) w1
  have he2 := fun w1 => eq_ev s (negN m) (p6 _ hs) (p6 _ (negN_ltP m)) w1
  have HNUM := Lib.hid hnum; have HO2 := Lib.hid ho2; have HU := Lib.hid hu; have HE1 := Lib.hid he1; have HNG := Lib.hid hng; have HE2 := Lib.hid he2
  have HROOT := Lib.hid hroot; have HSQ := Lib.hid hsq; have HROOT2 := Lib.hid hroot2; have HSM := Lib.hid hsm; have HB1 := Lib.hid hb1; have HB0 := Lib.hid hb0
  have HR := Lib.hid hr; have HM := Lib.hid hm
  clear hnum ho2 hu he1 hng he2 hroot hsq hroot2 hsm hb1 hb0 hx hxm hm hr hs hq hmm hs2
  have a0 : Blk (w.alloc (.cells (lc x) 36)) w.heap.size (lc x) 36 := Blk.new _ _ _
  have ho : Only [] w (w.alloc (.cells (lc x) 36)) := (Only.refl _ _).alloc _
  go_enter Try.func5, Try.ntmps5
  go_wp2_with fail
  refine (lives05 _).mono ?_
  rintro e w1 ⟨rfl, ho1⟩
  replace a0 := ho1.blk a0 (by simp); replace ho := ho.trans ho1
  obtain ⟨q0, q1, q2, q3, qf⟩ := a0.four
  go_wp2_with fail
  refine (HNUM.out _).mono ?_
  rintro e w2 ⟨rfl, ho2⟩
  replace ho := ho.trans ho2
  clear q0 q1 q2 q3 qf a0 ho1 ho2
  have z2 := zc_new w2 m
  have bx := afterNum_e w2 m; have br := afterNum_r w2 m
  replace ho := afterNum_only ho m
  have bx' : Blk (((w2.alloc (.cells (lc m) 37)).alloc (.cells zc 39)).setRow (w2.heap.size + 1) (nc (dig m))) w2.heap.size (lc m) 37 := bx
  obtain ⟨q0, q1, q2, q3, qf⟩ := bx'.four
  go_wp2_with (refine store_nc rfl _ _ rfl rfl rfl (by assumption) ?_)
  clear q0 q1 q2 q3 qf bx' z2
  obtain ⟨w3, hw3⟩ : ∃ w3, w3 = afterNum w2 m := ⟨_, rfl⟩
  rw [show ((w2.alloc (.cells (lc m) 37)).alloc (.cells zc 39)).setRow (w2.heap.size + 1) (nc (dig m)) = w3 from hw3.symm]
  rw [← hw3] at bx br ho
  clear hw3
  generalize w2.heap.size = g3 at *
  refine (HROOT.out _).mono ?_
  rintro e w4 ⟨rfl, ho4⟩
  have b5 : Blk (w4.alloc (.cells (lc r) 37)) w4.heap.size (lc r) 37 := Blk.new _ _ _
  replace bx := (ho4.blk bx (by simp)).alloc (.cells (lc r) 37); replace br := (ho4.blk br (by simp)).alloc (.cells (lc r) 37)
  replace ho := (ho.trans ho4).alloc (.cells (lc r) 37)
  clear ho4
  go_wp2_with (refine ldRow br isRow39 size39 rfl _ rfl rfl ?_)
  generalize w4.alloc (.cells (lc r) 37) = w5 at *
  generalize w4.heap.size = g5 at *
  refine (HSQ.out _).mono ?_
  rintro e w6 ⟨rfl, ho6⟩
  replace bx := ho6.blk bx (by simp); replace b5 := ho6.blk b5 (by simp); replace ho := ho.trans ho6
  clear ho6 br
  cases b with
  | true =>
    obtain ⟨hr2, hrr⟩ := HB1.out rfl
    have ho1 := fun w1 => odd_any r w1
    rw [show (r % 2 == 1) = false from by rw [hr2]; rfl] at ho1
    have hf := fun w1 => fromlimbs_any r (p6 _ HR.out) w1
    rw [Nat.mod_eq_of_lt HR.out] at hf
    have hl := fun w1 => rless_any r P255 (p5 _ HR.out) p255_lt w1
    rw [decide_eq_true HR.out] at hl
    have hv := fun (base : Nat) (v : Value) (w1 : World) (h : MadeAt base 2 2 (cells3 [r, r]).toArray 37 v w1) => mul_made [r, r] rfl (fun a ha => by
      simp only [List.mem_cons, List.not_mem_nil, or_false, or_self] at ha
      rw [ha]; exact p6 _ HR.out) (by simp) h
    rw [mulN_two, hrr] at hv
    have he := fun w1 => eqIn_ev m m (p6 _ HM.out) (p6 _ HM.out) w1
    rw [decide_eq_true rfl] at he
    have HO1 := Lib.hid ho1; have HF := Lib.hid hf; have HL := Lib.hid hl; have HV := Lib.hid hv; have HE := Lib.hid he
    clear ho1 hf hl hv he hr2 hrr
    go_wp2_with fail
    refine region_mix mixed 26 [0, 1, 3, 7, 15, 31, 63, 127, 255, 511, 1023, 2047, 4095, 4095, 16383, 32767, 4095, 131071, 262143, 524287, 1048575, 2097151, 4194303, 8388607, 16777215, 16777215, 67108863, 134217727, 268435455] (by kernel_rfl) (Only []) (Only.refl _) (fun _ _ _ => Only.trans) ?_
    simp only [List.take_succ_cons, List.take_zero, List.drop_succ_cons, List.drop_zero]
    refine mix_op (Only.refl _) ?_ (fun _ => rfl) ?_ ?_
    rotate_left
    · intro _ w1 _ _ K hK
      go_step
      exact hK
    simp only [Act.put, List.setIfInBounds_toArray, List.set_cons_succ, List.set_cons_zero, Nat.zero_add, List.nil_append]
    refine mix_op (Only.refl _) ?_ (fun _ => rfl) ?_ ?_
    rotate_left
    · intro _ w1 _ _ K hK
      go_step
      exact hK
    simp only [Act.put, List.setIfInBounds_toArray, List.set_cons_succ, List.set_cons_zero, Nat.reduceAdd, List.nil_append, List.cons_append]
    refine mix_ld (Only.refl _) (cs := lc r) (fun w3 hE => hE.blk b5.drew (by simp)) isRow37 size37 _ rfl (fun _ => rfl) (fun _ => rfl) ?_
    simp only [Act.put, List.setIfInBounds_toArray, List.set_cons_succ, List.set_cons_zero, Nat.reduceAdd, List.nil_append, List.cons_append]
    refine mix_call (.bool false) 32 (fun _ => #[ev r]) (fun _ => rfl) (fun _ _ => by go_simp) (fun _ w1 _ _ => HO1.out w1) ?_
    simp only [Act.put, List.setIfInBounds_toArray, List.set_cons_succ, List.set_cons_zero, Nat.reduceAdd, List.nil_append, List.cons_append]
    refine mix_op (Only.refl _) ?_ (fun _ => rfl) ?_ ?_
    rotate_left
    · intro _ w1 _ _ K hK
      go_step
      exact hK
    simp only [Act.put, List.setIfInBounds_toArray, List.set_cons_succ, List.set_cons_zero, Nat.reduceAdd, List.nil_append, List.cons_append]
    refine mix_ld (Only.refl _) (cs := lc r) (fun w3 hE => hE.blk b5.drew (by simp)) isRow37 size37 _ rfl (fun _ => rfl) (fun _ => rfl) ?_
    simp only [Act.put, List.setIfInBounds_toArray, List.set_cons_succ, List.set_cons_zero, Nat.reduceAdd, List.nil_append, List.cons_append]
    refine mix_call (rv r) 34 (fun _ => #[ev r]) (fun _ => rfl) (fun _ _ => by go_simp) (fun _ w1 _ _ => HF.out w1) ?_
    simp only [Act.put, List.setIfInBounds_toArray, List.set_cons_succ, List.set_cons_zero, Nat.reduceAdd, List.nil_append, List.cons_append]
    refine mix_call (rv P255) 35 (fun _ => #[]) (fun _ => rfl) (fun _ _ => by go_simp) (fun _ w1 _ _ => rp_any w1) ?_
    simp only [Act.put, List.setIfInBounds_toArray, List.set_cons_succ, List.set_cons_zero, Nat.reduceAdd, List.nil_append, List.cons_append]
    refine mix_call (.bool true) 33 (fun _ => #[rv r, rv P255]) (fun _ => rfl) (fun _ _ => by go_simp) (fun _ w1 _ _ => HL.out w1) ?_
    simp only [Act.put, List.setIfInBounds_toArray, List.set_cons_succ, List.set_cons_zero, Nat.reduceAdd, List.nil_append, List.cons_append]
    refine mix_op (Only.refl _) ?_ (fun _ => rfl) ?_ ?_
    rotate_left
    · intro _ w1 _ _ K hK
      go_step
      exact hK
    simp only [Act.put, List.setIfInBounds_toArray, List.set_cons_succ, List.set_cons_zero, Nat.reduceAdd, List.nil_append, List.cons_append]
    refine mix_op (Only.refl _) ?_ (fun _ => rfl) ?_ ?_
    rotate_left
    · intro _ w1 _ _ K hK
      go_step
      exact hK
    simp only [Act.put, List.setIfInBounds_toArray, List.set_cons_succ, List.set_cons_zero, Nat.reduceAdd, List.nil_append, List.cons_append]
    refine mix_op (Only.refl _) ?_ (fun _ => rfl) ?_ ?_
    rotate_left
    · intro _ w1 _ _ K hK
      go_step
      exact hK
    simp only [Act.put, List.setIfInBounds_toArray, List.set_cons_succ, List.set_cons_zero, Nat.reduceAdd, List.nil_append, List.cons_append]
    refine mix_ld (Only.refl _) (cs := lc r) (fun w3 hE => hE.blk b5.drew (by simp)) isRow37 size37 _ rfl (fun _ => rfl) (fun _ => rfl) ?_
    simp only [Act.put, List.setIfInBounds_toArray, List.set_cons_succ, List.set_cons_zero, Nat.reduceAdd, List.nil_append, List.cons_append]
    refine mix_ld (Only.refl _) (cs := lc r) (fun w3 hE => hE.blk b5.drew (by simp)) isRow37 size37 _ rfl (fun _ => rfl) (fun _ => rfl) ?_
    simp only [Act.put, List.setIfInBounds_toArray, List.set_cons_succ, List.set_cons_zero, Nat.reduceAdd, List.nil_append, List.cons_append]
    refine mix_root (MadeAt (w6.heap.size) 2 2 (cells3 [r, r]).toArray 37) MadeAt.only (fun _ => rfl) ?_ ?_
    · intro _ w1 hE _ K hK
      go_step
      exact hK _ _ ((Only.refl _ _).alloc _) ⟨_, rfl, Blk.new _ _ _, hE.size⟩
    simp only [Act.put, List.setIfInBounds_toArray, List.set_cons_succ, List.set_cons_zero, Nat.reduceAdd, List.nil_append, List.cons_append]
    refine mix_call (ev m) 36 (fun V => #[V 14]) (fun _ => rfl) (fun _ _ => by go_simp) (fun _ w1 _ hF => by simp only [facts, Nat.reduceMod, Nat.reduceDiv, forall_const, true_and, and_true] at hF; exact HV.out _ _ w1 hF) ?_
    simp only [Act.put, List.setIfInBounds_toArray, List.set_cons_succ, List.set_cons_zero, Nat.reduceAdd, List.nil_append, List.cons_append]
    refine mix_ld (Only.refl _) (cs := lc m) (fun w3 hE => hE.blk bx.drew (by simp)) isRow37 size37 _ rfl (fun _ => rfl) (fun _ => rfl) ?_
    simp only [Act.put, List.setIfInBounds_toArray, List.set_cons_succ, List.set_cons_zero, Nat.reduceAdd, List.nil_append, List.cons_append]
    refine mix_op (Only.refl _) ?_ (fun _ => rfl) ?_ ?_
    rotate_left
    · intro _ w1 _ _ K hK
      have fact0 := HE.out w1
      go_step
      exact hK
    simp only [Act.put, List.setIfInBounds_toArray, List.set_cons_succ, List.set_cons_zero, Nat.reduceAdd, List.nil_append, List.cons_append]
    refine mix_op (Only.refl _) ?_ (fun _ => rfl) ?_ ?_
    rotate_left
    · intro _ w1 _ _ K hK
      go_step
      exact hK
    simp only [Act.put, List.setIfInBounds_toArray, List.set_cons_succ, List.set_cons_zero, Nat.reduceAdd, List.nil_append, List.cons_append]
    refine mix_op (Only.refl _) ?_ (fun _ => rfl) ?_ ?_
    rotate_left
    · intro _ w1 _ _ K hK
      go_step
      exact hK
    simp only [Act.put, List.setIfInBounds_toArray, List.set_cons_succ, List.set_cons_zero, Nat.reduceAdd, List.nil_append, List.cons_append]
    refine mix_op (Only.refl _) ?_ (fun _ => rfl) ?_ ?_
    rotate_left
    · intro _ w1 _ _ K hK
      go_step
      exact hK
    simp only [Act.put, List.setIfInBounds_toArray, List.set_cons_succ, List.set_cons_zero, Nat.reduceAdd, List.nil_append, List.cons_append]
    refine mix_op (Only.refl _) ?_ (fun _ => rfl) ?_ ?_
    rotate_left
    · intro _ w1 _ _ K hK
      go_step
      exact hK
    simp only [Act.put, List.setIfInBounds_toArray, List.set_cons_succ, List.set_cons_zero, Nat.reduceAdd, List.nil_append, List.cons_append]
    refine mix_op (Only.refl _) ?_ (fun _ => rfl) ?_ ?_
    rotate_left
    · intro _ w1 _ _ K hK
      go_step
      exact hK
    simp only [Act.put, List.setIfInBounds_toArray, List.set_cons_succ, List.set_cons_zero, Nat.reduceAdd, List.nil_append, List.cons_append]
    refine mix_op (Only.refl _) ?_ (fun _ => rfl) ?_ ?_
    rotate_left
    · intro _ w1 _ _ K hK
      go_step
      exact hK
    simp only [Act.put, List.setIfInBounds_toArray, List.set_cons_succ, List.set_cons_zero, Nat.reduceAdd, List.nil_append, List.cons_append]
    refine mix_skip (fun _ => rfl) ?_
    simp only [Act.put, List.setIfInBounds_toArray, List.set_cons_succ, List.set_cons_zero, Nat.reduceAdd, List.nil_append, List.cons_append]
    refine mix_skip (fun _ => rfl) ?_
    simp only [Act.put, List.setIfInBounds_toArray, List.set_cons_succ, List.set_cons_zero, Nat.reduceAdd, List.nil_append, List.cons_append]
    refine mix_nil ?_
    intro V w3 hE _
    replace bx := hE.blk bx.drew (by simp); replace ho := ho.drew.trans hE
    clear hE b5
    obtain ⟨q0, q1, q2, q3, qf⟩ := bx.four
    go_wp2_with fail
    clear q0 q1 q2 q3 qf
    have hnew : MadeAt w3.heap.size 2 2 (cells3 [m, m]).toArray 37 (.slice (some ⟨w3.heap.size, 0, none⟩) 2 2) (w3.alloc (.cells (cells3 [m, m]).toArray 37)) := ⟨_, rfl, Blk.new _ _ _, Nat.le_refl _⟩
    refine (HU.out _ _ _ hnew).mono ?_
    rintro e w8 ⟨rfl, ho8⟩
    replace bx := ho8.blk (bx.alloc _) (by simp); replace ho := (ho.alloc _).trans ho8
    clear ho8 hnew
    go_wp2_with fail
    refine (HROOT2.out _).mono ?_
    rintro e w9 ⟨rfl, ho9⟩
    have b7 : Blk (w9.alloc (.cells (lc s) 37)) w9.heap.size (lc s) 37 := Blk.new _ _ _
    replace bx := (ho9.blk bx (by simp)).alloc (.cells (lc s) 37); replace ho := (ho.trans ho9).alloc (.cells (lc s) 37)
    clear ho9
    go_wp2_with fail
    generalize w9.alloc (.cells (lc s) 37) = w10 at *
    generalize w9.heap.size = g7 at *
    by_cases hsm : s = m
    · have he1 := fun w1 => HE1.out w1
      rw [decide_eq_true hsm] at he1
      have HE3 := Lib.hid he1
      clear he1 hsm
      refine region_mix mixed 14 [0, 1, 3, 7, 15, 31, 63, 127, 127, 511, 1023, 2047, 2047, 6143, 16383, 32767, 65535, 131071] (by kernel_rfl) (Only []) (Only.refl _) (fun _ _ _ => Only.trans) ?_
      simp only [List.take_succ_cons, List.take_zero, List.drop_succ_cons, List.drop_zero]
      refine mix_op (Only.refl _) ?_ (fun _ => rfl) ?_ ?_
      rotate_left
      · intro _ w1 _ _ K hK
        go_step
        exact hK
      simp only [Act.put, List.setIfInBounds_toArray, List.set_cons_succ, List.set_cons_zero, Nat.zero_add, List.nil_append]
      refine mix_op (Only.refl _) ?_ (fun _ => rfl) ?_ ?_
      rotate_left
      · intro _ w1 _ _ K hK
        go_step
        exact hK
      simp only [Act.put, List.setIfInBounds_toArray, List.set_cons_succ, List.set_cons_zero, Nat.reduceAdd, List.nil_append, List.cons_append]
      refine mix_ld (Only.refl _) (cs := lc s) (fun w3 hE => hE.blk b7.drew (by simp)) isRow37 size37 _ rfl (fun _ => rfl) (fun _ => rfl) ?_
      simp only [Act.put, List.setIfInBounds_toArray, List.set_cons_succ, List.set_cons_zero, Nat.reduceAdd, List.nil_append, List.cons_append]
      refine mix_call (.bool false) 32 (fun _ => #[ev s]) (fun _ => rfl) (fun _ _ => by go_simp) (fun _ w1 _ _ => HO2.out w1) ?_
      simp only [Act.put, List.setIfInBounds_toArray, List.set_cons_succ, List.set_cons_zero, Nat.reduceAdd, List.nil_append, List.cons_append]
      refine mix_op (Only.refl _) ?_ (fun _ => rfl) ?_ ?_
      rotate_left
      · intro _ w1 _ _ K hK
        go_step
        exact hK
      simp only [Act.put, List.setIfInBounds_toArray, List.set_cons_succ, List.set_cons_zero, Nat.reduceAdd, List.nil_append, List.cons_append]
      refine mix_op (Only.refl _) ?_ (fun _ => rfl) ?_ ?_
      rotate_left
      · intro _ w1 _ _ K hK
        go_step
        exact hK
      simp only [Act.put, List.setIfInBounds_toArray, List.set_cons_succ, List.set_cons_zero, Nat.reduceAdd, List.nil_append, List.cons_append]
      refine mix_op (Only.refl _) ?_ (fun _ => rfl) ?_ ?_
      rotate_left
      · intro _ w1 _ _ K hK
        go_step
        exact hK
      simp only [Act.put, List.setIfInBounds_toArray, List.set_cons_succ, List.set_cons_zero, Nat.reduceAdd, List.nil_append, List.cons_append]
      refine mix_ld (Only.refl _) (cs := lc s) (fun w3 hE => hE.blk b7.drew (by simp)) isRow37 size37 _ rfl (fun _ => rfl) (fun _ => rfl) ?_
      simp only [Act.put, List.setIfInBounds_toArray, List.set_cons_succ, List.set_cons_zero, Nat.reduceAdd, List.nil_append, List.cons_append]
      refine mix_ld (Only.refl _) (cs := lc m) (fun w3 hE => hE.blk bx.drew (by simp)) isRow37 size37 _ rfl (fun _ => rfl) (fun _ => rfl) ?_
      simp only [Act.put, List.setIfInBounds_toArray, List.set_cons_succ, List.set_cons_zero, Nat.reduceAdd, List.nil_append, List.cons_append]
      refine mix_op (Only.refl _) ?_ (fun _ => rfl) ?_ ?_
      rotate_left
      · intro _ w1 _ _ K hK
        have fact0 := HE3.out w1
        go_step
        exact hK
      simp only [Act.put, List.setIfInBounds_toArray, List.set_cons_succ, List.set_cons_zero, Nat.reduceAdd, List.nil_append, List.cons_append]
      refine mix_op (Only.refl _) ?_ (fun _ => rfl) ?_ ?_
      rotate_left
      · intro _ w1 _ _ K hK
        go_step
        exact hK
      simp only [Act.put, List.setIfInBounds_toArray, List.set_cons_succ, List.set_cons_zero, Nat.reduceAdd, List.nil_append, List.cons_append]
      refine mix_skip (fun _ => rfl) ?_
      simp only [Act.put, List.setIfInBounds_toArray, List.set_cons_succ, List.set_cons_zero, Nat.reduceAdd, List.nil_append, List.cons_append]
      refine mix_skip (fun _ => rfl) ?_
      simp only [Act.put, List.setIfInBounds_toArray, List.set_cons_succ, List.set_cons_zero, Nat.reduceAdd, List.nil_append, List.cons_append]
      refine mix_skip (fun _ => rfl) ?_
      simp only [Act.put, List.setIfInBounds_toArray, List.set_cons_succ, List.set_cons_zero, Nat.reduceAdd, List.nil_append, List.cons_append]
      refine mix_nil ?_
      intro V w3 hE _
      replace ho := ho.drew.trans hE
      clear hE bx b7
      go_wp2_with fail
      go_ret
      exact ⟨rfl, ho⟩
    · have he1 := fun w1 => HE1.out w1
      rw [decide_eq_false hsm] at he1
      have he2 := fun w1 => HE2.out w1
      rw [decide_eq_true (HSM.out.resolve_left hsm)] at he2
      have HE3 := Lib.hid he1; have HE4 := Lib.hid he2
      clear he1 he2 hsm
      refine region_mix mixed 14 [0, 1, 3, 7, 15, 31, 63, 127, 127, 511, 1023, 2047, 2047, 6143, 16383, 32767, 65535, 131071] (by kernel_rfl) (Only []) (Only.refl _) (fun _ _ _ => Only.trans) ?_
      simp only [List.take_succ_cons, List.take_zero, List.drop_succ_cons, List.drop_zero]
      refine mix_op (Only.refl _) ?_ (fun _ => rfl) ?_ ?_
      rotate_left
      · intro _ w1 _ _ K hK
        go_step
        exact hK
      simp only [Act.put, List.setIfInBounds_toArray, List.set_cons_succ, List.set_cons_zero, Nat.zero_add, List.nil_append]
      refine mix_op (Only.refl _) ?_ (fun _ => rfl) ?_ ?_
      rotate_left
      · intro _ w1 _ _ K hK
        go_step
        exact hK
      simp only [Act.put, List.setIfInBounds_toArray, List.set_cons_succ, List.set_cons_zero, Nat.reduceAdd, List.nil_append, List.cons_append]
      refine mix_ld (Only.refl _) (cs := lc s) (fun w3 hE => hE.blk b7.drew (by simp)) isRow37 size37 _ rfl (fun _ => rfl) (fun _ => rfl) ?_
      simp only [Act.put, List.setIfInBounds_toArray, List.set_cons_succ, List.set_cons_zero, Nat.reduceAdd, List.nil_append, List.cons_append]
      refine mix_call (.bool false) 32 (fun _ => #[ev s]) (fun _ => rfl) (fun _ _ => by go_simp) (fun _ w1 _ _ => HO2.out w1) ?_
      simp only [Act.put, List.setIfInBounds_toArray, List.set_cons_succ, List.set_cons_zero, Nat.reduceAdd, List.nil_append, List.cons_append]
      refine mix_op (Only.refl _) ?_ (fun _ => rfl) ?_ ?_
      rotate_left
      · intro _ w1 _ _ K hK
        go_step
        exact hK
      simp only [Act.put, List.setIfInBounds_toArray, List.set_cons_succ, List.set_cons_zero, Nat.reduceAdd, List.nil_append, List.cons_append]
      refine mix_op (Only.refl _) ?_ (fun _ => rfl) ?_ ?_
      rotate_left
      · intro _ w1 _ _ K hK
        go_step
        exact hK
      simp only [Act.put, List.setIfInBounds_toArray, List.set_cons_succ, List.set_cons_zero, Nat.reduceAdd, List.nil_append, List.cons_append]
      refine mix_op (Only.refl _) ?_ (fun _ => rfl) ?_ ?_
      rotate_left
      · intro _ w1 _ _ K hK
        go_step
        exact hK
      simp only [Act.put, List.setIfInBounds_toArray, List.set_cons_succ, List.set_cons_zero, Nat.reduceAdd, List.nil_append, List.cons_append]
      refine mix_ld (Only.refl _) (cs := lc s) (fun w3 hE => hE.blk b7.drew (by simp)) isRow37 size37 _ rfl (fun _ => rfl) (fun _ => rfl) ?_
      simp only [Act.put, List.setIfInBounds_toArray, List.set_cons_succ, List.set_cons_zero, Nat.reduceAdd, List.nil_append, List.cons_append]
      refine mix_ld (Only.refl _) (cs := lc m) (fun w3 hE => hE.blk bx.drew (by simp)) isRow37 size37 _ rfl (fun _ => rfl) (fun _ => rfl) ?_
      simp only [Act.put, List.setIfInBounds_toArray, List.set_cons_succ, List.set_cons_zero, Nat.reduceAdd, List.nil_append, List.cons_append]
      refine mix_op (Only.refl _) ?_ (fun _ => rfl) ?_ ?_
      rotate_left
      · intro _ w1 _ _ K hK
        have fact0 := HE3.out w1
        go_step
        exact hK
      simp only [Act.put, List.setIfInBounds_toArray, List.set_cons_succ, List.set_cons_zero, Nat.reduceAdd, List.nil_append, List.cons_append]
      refine mix_op (Only.refl _) ?_ (fun _ => rfl) ?_ ?_
      rotate_left
      · intro _ w1 _ _ K hK
        go_step
        exact hK
      simp only [Act.put, List.setIfInBounds_toArray, List.set_cons_succ, List.set_cons_zero, Nat.reduceAdd, List.nil_append, List.cons_append]
      refine mix_ld (Only.refl _) (cs := lc s) (fun w3 hE => hE.blk b7.drew (by simp)) isRow37 size37 _ rfl (fun _ => rfl) (fun _ => rfl) ?_
      simp only [Act.put, List.setIfInBounds_toArray, List.set_cons_succ, List.set_cons_zero, Nat.reduceAdd, List.nil_append, List.cons_append]
      refine mix_ld (Only.refl _) (cs := lc m) (fun w3 hE => hE.blk bx.drew (by simp)) isRow37 size37 _ rfl (fun _ => rfl) (fun _ => rfl) ?_
      simp only [Act.put, List.setIfInBounds_toArray, List.set_cons_succ, List.set_cons_zero, Nat.reduceAdd, List.nil_append, List.cons_append]
      refine mix_call (ev (negN m)) 37 (fun _ => #[ev m]) (fun _ => rfl) (fun _ _ => by go_simp) (fun _ w1 _ _ => HNG.out w1) ?_
      simp only [Act.put, List.setIfInBounds_toArray, List.set_cons_succ, List.set_cons_zero, Nat.reduceAdd, List.nil_append, List.cons_append]
      refine mix_nil ?_
      intro V w3 hE _
      replace ho := ho.drew.trans hE
      clear hE bx b7
      have he2 := HE4.out
      go_wp2_with fail
      go_ret
      exact ⟨rfl, ho⟩
  | false =>
    have hr0 := HB0.out rfl
    subst hr0
    have he := fun w1 => neq_zero 0 (by decide) w1
    rw [decide_eq_true rfl] at he
    have HE := Lib.hid he
    clear he
    go_wp2_with fail
    refine region_mix mixed 26 [0, 1, 3, 7, 15, 31, 63, 127, 255, 511, 1023, 2047, 4095, 4095, 16383, 32767, 4095, 131071, 262143, 524287, 1048575, 2097151, 4194303, 8388607, 16777215, 16777215, 67108863, 134217727, 268435455] (by kernel_rfl) (Only []) (Only.refl _) (fun _ _ _ => Only.trans) ?_
    simp only [List.take_succ_cons, List.take_zero, List.drop_succ_cons, List.drop_zero]
    refine mix_op (Only.refl _) ?_ (fun _ => rfl) ?_ ?_
    rotate_left
    · intro _ w1 _ _ K hK
      go_step
      exact hK
    simp only [Act.put, List.setIfInBounds_toArray, List.set_cons_succ, List.set_cons_zero, Nat.zero_add, List.nil_append]
    refine mix_op (Only.refl _) ?_ (fun _ => rfl) ?_ ?_
    rotate_left
    · intro _ w1 _ _ K hK
      go_step
      exact hK
    simp only [Act.put, List.setIfInBounds_toArray, List.set_cons_succ, List.set_cons_zero, Nat.reduceAdd, List.nil_append, List.cons_append]
    refine mix_skip (fun _ => rfl) ?_
    simp only [Act.put, List.setIfInBounds_toArray, List.set_cons_succ, List.set_cons_zero, Nat.reduceAdd, List.nil_append, List.cons_append]
    refine mix_skip (fun _ => rfl) ?_
    simp only [Act.put, List.setIfInBounds_toArray, List.set_cons_succ, List.set_cons_zero, Nat.reduceAdd, List.nil_append, List.cons_append]
    refine mix_skip (fun _ => rfl) ?_
    simp only [Act.put, List.setIfInBounds_toArray, List.set_cons_succ, List.set_cons_zero, Nat.reduceAdd, List.nil_append, List.cons_append]
    refine mix_skip (fun _ => rfl) ?_
    simp only [Act.put, List.setIfInBounds_toArray, List.set_cons_succ, List.set_cons_zero, Nat.reduceAdd, List.nil_append, List.cons_append]
    refine mix_skip (fun _ => rfl) ?_
    simp only [Act.put, List.setIfInBounds_toArray, List.set_cons_succ, List.set_cons_zero, Nat.reduceAdd, List.nil_append, List.cons_append]
    refine mix_skip (fun _ => rfl) ?_
    simp only [Act.put, List.setIfInBounds_toArray, List.set_cons_succ, List.set_cons_zero, Nat.reduceAdd, List.nil_append, List.cons_append]
    refine mix_skip (fun _ => rfl) ?_
    simp only [Act.put, List.setIfInBounds_toArray, List.set_cons_succ, List.set_cons_zero, Nat.reduceAdd, List.nil_append, List.cons_append]
    refine mix_skip (fun _ => rfl) ?_
    simp only [Act.put, List.setIfInBounds_toArray, List.set_cons_succ, List.set_cons_zero, Nat.reduceAdd, List.nil_append, List.cons_append]
    refine mix_skip (fun _ => rfl) ?_
    simp only [Act.put, List.setIfInBounds_toArray, List.set_cons_succ, List.set_cons_zero, Nat.reduceAdd, List.nil_append, List.cons_append]
    refine mix_skip (fun _ => rfl) ?_
    simp only [Act.put, List.setIfInBounds_toArray, List.set_cons_succ, List.set_cons_zero, Nat.reduceAdd, List.nil_append, List.cons_append]
    refine mix_skip (fun _ => rfl) ?_
    simp only [Act.put, List.setIfInBounds_toArray, List.set_cons_succ, List.set_cons_zero, Nat.reduceAdd, List.nil_append, List.cons_append]
    refine mix_skip (fun _ => rfl) ?_
    simp only [Act.put, List.setIfInBounds_toArray, List.set_cons_succ, List.set_cons_zero, Nat.reduceAdd, List.nil_append, List.cons_append]
    refine mix_skip (fun _ => rfl) ?_
    simp only [Act.put, List.setIfInBounds_toArray, List.set_cons_succ, List.set_cons_zero, Nat.reduceAdd, List.nil_append, List.cons_append]
    refine mix_skip (fun _ => rfl) ?_
    simp only [Act.put, List.setIfInBounds_toArray, List.set_cons_succ, List.set_cons_zero, Nat.reduceAdd, List.nil_append, List.cons_append]
    refine mix_skip (fun _ => rfl) ?_
    simp only [Act.put, List.setIfInBounds_toArray, List.set_cons_succ, List.set_cons_zero, Nat.reduceAdd, List.nil_append, List.cons_append]
    refine mix_skip (fun _ => rfl) ?_
    simp only [Act.put, List.setIfInBounds_toArray, List.set_cons_succ, List.set_cons_zero, Nat.reduceAdd, List.nil_append, List.cons_append]
    refine mix_skip (fun _ => rfl) ?_
    simp only [Act.put, List.setIfInBounds_toArray, List.set_cons_succ, List.set_cons_zero, Nat.reduceAdd, List.nil_append, List.cons_append]
    refine mix_op (Only.refl _) ?_ (fun _ => rfl) ?_ ?_
    rotate_left
    · intro _ w1 _ _ K hK
      go_step
      exact hK
    simp only [Act.put, List.setIfInBounds_toArray, List.set_cons_succ, List.set_cons_zero, Nat.reduceAdd, List.nil_append, List.cons_append]
    refine mix_op (Only.refl _) ?_ (fun _ => rfl) ?_ ?_
    rotate_left
    · intro _ w1 _ _ K hK
      go_step
      exact hK
    simp only [Act.put, List.setIfInBounds_toArray, List.set_cons_succ, List.set_cons_zero, Nat.reduceAdd, List.nil_append, List.cons_append]
    refine mix_op (Only.refl _) ?_ (fun _ => rfl) ?_ ?_
    rotate_left
    · intro _ w1 _ _ K hK
      go_step
      exact hK
    simp only [Act.put, List.setIfInBounds_toArray, List.set_cons_succ, List.set_cons_zero, Nat.reduceAdd, List.nil_append, List.cons_append]
    refine mix_op (Only.refl _) ?_ (fun _ => rfl) ?_ ?_
    rotate_left
    · intro _ w1 _ _ K hK
      go_step
      exact hK
    simp only [Act.put, List.setIfInBounds_toArray, List.set_cons_succ, List.set_cons_zero, Nat.reduceAdd, List.nil_append, List.cons_append]
    refine mix_op (Only.refl _) ?_ (fun _ => rfl) ?_ ?_
    rotate_left
    · intro _ w1 _ _ K hK
      go_step
      exact hK
    simp only [Act.put, List.setIfInBounds_toArray, List.set_cons_succ, List.set_cons_zero, Nat.reduceAdd, List.nil_append, List.cons_append]
    refine mix_ld (Only.refl _) (cs := lc 0) (fun w3 hE => hE.blk b5.drew (by simp)) isRow37 size37 _ rfl (fun _ => rfl) (fun _ => rfl) ?_
    simp only [Act.put, List.setIfInBounds_toArray, List.set_cons_succ, List.set_cons_zero, Nat.reduceAdd, List.nil_append, List.cons_append]
    refine mix_op (Only.refl _) ?_ (fun _ => rfl) ?_ ?_
    rotate_left
    · intro _ w1 _ _ K hK
      go_step
      exact hK
    simp only [Act.put, List.setIfInBounds_toArray, List.set_cons_succ, List.set_cons_zero, Nat.reduceAdd, List.nil_append, List.cons_append]
    refine mix_nil ?_
    intro V w3 hE _
    have hz := HE.out
    replace bx := hE.blk bx.drew (by simp); replace ho := ho.drew.trans hE
    clear hE b5
    obtain ⟨q0, q1, q2, q3, qf⟩ := bx.four
    go_wp2_with fail
    clear q0 q1 q2 q3 qf
    have hnew : MadeAt w3.heap.size 2 2 (cells3 [m, m]).toArray 37 (.slice (some ⟨w3.heap.size, 0, none⟩) 2 2) (w3.alloc (.cells (cells3 [m, m]).toArray 37)) := ⟨_, rfl, Blk.new _ _ _, Nat.le_refl _⟩
    refine (HU.out _ _ _ hnew).mono ?_
    rintro e w8 ⟨rfl, ho8⟩
    replace bx := ho8.blk (bx.alloc _) (by simp); replace ho := (ho.alloc _).trans ho8
    clear ho8 hnew
    go_wp2_with fail
    refine (HROOT2.out _).mono ?_
    rintro e w9 ⟨rfl, ho9⟩
    have b7 : Blk (w9.alloc (.cells (lc s) 37)) w9.heap.size (lc s) 37 := Blk.new _ _ _
    replace bx := (ho9.blk bx (by simp)).alloc (.cells (lc s) 37); replace ho := (ho.trans ho9).alloc (.cells (lc s) 37)
    clear ho9
    go_wp2_with fail
    generalize w9.alloc (.cells (lc s) 37) = w10 at *
    generalize w9.heap.size = g7 at *
    by_cases hsm : s = m
    · have he1 := fun w1 => HE1.out w1
      rw [decide_eq_true hsm] at he1
      have HE3 := Lib.hid he1
      clear he1 hsm
      refine region_mix mixed 14 [0, 1, 3, 7, 15, 31, 63, 127, 127, 511, 1023, 2047, 2047, 6143, 16383, 32767, 65535, 131071] (by kernel_rfl) (Only []) (Only.refl _) (fun _ _ _ => Only.trans) ?_
      simp only [List.take_succ_cons, List.take_zero, List.drop_succ_cons, List.drop_zero]
      refine mix_op (Only.refl _) ?_ (fun _ => rfl) ?_ ?_
      rotate_left
      · intro _ w1 _ _ K hK
        go_step
        exact hK
      simp only [Act.put, List.setIfInBounds_toArray, List.set_cons_succ, List.set_cons_zero, Nat.zero_add, List.nil_append]
      refine mix_op (Only.refl _) ?_ (fun _ => rfl) ?_ ?_
      rotate_left
      · intro _ w1 _ _ K hK
        go_step
        exact hK
      simp only [Act.put, List.setIfInBounds_toArray, List.set_cons_succ, List.set_cons_zero, Nat.reduceAdd, List.nil_append, List.cons_append]
      refine mix_ld (Only.refl _) (cs := lc s) (fun w3 hE => hE.blk b7.drew (by simp)) isRow37 size37 _ rfl (fun _ => rfl) (fun _ => rfl) ?_
      simp only [Act.put, List.setIfInBounds_toArray, List.set_cons_succ, List.set_cons_zero, Nat.reduceAdd, List.nil_append, List.cons_append]
      refine mix_call (.bool false) 32 (fun _ => #[ev s]) (fun _ => rfl) (fun _ _ => by go_simp) (fun _ w1 _ _ => HO2.out w1) ?_
      simp only [Act.put, List.setIfInBounds_toArray, List.set_cons_succ, List.set_cons_zero, Nat.reduceAdd, List.nil_append, List.cons_append]
      refine mix_op (Only.refl _) ?_ (fun _ => rfl) ?_ ?_
      rotate_left
      · intro _ w1 _ _ K hK
        go_step
        exact hK
      simp only [Act.put, List.setIfInBounds_toArray, List.set_cons_succ, List.set_cons_zero, Nat.reduceAdd, List.nil_append, List.cons_append]
      refine mix_op (Only.refl _) ?_ (fun _ => rfl) ?_ ?_
      rotate_left
      · intro _ w1 _ _ K hK
        go_step
        exact hK
      simp only [Act.put, List.setIfInBounds_toArray, List.set_cons_succ, List.set_cons_zero, Nat.reduceAdd, List.nil_append, List.cons_append]
      refine mix_op (Only.refl _) ?_ (fun _ => rfl) ?_ ?_
      rotate_left
      · intro _ w1 _ _ K hK
        go_step
        exact hK
      simp only [Act.put, List.setIfInBounds_toArray, List.set_cons_succ, List.set_cons_zero, Nat.reduceAdd, List.nil_append, List.cons_append]
      refine mix_ld (Only.refl _) (cs := lc s) (fun w3 hE => hE.blk b7.drew (by simp)) isRow37 size37 _ rfl (fun _ => rfl) (fun _ => rfl) ?_
      simp only [Act.put, List.setIfInBounds_toArray, List.set_cons_succ, List.set_cons_zero, Nat.reduceAdd, List.nil_append, List.cons_append]
      refine mix_ld (Only.refl _) (cs := lc m) (fun w3 hE => hE.blk bx.drew (by simp)) isRow37 size37 _ rfl (fun _ => rfl) (fun _ => rfl) ?_
      simp only [Act.put, List.setIfInBounds_toArray, List.set_cons_succ, List.set_cons_zero, Nat.reduceAdd, List.nil_append, List.cons_append]
      refine mix_op (Only.refl _) ?_ (fun _ => rfl) ?_ ?_
      rotate_left
      · intro _ w1 _ _ K hK
        have fact0 := HE3.out w1
        go_step
        exact hK
      simp only [Act.put, List.setIfInBounds_toArray, List.set_cons_succ, List.set_cons_zero, Nat.reduceAdd, List.nil_append, List.cons_append]
      refine mix_op (Only.refl _) ?_ (fun _ => rfl) ?_ ?_
      rotate_left
      · intro _ w1 _ _ K hK
        go_step
        exact hK
      simp only [Act.put, List.setIfInBounds_toArray, List.set_cons_succ, List.set_cons_zero, Nat.reduceAdd, List.nil_append, List.cons_append]
      refine mix_skip (fun _ => rfl) ?_
      simp only [Act.put, List.setIfInBounds_toArray, List.set_cons_succ, List.set_cons_zero, Nat.reduceAdd, List.nil_append, List.cons_append]
      refine mix_skip (fun _ => rfl) ?_
      simp only [Act.put, List.setIfInBounds_toArray, List.set_cons_succ, List.set_cons_zero, Nat.reduceAdd, List.nil_append, List.cons_append]
      refine mix_skip (fun _ => rfl) ?_
      simp only [Act.put, List.setIfInBounds_toArray, List.set_cons_succ, List.set_cons_zero, Nat.reduceAdd, List.nil_append, List.cons_append]
      refine mix_nil ?_
      intro V w3 hE _
      replace ho := ho.drew.trans hE
      clear hE bx b7
      go_wp2_with fail
      go_ret
      exact ⟨rfl, ho⟩
    · have he1 := fun w1 => HE1.out w1
      rw [decide_eq_false hsm] at he1
      have he2 := fun w1 => HE2.out w1
      rw [decide_eq_true (HSM.out.resolve_left hsm)] at he2
      have HE3 := Lib.hid he1; have HE4 := Lib.hid he2
      clear he1 he2 hsm
      refine region_mix mixed 14 [0, 1, 3, 7, 15, 31, 63, 127, 127, 511, 1023, 2047, 2047, 6143, 16383, 32767, 65535, 131071] (by kernel_rfl) (Only []) (Only.refl _) (fun _ _ _ => Only.trans) ?_
      simp only [List.take_succ_cons, List.take_zero, List.drop_succ_cons, List.drop_zero]
      refine mix_op (Only.refl _) ?_ (fun _ => rfl) ?_ ?_
      rotate_left
      · intro _ w1 _ _ K hK
        go_step
        exact hK
      simp only [Act.put, List.setIfInBounds_toArray, List.set_cons_succ, List.set_cons_zero, Nat.zero_add, List.nil_append]
      refine mix_op (Only.refl _) ?_ (fun _ => rfl) ?_ ?_
      rotate_left
      · intro _ w1 _ _ K hK
        go_step
        exact hK
      simp only [Act.put, List.setIfInBounds_toArray, List.set_cons_succ, List.set_cons_zero, Nat.reduceAdd, List.nil_append, List.cons_append]
      refine mix_ld (Only.refl _) (cs := lc s) (fun w3 hE => hE.blk b7.drew (by simp)) isRow37 size37 _ rfl (fun _ => rfl) (fun _ => rfl) ?_
      simp only [Act.put, List.setIfInBounds_toArray, List.set_cons_succ, List.set_cons_zero, Nat.reduceAdd, List.nil_append, List.cons_append]
      refine mix_call (.bool false) 32 (fun _ => #[ev s]) (fun _ => rfl) (fun _ _ => by go_simp) (fun _ w1 _ _ => HO2.out w1) ?_
      simp only [Act.put, List.setIfInBounds_toArray, List.set_cons_succ, List.set_cons_zero, Nat.reduceAdd, List.nil_append, List.cons_append]
      refine mix_op (Only.refl _) ?_ (fun _ => rfl) ?_ ?_
      rotate_left
      · intro _ w1 _ _ K hK
        go_step
        exact hK
      simp only [Act.put, List.setIfInBounds_toArray, List.set_cons_succ, List.set_cons_zero, Nat.reduceAdd, List.nil_append, List.cons_append]
      refine mix_op (Only.refl _) ?_ (fun _ => rfl) ?_ ?_
      rotate_left
      · intro _ w1 _ _ K hK
        go_step
        exact hK
      simp only [Act.put, List.setIfInBounds_toArray, List.set_cons_succ, List.set_cons_zero, Nat.reduceAdd, List.nil_append, List.cons_append]
      refine mix_op (Only.refl _) ?_ (fun _ => rfl) ?_ ?_
      rotate_left
      · intro _ w1 _ _ K hK
        go_step
        exact hK
      simp only [Act.put, List.setIfInBounds_toArray, List.set_cons_succ, List.set_cons_zero, Nat.reduceAdd, List.nil_append, List.cons_append]
      refine mix_ld (Only.refl _) (cs := lc s) (fun w3 hE => hE.blk b7.drew (by simp)) isRow37 size37 _ rfl (fun _ => rfl) (fun _ => rfl) ?_
      simp only [Act.put, List.setIfInBounds_toArray, List.set_cons_succ, List.set_cons_zero, Nat.reduceAdd, List.nil_append, List.cons_append]
      refine mix_ld (Only.refl _) (cs := lc m) (fun w3 hE => hE.blk bx.drew (by simp)) isRow37 size37 _ rfl (fun _ => rfl) (fun _ => rfl) ?_
      simp only [Act.put, List.setIfInBounds_toArray, List.set_cons_succ, List.set_cons_zero, Nat.reduceAdd, List.nil_append, List.cons_append]
      refine mix_op (Only.refl _) ?_ (fun _ => rfl) ?_ ?_
      rotate_left
      · intro _ w1 _ _ K hK
        have fact0 := HE3.out w1
        go_step
        exact hK
      simp only [Act.put, List.setIfInBounds_toArray, List.set_cons_succ, List.set_cons_zero, Nat.reduceAdd, List.nil_append, List.cons_append]
      refine mix_op (Only.refl _) ?_ (fun _ => rfl) ?_ ?_
      rotate_left
      · intro _ w1 _ _ K hK
        go_step
        exact hK
      simp only [Act.put, List.setIfInBounds_toArray, List.set_cons_succ, List.set_cons_zero, Nat.reduceAdd, List.nil_append, List.cons_append]
      refine mix_ld (Only.refl _) (cs := lc s) (fun w3 hE => hE.blk b7.drew (by simp)) isRow37 size37 _ rfl (fun _ => rfl) (fun _ => rfl) ?_
      simp only [Act.put, List.setIfInBounds_toArray, List.set_cons_succ, List.set_cons_zero, Nat.reduceAdd, List.nil_append, List.cons_append]
      refine mix_ld (Only.refl _) (cs := lc m) (fun w3 hE => hE.blk bx.drew (by simp)) isRow37 size37 _ rfl (fun _ => rfl) (fun _ => rfl) ?_
      simp only [Act.put, List.setIfInBounds_toArray, List.set_cons_succ, List.set_cons_zero, Nat.reduceAdd, List.nil_append, List.cons_append]
      refine mix_call (ev (negN m)) 37 (fun _ => #[ev m]) (fun _ => rfl) (fun _ _ => by go_simp) (fun _ w1 _ _ => HNG.out w1) ?_
      simp only [Act.put, List.setIfInBounds_toArray, List.set_cons_succ, List.set_cons_zero, Nat.reduceAdd, List.nil_append, List.cons_append]
      refine mix_nil ?_
      intro V w3 hE _
      replace ho := ho.drew.trans hE
      clear hE bx b7
      have he2 := HE4.out
      go_wp2_with fail
      go_ret
      exact ⟨rfl, ho⟩

theorem walk (x : Nat) (hx : x < W256) (w : World) :
    Calls Try.prog 5 #[ev x] w fun e w' => e = .returned (.bool true) ∧ Below w.heap.size w w' := by
  have hm : x % P255 < P255 := Nat.mod_lt _ (by decide)
  have hq : x % P255 * (x % P255) % P255 < P255 := Nat.mod_lt _ (by decide)
  have hsq := fun w1 => square_any (x % P255) (Nat.lt_trans hm p255_lt) w1
  rw [← rootB_sq hm] at hsq
  have hr2 := fun w1 => root_any (x % P255 * (x % P255) % P255) (Nat.lt_trans hq p_lt) w1
  have hb2 := rootB_of_sq (s := x % P255) hm rfl
  rw [hb2] at hr2
  refine (walk0 x (x % P255) (rootN (x % P255)) (x % P255 * (x % P255) % P255) (rootN (x % P255 * (x % P255) % P255)) (rootB (x % P255)) hx rfl hm (rootN_lt _) (rootN_lt _) hq
    (fun w1 => root_any (x % P255) (Nat.lt_trans hm p_lt) w1) hsq (fun h => ⟨rootN_even h, rootN_sq h⟩) rootN_no rfl hr2 (rootN_even hb2) (sq_inj (rootN_lt _) hm (rootN_sq hb2)) w).mono fun _ _ h => ⟨h.1, h.2.toGrow⟩

/-! ### THE ROW's STEP -/
set_option maxRecDepth 100000 in
theorem lifted (os : Os) (started : os.Started) (H : Type) (enc : TypeId × Value → H) :
    ReturnsInHanded {} Try.checked os 5 .any (Rows.fieldRootsSpec.pre6 enc Try.prog Try.f5 Rows.fieldRootsRow.domain false) (Rows.fieldRootsSpec.post enc Try.prog Try.f5 false true false false) := by
  refine returnsInHanded_of_change (C := Try.checked) own started (by kernel_rfl) Try.func5
    (ChangeSpec.witness6 (enc := enc) (C := Try.checked) false ⟨#[], #[.agg #[.int .u64 0, .int .u64 0, .int .u64 0, .int .u64 0]], []⟩ 8 (by kernel_rfl) (by kernel_rfl) (by kernel_rfl) (by kernel_rfl)) ?_
  intro W base args ds gs before hval0 hW hcnd _
  have hval : ∀ (j : Nat) t v, Try.f5.params[j]? = some t → args[j]? = some v → Value.okWide Try.prog W .any base t v := hval0
  have hW' := hW
  obtain ⟨p, q, hA0, hV, rfl, hfz, hnd⟩ := hW
  have hA : DataW.TrodAll enc Try.prog W 0 (fun _ => true) true Try.f5.params.toList args.toList ds p := hA0
  rw [Try.params5] at hA hval
  obtain ⟨v0, vs0, d0, ds0, p0, q0, hargs, rfl, rfl, h0, r0⟩ := trodAll_cons hA
  obtain ⟨rfl, rfl, rfl⟩ := trodAll_nil r0
  obtain rfl : args = #[v0] := by cases args; simp_all
  obtain ⟨rfl, rfl⟩ := trodVars_none hV
  have k0 := h0
  obtain ⟨x0, l0, rfl⟩ := open_limbs (hval 0 36 v0 rfl rfl) h0
  clear hA0 hval0
  refine (walk x0 l0 W).mono fun e W' ⟨he, bel⟩ => ?_
  subst he
  exact ⟨_, rfl, _, _, _, [], _, [], hW', trodAll_mk1 (shut_bool Try.underlying4 _), (trodAll_cons_mk (Below.trod laidOut (by kernel_rfl) (of_decide_eq_true (by kernel_rfl)) k0 bel (trod_places k0)) trodAll_mk0), rfl, bel.frame _, fun h => by cases h⟩

theorem over : Rows.fieldRootsRow.holds Try.pinned (OpenSpec.ofChange Rows.fieldRootsSpec) :=
  OpenClaim.holds_of_wide 5 Try.f5 rfl rfl rfl rfl rfl rfl rfl ⟨rfl, rfl, rfl, rfl, rfl⟩ rfl rfl rfl rfl rfl (by kernel_rfl) Try.func5 (by kernel_rfl)
    (of_decide_eq_true (by kernel_rfl)) (by unfold Func.isWrapper; first | (rw [if_pos (by decide +kernel)]; kernel_rfl) | (rw [if_neg (by decide +kernel)]; exact ⟨rfl, rfl⟩))
    (fun os started H enc _ => lifted os started H enc)

/-- ████ THE STATEMENT ████ -/
theorem proved : Rows.FieldRootsSaid := over
#print axioms proved
end Go.Proofs.Ytmlahbmaomoiaaa.fieldRoots
