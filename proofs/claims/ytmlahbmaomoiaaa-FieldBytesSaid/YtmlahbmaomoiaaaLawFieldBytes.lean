/-
  PROVED: bosunlaw05.FieldBytes returns true for every input (every thirty-two bytes, and every number of sixty-four bits), and each argument reads afterwards as it read before. Conditions: none.
-/
import Derived.Test.YtmlahbmaomoiaaaRows
import Derived.Test.YtmlahbmaomoiaaaLwC
import Derived.Test.YtmlahbmaomoiaaaOpnB
namespace Go.Proofs.Ytmlahbmaomoiaaa.fieldBytes
open Go.ChangeShapes Go.WideShapes Go.ChangeAt Go.RowKit
set_option linter.unusedVariables false

theorem own : ownKnob Try.prog.godebug = none := by kernel_rfl
theorem laidOut : laidOutB Try.prog = true := by kernel_rfl

set_option maxRecDepth 100000 in
set_option maxHeartbeats 4000000 in
theorem walk0 (x n : Nat) (hx : x < W256) (hn : n < 18446744073709551616) (w : World) :
    Calls Try.prog 9 #[.agg (arrk .u8 32 (dg 8 x)), .int .u64 (n : Int)] w fun r w' => r = .returned (.bool true) ∧ Only [] w w' := by
  have HF := Lib.hid fun w1 => frombytes_any x hx w1
  have HX := Lib.hid hx
  have HS := Lib.hid fun w1 => small_any n hn w1
  have hq := fun w1 => eq_small n n (Nat.lt_trans hn (by decide)) hn w1
  rw [decide_eq_true rfl] at hq
  have HQ := Lib.hid hq
  clear hx hq
  have hb0 : Blk (w.alloc (.cells (arrk .u8 32 (dg 8 x)) 67)) w.heap.size (arrk .u8 32 (dg 8 x)) 67 := Blk.new _ _ _
  have ho : Only [] w (w.alloc (.cells (arrk .u8 32 (dg 8 x)) 67)) := (Only.refl _ _).alloc _
  go_enter Try.func9, Try.ntmps9
  go_wp2_with fail
  refine (lives05 _).mono ?_
  rintro r w1 ⟨rfl, ho1⟩
  replace hb0 := ho1.blk hb0 (by simp); replace ho := ho.trans ho1
  clear ho1
  go_wp2_with (refine ldRow hb0 isRow67 size67 rfl _ rfl rfl ?_)
  refine (HF.out _).mono ?_
  rintro r w2 ⟨rfl, ho2⟩
  replace hb0 := ho2.blk hb0 (by simp); replace ho := ho.trans ho2
  have hl0 := hb0.lt
  clear ho2
  have hb5 : Blk (w2.alloc (.cells zc 39)) w2.heap.size (nc fun _ => 0) 39 := Blk.new _ _ _
  have hb0' : Blk ((w2.alloc (.cells zc 39)).setRow w2.heap.size (rc (x % W255))) w.heap.size (arrk .u8 32 (dg 8 x)) 67 := (hb0.alloc _).farRow (by omega) _
  have hb5' : Blk ((w2.alloc (.cells zc 39)).setRow w2.heap.size (rc (x % W255))) w2.heap.size (rc (x % W255)) 39 := hb5.setRow _
  replace ho := (ho.alloc (.cells zc 39)).setRow (g := w2.heap.size) (.inr (by have := ho.size; omega)) (rc (x % W255))
  have hl5 := hb5'.lt
  go_wp2_with (first | refine store_nc rfl _ _ rfl rfl rfl hb5 ?_ | refine ldRow hb0' isRow67 size67 rfl _ rfl rfl ?_)
  clear hb0 hb5
  generalize (w2.alloc (.cells zc 39)).setRow w2.heap.size (rc (x % W255)) = w4 at *
  generalize w2.heap.size = g5 at *
  by_cases hp : x < P255
  · have hxx : x % W255 = x := Nat.mod_eq_of_lt (Nat.lt_trans hp p255_lt)
    have hh : ¬ W255 ≤ x := by unfold W255; unfold P255 at hp; omega
    rw [hxx] at hb5' ⊢
    rw [decide_eq_false hh]
    have hl := fun w1 => rless_any x P255 (Nat.lt_trans hp p255_lt) p255_lt w1
    rw [decide_eq_true hp] at hl
    have hk := fun w1 => like_any x x (Nat.lt_trans hp p_lt) (Nat.lt_trans hp p255_lt) w1
    rw [decide_eq_true rfl] at hk
    have HL := Lib.hid hl; have HK := Lib.hid hk
    have HP := Lib.hid hp
    clear hl hk hxx hh hp
    refine (decode_ok x HP.out _).mono ?_
    rintro r w5 ⟨rfl, ho5⟩
    replace hb0' := ho5.blk hb0' (by simp); replace hb5' := ho5.blk hb5' (by simp); replace ho := ho.trans ho5
    clear ho5
    have hb7 : Blk (w5.alloc (.cells (lc x) 37)) w5.heap.size (lc x) 37 := Blk.new _ _ _
    replace hb0' := hb0'.alloc (.cells (lc x) 37); replace hb5' := hb5'.alloc (.cells (lc x) 37); replace ho := ho.alloc (.cells (lc x) 37)
    go_wp2_with fail
    generalize w5.alloc (.cells (lc x) 37) = w6 at *
    generalize w5.heap.size = g7 at *
    refine region_mix mixed 4 [0, 1, 3, 3, 15, 31, 63] (by kernel_rfl) (Only []) (Only.refl _) (fun _ _ _ => Only.trans) ?_
    simp only [List.take_succ_cons, List.take_zero, List.drop_succ_cons, List.drop_zero]
    refine mix_op (Only.refl _) ?_ (fun _ => rfl) ?_ ?_
    rotate_left
    · intro _ w1 _ _ K hK
      go_step
      exact hK
    simp only [Act.put, List.setIfInBounds_toArray, List.set_cons_succ, List.set_cons_zero, Nat.zero_add, List.nil_append]
    refine mix_op (Only.refl _) ?_ (fun _ => rfl) ?_ ?_
    rotate_left
    · intro _ w1 _ _ K hK
      go_step
      exact hK
    simp only [Act.put, List.setIfInBounds_toArray, List.set_cons_succ, List.set_cons_zero, Nat.reduceAdd, List.nil_append, List.cons_append]
    refine mix_ld (Only.refl _) (cs := rc x) (fun w3 hE => hE.blk hb5'.drew (by simp)) isRow39 size39 _ rfl (fun _ => rfl) (fun _ => rfl) ?_
    simp only [Act.put, List.setIfInBounds_toArray, List.set_cons_succ, List.set_cons_zero, Nat.reduceAdd, List.nil_append, List.cons_append]
    refine mix_call (rv P255) 35 (fun _ => #[]) (fun _ => rfl) (fun _ _ => by go_simp) (fun _ w1 _ _ => rp_any w1) ?_
    simp only [Act.put, List.setIfInBounds_toArray, List.set_cons_succ, List.set_cons_zero, Nat.reduceAdd, List.nil_append, List.cons_append]
    refine mix_nil ?_
    intro V w3 hE hR
    simp only [allR, and_true] at hR
    replace hb0' := hE.blk hb0'.drew (by simp); replace hb5' := hE.blk hb5'.drew (by simp); replace hb7 := hE.blk hb7.drew (by simp); replace ho := ho.drew.trans hE
    clear hE hR
    go_wp2_with fail
    refine (HL.out _).mono ?_
    rintro r w8 ⟨rfl, ho8⟩
    replace hb0' := ho8.blk hb0' (by simp); replace hb5' := ho8.blk hb5' (by simp); replace hb7 := ho8.blk hb7 (by simp); replace ho := ho.trans ho8
    clear ho8
    go_wp2_with fail
    refine region_mix mixed 18 [0, 1, 3, 7, 7, 31, 63, 127, 255, 511, 255, 2047, 4095, 8191, 16383, 32767, 16383, 81919, 262143, 524287, 1048575] (by kernel_rfl) (Only []) (Only.refl _) (fun _ _ _ => Only.trans) ?_
    simp only [List.take_succ_cons, List.take_zero, List.drop_succ_cons, List.drop_zero]
    refine mix_op (Only.refl _) ?_ (fun _ => rfl) ?_ ?_
    rotate_left
    · intro _ w1 _ _ K hK
      go_step
      exact hK
    simp only [Act.put, List.setIfInBounds_toArray, List.set_cons_succ, List.set_cons_zero, Nat.zero_add, List.nil_append]
    refine mix_op (Only.refl _) ?_ (fun _ => rfl) ?_ ?_
    rotate_left
    · intro _ w1 _ _ K hK
      go_step
      exact hK
    simp only [Act.put, List.setIfInBounds_toArray, List.set_cons_succ, List.set_cons_zero, Nat.reduceAdd, List.nil_append, List.cons_append]
    refine mix_op (Only.refl _) ?_ (fun _ => rfl) ?_ ?_
    rotate_left
    · intro _ w1 _ _ K hK
      go_step
      exact hK
    simp only [Act.put, List.setIfInBounds_toArray, List.set_cons_succ, List.set_cons_zero, Nat.reduceAdd, List.nil_append, List.cons_append]
    refine mix_ld (Only.refl _) (cs := lc x) (fun w3 hE => hE.blk hb7.drew (by simp)) isRow37 size37 _ rfl (fun _ => rfl) (fun _ => rfl) ?_
    simp only [Act.put, List.setIfInBounds_toArray, List.set_cons_succ, List.set_cons_zero, Nat.reduceAdd, List.nil_append, List.cons_append]
    refine mix_ld (Only.refl _) (cs := rc x) (fun w3 hE => hE.blk hb5'.drew (by simp)) isRow39 size39 _ rfl (fun _ => rfl) (fun _ => rfl) ?_
    simp only [Act.put, List.setIfInBounds_toArray, List.set_cons_succ, List.set_cons_zero, Nat.reduceAdd, List.nil_append, List.cons_append]
    refine mix_call (.bool true) 25 (fun _ => #[ev x, rv x]) (fun _ => rfl) (fun _ _ => by go_simp) (fun _ w1 _ _ => HK.out w1) ?_
    simp only [Act.put, List.setIfInBounds_toArray, List.set_cons_succ, List.set_cons_zero, Nat.reduceAdd, List.nil_append, List.cons_append]
    refine mix_op (Only.refl _) ?_ (fun _ => rfl) ?_ ?_
    rotate_left
    · intro _ w1 _ _ K hK
      go_step
      exact hK
    simp only [Act.put, List.setIfInBounds_toArray, List.set_cons_succ, List.set_cons_zero, Nat.reduceAdd, List.nil_append, List.cons_append]
    refine mix_op (Only.refl _) ?_ (fun _ => rfl) ?_ ?_
    rotate_left
    · intro _ w1 _ _ K hK
      go_step
      exact hK
    simp only [Act.put, List.setIfInBounds_toArray, List.set_cons_succ, List.set_cons_zero, Nat.reduceAdd, List.nil_append, List.cons_append]
    refine mix_ld (Only.refl _) (cs := lc x) (fun w3 hE => hE.blk hb7.drew (by simp)) isRow37 size37 _ rfl (fun _ => rfl) (fun _ => rfl) ?_
    simp only [Act.put, List.setIfInBounds_toArray, List.set_cons_succ, List.set_cons_zero, Nat.reduceAdd, List.nil_append, List.cons_append]
    refine mix_call (.agg (arrk .u8 32 (dg 8 x))) 53 (fun _ => #[ev x]) (fun _ => rfl) (fun _ _ => by go_simp) (fun _ w1 _ _ => encode_any x w1) ?_
    simp only [Act.put, List.setIfInBounds_toArray, List.set_cons_succ, List.set_cons_zero, Nat.reduceAdd, List.nil_append, List.cons_append]
    refine mix_ld (Only.refl _) (cs := arrk .u8 32 (dg 8 x)) (fun w3 hE => hE.blk hb0'.drew (by simp)) isRow67 size67 _ rfl (fun _ => rfl) (fun _ => rfl) ?_
    simp only [Act.put, List.setIfInBounds_toArray, List.set_cons_succ, List.set_cons_zero, Nat.reduceAdd, List.nil_append, List.cons_append]
    refine mix_op (Only.refl _) ?_ (fun _ => rfl) ?_ ?_
    rotate_left
    · intro _ w1 _ _ K hK
      have fact0 := eqIn_bv (dg 8 x) w1
      go_step
      exact hK
    simp only [Act.put, List.setIfInBounds_toArray, List.set_cons_succ, List.set_cons_zero, Nat.reduceAdd, List.nil_append, List.cons_append]
    refine mix_op (Only.refl _) ?_ (fun _ => rfl) ?_ ?_
    rotate_left
    · intro _ w1 _ _ K hK
      go_step
      exact hK
    simp only [Act.put, List.setIfInBounds_toArray, List.set_cons_succ, List.set_cons_zero, Nat.reduceAdd, List.nil_append, List.cons_append]
    refine mix_op (Only.refl _) ?_ (fun _ => rfl) ?_ ?_
    rotate_left
    · intro _ w1 _ _ K hK
      go_step
      exact hK
    simp only [Act.put, List.setIfInBounds_toArray, List.set_cons_succ, List.set_cons_zero, Nat.reduceAdd, List.nil_append, List.cons_append]
    refine mix_op (Only.refl _) ?_ (fun _ => rfl) ?_ ?_
    rotate_left
    · intro _ w1 _ _ K hK
      go_step
      exact hK
    simp only [Act.put, List.setIfInBounds_toArray, List.set_cons_succ, List.set_cons_zero, Nat.reduceAdd, List.nil_append, List.cons_append]
    refine mix_call (ev n) 45 (fun _ => #[.int .u64 (n : Int)]) (fun _ => rfl) (fun _ _ => by go_simp) (fun _ w1 _ _ => HS.out w1) ?_
    simp only [Act.put, List.setIfInBounds_toArray, List.set_cons_succ, List.set_cons_zero, Nat.reduceAdd, List.nil_append, List.cons_append]
    refine mix_op (Only.refl _) ?_ (fun _ => rfl) ?_ ?_
    rotate_left
    · intro _ w1 _ _ K hK
      go_step
      exact hK
    simp only [Act.put, List.setIfInBounds_toArray, List.set_cons_succ, List.set_cons_zero, Nat.reduceAdd, List.nil_append, List.cons_append]
    refine mix_op (Only.refl _) ?_ (fun _ => rfl) ?_ ?_
    rotate_left
    · intro _ w1 _ _ K hK
      go_step
      exact hK
    simp only [Act.put, List.setIfInBounds_toArray, List.set_cons_succ, List.set_cons_zero, Nat.reduceAdd, List.nil_append, List.cons_append]
    refine mix_nil ?_
    intro V w3 hE hR
    simp only [allR, and_true] at hR
    replace ho := ho.drew.trans hE
    clear hE hR hb0' hb5' hb7
    have hq := HQ.out
    go_wp2_with fail
    go_ret
    exact ⟨rfl, ho⟩
  · have hd := fun w1 => decode_no x HX.out hp w1
    have HD := Lib.hid hd
    clear hd
    have hz := fun w1 => eq_zero 0 (by decide) w1
    rw [decide_eq_true rfl] at hz
    have HZ := Lib.hid hz
    clear hz
    by_cases hh : W255 ≤ x
    · rw [decide_eq_true hh]
      clear hh hp
      refine (HD.out _).mono ?_
      rintro r w5 ⟨rfl, ho5⟩
      replace hb5' := ho5.blk hb5' (by simp); replace ho := ho.trans ho5
      clear ho5 hb0'
      have hb7 : Blk (w5.alloc (.cells (lc 0) 37)) w5.heap.size (lc 0) 37 := Blk.new _ _ _
      replace hb5' := hb5'.alloc (.cells (lc 0) 37); replace ho := ho.alloc (.cells (lc 0) 37)
      go_wp2_with fail
      generalize w5.alloc (.cells (lc 0) 37) = w6 at *
      generalize w5.heap.size = g7 at *
      refine region_mix mixed 4 [0, 1, 3, 3, 15, 31, 63] (by kernel_rfl) (Only []) (Only.refl _) (fun _ _ _ => Only.trans) ?_
      simp only [List.take_succ_cons, List.take_zero, List.drop_succ_cons, List.drop_zero]
      refine mix_op (Only.refl _) ?_ (fun _ => rfl) ?_ ?_
      rotate_left
      · intro _ w1 _ _ K hK
        go_step
        exact hK
      simp only [Act.put, List.setIfInBounds_toArray, List.set_cons_succ, List.set_cons_zero, Nat.zero_add, List.nil_append]
      refine mix_op (Only.refl _) ?_ (fun _ => rfl) ?_ ?_
      rotate_left
      · intro _ w1 _ _ K hK
        go_step
        exact hK
      simp only [Act.put, List.setIfInBounds_toArray, List.set_cons_succ, List.set_cons_zero, Nat.reduceAdd, List.nil_append, List.cons_append]
      refine mix_skip (fun _ => rfl) ?_
      simp only [Act.put, List.setIfInBounds_toArray, List.set_cons_succ, List.set_cons_zero, Nat.reduceAdd, List.nil_append, List.cons_append]
      refine mix_skip (fun _ => rfl) ?_
      simp only [Act.put, List.setIfInBounds_toArray, List.set_cons_succ, List.set_cons_zero, Nat.reduceAdd, List.nil_append, List.cons_append]
      refine mix_nil ?_
      intro V w3 hE hR
      simp only [allR, and_true] at hR
      replace hb7 := hE.blk hb7.drew (by simp); replace ho := ho.drew.trans hE
      clear hE hR hb5'
      obtain ⟨q0, q1, q2, q3, qf⟩ := hb7.four
      have hz := HZ.out
      go_wp2_with fail
      go_ret
      exact ⟨rfl, ho⟩
    · rw [decide_eq_false hh]
      have hxx : x % W255 = x := Nat.mod_eq_of_lt (by omega)
      have hl := fun w1 => rless_any x P255 (by omega) p255_lt w1
      rw [decide_eq_false hp] at hl
      have HL := Lib.hid hl
      rw [hxx] at hb5' ⊢
      clear hl hxx hh hp hb0'
      refine (HD.out _).mono ?_
      rintro r w5 ⟨rfl, ho5⟩
      replace hb5' := ho5.blk hb5' (by simp); replace ho := ho.trans ho5
      clear ho5
      have hb7 : Blk (w5.alloc (.cells (lc 0) 37)) w5.heap.size (lc 0) 37 := Blk.new _ _ _
      replace hb5' := hb5'.alloc (.cells (lc 0) 37); replace ho := ho.alloc (.cells (lc 0) 37)
      go_wp2_with fail
      generalize w5.alloc (.cells (lc 0) 37) = w6 at *
      generalize w5.heap.size = g7 at *
      refine region_mix mixed 4 [0, 1, 3, 3, 15, 31, 63] (by kernel_rfl) (Only []) (Only.refl _) (fun _ _ _ => Only.trans) ?_
      simp only [List.take_succ_cons, List.take_zero, List.drop_succ_cons, List.drop_zero]
      refine mix_op (Only.refl _) ?_ (fun _ => rfl) ?_ ?_
      rotate_left
      · intro _ w1 _ _ K hK
        go_step
        exact hK
      simp only [Act.put, List.setIfInBounds_toArray, List.set_cons_succ, List.set_cons_zero, Nat.zero_add, List.nil_append]
      refine mix_op (Only.refl _) ?_ (fun _ => rfl) ?_ ?_
      rotate_left
      · intro _ w1 _ _ K hK
        go_step
        exact hK
      simp only [Act.put, List.setIfInBounds_toArray, List.set_cons_succ, List.set_cons_zero, Nat.reduceAdd, List.nil_append, List.cons_append]
      refine mix_ld (Only.refl _) (cs := rc x) (fun w3 hE => hE.blk hb5'.drew (by simp)) isRow39 size39 _ rfl (fun _ => rfl) (fun _ => rfl) ?_
      simp only [Act.put, List.setIfInBounds_toArray, List.set_cons_succ, List.set_cons_zero, Nat.reduceAdd, List.nil_append, List.cons_append]
      refine mix_call (rv P255) 35 (fun _ => #[]) (fun _ => rfl) (fun _ _ => by go_simp) (fun _ w1 _ _ => rp_any w1) ?_
      simp only [Act.put, List.setIfInBounds_toArray, List.set_cons_succ, List.set_cons_zero, Nat.reduceAdd, List.nil_append, List.cons_append]
      refine mix_nil ?_
      intro V w3 hE hR
      simp only [allR, and_true] at hR
      replace hb7 := hE.blk hb7.drew (by simp); replace ho := ho.drew.trans hE
      clear hE hR hb5'
      go_wp2_with fail
      refine (HL.out _).mono ?_
      rintro r w8 ⟨rfl, ho8⟩
      replace hb7 := ho8.blk hb7 (by simp); replace ho := ho.trans ho8
      clear ho8
      obtain ⟨q0, q1, q2, q3, qf⟩ := hb7.four
      have hz := HZ.out
      go_wp2_with fail
      go_ret
      exact ⟨rfl, ho⟩

theorem walk (x n : Nat) (hx : x < W256) (hn : n < 18446744073709551616) (w : World) :
    Calls Try.prog 9 #[.agg (arrk .u8 32 (dg 8 x)), .int .u64 (n : Int)] w fun r w' => r = .returned (.bool true) ∧ Below w.heap.size w w' :=
  (walk0 x n hx hn w).mono fun _ _ h => ⟨h.1, h.2.toGrow⟩

/-! ### THE ROW's STEP -/
set_option maxRecDepth 100000 in
theorem lifted (os : Os) (started : os.Started) (H : Type) (enc : TypeId × Value → H) :
    ReturnsInHanded {} Try.checked os 9 .any (Rows.fieldBytesSpec.pre6 enc Try.prog Try.f9 Rows.fieldBytesRow.domain false) (Rows.fieldBytesSpec.post enc Try.prog Try.f9 false true false false) := by
  refine returnsInHanded_of_change (C := Try.checked) own started (by kernel_rfl) Try.func9
    (ChangeSpec.witness6 (enc := enc) (C := Try.checked) false ⟨#[], #[.agg zb, .int .u64 0], []⟩ 8 (by kernel_rfl) (by kernel_rfl) (by kernel_rfl) (by kernel_rfl)) ?_
  intro W base args ds gs before hval0 hW hcnd _
  have hval : ∀ (j : Nat) t v, Try.f9.params[j]? = some t → args[j]? = some v → Value.okWide Try.prog W .any base t v := hval0
  have hW' := hW
  obtain ⟨p, q, hA0, hV, rfl, hfz, hnd⟩ := hW
  have hA : DataW.TrodAll enc Try.prog W 0 (fun _ => true) true Try.f9.params.toList args.toList ds p := hA0
  rw [Try.params9] at hA hval
  obtain ⟨v0, vs0, d0, ds0, p0, q0, hargs, rfl, rfl, h0, r0⟩ := trodAll_cons hA
  obtain ⟨v1, vs1, d1, ds1, p1, q1, rfl, rfl, rfl, h1, r1⟩ := trodAll_cons r0
  obtain ⟨rfl, rfl, rfl⟩ := trodAll_nil r1
  obtain rfl : args = #[v0, v1] := by cases args; simp_all
  obtain ⟨rfl, rfl⟩ := trodVars_none hV
  have k0 := h0
  obtain ⟨x0, l0, rfl⟩ := open_bytes (hval 0 67 v0 rfl rfl) h0
  obtain ⟨a1, rfl, rfl, rfl, w1⟩ := open_int Try.underlying35 (hval 1 35 v1 rfl rfl) h1
  obtain ⟨n, rfl, l1⟩ := wf_u64 w1
  clear hA0 hval0
  refine (walk x0 n l0 l1 W).mono fun e W' ⟨he, bel⟩ => ?_
  subst he
  exact ⟨_, rfl, _, _, _, [], _, [], hW', trodAll_mk1 (shut_bool Try.underlying4 _), (trodAll_cons_mk (Below.trod laidOut (by kernel_rfl) (of_decide_eq_true (by kernel_rfl)) k0 bel (trod_places k0)) (trodAll_cons_mk (shut_int Try.underlying35 w1) trodAll_mk0)), rfl, bel.frame _, fun h => by cases h⟩

theorem over : Rows.fieldBytesRow.holds Try.pinned (OpenSpec.ofChange Rows.fieldBytesSpec) :=
  OpenClaim.holds_of_wide 9 Try.f9 rfl rfl rfl rfl rfl rfl rfl ⟨rfl, rfl, rfl, rfl, rfl⟩ rfl rfl rfl rfl rfl (by kernel_rfl) Try.func9 (by kernel_rfl)
    (of_decide_eq_true (by kernel_rfl)) (by unfold Func.isWrapper; first | (rw [if_pos (by decide +kernel)]; kernel_rfl) | (rw [if_neg (by decide +kernel)]; exact ⟨rfl, rfl⟩))
    (fun os started H enc _ => lifted os started H enc)

/-- ████ THE STATEMENT ████ -/
theorem proved : Rows.FieldBytesSaid := over
#print axioms proved
end Go.Proofs.Ytmlahbmaomoiaaa.fieldBytes
