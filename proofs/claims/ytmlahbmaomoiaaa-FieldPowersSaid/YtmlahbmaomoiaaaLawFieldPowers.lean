/-
  PROVED: bosunlaw05.FieldPowers returns true for every input (every two arrays of four numbers of sixty-four bits), and each argument reads afterwards as it read before. Conditions: none.
-/
import Derived.Test.YtmlahbmaomoiaaaRows
import Derived.Test.YtmlahbmaomoiaaaLwA
import Derived.Test.YtmlahbmaomoiaaaOpn
namespace Go.Proofs.Ytmlahbmaomoiaaa.fieldPowers
open Go.ChangeShapes Go.WideShapes Go.ChangeAt Go.RowKit
set_option linter.unusedVariables false

theorem own : ownKnob Try.prog.godebug = none := by kernel_rfl
theorem laidOut : laidOutB Try.prog = true := by kernel_rfl

set_option maxRecDepth 100000 in
set_option maxHeartbeats 1000000 in
theorem walk (x e : Nat) (hx : x < W256) (he : e < W256) (w : World) :
    Calls Try.prog 4 #[ev x, ev e] w fun r w' => r = .returned (.bool true) ∧ Below w.heap.size w w' := by
  suffices h : Calls Try.prog 4 #[ev x, ev e] w fun r w' => r = .returned (.bool true) ∧ Only [] w w' from h.mono fun _ _ h => ⟨h.1, h.2.toGrow⟩
  have HN := Lib.hid fun w1 => num_any x hx w1
  have hm5 : x % P255 < W255 := Nat.lt_trans (Nat.mod_lt _ (by decide)) p255_lt
  have hm6 : x % P255 < W256 := Nat.lt_trans hm5 (by decide)
  clear hx
  generalize x % P255 = m at *
  have HP := Lib.hid fun w1 => power_any m e hm6 he w1
  have HR := Lib.hid fun w1 => rpower_any m e hm5 he w1
  have HI := Lib.hid fun w1 => invert_any m hm6 w1
  have HJ := Lib.hid fun w1 => rinvert_any m hm5 w1
  have hk1 := fun w1 => like_any (powN m e) (powN m e) (powN_lt m e) (powN_lt255 m e) w1
  have hk2 := fun w1 => like_any (invN m) (invN m) (powN_lt m _) (powN_lt255 m _) w1
  rw [decide_eq_true rfl] at hk1 hk2
  generalize powN m e = z at *
  generalize invN m = y at *
  have HK1 := Lib.hid hk1; have HK2 := Lib.hid hk2
  clear hk1 hk2 hm5 hm6 he
  have hba : Blk ((w.alloc (.cells (lc x) 36)).alloc (.cells (lc e) 36)) (w.heap.size + 1) (lc e) 36 := Blk.newAt _ _ (by simp)
  have ho : Only [] w ((w.alloc (.cells (lc x) 36)).alloc (.cells (lc e) 36)) := ((Only.refl _ _).alloc _).alloc _
  go_enter Try.func4, Try.ntmps4
  go_wp2_with fail
  refine (lives05 _).mono ?_
  rintro r w1 ⟨rfl, ho1⟩
  have hbx := ho1.blk ((Blk.new w (lc x) 36).alloc (.cells (lc e) 36)) (by simp)
  replace hba := ho1.blk hba (by simp)
  replace ho := ho.trans ho1
  clear ho1
  obtain ⟨q0, q1, q2, q3, qf⟩ := hbx.four
  go_wp2_with fail
  refine (HN.out _).mono ?_
  rintro r w2 ⟨rfl, ho2⟩
  replace hba := ho2.blk hba (by simp)
  replace ho := ho.trans ho2
  have hlt := hba.lt
  clear ho2 q0 q1 q2 q3 qf hbx
  have hbn : Blk ((w2.alloc (.cells (lc m) 37)).alloc (.cells zc 39)) (w2.heap.size + 1) (nc fun _ => 0) 39 := Blk.newAt _ _ (by simp)
  have hbm : Blk ((w2.alloc (.cells (lc m) 37)).alloc (.cells zc 39)) w2.heap.size (lc m) 37 := (Blk.new _ _ _).alloc _
  replace hba := (hba.alloc (.cells (lc m) 37)).alloc (.cells zc 39)
  replace ho := (ho.alloc (.cells (lc m) 37)).alloc (.cells zc 39)
  generalize hB : w2.heap.size = b2 at *
  go_wp2_with (first | refine load_nc rfl _ rfl rfl (by assumption) ?_ | refine load_bc rfl _ rfl rfl (by assumption) ?_ | refine store_nc rfl _ _ rfl rfl rfl (by assumption) ?_ | refine store_bc rfl _ _ rfl rfl rfl (by assumption) ?_)
  replace hbm := hbm.farRow (g := b2 + 1) (by omega) (nc (dig m))
  replace hba := hba.farRow (g := b2 + 1) (by omega) (nc (dig m))
  replace hbn := hbn.setRow (nc (dig m))
  replace ho := ho.setRow (g := b2 + 1) (.inr (by omega)) (nc (dig m))
  generalize ((w2.alloc (.cells (lc m) 37)).alloc (.cells zc 39)).setRow (b2 + 1) (nc (dig m)) = w5 at *
  refine region_mix mixed 11 [0, 0, 3, 0, 0, 31, 63, 127, 255, 511, 255, 2047, 4095, 8191, 16383] (by kernel_rfl) (Only []) (Only.refl _) (fun _ _ _ => Only.trans) ?_
  simp only [List.take_succ_cons, List.take_zero, List.drop_succ_cons, List.drop_zero]
  refine mix_ld (Only.refl _) (cs := lc m) (fun w3 hE => hE.blk hbm.drew (by simp)) isRow37 size37 _ rfl (fun V => rfl) (fun V => rfl) ?_
  simp only [Act.put, List.setIfInBounds_toArray, List.set_cons_succ, List.set_cons_zero, Nat.reduceAdd, Nat.zero_add]
  refine mix_ld (Only.refl _) (cs := lc e) (fun w3 hE => hE.blk hba.drew (by simp)) isRow36 size36 _ rfl (fun V => rfl) (fun V => rfl) ?_
  simp only [Act.put, List.setIfInBounds_toArray, List.set_cons_succ, List.set_cons_zero, Nat.reduceAdd, Nat.zero_add]
  refine mix_call (ev z) 26 (fun V => #[ev m, ev e]) (fun V => rfl) (fun V w1 => by go_simp) (fun V w1 hE hF => HP.out w1) ?_
  simp only [Act.put, List.setIfInBounds_toArray, List.set_cons_succ, List.set_cons_zero, Nat.reduceAdd, Nat.zero_add]
  refine mix_ld (Only.refl _) (cs := rc m) (fun w3 hE => hE.blk hbn.drew (by simp)) isRow39 size39 _ rfl (fun V => rfl) (fun V => rfl) ?_
  simp only [Act.put, List.setIfInBounds_toArray, List.set_cons_succ, List.set_cons_zero, Nat.reduceAdd, Nat.zero_add]
  refine mix_ld (Only.refl _) (cs := lc e) (fun w3 hE => hE.blk hba.drew (by simp)) isRow36 size36 _ rfl (fun V => rfl) (fun V => rfl) ?_
  simp only [Act.put, List.setIfInBounds_toArray, List.set_cons_succ, List.set_cons_zero, Nat.reduceAdd, Nat.zero_add]
  refine mix_call (rv z) 27 (fun V => #[rv m, ev e]) (fun V => rfl) (fun V w1 => by go_simp) (fun V w1 hE hF => HR.out w1) ?_
  simp only [Act.put, List.setIfInBounds_toArray, List.set_cons_succ, List.set_cons_zero, Nat.reduceAdd, Nat.zero_add]
  refine mix_call (.bool true) 25 (fun V => #[ev z, rv z]) (fun V => rfl) (fun V w1 => by go_simp) (fun V w1 hE hF => HK1.out w1) ?_
  simp only [Act.put, List.setIfInBounds_toArray, List.set_cons_succ, List.set_cons_zero, Nat.reduceAdd, Nat.zero_add]
  refine mix_op (Only.refl _) ?_ (fun V => rfl) ?_ ?_
  rotate_left
  · intro V w1 hE hF K hK
    go_step
    exact hK
  simp only [Act.put, List.setIfInBounds_toArray, List.set_cons_succ, List.set_cons_zero, Nat.reduceAdd, Nat.zero_add]
  refine mix_ld (Only.refl _) (cs := lc m) (fun w3 hE => hE.blk hbm.drew (by simp)) isRow37 size37 _ rfl (fun V => rfl) (fun V => rfl) ?_
  simp only [Act.put, List.setIfInBounds_toArray, List.set_cons_succ, List.set_cons_zero, Nat.reduceAdd, Nat.zero_add]
  refine mix_call (ev y) 28 (fun V => #[ev m]) (fun V => rfl) (fun V w1 => by go_simp) (fun V w1 hE hF => HI.out w1) ?_
  simp only [Act.put, List.setIfInBounds_toArray, List.set_cons_succ, List.set_cons_zero, Nat.reduceAdd, Nat.zero_add]
  refine mix_ld (Only.refl _) (cs := rc m) (fun w3 hE => hE.blk hbn.drew (by simp)) isRow39 size39 _ rfl (fun V => rfl) (fun V => rfl) ?_
  simp only [Act.put, List.setIfInBounds_toArray, List.set_cons_succ, List.set_cons_zero, Nat.reduceAdd, Nat.zero_add]
  refine mix_nil ?_
  intro V w3 hE hR
  simp only [allR, List.nil_append, List.cons_append, true_and, and_true] at hR
  replace ho := ho.drew.trans hE
  clear hR hE hbm hbn hba
  go_wp2_with fail
  refine (HJ.out _).mono ?_
  rintro r w6 ⟨rfl, ho6⟩
  go_wp2_with fail
  refine (HK2.out _).mono ?_
  rintro r w7 ⟨rfl, ho7⟩
  go_wp2_with fail
  go_ret
  exact ⟨rfl, (ho.trans ho6).trans ho7⟩

/-! ### THE ROW's STEP -/
set_option maxRecDepth 100000 in
theorem lifted (os : Os) (started : os.Started) (H : Type) (enc : TypeId × Value → H) :
    ReturnsInHanded {} Try.checked os 4 .any (Rows.fieldPowersSpec.pre6 enc Try.prog Try.f4 Rows.fieldPowersRow.domain false) (Rows.fieldPowersSpec.post enc Try.prog Try.f4 false true false false) := by
  refine returnsInHanded_of_change (C := Try.checked) own started (by kernel_rfl) Try.func4
    (ChangeSpec.witness6 (enc := enc) (C := Try.checked) false ⟨#[], #[.agg #[.int .u64 0, .int .u64 0, .int .u64 0, .int .u64 0], .agg #[.int .u64 0, .int .u64 0, .int .u64 0, .int .u64 0]], []⟩ 8 (by kernel_rfl) (by kernel_rfl) (by kernel_rfl) (by kernel_rfl)) ?_
  intro W base args ds gs before hval0 hW hcnd _
  have hval : ∀ (j : Nat) t v, Try.f4.params[j]? = some t → args[j]? = some v → Value.okWide Try.prog W .any base t v := hval0
  have hW' := hW
  obtain ⟨p, q, hA0, hV, rfl, hfz, hnd⟩ := hW
  have hA : DataW.TrodAll enc Try.prog W 0 (fun _ => true) true Try.f4.params.toList args.toList ds p := hA0
  rw [Try.params4] at hA hval
  obtain ⟨v0, vs0, d0, ds0, p0, q0, hargs, rfl, rfl, h0, r0⟩ := trodAll_cons hA
  obtain ⟨v1, vs1, d1, ds1, p1, q1, rfl, rfl, rfl, h1, r1⟩ := trodAll_cons r0
  obtain ⟨rfl, rfl, rfl⟩ := trodAll_nil r1
  obtain rfl : args = #[v0, v1] := by cases args; simp_all
  obtain ⟨rfl, rfl⟩ := trodVars_none hV
  have k0 := h0
  have k1 := h1
  obtain ⟨x0, l0, rfl⟩ := open_limbs (hval 0 36 v0 rfl rfl) h0
  obtain ⟨x1, l1, rfl⟩ := open_limbs (hval 1 36 v1 rfl rfl) h1
  clear hA0 hval0
  refine (walk x0 x1 l0 l1 W).mono fun e W' ⟨he, bel⟩ => ?_
  subst he
  exact ⟨_, rfl, _, _, _, [], _, [], hW', trodAll_mk1 (shut_bool Try.underlying4 _), (trodAll_cons_mk (Below.trod laidOut (by kernel_rfl) (of_decide_eq_true (by kernel_rfl)) k0 bel (trod_places k0)) (trodAll_cons_mk (Below.trod laidOut (by kernel_rfl) (of_decide_eq_true (by kernel_rfl)) k1 bel (trod_places k1)) trodAll_mk0)), rfl, bel.frame _, fun h => by cases h⟩

theorem over : Rows.fieldPowersRow.holds Try.pinned (OpenSpec.ofChange Rows.fieldPowersSpec) :=
  OpenClaim.holds_of_wide 4 Try.f4 rfl rfl rfl rfl rfl rfl rfl ⟨rfl, rfl, rfl, rfl, rfl⟩ rfl rfl rfl rfl rfl (by kernel_rfl) Try.func4 (by kernel_rfl)
    (of_decide_eq_true (by kernel_rfl)) (by unfold Func.isWrapper; first | (rw [if_pos (by decide +kernel)]; kernel_rfl) | (rw [if_neg (by decide +kernel)]; exact ⟨rfl, rfl⟩))
    (fun os started H enc _ => lifted os started H enc)

/-- ████ THE STATEMENT ████ -/
theorem proved : Rows.FieldPowersSaid := over
#print axioms proved
end Go.Proofs.Ytmlahbmaomoiaaa.fieldPowers
