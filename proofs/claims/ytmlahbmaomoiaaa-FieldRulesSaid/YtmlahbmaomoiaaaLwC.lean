/-
  Field: Encode, Decode.
-/
import Derived.Test.YtmlahbmaomoiaaaLwB
namespace Go.Proofs.Ytmlahbmaomoiaaa
open Go.RowKit

theorem info5b : (Try.prog.info? 5).map (fun i => (i.zero, i.size, i.bytes)) = some (some (.int .u8 0), 1, 1) := by kernel_rfl
theorem size5 (w : World) : (sizeOf 5).run Try.prog w = .ok 1 w := by
  obtain ⟨i, hi, _, hs, _⟩ := info_parts info5b
  exact size1 5 i hi hs w
theorem run_index_b (d : Nat → Nat) (i : Nat) (hi : i < 32) (w : World) : (Instr.index 67 (.agg (arrk .u8 32 d)) (.int .i64 (i : Int))).run Try.prog w = .ok (.int .u8 ((d i : Nat) : Int)) w :=
  run_index_arr 67 5 32 .u8 .i64 Try.underlying67 Try.underlying5 size5 _ i _ hi (arrk_get _ _ _ i hi) w
theorem eq_bv (d : Nat → Nat) (w : World) : (binOp .eql 67 (.agg (arrk .u8 32 d)) (.agg (arrk .u8 32 d))).run Try.prog w = .ok (.bool true) w := by
  have e : arrk .u8 32 d = (((List.range 32).map fun i => ((d i : Nat) : Int)).map (Value.int .u8)).toArray := by
    unfold arrk; rw [List.map_map]; rfl
  rw [e, run_eql_ints w 67 5 32 .u8 Try.underlying67 Try.underlying5 size5 _ _ (by simp) (by simp), decide_eq_true rfl]

theorem eqIn_bv (d : Nat → Nat) (w : World) : (Op.equalIn 10000 67 (.agg (arrk .u8 32 d)) (.agg (arrk .u8 32 d))).run Try.prog w = .ok true w := by
  have e : arrk .u8 32 d = (((List.range 32).map fun i => ((d i : Nat) : Int)).map (Value.int .u8)).toArray := by
    unfold arrk; rw [List.map_map]; rfl
  have h := run_equalIn_ints w 9998 67 5 32 .u8 Try.underlying67 Try.underlying5 size5 ((List.range 32).map fun i => ((d i : Nat) : Int)) ((List.range 32).map fun i => ((d i : Nat) : Int)) (by simp) (by simp)
  rw [decide_eq_true rfl, ← e] at h
  exact h
theorem eqIn_ev (x y : Nat) (hx : x < W256) (hy : y < W256) (w : World) : (Op.equalIn 10000 37 (ev x) (ev y)).run Try.prog w = .ok (decide (x = y)) w := by
  have h := run_equalIn_ints w 9998 37 35 4 .u64 Try.underlying37 Try.underlying35 size35 (li x) (li y) rfl rfl
  rw [li_inj x y hx hy] at h
  exact h

theorem ev_small (n : Nat) (hn : n < 18446744073709551616) : ev n = .agg #[.int .u64 (n : Int), .int .u64 0, .int .u64 0, .int .u64 0] := by
  have e0 : limb n 0 = n := by rw [limb0]; omega
  have e1 : limb n 1 = 0 := by rw [limb1]; omega
  have e2 : limb n 2 = 0 := by rw [limb2]; omega
  have e3 : limb n 3 = 0 := by rw [limb3]; omega
  unfold ev; rw [e0, e1, e2, e3]; rfl
theorem eq_small (x n : Nat) (hx : x < W256) (hn : n < 18446744073709551616) (w : World) : (binOp .eql 37 (ev x) (.agg #[.int .u64 (n : Int), .int .u64 0, .int .u64 0, .int .u64 0])).run Try.prog w = .ok (.bool (decide (x = n))) w := by
  rw [← ev_small n hn]; exact eq_ev x n hx (Nat.lt_trans hn (by decide)) w
theorem eq_zero (x : Nat) (hx : x < W256) (w : World) : (binOp .eql 37 (ev x) (.agg #[.int .u64 0, .int .u64 0, .int .u64 0, .int .u64 0])).run Try.prog w = .ok (.bool (decide (x = 0))) w :=
  eq_small x 0 hx (by decide) w
theorem neq_zero (x : Nat) (hx : x < W256) (w : World) : (binOp .neq 37 (ev x) (.agg #[.int .u64 0, .int .u64 0, .int .u64 0, .int .u64 0])).run Try.prog w = .ok (.bool (!decide (x = 0))) w := by
  have h : (.agg #[.int .u64 0, .int .u64 0, .int .u64 0, .int .u64 0] : Value) = ev 0 := (ev_small 0 (by decide)).symm
  rw [h]; exact neq_ev x 0 hx (by decide) w

set_option maxRecDepth 100000 in
set_option maxHeartbeats 1000000 in
theorem encode_any (x : Nat) (w : World) : Calls Try.prog 53 #[ev x] w fun e w' => e = .returned (.agg (arrk .u8 32 (dg 8 x))) ∧ Only [] w w' := by
  go_enter Try.func53, Try.ntmps53
  go_wp2_with fail
  go_loopw [5] (fun c wr => ∃ i : Nat, c = .int .i64 (i : Int) ∧ i ≤ 32 ∧ Blk wr w.heap.size (lc x) 37 ∧ Blk wr (w.heap.size + 1) (arrk .u8 32 fun _ => 0) 67 ∧ Blk wr (w.heap.size + 1 + 1) (arrk .u8 32 fun j => if j < i then dg 8 x j else 0) 67 ∧ Only [] w wr) (fun c _ => 32 - (intOf c).toNat)
  case atStart =>
    refine ⟨0, rfl, by omega, ((Blk.new _ _ _).alloc _).alloc _, (show Blk _ _ (arrk .u8 32 fun _ => 0) 67 from (Blk.newAt _ _ (by simp)).alloc _), (show Blk _ _ (arrk .u8 32 fun _ => 0) 67 from Blk.newAt _ _ (by simp)), (((Only.refl _ _).alloc _).alloc _).alloc _⟩
  case round =>
    obtain ⟨i, rfl, hi, hbx, hbr, hbo, ho⟩ := hrel
    by_cases hlt : i < 32
    · have hl : (i : Int) < 32 := by omega
      have h8 : i / 8 < 4 := by omega
      have qe := (hbx.cell (i / 8)).trans (lc_get x (i / 8) h8)
      have cx := (hbo.cell i).trans (arrk_get _ _ _ i hlt)
      have fx := hbo.free i
      have hv : (((limb x (i / 8) : Nat) : Int) / 2 ^ (8 * (i % 8))) % 256 = ((dg 8 x i : Nat) : Int) := by
        have h4 : (2 : Int) ^ (8 * (i % 8)) = ((2 ^ (8 * (i % 8)) : Nat) : Int) := (Int.natCast_pow 2 _).symm
        rw [h4, ← byte_limb, ← Int.natCast_ediv]; omega
      have hset := hbo.set i (.int .u8 ((dg 8 x i : Nat) : Int))
      rw [arrk_put, arrk_congr (e := fun j => if j < i + 1 then dg 8 x j else 0) (fun j hj => by
        simp only [put]
        by_cases hjk : j = i
        · subst hjk; simp
        · rw [if_neg hjk]; by_cases hj2 : j < i
          · rw [if_pos hj2, if_pos (by omega)]
          · rw [if_neg hj2, if_neg (by omega)])] at hset
      have HV := Lib.hid hv; have HS := Lib.hid hset; clear hv hset
      go_wp2_with fail
      rw [HV.out]
      go_roundw
      case rel => exact ⟨i + 1, by go_num, by omega, hbx.far (by simp; omega) _, hbr.far (by simp) _, HS.out, ho.setCell (.inr (by simp; omega)) _⟩
      case measure => simp [intOf]; omega
    · have hie : i = 32 := by omega
      subst hie
      rw [arrk_congr (e := dg 8 x) (fun j hj => if_pos hj)] at hbo
      go_wp2_with (first | refine load_nc rfl _ rfl rfl (by assumption) ?_ | refine load_bc rfl _ rfl rfl (by assumption) ?_ | refine store_nc rfl _ _ rfl rfl rfl (by assumption) ?_ | refine store_bc rfl _ _ rfl rfl rfl (by assumption) ?_)
      exact post_bc (d := dg 8 x) rfl (hbr.setRow _) rfl rfl ⟨rfl, ho.setRow (.inr (by omega)) _⟩

/-- What is there of a number's limbs behind i bytes. -/
theorem limb_byte (x i : Nat) (j : Nat) : limb (x % 2 ^ (8 * (i + 1))) j = put (limb (x % 2 ^ (8 * i))) (i / 8) (limb (x % 2 ^ (8 * i)) (i / 8) + dg 8 x i * 2 ^ (8 * (i % 8))) j ∧ limb (x % 2 ^ (8 * i)) (i / 8) < 2 ^ (8 * (i % 8)) := by
  have e1 : x % 2 ^ (8 * (i + 1)) = x % 2 ^ (8 * i) + 2 ^ (8 * i) * dg 8 x i := by
    rw [show 8 * (i + 1) = 8 * i + 8 from by omega, Nat.pow_add, Nat.mod_mul]; rfl
  have hz := Nat.mod_lt x (Nat.two_pow_pos (8 * i))
  have hd := dg_lt 8 x i
  rw [e1]
  generalize x % 2 ^ (8 * i) = z at *
  generalize dg 8 x i = b at *
  have e2 : (2 : Nat) ^ (8 * i) = 2 ^ (8 * (i % 8)) * 2 ^ (64 * (i / 8)) := by rw [← Nat.pow_add]; congr 1; omega
  have hq : z / 2 ^ (64 * (i / 8)) < 2 ^ (8 * (i % 8)) := by rw [Nat.div_lt_iff_lt_mul (Nat.two_pow_pos _), ← e2]; exact hz
  have hp : (2 : Nat) ^ (8 * (i % 8)) * 256 ≤ 18446744073709551616 := by
    have : (2 : Nat) ^ (8 * (i % 8)) * 2 ^ 8 ≤ 2 ^ 64 := by rw [← Nat.pow_add]; exact Nat.pow_le_pow_right (by decide) (by omega)
    exact this
  have h0 : limb z (i / 8) = z / 2 ^ (64 * (i / 8)) := by unfold limb; exact Nat.mod_eq_of_lt (by omega)
  have hbp : 2 ^ (8 * (i % 8)) * b ≤ 2 ^ (8 * (i % 8)) * 255 := Nat.mul_le_mul_left _ (by omega)
  refine ⟨?_, by rw [h0]; exact hq⟩
  unfold put
  by_cases h1 : j = i / 8
  · rw [if_pos h1, h0, h1]
    unfold limb
    rw [e2, Nat.mul_assoc, Nat.mul_comm (2 ^ (64 * (i / 8))), ← Nat.mul_assoc, Nat.add_mul_div_right _ _ (Nat.two_pow_pos _), Nat.mul_comm b]
    exact Nat.mod_eq_of_lt (by omega)
  · rw [if_neg h1]
    unfold limb
    by_cases h2 : j < i / 8
    · obtain ⟨q, hq2⟩ : ∃ q, 8 * i = 64 * j + 64 + q := ⟨8 * i - 64 * j - 64, by omega⟩
      rw [hq2, Nat.pow_add, Nat.pow_add, Nat.mul_assoc, Nat.mul_assoc, Nat.add_mul_div_left _ _ (Nat.two_pow_pos _), Nat.add_mul_mod_self_left]
    · have h3 : 8 * (i + 1) ≤ 64 * j := by omega
      have h4 : (2 : Nat) ^ (8 * i) * 256 ≤ 2 ^ (64 * j) := by
        have : (2 : Nat) ^ (8 * i) * 2 ^ 8 ≤ 2 ^ (64 * j) := by rw [← Nat.pow_add]; exact Nat.pow_le_pow_right (by decide) (by omega)
        exact this
      have h5 : 2 ^ (8 * i) * b ≤ 2 ^ (8 * i) * 255 := Nat.mul_le_mul_left _ (by omega)
      rw [Nat.div_eq_of_lt (by omega), Nat.div_eq_of_lt (by omega)]
theorem lc_put (x i v : Nat) (hi : i < 4) (y : Nat) (h : ∀ j, limb y j = put (limb x) i v j) : (lc x).setIfInBounds i (.int .u64 ((v : Nat) : Int)) = lc y := by
  unfold lc
  rw [h 0, h 1, h 2, h 3]
  have : i = 0 ∨ i = 1 ∨ i = 2 ∨ i = 3 := by omega
  rcases this with rfl | rfl | rfl | rfl <;> simp [put]

theorem or_byte (x i : Nat) (_hi : i < 32) : bits .or .u64 ((limb (x % 2 ^ (8 * i)) (i / 8) : Nat) : Int) (IntKind.u64.wrap (((dg 8 x i : Nat) : Int) * 2 ^ (8 * (i % 8)))) = ((limb (x % 2 ^ (8 * i)) (i / 8) + dg 8 x i * 2 ^ (8 * (i % 8)) : Nat) : Int) := by
  have h1 := (limb_byte x i 0).2
  have hd := dg_lt 8 x i
  have hp : (2 : Nat) ^ (8 * (i % 8)) * 256 ≤ 18446744073709551616 := by
    have : (2 : Nat) ^ (8 * (i % 8)) * 2 ^ 8 ≤ 2 ^ 64 := by rw [← Nat.pow_add]; exact Nat.pow_le_pow_right (by decide) (by omega)
    exact this
  have hb : dg 8 x i * 2 ^ (8 * (i % 8)) < 18446744073709551616 := by
    have h2 : dg 8 x i * 2 ^ (8 * (i % 8)) ≤ 255 * 2 ^ (8 * (i % 8)) := Nat.mul_le_mul_right _ (by omega)
    have h3 : 0 < 2 ^ (8 * (i % 8)) := Nat.two_pow_pos _
    omega
  have e : ((dg 8 x i : Nat) : Int) * 2 ^ (8 * (i % 8)) = ((dg 8 x i * 2 ^ (8 * (i % 8)) : Nat) : Int) := by
    rw [Int.natCast_mul, Int.natCast_pow]; rfl
  rw [e, Mul64.wrapN _ hb, bits_or_u64_nat _ _ (limb_lt _ _) hb, Nat.or_comm, Nat.mul_comm (dg 8 x i), ← Nat.two_pow_add_eq_or_of_lt h1, Nat.add_comm]

set_option maxRecDepth 100000 in
set_option maxHeartbeats 2000000 in
theorem decode_loop (x : Nat) (hx : x < W256) (w : World) (post : Ending → World → Prop)
    (hpost : ∀ w', Only [] w w' → ∀ v e, (x < P255 → v = ev x ∧ e = 0) → (¬ x < P255 → v = ev 0 ∧ e = 7) → post (.returned (.tuple #[v, .int .i64 e])) w') :
    Calls Try.prog 52 #[.agg (arrk .u8 32 (dg 8 x))] w post := by
  have HX := Lib.hid hx; have HP := Lib.hid hpost
  clear hx hpost
  go_enter Try.func52, Try.ntmps52
  go_wp2_with (refine ldRow (cs := arrk .u8 32 (dg 8 x)) (((Blk.new _ _ _).alloc _).alloc _) isRow67 size67 rfl _ rfl rfl ?_)
  have hidx := fun (i : Nat) (hi : i < 32) (w1 : World) => run_index_b (dg 8 x) i hi w1
  have HIDX := Lib.hid hidx; clear hidx
  go_loopw [8] (fun c wr => ∃ i : Nat, c = .int .i64 (i : Int) ∧ i ≤ 32 ∧ Blk wr (w.heap.size + 1) (lc 0) 37 ∧ Blk wr (w.heap.size + 1 + 1) (lc (x % 2 ^ (8 * i))) 37 ∧ Only [] w wr) (fun c _ => 32 - (intOf c).toNat)
  case atStart =>
    have e0 : x % 2 ^ (8 * 0) = 0 := by rw [Nat.mul_zero, Nat.pow_zero, Nat.mod_one]
    refine ⟨0, rfl, by omega, (Blk.newAt _ _ (by simp)).alloc _, ?_, (((Only.refl _ _).alloc _).alloc _).alloc _⟩
    rw [e0]; exact Blk.newAt _ _ (by simp)
  case round =>
    obtain ⟨i, rfl, hi, hbr, hbo, ho⟩ := hrel
    by_cases hlt : i < 32
    · have hl : (i : Int) < 32 := by omega
      have h4 : i / 8 < 4 := by omega
      have hx1 := fun w1 : World => HIDX.out i hlt w1
      have hd8 := dg_lt 8 x i
      go_wp2_with fail
      clear hx1
      refine region_mix mixed 10 [0, 1, 3, 7, 0, 16, 0, 64, 192, 496, 1023, 2047, 4095] (by kernel_rfl) (Only []) (Only.refl _) (fun _ _ _ => Only.trans) ?_
      simp only [List.take_succ_cons, List.take_zero, List.drop_succ_cons, List.drop_zero]
      refine mix_op (Only.refl _) ?_ (fun _ => rfl) ?_ ?_
      rotate_left
      · intro _ w1 _ _ K hK
        go_step
        exact hK
      simp only [Act.put, List.setIfInBounds_toArray, List.set_cons_succ, List.set_cons_zero, Nat.zero_add]
      refine mix_op (Only.refl _) ?_ (fun _ => rfl) ?_ ?_
      rotate_left
      · intro _ w1 _ _ K hK
        go_step
        exact hK
      simp only [Act.put, List.setIfInBounds_toArray, List.set_cons_succ, List.set_cons_zero, Nat.reduceAdd]
      refine mix_op (Only.refl _) ?_ (fun _ => rfl) ?_ ?_
      rotate_left
      · intro _ w1 _ _ K hK
        go_step
        exact hK
      simp only [Act.put, List.setIfInBounds_toArray, List.set_cons_succ, List.set_cons_zero, Nat.reduceAdd]
      refine mix_op (Only.refl _) ?_ (fun _ => rfl) ?_ ?_
      rotate_left
      · intro _ w1 hE _ K hK
        have fact0 := ((hE.blk hbo.drew (by simp)).cell (i / 8)).trans (lc_get _ (i / 8) h4)
        go_step
        exact hK
      simp only [Act.put, List.setIfInBounds_toArray, List.set_cons_succ, List.set_cons_zero, Nat.reduceAdd]
      refine mix_op (Only.refl _) ?_ (fun _ => rfl) ?_ ?_
      rotate_left
      · intro _ w1 _ _ K hK
        go_step
        exact hK
      simp only [Act.put, List.setIfInBounds_toArray, List.set_cons_succ, List.set_cons_zero, Nat.reduceAdd]
      refine mix_op (Only.refl _) ?_ (fun _ => rfl) ?_ ?_
      rotate_left
      · intro _ w1 _ _ K hK
        go_step
        exact hK
      simp only [Act.put, List.setIfInBounds_toArray, List.set_cons_succ, List.set_cons_zero, Nat.reduceAdd]
      refine mix_op (Only.refl _) ?_ (fun _ => rfl) ?_ ?_
      rotate_left
      · intro _ w1 _ _ K hK
        go_step
        exact hK
      simp only [Act.put, List.setIfInBounds_toArray, List.set_cons_succ, List.set_cons_zero, Nat.reduceAdd]
      refine mix_op (Only.refl _) ?_ (fun _ => rfl) ?_ ?_
      rotate_left
      · intro _ w1 _ _ K hK
        go_step
        exact hK
      simp only [Act.put, List.setIfInBounds_toArray, List.set_cons_succ, List.set_cons_zero, Nat.reduceAdd]
      refine mix_op (Only.refl _) ?_ (fun _ => rfl) ?_ ?_
      rotate_left
      · intro _ w1 _ _ K hK
        go_step
        exact hK
      simp only [Act.put, List.setIfInBounds_toArray, List.set_cons_succ, List.set_cons_zero, Nat.reduceAdd]
      refine mix_op (Only.refl _) ?_ (fun _ => rfl) ?_ ?_
      rotate_left
      · intro _ w1 _ _ K hK
        go_step
        exact hK
      simp only [Act.put, List.setIfInBounds_toArray, List.set_cons_succ, List.set_cons_zero, Nat.reduceAdd]
      refine mix_nil ?_
      intro V w3 hE hR
      simp only [allR, List.nil_append, List.cons_append, and_true] at hR
      replace ho := ho.drew.trans hE
      replace hbr := hE.blk hbr.drew (by simp)
      replace hbo := hE.blk hbo.drew (by simp)
      have fx := hbo.free (i / 8)
      have cx := (hbo.cell (i / 8)).trans (lc_get _ (i / 8) h4)
      have hset := hbo.set (i / 8) (.int .u64 ((limb (x % 2 ^ (8 * i)) (i / 8) + dg 8 x i * 2 ^ (8 * (i % 8)) : Nat) : Int))
      rw [lc_put _ _ _ h4 (x % 2 ^ (8 * (i + 1))) (fun j => (limb_byte x i j).1)] at hset
      have HV := Lib.hid (or_byte x i hlt); have HS := Lib.hid hset
      clear hset hE hR
      go_wp2_with fail
      rw [HV.out]
      go_roundw
      case rel => exact ⟨i + 1, by go_num, by omega, hbr.far (by simp) _, HS.out, ho.setCell (.inr (by simp; omega)) _⟩
      case measure => simp [intOf]; omega
    · have hie : i = 32 := by omega
      subst hie
      have e1 : x % 2 ^ (8 * 32) = x := Nat.mod_eq_of_lt HX.out
      rw [e1] at hbo
      clear e1 hi hlt
      have hless := fun w1 : World => less_any x P255 HX.out p_lt w1
      have HL := Lib.hid hless; clear hless
      go_wp2_with fail
      refine region_mix mixed 2 [0, 0, 3, 7] (by kernel_rfl) (Only []) (Only.refl _) (fun _ _ _ => Only.trans) ?_
      simp only [List.take_succ_cons, List.take_zero, List.drop_succ_cons, List.drop_zero]
      refine mix_ld (Only.refl _) (cs := lc x) (fun w3 hE => hE.blk hbo.drew (by simp)) isRow37 size37 _ rfl (fun _ => rfl) (fun _ => rfl) ?_
      simp only [Act.put, List.setIfInBounds_toArray, List.set_cons_succ, List.set_cons_zero, Nat.zero_add]
      refine mix_call (ev P255) 90 (fun _ => #[]) (fun _ => rfl) (fun _ _ => by go_simp) (fun _ w1 _ _ => modulus_any w1) ?_
      simp only [Act.put, List.setIfInBounds_toArray, List.set_cons_succ, List.set_cons_zero, Nat.reduceAdd]
      refine mix_nil ?_
      intro V w3 hE hR
      simp only [allR, List.nil_append, List.cons_append, and_true] at hR
      replace ho := ho.drew.trans hE
      replace hbr := hE.blk hbr.drew (by simp)
      replace hbo := hE.blk hbo.drew (by simp)
      clear hE hR
      go_wp2_with fail
      refine (HL.out _).mono ?_
      rintro e w4 ⟨rfl, ho4⟩
      replace ho := ho.trans ho4
      replace hbr := ho4.blk hbr (by simp)
      replace hbo := ho4.blk hbo (by simp)
      clear ho4
      obtain ⟨r0, r1, r2, r3, rf⟩ := hbr.four
      obtain ⟨q0, q1, q2, q3, qf⟩ := hbo.four
      by_cases hlt : x < P255
      · rw [decide_eq_true hlt]
        go_wp2_with fail
        refine post_ct (cs := lc x) (v := .int .i64 0) rfl (hbr.set4 _ _ _ _) isRow37 size37 rfl rfl rfl ?_
        exact HP.out _ (ho.set4 (b := w.heap.size + 1) (.inr (by omega)) _ _ _ _) (ev x) 0 (fun _ => ⟨rfl, rfl⟩) (fun h => absurd hlt h)
      · rw [decide_eq_false hlt]
        go_wp2_with fail
        refine post_ct (cs := lc 0) (v := .int .i64 7) rfl (hbr.set4 _ _ _ _) isRow37 size37 rfl rfl rfl ?_
        exact HP.out _ (ho.set4 (b := w.heap.size + 1) (.inr (by omega)) _ _ _ _) (ev 0) 7 (fun h => absurd h hlt) (fun _ => ⟨rfl, rfl⟩)
theorem decode_ok (x : Nat) (hx : x < P255) (w : World) : Calls Try.prog 52 #[.agg (arrk .u8 32 (dg 8 x))] w fun e w' => e = .returned (.tuple #[ev x, .int .i64 0]) ∧ Only [] w w' :=
  decode_loop x (Nat.lt_trans hx p_lt) w _ fun _ ho _ _ h _ => by obtain ⟨rfl, rfl⟩ := h hx; exact ⟨rfl, ho⟩
theorem decode_no (x : Nat) (hx : x < W256) (hn : ¬ x < P255) (w : World) : Calls Try.prog 52 #[.agg (arrk .u8 32 (dg 8 x))] w fun e w' => e = .returned (.tuple #[ev 0, .int .i64 7]) ∧ Only [] w w' :=
  decode_loop x hx w _ fun _ ho _ _ _ h => by obtain ⟨rfl, rfl⟩ := h hn; exact ⟨rfl, ho⟩
end Go.Proofs.Ytmlahbmaomoiaaa
