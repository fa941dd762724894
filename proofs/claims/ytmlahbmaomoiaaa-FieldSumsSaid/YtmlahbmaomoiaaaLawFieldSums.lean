/-
  PROVED: bosunlaw05.FieldSums returns true for every input (every three arrays of four numbers of sixty-four bits), and each argument reads afterwards as it read before. Conditions: none.
-/
import Derived.Test.YtmlahbmaomoiaaaRows
import Derived.Test.YtmlahbmaomoiaaaLwB
import Derived.Test.YtmlahbmaomoiaaaOpn
namespace Go.Proofs.Ytmlahbmaomoiaaa.fieldSums
open Go.ChangeShapes Go.WideShapes Go.ChangeAt Go.RowKit
set_option linter.unusedVariables false

theorem own : ownKnob Try.prog.godebug = none := by kernel_rfl
theorem laidOut : laidOutB Try.prog = true := by kernel_rfl

set_option maxRecDepth 100000 in
set_option maxHeartbeats 4000000 in
theorem walk0 (x y z : Nat) (hx : x < W256) (hy : y < W256) (hz : z < W256) (w : World) :
    Calls Try.prog 6 #[ev x, ev y, ev z] w fun r w' => r = .returned (.bool true) ∧ Only [] w w' := by
  have HN0 := Lib.hid fun w1 => num_any x hx w1
  have HN1 := Lib.hid fun w1 => num_any y hy w1
  have HN2 := Lib.hid fun w1 => num_any z hz w1
  have hm : x % P255 < P255 := Nat.mod_lt _ (by decide)
  have hn : y % P255 < P255 := Nat.mod_lt _ (by decide)
  have ho' : z % P255 < P255 := Nat.mod_lt _ (by decide)
  clear hx hy hz
  generalize x % P255 = m at *
  generalize y % P255 = n at *
  generalize z % P255 = o at *
  have p5 : ∀ a, a < P255 → a < W255 := fun a h => Nat.lt_trans h p255_lt
  have p6 : ∀ a, a < P255 → a < W256 := fun a h => Nat.lt_trans h p_lt
  have hs1 : (m + n) % P255 < P255 := Nat.mod_lt _ (by decide)
  have hs2 : ((m + n) % P255 + o) % P255 < P255 := Nat.mod_lt _ (by decide)
  have hp1 : m * n % P255 < P255 := Nat.mod_lt _ (by decide)
  have hp2 : m * n % P255 * o % P255 < P255 := Nat.mod_lt _ (by decide)
  have hsb : subN m n < P255 := Nat.mod_lt _ (by decide)
  have three : ∀ a ∈ [m, n, o], a < W256 := fun a ha => by
    simp only [List.mem_cons, List.not_mem_nil, or_false] at ha
    rcases ha with rfl | rfl | rfl
    · exact p6 _ hm
    · exact p6 _ hn
    · exact p6 _ ho'
  have ha := fun (base : Nat) (v : Value) (w1 : World) (h : MadeAt base 3 3 (cells3 [m, n, o]).toArray 37 v w1) => add_made [m, n, o] rfl three (by simp) h
  have hu := fun (base : Nat) (v : Value) (w1 : World) (h : MadeAt base 3 3 (cells3 [m, n, o]).toArray 37 v w1) => mul_made [m, n, o] rfl three (by simp) h
  rw [addN_three] at ha
  rw [mulN_three] at hu
  have ra1 := fun w1 => radd_any m n (p5 _ hm) (p5 _ hn) w1
  have ra2 := fun w1 => radd_any ((m + n) % P255) o (p5 _ hs1) (p5 _ ho') w1
  have rm1 := fun w1 => rmul_any m n (p5 _ hm) (p5 _ hn) w1
  have rm2 := fun w1 => rmul_any (m * n % P255) o (p5 _ hp1) (p5 _ ho') w1
  have sb := fun w1 => sub_any m n (p6 _ hm) (Nat.le_of_lt hn) w1
  have rs := fun w1 => rsub_any m n (p5 _ hm) (Nat.le_of_lt hn) w1
  rw [rsub_sub m n hn] at rs
  have ng := fun w1 => neg_any m (Nat.le_of_lt hm) w1
  have rn := fun w1 => rneg_any m (Nat.le_of_lt hm) w1
  rw [negN_r m hm] at rn
  have hng := negN_ltP m
  have k1 := fun w1 => like_any ((((m + n) % P255) + o) % P255) ((((m + n) % P255) + o) % P255) (p6 _ hs2) (p5 _ hs2) w1
  have k2 := fun w1 => like_any (subN m n) (subN m n) (p6 _ hsb) (p5 _ hsb) w1
  have k3 := fun w1 => like_any (m * n % P255 * o % P255) (m * n % P255 * o % P255) (p6 _ hp2) (p5 _ hp2) w1
  have k4 := fun w1 => like_any (negN m) (negN m) (p6 _ hng) (p5 _ hng) w1
  have k5 := fun w1 => like_any 0 0 (by decide) (by decide) w1
  have k6 := fun w1 => like_any 1 1 (by decide) (by decide) w1
  rw [decide_eq_true rfl] at k1 k2 k3 k4 k5 k6
  have s0 := fun w1 => rsmall_any 0 (by decide) w1
  have s1 := fun w1 => rsmall_any 1 (by decide) w1
  rw [show 0 % P255 = 0 from rfl] at s0
  rw [show 1 % P255 = 1 from rfl] at s1
  clear hm hn ho' hs1 hs2 hp1 hp2 hsb hng three p5 p6
  generalize ((m + n) % P255 + o) % P255 = sum at *
  generalize (m + n) % P255 = sum1 at *
  generalize m * n % P255 * o % P255 = pro at *
  generalize m * n % P255 = pro1 at *
  generalize subN m n = dif at *
  generalize negN m = neg at *
  have HA := Lib.hid ha; have HU := Lib.hid hu; have RA1 := Lib.hid ra1; have RA2 := Lib.hid ra2; have RM1 := Lib.hid rm1; have RM2 := Lib.hid rm2
  have SB := Lib.hid sb; have RS := Lib.hid rs; have NG := Lib.hid ng; have RN := Lib.hid rn
  have K1 := Lib.hid k1; have K2 := Lib.hid k2; have K3 := Lib.hid k3; have K4 := Lib.hid k4; have K5 := Lib.hid k5; have K6 := Lib.hid k6
  have S0 := Lib.hid s0; have S1 := Lib.hid s1
  clear ha hu ra1 ra2 rm1 rm2 sb rs ng rn k1 k2 k3 k4 k5 k6 s0 s1
  have a0 : Blk (((w.alloc (.cells (lc x) 36)).alloc (.cells (lc y) 36)).alloc (.cells (lc z) 36)) w.heap.size (lc x) 36 := ((Blk.new _ _ _).alloc _).alloc _
  have a1 : Blk (((w.alloc (.cells (lc x) 36)).alloc (.cells (lc y) 36)).alloc (.cells (lc z) 36)) (w.heap.size + 1) (lc y) 36 := (Blk.newAt _ _ (by simp)).alloc _
  have a2 : Blk (((w.alloc (.cells (lc x) 36)).alloc (.cells (lc y) 36)).alloc (.cells (lc z) 36)) (w.heap.size + 1 + 1) (lc z) 36 := Blk.newAt _ _ (by simp)
  have ho : Only [] w (((w.alloc (.cells (lc x) 36)).alloc (.cells (lc y) 36)).alloc (.cells (lc z) 36)) := (((Only.refl _ _).alloc _).alloc _).alloc _
  go_enter Try.func6, Try.ntmps6
  go_wp2_with fail
  refine (lives05 _).mono ?_
  rintro r w1 ⟨rfl, ho1⟩
  replace a0 := ho1.blk a0 (by simp); replace a1 := ho1.blk a1 (by simp); replace a2 := ho1.blk a2 (by simp); replace ho := ho.trans ho1
  obtain ⟨q0, q1, q2, q3, qf⟩ := a0.four
  go_wp2_with fail
  refine (HN0.out _).mono ?_
  rintro r w2 ⟨rfl, ho2⟩
  replace a1 := ho2.blk a1 (by simp); replace a2 := ho2.blk a2 (by simp); replace ho := ho.trans ho2
  have z2 := zc_new w2 m
  clear q0 q1 q2 q3 qf
  have a1' : Blk (((w2.alloc (.cells (lc m) 37)).alloc (.cells zc 39)).setRow (w2.heap.size + 1) (nc (dig m))) (w.heap.size + 1) (lc y) 36 := afterNum_blk a1 m
  obtain ⟨q0, q1, q2, q3, qf⟩ := a1'.four
  go_wp2_with (refine store_nc rfl _ _ rfl rfl rfl (by assumption) ?_)
  refine (HN1.out _).mono ?_
  rintro r w3 ⟨rfl, ho3⟩
  have ho3' : Only [] (afterNum w2 m) w3 := ho3
  have bx := ho3'.blk (afterNum_e w2 m) (by simp); have bxr := ho3'.blk (afterNum_r w2 m) (by simp)
  replace a2 := ho3'.blk (afterNum_blk a2 m) (by simp); replace ho := (afterNum_only ho m).trans ho3'
  clear ho3 ho3' z2 a1 a1' ho2 ho1 a0
  generalize w2.heap.size = g2 at *
  have z2 := zc_new w3 n
  clear q0 q1 q2 q3 qf
  have a2' : Blk (((w3.alloc (.cells (lc n) 37)).alloc (.cells zc 39)).setRow (w3.heap.size + 1) (nc (dig n))) (w.heap.size + 1 + 1) (lc z) 36 := afterNum_blk a2 n
  obtain ⟨q0, q1, q2, q3, qf⟩ := a2'.four
  go_wp2_with (refine store_nc rfl _ _ rfl rfl rfl (by assumption) ?_)
  refine (HN2.out _).mono ?_
  rintro r w4 ⟨rfl, ho4⟩
  have ho4' : Only [] (afterNum w3 n) w4 := ho4
  replace bx := ho4'.blk (afterNum_blk bx n) (by simp); replace bxr := ho4'.blk (afterNum_blk bxr n) (by simp)
  have cy := ho4'.blk (afterNum_e w3 n) (by simp); have cyr := ho4'.blk (afterNum_r w3 n) (by simp)
  replace ho := (afterNum_only ho n).trans ho4'
  clear ho4 ho4' z2 a2 a2'
  clear q0 q1 q2 q3 qf
  generalize w3.heap.size = g3 at *
  have z2 := zc_new w4 o
  go_wp2_with (refine store_nc rfl _ _ rfl rfl rfl (by assumption) ?_)
  replace bx := afterNum_blk bx o; replace bxr := afterNum_blk bxr o; replace cy := afterNum_blk cy o; replace cyr := afterNum_blk cyr o
  have dz := afterNum_e w4 o; have dzr := afterNum_r w4 o
  replace ho := afterNum_only ho o
  clear z2
  obtain ⟨w5, hw5⟩ : ∃ w5, w5 = afterNum w4 o := ⟨_, rfl⟩
  rw [show ((w4.alloc (.cells (lc o) 37)).alloc (.cells zc 39)).setRow (w4.heap.size + 1) (nc (dig o)) = w5 from hw5.symm]
  rw [← hw5] at bx bxr cy cyr dz dzr ho
  clear hw5
  generalize w4.heap.size = g4 at *
  refine region_mix mixed 6 [0, 0, 3, 0, 15, 0, 63] (by kernel_rfl) (Only []) (Only.refl _) (fun _ _ _ => Only.trans) ?_
  simp only [List.take_succ_cons, List.take_zero, List.drop_succ_cons, List.drop_zero]
  refine mix_ld (Only.refl _) (cs := rc m) (fun w3 hE => hE.blk bxr.drew (by simp)) isRow39 size39 _ rfl (fun _ => rfl) (fun _ => rfl) ?_
  simp only [Act.put, List.setIfInBounds_toArray, List.set_cons_succ, List.set_cons_zero, Nat.zero_add, List.nil_append]
  refine mix_ld (Only.refl _) (cs := rc n) (fun w3 hE => hE.blk cyr.drew (by simp)) isRow39 size39 _ rfl (fun _ => rfl) (fun _ => rfl) ?_
  simp only [Act.put, List.setIfInBounds_toArray, List.set_cons_succ, List.set_cons_zero, Nat.reduceAdd, List.nil_append, List.cons_append]
  refine mix_call (rv sum1) 38 (fun _ => #[rv m, rv n]) (fun _ => rfl) (fun _ _ => by go_simp) (fun _ w1 _ _ => RA1.out w1) ?_
  simp only [Act.put, List.setIfInBounds_toArray, List.set_cons_succ, List.set_cons_zero, Nat.reduceAdd, List.nil_append, List.cons_append]
  refine mix_ld (Only.refl _) (cs := rc o) (fun w3 hE => hE.blk dzr.drew (by simp)) isRow39 size39 _ rfl (fun _ => rfl) (fun _ => rfl) ?_
  simp only [Act.put, List.setIfInBounds_toArray, List.set_cons_succ, List.set_cons_zero, Nat.reduceAdd, List.nil_append, List.cons_append]
  refine mix_call (rv sum) 38 (fun _ => #[rv sum1, rv o]) (fun _ => rfl) (fun _ _ => by go_simp) (fun _ w1 _ _ => RA2.out w1) ?_
  simp only [Act.put, List.setIfInBounds_toArray, List.set_cons_succ, List.set_cons_zero, Nat.reduceAdd, List.nil_append, List.cons_append]
  refine mix_root (NewAt (w5.heap.size) (nc fun _ => 0) 39) NewAt.only (fun _ => rfl) ?_ ?_
  · intro _ w1 hE _ K hK
    go_step
    exact hK _ _ ((Only.refl _ _).alloc _) ⟨_, rfl, Blk.new _ _ _, hE.size⟩
  simp only [Act.put, List.setIfInBounds_toArray, List.set_cons_succ, List.set_cons_zero, Nat.reduceAdd, List.nil_append, List.cons_append]
  refine mix_nil ?_
  intro V w3 hE hR
  simp only [allR, true_and, and_true] at hR
  obtain ⟨g13, hv, hs, hle⟩ := hR
  simp only [hv]
  clear hv
  have l1 := bx.lt; have l2 := bxr.lt; have l3 := cy.lt; have l4 := cyr.lt; have l5 := dz.lt; have l6 := dzr.lt
  replace bx := (hE.blk bx.drew (by simp)).farRow (g := g13) (by omega) (nc (dig sum)); replace bxr := (hE.blk bxr.drew (by simp)).farRow (g := g13) (by omega) (nc (dig sum))
  replace cy := (hE.blk cy.drew (by simp)).farRow (g := g13) (by omega) (nc (dig sum)); replace cyr := (hE.blk cyr.drew (by simp)).farRow (g := g13) (by omega) (nc (dig sum))
  replace dz := (hE.blk dz.drew (by simp)).farRow (g := g13) (by omega) (nc (dig sum)); replace dzr := (hE.blk dzr.drew (by simp)).farRow (g := g13) (by omega) (nc (dig sum))
  have bs := hs.setRow (nc (dig sum))
  replace ho := (ho.drew.trans hE).setRow (g := g13) (.inr (by have := ho.size; omega)) (nc (dig sum))
  clear hE hle l1 l2 l3 l4 l5 l6
  go_wp2_with (first | refine load_nc rfl _ rfl rfl (by assumption) ?_ | refine load_bc rfl _ rfl rfl (by assumption) ?_ | refine store_nc rfl _ _ rfl rfl rfl (by assumption) ?_ | refine store_bc rfl _ _ rfl rfl rfl (by assumption) ?_)
  clear hs
  generalize w3.setRow g13 (nc (dig sum)) = w6 at *
  refine region_mix mixed 6 [0, 0, 3, 0, 15, 0, 63] (by kernel_rfl) (Only []) (Only.refl _) (fun _ _ _ => Only.trans) ?_
  simp only [List.take_succ_cons, List.take_zero, List.drop_succ_cons, List.drop_zero]
  refine mix_ld (Only.refl _) (cs := rc m) (fun w3 hE => hE.blk bxr.drew (by simp)) isRow39 size39 _ rfl (fun _ => rfl) (fun _ => rfl) ?_
  simp only [Act.put, List.setIfInBounds_toArray, List.set_cons_succ, List.set_cons_zero, Nat.zero_add, List.nil_append]
  refine mix_ld (Only.refl _) (cs := rc n) (fun w3 hE => hE.blk cyr.drew (by simp)) isRow39 size39 _ rfl (fun _ => rfl) (fun _ => rfl) ?_
  simp only [Act.put, List.setIfInBounds_toArray, List.set_cons_succ, List.set_cons_zero, Nat.reduceAdd, List.nil_append, List.cons_append]
  refine mix_call (rv pro1) 39 (fun _ => #[rv m, rv n]) (fun _ => rfl) (fun _ _ => by go_simp) (fun _ w1 _ _ => RM1.out w1) ?_
  simp only [Act.put, List.setIfInBounds_toArray, List.set_cons_succ, List.set_cons_zero, Nat.reduceAdd, List.nil_append, List.cons_append]
  refine mix_ld (Only.refl _) (cs := rc o) (fun w3 hE => hE.blk dzr.drew (by simp)) isRow39 size39 _ rfl (fun _ => rfl) (fun _ => rfl) ?_
  simp only [Act.put, List.setIfInBounds_toArray, List.set_cons_succ, List.set_cons_zero, Nat.reduceAdd, List.nil_append, List.cons_append]
  refine mix_call (rv pro) 39 (fun _ => #[rv pro1, rv o]) (fun _ => rfl) (fun _ _ => by go_simp) (fun _ w1 _ _ => RM2.out w1) ?_
  simp only [Act.put, List.setIfInBounds_toArray, List.set_cons_succ, List.set_cons_zero, Nat.reduceAdd, List.nil_append, List.cons_append]
  refine mix_root (NewAt (w6.heap.size) (nc fun _ => 0) 39) NewAt.only (fun _ => rfl) ?_ ?_
  · intro _ w1 hE _ K hK
    go_step
    exact hK _ _ ((Only.refl _ _).alloc _) ⟨_, rfl, Blk.new _ _ _, hE.size⟩
  simp only [Act.put, List.setIfInBounds_toArray, List.set_cons_succ, List.set_cons_zero, Nat.reduceAdd, List.nil_append, List.cons_append]
  refine mix_nil ?_
  intro V w3 hE hR
  simp only [allR, true_and, and_true] at hR
  obtain ⟨g14, hv, hs, hle⟩ := hR
  simp only [hv]
  clear hv
  have l1 := bx.lt; have l2 := bxr.lt; have l3 := cy.lt; have l4 := cyr.lt; have l5 := dz.lt; have l6 := dzr.lt; have l7 := bs.lt
  replace bx := (hE.blk bx.drew (by simp)).farRow (g := g14) (by omega) (nc (dig pro)); replace bxr := (hE.blk bxr.drew (by simp)).farRow (g := g14) (by omega) (nc (dig pro))
  replace cy := (hE.blk cy.drew (by simp)).farRow (g := g14) (by omega) (nc (dig pro)); replace cyr := (hE.blk cyr.drew (by simp)).farRow (g := g14) (by omega) (nc (dig pro))
  replace dz := (hE.blk dz.drew (by simp)).farRow (g := g14) (by omega) (nc (dig pro)); replace dzr := (hE.blk dzr.drew (by simp)).farRow (g := g14) (by omega) (nc (dig pro))
  replace bs := (hE.blk bs.drew (by simp)).farRow (g := g14) (by omega) (nc (dig pro))
  have bp := hs.setRow (nc (dig pro))
  replace ho := (ho.drew.trans hE).setRow (g := g14) (.inr (by have := ho.size; omega)) (nc (dig pro))
  clear hE hle l1 l2 l3 l4 l5 l6 l7
  go_wp2_with (first | refine load_nc rfl _ rfl rfl (by assumption) ?_ | refine load_bc rfl _ rfl rfl (by assumption) ?_ | refine store_nc rfl _ _ rfl rfl rfl (by assumption) ?_ | refine store_bc rfl _ _ rfl rfl rfl (by assumption) ?_)
  clear hs
  generalize w3.setRow g14 (nc (dig pro)) = w8 at *
  refine region_mix mixed 49 [0, 0, 0, 7, 15, 0, 63, 127, 255, 255, 1023, 255, 255, 8191, 16383, 32767, 65535, 131071, 131071, 131071, 1048575, 2097151, 131071, 8388607, 16777215, 33554431, 67108863, 134217727, 67108863, 536870911, 1073741823, 2147483647, 4294967295, 8589934591, 17179869183, 34359738367, 68719476735, 137438953471, 274877906943, 549755813887, 1099511627775, 2199023255551, 4398046511103, 8796093022207, 17592186044415, 8796093022207, 43980465111039, 114349209288703, 255086697644031, 562949953421311, 1125899906842623, 2251799813685247] (by kernel_rfl) (Only []) (Only.refl _) (fun _ _ _ => Only.trans) ?_
  simp only [List.take_succ_cons, List.take_zero, List.drop_succ_cons, List.drop_zero]
  refine mix_ld (Only.refl _) (cs := lc m) (fun w3 hE => hE.blk bx.drew (by simp)) isRow37 size37 _ rfl (fun _ => rfl) (fun _ => rfl) ?_
  simp only [Act.put, List.setIfInBounds_toArray, List.set_cons_succ, List.set_cons_zero, Nat.zero_add, List.nil_append]
  refine mix_ld (Only.refl _) (cs := lc n) (fun w3 hE => hE.blk cy.drew (by simp)) isRow37 size37 _ rfl (fun _ => rfl) (fun _ => rfl) ?_
  simp only [Act.put, List.setIfInBounds_toArray, List.set_cons_succ, List.set_cons_zero, Nat.reduceAdd, List.nil_append, List.cons_append]
  refine mix_ld (Only.refl _) (cs := lc o) (fun w3 hE => hE.blk dz.drew (by simp)) isRow37 size37 _ rfl (fun _ => rfl) (fun _ => rfl) ?_
  simp only [Act.put, List.setIfInBounds_toArray, List.set_cons_succ, List.set_cons_zero, Nat.reduceAdd, List.nil_append, List.cons_append]
  refine mix_root (MadeAt (w8.heap.size) 3 3 (cells3 [m, n, o]).toArray 37) MadeAt.only (fun _ => rfl) ?_ ?_
  · intro _ w1 hE _ K hK
    go_step
    exact hK _ _ ((Only.refl _ _).alloc _) ⟨_, rfl, Blk.new _ _ _, hE.size⟩
  simp only [Act.put, List.setIfInBounds_toArray, List.set_cons_succ, List.set_cons_zero, Nat.reduceAdd, List.nil_append, List.cons_append]
  refine mix_call (ev sum) 40 (fun V => #[V 3]) (fun _ => rfl) (fun _ _ => by go_simp) (fun _ w1 _ hF => by simp only [facts, Nat.reduceMod, Nat.reduceDiv, forall_const, true_and, and_true] at hF; exact HA.out _ _ w1 hF) ?_
  simp only [Act.put, List.setIfInBounds_toArray, List.set_cons_succ, List.set_cons_zero, Nat.reduceAdd, List.nil_append, List.cons_append]
  refine mix_ld (Only.refl _) (cs := rc sum) (fun w3 hE => hE.blk bs.drew (by simp)) isRow39 size39 _ rfl (fun _ => rfl) (fun _ => rfl) ?_
  simp only [Act.put, List.setIfInBounds_toArray, List.set_cons_succ, List.set_cons_zero, Nat.reduceAdd, List.nil_append, List.cons_append]
  refine mix_call (.bool true) 25 (fun _ => #[ev sum, rv sum]) (fun _ => rfl) (fun _ _ => by go_simp) (fun _ w1 _ _ => K1.out w1) ?_
  simp only [Act.put, List.setIfInBounds_toArray, List.set_cons_succ, List.set_cons_zero, Nat.reduceAdd, List.nil_append, List.cons_append]
  refine mix_op (Only.refl _) ?_ (fun _ => rfl) ?_ ?_
  rotate_left
  · intro _ w1 _ _ K hK
    go_step
    exact hK
  simp only [Act.put, List.setIfInBounds_toArray, List.set_cons_succ, List.set_cons_zero, Nat.reduceAdd, List.nil_append, List.cons_append]
  refine mix_ld (Only.refl _) (cs := lc m) (fun w3 hE => hE.blk bx.drew (by simp)) isRow37 size37 _ rfl (fun _ => rfl) (fun _ => rfl) ?_
  simp only [Act.put, List.setIfInBounds_toArray, List.set_cons_succ, List.set_cons_zero, Nat.reduceAdd, List.nil_append, List.cons_append]
  refine mix_ld (Only.refl _) (cs := lc n) (fun w3 hE => hE.blk cy.drew (by simp)) isRow37 size37 _ rfl (fun _ => rfl) (fun _ => rfl) ?_
  simp only [Act.put, List.setIfInBounds_toArray, List.set_cons_succ, List.set_cons_zero, Nat.reduceAdd, List.nil_append, List.cons_append]
  refine mix_call (ev dif) 41 (fun _ => #[ev m, ev n]) (fun _ => rfl) (fun _ _ => by go_simp) (fun _ w1 _ _ => SB.out w1) ?_
  simp only [Act.put, List.setIfInBounds_toArray, List.set_cons_succ, List.set_cons_zero, Nat.reduceAdd, List.nil_append, List.cons_append]
  refine mix_ld (Only.refl _) (cs := rc m) (fun w3 hE => hE.blk bxr.drew (by simp)) isRow39 size39 _ rfl (fun _ => rfl) (fun _ => rfl) ?_
  simp only [Act.put, List.setIfInBounds_toArray, List.set_cons_succ, List.set_cons_zero, Nat.reduceAdd, List.nil_append, List.cons_append]
  refine mix_ld (Only.refl _) (cs := rc n) (fun w3 hE => hE.blk cyr.drew (by simp)) isRow39 size39 _ rfl (fun _ => rfl) (fun _ => rfl) ?_
  simp only [Act.put, List.setIfInBounds_toArray, List.set_cons_succ, List.set_cons_zero, Nat.reduceAdd, List.nil_append, List.cons_append]
  refine mix_call (rv dif) 42 (fun _ => #[rv m, rv n]) (fun _ => rfl) (fun _ _ => by go_simp) (fun _ w1 _ _ => RS.out w1) ?_
  simp only [Act.put, List.setIfInBounds_toArray, List.set_cons_succ, List.set_cons_zero, Nat.reduceAdd, List.nil_append, List.cons_append]
  refine mix_call (.bool true) 25 (fun _ => #[ev dif, rv dif]) (fun _ => rfl) (fun _ _ => by go_simp) (fun _ w1 _ _ => K2.out w1) ?_
  simp only [Act.put, List.setIfInBounds_toArray, List.set_cons_succ, List.set_cons_zero, Nat.reduceAdd, List.nil_append, List.cons_append]
  refine mix_op (Only.refl _) ?_ (fun _ => rfl) ?_ ?_
  rotate_left
  · intro _ w1 _ _ K hK
    go_step
    exact hK
  simp only [Act.put, List.setIfInBounds_toArray, List.set_cons_succ, List.set_cons_zero, Nat.reduceAdd, List.nil_append, List.cons_append]
  refine mix_op (Only.refl _) ?_ (fun _ => rfl) ?_ ?_
  rotate_left
  · intro _ w1 _ _ K hK
    go_step
    exact hK
  simp only [Act.put, List.setIfInBounds_toArray, List.set_cons_succ, List.set_cons_zero, Nat.reduceAdd, List.nil_append, List.cons_append]
  refine mix_ld (Only.refl _) (cs := lc m) (fun w3 hE => hE.blk bx.drew (by simp)) isRow37 size37 _ rfl (fun _ => rfl) (fun _ => rfl) ?_
  simp only [Act.put, List.setIfInBounds_toArray, List.set_cons_succ, List.set_cons_zero, Nat.reduceAdd, List.nil_append, List.cons_append]
  refine mix_ld (Only.refl _) (cs := lc n) (fun w3 hE => hE.blk cy.drew (by simp)) isRow37 size37 _ rfl (fun _ => rfl) (fun _ => rfl) ?_
  simp only [Act.put, List.setIfInBounds_toArray, List.set_cons_succ, List.set_cons_zero, Nat.reduceAdd, List.nil_append, List.cons_append]
  refine mix_ld (Only.refl _) (cs := lc o) (fun w3 hE => hE.blk dz.drew (by simp)) isRow37 size37 _ rfl (fun _ => rfl) (fun _ => rfl) ?_
  simp only [Act.put, List.setIfInBounds_toArray, List.set_cons_succ, List.set_cons_zero, Nat.reduceAdd, List.nil_append, List.cons_append]
  refine mix_root (MadeAt (w8.heap.size) 3 3 (cells3 [m, n, o]).toArray 37) MadeAt.only (fun _ => rfl) ?_ ?_
  · intro _ w1 hE _ K hK
    go_step
    exact hK _ _ ((Only.refl _ _).alloc _) ⟨_, rfl, Blk.new _ _ _, hE.size⟩
  simp only [Act.put, List.setIfInBounds_toArray, List.set_cons_succ, List.set_cons_zero, Nat.reduceAdd, List.nil_append, List.cons_append]
  refine mix_call (ev pro) 36 (fun V => #[V 20]) (fun _ => rfl) (fun _ _ => by go_simp) (fun _ w1 _ hF => by simp only [facts, Nat.reduceMod, Nat.reduceDiv, forall_const, true_and, and_true] at hF; exact HU.out _ _ w1 hF.2) ?_
  simp only [Act.put, List.setIfInBounds_toArray, List.set_cons_succ, List.set_cons_zero, Nat.reduceAdd, List.nil_append, List.cons_append]
  refine mix_ld (Only.refl _) (cs := rc pro) (fun w3 hE => hE.blk bp.drew (by simp)) isRow39 size39 _ rfl (fun _ => rfl) (fun _ => rfl) ?_
  simp only [Act.put, List.setIfInBounds_toArray, List.set_cons_succ, List.set_cons_zero, Nat.reduceAdd, List.nil_append, List.cons_append]
  refine mix_call (.bool true) 25 (fun _ => #[ev pro, rv pro]) (fun _ => rfl) (fun _ _ => by go_simp) (fun _ w1 _ _ => K3.out w1) ?_
  simp only [Act.put, List.setIfInBounds_toArray, List.set_cons_succ, List.set_cons_zero, Nat.reduceAdd, List.nil_append, List.cons_append]
  refine mix_op (Only.refl _) ?_ (fun _ => rfl) ?_ ?_
  rotate_left
  · intro _ w1 _ _ K hK
    go_step
    exact hK
  simp only [Act.put, List.setIfInBounds_toArray, List.set_cons_succ, List.set_cons_zero, Nat.reduceAdd, List.nil_append, List.cons_append]
  refine mix_op (Only.refl _) ?_ (fun _ => rfl) ?_ ?_
  rotate_left
  · intro _ w1 _ _ K hK
    go_step
    exact hK
  simp only [Act.put, List.setIfInBounds_toArray, List.set_cons_succ, List.set_cons_zero, Nat.reduceAdd, List.nil_append, List.cons_append]
  refine mix_ld (Only.refl _) (cs := lc m) (fun w3 hE => hE.blk bx.drew (by simp)) isRow37 size37 _ rfl (fun _ => rfl) (fun _ => rfl) ?_
  simp only [Act.put, List.setIfInBounds_toArray, List.set_cons_succ, List.set_cons_zero, Nat.reduceAdd, List.nil_append, List.cons_append]
  refine mix_call (ev neg) 37 (fun _ => #[ev m]) (fun _ => rfl) (fun _ _ => by go_simp) (fun _ w1 _ _ => NG.out w1) ?_
  simp only [Act.put, List.setIfInBounds_toArray, List.set_cons_succ, List.set_cons_zero, Nat.reduceAdd, List.nil_append, List.cons_append]
  refine mix_ld (Only.refl _) (cs := rc m) (fun w3 hE => hE.blk bxr.drew (by simp)) isRow39 size39 _ rfl (fun _ => rfl) (fun _ => rfl) ?_
  simp only [Act.put, List.setIfInBounds_toArray, List.set_cons_succ, List.set_cons_zero, Nat.reduceAdd, List.nil_append, List.cons_append]
  refine mix_call (rv neg) 43 (fun _ => #[rv m]) (fun _ => rfl) (fun _ _ => by go_simp) (fun _ w1 _ _ => RN.out w1) ?_
  simp only [Act.put, List.setIfInBounds_toArray, List.set_cons_succ, List.set_cons_zero, Nat.reduceAdd, List.nil_append, List.cons_append]
  refine mix_call (.bool true) 25 (fun _ => #[ev neg, rv neg]) (fun _ => rfl) (fun _ _ => by go_simp) (fun _ w1 _ _ => K4.out w1) ?_
  simp only [Act.put, List.setIfInBounds_toArray, List.set_cons_succ, List.set_cons_zero, Nat.reduceAdd, List.nil_append, List.cons_append]
  refine mix_op (Only.refl _) ?_ (fun _ => rfl) ?_ ?_
  rotate_left
  · intro _ w1 _ _ K hK
    go_step
    exact hK
  simp only [Act.put, List.setIfInBounds_toArray, List.set_cons_succ, List.set_cons_zero, Nat.reduceAdd, List.nil_append, List.cons_append]
  refine mix_op (Only.refl _) ?_ (fun _ => rfl) ?_ ?_
  rotate_left
  · intro _ w1 _ _ K hK
    go_step
    exact hK
  simp only [Act.put, List.setIfInBounds_toArray, List.set_cons_succ, List.set_cons_zero, Nat.reduceAdd, List.nil_append, List.cons_append]
  refine mix_call (ev 0) 40 (fun _ => #[.slice none 0 0]) (fun _ => rfl) (fun _ _ => by go_simp) (fun _ w1 _ _ => add_none w1) ?_
  simp only [Act.put, List.setIfInBounds_toArray, List.set_cons_succ, List.set_cons_zero, Nat.reduceAdd, List.nil_append, List.cons_append]
  refine mix_call (rv 0) 44 (fun _ => #[.int .i64 0]) (fun _ => rfl) (fun _ _ => by go_simp) (fun _ w1 _ _ => S0.out w1) ?_
  simp only [Act.put, List.setIfInBounds_toArray, List.set_cons_succ, List.set_cons_zero, Nat.reduceAdd, List.nil_append, List.cons_append]
  refine mix_call (.bool true) 25 (fun _ => #[ev 0, rv 0]) (fun _ => rfl) (fun _ _ => by go_simp) (fun _ w1 _ _ => K5.out w1) ?_
  simp only [Act.put, List.setIfInBounds_toArray, List.set_cons_succ, List.set_cons_zero, Nat.reduceAdd, List.nil_append, List.cons_append]
  refine mix_op (Only.refl _) ?_ (fun _ => rfl) ?_ ?_
  rotate_left
  · intro _ w1 _ _ K hK
    go_step
    exact hK
  simp only [Act.put, List.setIfInBounds_toArray, List.set_cons_succ, List.set_cons_zero, Nat.reduceAdd, List.nil_append, List.cons_append]
  refine mix_op (Only.refl _) ?_ (fun _ => rfl) ?_ ?_
  rotate_left
  · intro _ w1 _ _ K hK
    go_step
    exact hK
  simp only [Act.put, List.setIfInBounds_toArray, List.set_cons_succ, List.set_cons_zero, Nat.reduceAdd, List.nil_append, List.cons_append]
  refine mix_call (ev 1) 36 (fun _ => #[.slice none 0 0]) (fun _ => rfl) (fun _ _ => by go_simp) (fun _ w1 _ _ => mul_none w1) ?_
  simp only [Act.put, List.setIfInBounds_toArray, List.set_cons_succ, List.set_cons_zero, Nat.reduceAdd, List.nil_append, List.cons_append]
  refine mix_call (rv 1) 44 (fun _ => #[.int .i64 1]) (fun _ => rfl) (fun _ _ => by go_simp) (fun _ w1 _ _ => S1.out w1) ?_
  simp only [Act.put, List.setIfInBounds_toArray, List.set_cons_succ, List.set_cons_zero, Nat.reduceAdd, List.nil_append, List.cons_append]
  refine mix_call (.bool true) 25 (fun _ => #[ev 1, rv 1]) (fun _ => rfl) (fun _ _ => by go_simp) (fun _ w1 _ _ => K6.out w1) ?_
  simp only [Act.put, List.setIfInBounds_toArray, List.set_cons_succ, List.set_cons_zero, Nat.reduceAdd, List.nil_append, List.cons_append]
  refine mix_op (Only.refl _) ?_ (fun _ => rfl) ?_ ?_
  rotate_left
  · intro _ w1 _ _ K hK
    go_step
    exact hK
  simp only [Act.put, List.setIfInBounds_toArray, List.set_cons_succ, List.set_cons_zero, Nat.reduceAdd, List.nil_append, List.cons_append]
  refine mix_op (Only.refl _) ?_ (fun _ => rfl) ?_ ?_
  rotate_left
  · intro _ w1 _ _ K hK
    go_step
    exact hK
  simp only [Act.put, List.setIfInBounds_toArray, List.set_cons_succ, List.set_cons_zero, Nat.reduceAdd, List.nil_append, List.cons_append]
  refine mix_ld (Only.refl _) (cs := lc m) (fun w3 hE => hE.blk bx.drew (by simp)) isRow37 size37 _ rfl (fun _ => rfl) (fun _ => rfl) ?_
  simp only [Act.put, List.setIfInBounds_toArray, List.set_cons_succ, List.set_cons_zero, Nat.reduceAdd, List.nil_append, List.cons_append]
  refine mix_call (.bool (m % 2 == 1)) 32 (fun _ => #[ev m]) (fun _ => rfl) (fun _ _ => by go_simp) (fun _ w1 _ _ => odd_any m w1) ?_
  simp only [Act.put, List.setIfInBounds_toArray, List.set_cons_succ, List.set_cons_zero, Nat.reduceAdd, List.nil_append, List.cons_append]
  refine mix_op (Only.refl _) ?_ (fun _ => rfl) ?_ ?_
  rotate_left
  · intro _ w1 _ _ K hK
    go_step
    exact hK
  simp only [Act.put, List.setIfInBounds_toArray, List.set_cons_succ, List.set_cons_zero, Nat.reduceAdd, List.nil_append, List.cons_append]
  refine mix_op (Only.refl _) ?_ (fun _ => rfl) ?_ ?_
  rotate_left
  · intro _ w1 hE _ K hK
    have fact0 := ((hE.blk bxr.drew (by simp)).cell 0).trans (nc_get _ 0 (by decide))
    go_step
    exact hK
  simp only [Act.put, List.setIfInBounds_toArray, List.set_cons_succ, List.set_cons_zero, Nat.reduceAdd, List.nil_append, List.cons_append]
  refine mix_op (Only.refl _) ?_ (fun _ => rfl) ?_ ?_
  rotate_left
  · intro _ w1 _ _ K hK
    go_step
    exact hK
  simp only [Act.put, List.setIfInBounds_toArray, List.set_cons_succ, List.set_cons_zero, Nat.reduceAdd, List.nil_append, List.cons_append]
  refine mix_op (Only.refl _) ?_ (fun _ => rfl) ?_ ?_
  rotate_left
  · intro _ w1 _ _ K hK
    go_step
    exact hK
  simp only [Act.put, List.setIfInBounds_toArray, List.set_cons_succ, List.set_cons_zero, Nat.reduceAdd, List.nil_append, List.cons_append]
  refine mix_nil ?_
  intro V w3 hE _
  replace ho := ho.drew.trans hE
  clear hE bx bxr cy cyr dz dzr bs bp
  go_wp2_with fail
  go_ret
  have hodd : ((m % 2 == 1) == (((dig m 0 : Nat) : Int) % 2 == 1)) = true := by
    have h := dig0_odd m
    have e : (((dig m 0 : Nat) : Int) % 2 == 1) = (m % 2 == 1) := by rw [Bool.eq_iff_iff]; simp only [beq_iff_eq]; omega
    rw [e]; simp
  exact ⟨ret_bool hodd, ho⟩

theorem walk (x y z : Nat) (hx : x < W256) (hy : y < W256) (hz : z < W256) (w : World) :
    Calls Try.prog 6 #[ev x, ev y, ev z] w fun r w' => r = .returned (.bool true) ∧ Below w.heap.size w w' :=
  (walk0 x y z hx hy hz w).mono fun _ _ h => ⟨h.1, h.2.toGrow⟩

/-! ### THE ROW's STEP -/
set_option maxRecDepth 100000 in
theorem lifted (os : Os) (started : os.Started) (H : Type) (enc : TypeId × Value → H) :
    ReturnsInHanded {} Try.checked os 6 .any (Rows.fieldSumsSpec.pre6 enc Try.prog Try.f6 Rows.fieldSumsRow.domain false) (Rows.fieldSumsSpec.post enc Try.prog Try.f6 false true false false) := by
  refine returnsInHanded_of_change (C := Try.checked) own started (by kernel_rfl) Try.func6
    (ChangeSpec.witness6 (enc := enc) (C := Try.checked) false ⟨#[], #[.agg #[.int .u64 0, .int .u64 0, .int .u64 0, .int .u64 0], .agg #[.int .u64 0, .int .u64 0, .int .u64 0, .int .u64 0], .agg #[.int .u64 0, .int .u64 0, .int .u64 0, .int .u64 0]], []⟩ 8 (by kernel_rfl) (by kernel_rfl) (by kernel_rfl) (by kernel_rfl)) ?_
  intro W base args ds gs before hval0 hW hcnd _
  have hval : ∀ (j : Nat) t v, Try.f6.params[j]? = some t → args[j]? = some v → Value.okWide Try.prog W .any base t v := hval0
  have hW' := hW
  obtain ⟨p, q, hA0, hV, rfl, hfz, hnd⟩ := hW
  have hA : DataW.TrodAll enc Try.prog W 0 (fun _ => true) true Try.f6.params.toList args.toList ds p := hA0
  rw [Try.params6] at hA hval
  obtain ⟨v0, vs0, d0, ds0, p0, q0, hargs, rfl, rfl, h0, r0⟩ := trodAll_cons hA
  obtain ⟨v1, vs1, d1, ds1, p1, q1, rfl, rfl, rfl, h1, r1⟩ := trodAll_cons r0
  obtain ⟨v2, vs2, d2, ds2, p2, q2, rfl, rfl, rfl, h2, r2⟩ := trodAll_cons r1
  obtain ⟨rfl, rfl, rfl⟩ := trodAll_nil r2
  obtain rfl : args = #[v0, v1, v2] := by cases args; simp_all
  obtain ⟨rfl, rfl⟩ := trodVars_none hV
  have k0 := h0
  have k1 := h1
  have k2 := h2
  obtain ⟨x0, l0, rfl⟩ := open_limbs (hval 0 36 v0 rfl rfl) h0
  obtain ⟨x1, l1, rfl⟩ := open_limbs (hval 1 36 v1 rfl rfl) h1
  obtain ⟨x2, l2, rfl⟩ := open_limbs (hval 2 36 v2 rfl rfl) h2
  clear hA0 hval0
  refine (walk x0 x1 x2 l0 l1 l2 W).mono fun e W' ⟨he, bel⟩ => ?_
  subst he
  exact ⟨_, rfl, _, _, _, [], _, [], hW', trodAll_mk1 (shut_bool Try.underlying4 _), (trodAll_cons_mk (Below.trod laidOut (by kernel_rfl) (of_decide_eq_true (by kernel_rfl)) k0 bel (trod_places k0)) (trodAll_cons_mk (Below.trod laidOut (by kernel_rfl) (of_decide_eq_true (by kernel_rfl)) k1 bel (trod_places k1)) (trodAll_cons_mk (Below.trod laidOut (by kernel_rfl) (of_decide_eq_true (by kernel_rfl)) k2 bel (trod_places k2)) trodAll_mk0))), rfl, bel.frame _, fun h => by cases h⟩

theorem over : Rows.fieldSumsRow.holds Try.pinned (OpenSpec.ofChange Rows.fieldSumsSpec) :=
  OpenClaim.holds_of_wide 6 Try.f6 rfl rfl rfl rfl rfl rfl rfl ⟨rfl, rfl, rfl, rfl, rfl⟩ rfl rfl rfl rfl rfl (by kernel_rfl) Try.func6 (by kernel_rfl)
    (of_decide_eq_true (by kernel_rfl)) (by unfold Func.isWrapper; first | (rw [if_pos (by decide +kernel)]; kernel_rfl) | (rw [if_neg (by decide +kernel)]; exact ⟨rfl, rfl⟩))
    (fun os started H enc _ => lifted os started H enc)

/-- ████ THE STATEMENT ████ -/
theorem proved : Rows.FieldSumsSaid := over
#print axioms proved
end Go.Proofs.Ytmlahbmaomoiaaa.fieldSums
