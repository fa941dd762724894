/-
  PROVED: bosunlaw05.FieldRules returns true for every input (every three arrays of four numbers of sixty-four bits), and each argument reads afterwards as it read before. Conditions: none.
-/
import Derived.Test.YtmlahbmaomoiaaaRows
import Derived.Test.YtmlahbmaomoiaaaLwC
import Derived.Test.YtmlahbmaomoiaaaOpn
import Derived.Test.YtmlahbmaomoiaaaPfA
namespace Go.Proofs.Ytmlahbmaomoiaaa.fieldRules
open Go.ChangeShapes Go.WideShapes Go.ChangeAt Go.RowKit
set_option linter.unusedVariables false

theorem own : ownKnob Try.prog.godebug = none := by kernel_rfl
theorem laidOut : laidOutB Try.prog = true := by kernel_rfl

theorem eqIn_zero (x : Nat) (hx : x < W256) (w : World) : (Op.equalIn 10000 37 (ev x) (.agg #[.int .u64 0, .int .u64 0, .int .u64 0, .int .u64 0])).run Try.prog w = .ok (decide (x = 0)) w := by
  have h : (.agg #[.int .u64 0, .int .u64 0, .int .u64 0, .int .u64 0] : Value) = ev 0 := (ev_small 0 (by decide)).symm
  rw [h]; exact eqIn_ev x 0 hx (by decide) w
theorem two_lt {a b : Nat} (ha : a < W256) (hb : b < W256) : ∀ x ∈ [a, b], x < W256 := fun x hx => by
  simp only [List.mem_cons, List.not_mem_nil, or_false] at hx
  rcases hx with rfl | rfl
  · exact ha
  · exact hb

set_option maxRecDepth 100000 in
set_option maxHeartbeats 4000000 in
theorem walk0 (x y z : Nat) (hx : x < W256) (hy : y < W256) (hz : z < W256) (m n o iv one s1 p1 s2 d p2 ng q : Nat) (hxm : x % P255 = m) (hyn : y % P255 = n) (hzo : z % P255 = o)
    (hlt : m < P255 ∧ n < P255 ∧ o < P255 ∧ iv < P255 ∧ one < P255 ∧ s1 < P255 ∧ p1 < P255 ∧ s2 < P255 ∧ d < P255 ∧ p2 < P255 ∧ ng < P255 ∧ q < P255)
    (hiv : invN m = iv) (hone : m * iv % P255 = one) (h1 : m = 0 → one = 0) (h2 : m ≠ 0 → one = 1)
    (hs1 : (m + n) % P255 = s1) (hs1' : (n + m) % P255 = s1) (hp1 : m * n % P255 = p1) (hp1' : n * m % P255 = p1) (hs2 : (n + o) % P255 = s2) (hd : m * s2 % P255 = d) (hp2 : m * o % P255 = p2) (hd' : (p1 + p2) % P255 = d)
    (hng : negN m = ng) (hadd : (m + ng) % P255 = 0) (hsub : subN s1 n = m) (hq : ng * n % P255 = q) (hq' : negN p1 = q) (w : World) :
    Calls Try.prog 7 #[ev x, ev y, ev z] w fun r w' => r = .returned (.bool true) ∧ Only [] w w' := by
  obtain ⟨lm, ln, lo, liv, lone, ls1, lp1, ls2, ld, lp2, lng, lq⟩ := hlt
  have p5 : ∀ a, a < P255 → a < W255 := fun a h => Nat.lt_trans h p255_lt
  have p6 : ∀ a, a < P255 → a < W256 := fun a h => Nat.lt_trans h p_lt
  have hn0 := fun w1 => num_any x hx w1
  have hn1 := fun w1 => num_any y hy w1
  have hn2 := fun w1 => num_any z hz w1
  rw [hxm] at hn0; rw [hyn] at hn1; rw [hzo] at hn2
  have HN0 := Lib.hid hn0; have HN1 := Lib.hid hn1; have HN2 := Lib.hid hn2
  clear hn0 hn1 hn2 hx hy hz hxm hyn hzo
  have tHO := fun (base : Nat) (v : Value) (w1 : World) (h : MadeAt base 2 2 (cells3 [m, iv]).toArray 37 v w1) => mul_made [m, iv] rfl (two_lt (p6 _ lm) (p6 _ liv)) (by simp) h
  rw [mulN_two, hone] at tHO
  have HO := Lib.hid tHO
  clear tHO
  have tA1 := fun (base : Nat) (v : Value) (w1 : World) (h : MadeAt base 2 2 (cells3 [m, n]).toArray 37 v w1) => add_made [m, n] rfl (two_lt (p6 _ lm) (p6 _ ln)) (by simp) h
  rw [addN_two, hs1] at tA1
  have A1 := Lib.hid tA1
  clear tA1
  have tA2 := fun (base : Nat) (v : Value) (w1 : World) (h : MadeAt base 2 2 (cells3 [n, m]).toArray 37 v w1) => add_made [n, m] rfl (two_lt (p6 _ ln) (p6 _ lm)) (by simp) h
  rw [addN_two, hs1'] at tA2
  have A2 := Lib.hid tA2
  clear tA2
  have tM1 := fun (base : Nat) (v : Value) (w1 : World) (h : MadeAt base 2 2 (cells3 [m, n]).toArray 37 v w1) => mul_made [m, n] rfl (two_lt (p6 _ lm) (p6 _ ln)) (by simp) h
  rw [mulN_two, hp1] at tM1
  have M1 := Lib.hid tM1
  clear tM1
  have tM2 := fun (base : Nat) (v : Value) (w1 : World) (h : MadeAt base 2 2 (cells3 [n, m]).toArray 37 v w1) => mul_made [n, m] rfl (two_lt (p6 _ ln) (p6 _ lm)) (by simp) h
  rw [mulN_two, hp1'] at tM2
  have M2 := Lib.hid tM2
  clear tM2
  have tA3 := fun (base : Nat) (v : Value) (w1 : World) (h : MadeAt base 2 2 (cells3 [n, o]).toArray 37 v w1) => add_made [n, o] rfl (two_lt (p6 _ ln) (p6 _ lo)) (by simp) h
  rw [addN_two, hs2] at tA3
  have A3 := Lib.hid tA3
  clear tA3
  have tM3 := fun (base : Nat) (v : Value) (w1 : World) (h : MadeAt base 2 2 (cells3 [m, s2]).toArray 37 v w1) => mul_made [m, s2] rfl (two_lt (p6 _ lm) (p6 _ ls2)) (by simp) h
  rw [mulN_two, hd] at tM3
  have M3 := Lib.hid tM3
  clear tM3
  have tM4 := fun (base : Nat) (v : Value) (w1 : World) (h : MadeAt base 2 2 (cells3 [m, o]).toArray 37 v w1) => mul_made [m, o] rfl (two_lt (p6 _ lm) (p6 _ lo)) (by simp) h
  rw [mulN_two, hp2] at tM4
  have M4 := Lib.hid tM4
  clear tM4
  have tA4 := fun (base : Nat) (v : Value) (w1 : World) (h : MadeAt base 2 2 (cells3 [p1, p2]).toArray 37 v w1) => add_made [p1, p2] rfl (two_lt (p6 _ lp1) (p6 _ lp2)) (by simp) h
  rw [addN_two, hd'] at tA4
  have A4 := Lib.hid tA4
  clear tA4
  have tA5 := fun (base : Nat) (v : Value) (w1 : World) (h : MadeAt base 2 2 (cells3 [m, ng]).toArray 37 v w1) => add_made [m, ng] rfl (two_lt (p6 _ lm) (p6 _ lng)) (by simp) h
  rw [addN_two, hadd] at tA5
  have A5 := Lib.hid tA5
  clear tA5
  have tM5 := fun (base : Nat) (v : Value) (w1 : World) (h : MadeAt base 2 2 (cells3 [ng, n]).toArray 37 v w1) => mul_made [ng, n] rfl (two_lt (p6 _ lng) (p6 _ ln)) (by simp) h
  rw [mulN_two, hq] at tM5
  have M5 := Lib.hid tM5
  clear tM5
  have tiv := fun w1 => invert_any m (p6 _ lm) w1
  rw [hiv] at tiv
  have tng := fun w1 => neg_any m (Nat.le_of_lt lm) w1
  rw [hng] at tng
  have tnq := fun w1 => neg_any p1 (Nat.le_of_lt lp1) w1
  rw [hq'] at tnq
  have tsb := fun w1 => sub_any s1 n (p6 _ ls1) (Nat.le_of_lt ln) w1
  rw [hsub] at tsb
  have HIV := Lib.hid tiv; have HNG := Lib.hid tng; have HNQ := Lib.hid tnq; have HSB := Lib.hid tsb
  have S0 := Lib.hid fun w1 => small_any 0 (by decide) w1
  have S1 := Lib.hid fun w1 => small_any 1 (by decide) w1
  have eqr : ∀ a, a < P255 → ∀ w1, (Op.equalIn 10000 37 (ev a) (ev a)).run Try.prog w1 = .ok true w1 := fun a h w1 => by
    have := eqIn_ev a a (p6 _ h) (p6 _ h) w1
    rw [decide_eq_true rfl] at this; exact this
  have E1 := Lib.hid (eqr s1 ls1); have E2 := Lib.hid (eqr p1 lp1); have E3 := Lib.hid (eqr d ld); have E4 := Lib.hid (eqr 0 (by decide)); have E5 := Lib.hid (eqr m lm)
  have hqq := fun w1 => eq_ev q q (p6 _ lq) (p6 _ lq) w1
  rw [decide_eq_true rfl] at hqq
  have EQ := Lib.hid hqq
  have E6 := Lib.hid fun w1 => eqIn_zero m (p6 _ lm) w1
  have hn11 := fun w1 => neq_ev 1 1 (by decide) (by decide) w1
  rw [decide_eq_true rfl] at hn11
  have N1 := Lib.hid hn11
  have H1 := Lib.hid h1; have H2 := Lib.hid h2; have LO := Lib.hid lone
  clear eqr hqq hn11 tiv tng tnq tsb hiv hng hq' hsub hone hs1 hs1' hp1 hp1' hs2 hd hp2 hd' hadd hq h1 h2 lm ln lo liv lone ls1 lp1 ls2 ld lp2 lng lq
  have a0 : Blk (((w.alloc (.cells (lc x) 36)).alloc (.cells (lc y) 36)).alloc (.cells (lc z) 36)) w.heap.size (lc x) 36 := ((Blk.new _ _ _).alloc _).alloc _
  have a1 : Blk (((w.alloc (.cells (lc x) 36)).alloc (.cells (lc y) 36)).alloc (.cells (lc z) 36)) (w.heap.size + 1) (lc y) 36 := (Blk.newAt _ _ (by simp)).alloc _
  have a2 : Blk (((w.alloc (.cells (lc x) 36)).alloc (.cells (lc y) 36)).alloc (.cells (lc z) 36)) (w.heap.size + 1 + 1) (lc z) 36 := Blk.newAt _ _ (by simp)
  have ho : Only [] w (((w.alloc (.cells (lc x) 36)).alloc (.cells (lc y) 36)).alloc (.cells (lc z) 36)) := (((Only.refl _ _).alloc _).alloc _).alloc _
  go_enter Try.func7, Try.ntmps7
  go_wp2_with fail
  refine (lives05 _).mono ?_
  rintro r w1 ⟨rfl, ho1⟩
  replace a0 := ho1.blk a0 (by simp); replace a1 := ho1.blk a1 (by simp); replace a2 := ho1.blk a2 (by simp); replace ho := ho.trans ho1
  obtain ⟨q0, q1, q2, q3, qf⟩ := a0.four
  go_wp2_with fail
  refine (HN0.out _).mono ?_
  rintro r w2 ⟨rfl, ho2⟩
  replace a1 := ho2.blk a1 (by simp); replace a2 := ho2.blk a2 (by simp); replace ho := ho.trans ho2
  have z2 := zc_new w2 m
  clear q0 q1 q2 q3 qf
  have a1' : Blk (((w2.alloc (.cells (lc m) 37)).alloc (.cells zc 39)).setRow (w2.heap.size + 1) (nc (dig m))) (w.heap.size + 1) (lc y) 36 := afterNum_blk a1 m
  obtain ⟨q0, q1, q2, q3, qf⟩ := a1'.four
  go_wp2_with (refine store_nc rfl _ _ rfl rfl rfl (by assumption) ?_)
  refine (HN1.out _).mono ?_
  rintro r w3 ⟨rfl, ho3⟩
  have ho3' : Only [] (afterNum w2 m) w3 := ho3
  have bx := ho3'.blk (afterNum_e w2 m) (by simp); have bxr := ho3'.blk (afterNum_r w2 m) (by simp)
  replace a2 := ho3'.blk (afterNum_blk a2 m) (by simp); replace ho := (afterNum_only ho m).trans ho3'
  clear ho3 ho3' z2 a1 a1' ho2 ho1 a0
  generalize w2.heap.size = g2 at *
  have z2 := zc_new w3 n
  clear q0 q1 q2 q3 qf
  have a2' : Blk (((w3.alloc (.cells (lc n) 37)).alloc (.cells zc 39)).setRow (w3.heap.size + 1) (nc (dig n))) (w.heap.size + 1 + 1) (lc z) 36 := afterNum_blk a2 n
  obtain ⟨q0, q1, q2, q3, qf⟩ := a2'.four
  go_wp2_with (refine store_nc rfl _ _ rfl rfl rfl (by assumption) ?_)
  refine (HN2.out _).mono ?_
  rintro r w4 ⟨rfl, ho4⟩
  have ho4' : Only [] (afterNum w3 n) w4 := ho4
  replace bx := ho4'.blk (afterNum_blk bx n) (by simp); replace bxr := ho4'.blk (afterNum_blk bxr n) (by simp)
  have cy := ho4'.blk (afterNum_e w3 n) (by simp); have cyr := ho4'.blk (afterNum_r w3 n) (by simp)
  replace ho := (afterNum_only ho n).trans ho4'
  clear ho4 ho4' z2 a2 a2'
  clear q0 q1 q2 q3 qf
  generalize w3.heap.size = g3 at *
  have z2 := zc_new w4 o
  go_wp2_with (refine store_nc rfl _ _ rfl rfl rfl (by assumption) ?_)
  replace bx := afterNum_blk bx o; replace bxr := afterNum_blk bxr o; replace cy := afterNum_blk cy o; replace cyr := afterNum_blk cyr o
  have dz := afterNum_e w4 o; have dzr := afterNum_r w4 o
  replace ho := afterNum_only ho o
  clear z2
  obtain ⟨w5, hw5⟩ : ∃ w5, w5 = afterNum w4 o := ⟨_, rfl⟩
  rw [show ((w4.alloc (.cells (lc o) 37)).alloc (.cells zc 39)).setRow (w4.heap.size + 1) (nc (dig o)) = w5 from hw5.symm]
  rw [← hw5] at bx bxr cy cyr dz dzr ho
  clear hw5
  generalize w4.heap.size = g4 at *
  refine region_mix mixed 6 [0, 0, 2, 7, 15, 0, 63] (by kernel_rfl) (Only []) (Only.refl _) (fun _ _ _ => Only.trans) ?_
  simp only [List.take_succ_cons, List.take_zero, List.drop_succ_cons, List.drop_zero]
  refine mix_ld (Only.refl _) (cs := lc m) (fun w3 hE => hE.blk bx.drew (by simp)) isRow37 size37 _ rfl (fun _ => rfl) (fun _ => rfl) ?_
  simp only [Act.put, List.setIfInBounds_toArray, List.set_cons_succ, List.set_cons_zero, Nat.zero_add, List.nil_append]
  refine mix_ld (Only.refl _) (cs := lc m) (fun w3 hE => hE.blk bx.drew (by simp)) isRow37 size37 _ rfl (fun _ => rfl) (fun _ => rfl) ?_
  simp only [Act.put, List.setIfInBounds_toArray, List.set_cons_succ, List.set_cons_zero, Nat.reduceAdd, List.nil_append, List.cons_append]
  refine mix_call (ev iv) 28 (fun _ => #[ev m]) (fun _ => rfl) (fun _ _ => by go_simp) (fun _ w1 _ _ => HIV.out w1) ?_
  simp only [Act.put, List.setIfInBounds_toArray, List.set_cons_succ, List.set_cons_zero, Nat.reduceAdd, List.nil_append, List.cons_append]
  refine mix_root (MadeAt (w5.heap.size) 2 2 (cells3 [m, iv]).toArray 37) MadeAt.only (fun _ => rfl) ?_ ?_
  · intro _ w1 hE _ K hK
    go_step
    exact hK _ _ ((Only.refl _ _).alloc _) ⟨_, rfl, Blk.new _ _ _, hE.size⟩
  simp only [Act.put, List.setIfInBounds_toArray, List.set_cons_succ, List.set_cons_zero, Nat.reduceAdd, List.nil_append, List.cons_append]
  refine mix_call (ev one) 36 (fun V => #[V 3]) (fun _ => rfl) (fun _ _ => by go_simp) (fun _ w1 _ hF => by simp only [facts, Nat.reduceMod, Nat.reduceDiv, forall_const, true_and, and_true] at hF; exact HO.out _ _ w1 hF) ?_
  simp only [Act.put, List.setIfInBounds_toArray, List.set_cons_succ, List.set_cons_zero, Nat.reduceAdd, List.nil_append, List.cons_append]
  refine mix_root (NewAt (w5.heap.size) (lc 0) 37) NewAt.only (fun _ => rfl) ?_ ?_
  · intro _ w1 hE _ K hK
    go_step
    exact hK _ _ ((Only.refl _ _).alloc _) ⟨_, rfl, Blk.new _ _ _, hE.size⟩
  simp only [Act.put, List.setIfInBounds_toArray, List.set_cons_succ, List.set_cons_zero, Nat.reduceAdd, List.nil_append, List.cons_append]
  refine mix_nil ?_
  intro V w3 hE hR
  simp only [allR, true_and, and_true] at hR
  obtain ⟨hsl, g13, hv, hs, hle⟩ := hR
  simp only [hv]
  clear hv hsl
  have l1 := bx.lt; have l2 := cy.lt; have l3 := dz.lt
  replace bx := (hE.blk bx.drew (by simp)).far4 (g := g13) (by omega) (.int .u64 ((limb one 0 : Nat) : Int)) (.int .u64 ((limb one 1 : Nat) : Int)) (.int .u64 ((limb one 2 : Nat) : Int)) (.int .u64 ((limb one 3 : Nat) : Int))
  replace cy := (hE.blk cy.drew (by simp)).far4 (g := g13) (by omega) (.int .u64 ((limb one 0 : Nat) : Int)) (.int .u64 ((limb one 1 : Nat) : Int)) (.int .u64 ((limb one 2 : Nat) : Int)) (.int .u64 ((limb one 3 : Nat) : Int))
  replace dz := (hE.blk dz.drew (by simp)).far4 (g := g13) (by omega) (.int .u64 ((limb one 0 : Nat) : Int)) (.int .u64 ((limb one 1 : Nat) : Int)) (.int .u64 ((limb one 2 : Nat) : Int)) (.int .u64 ((limb one 3 : Nat) : Int))
  have b13 := hs.set4 (.int .u64 ((limb one 0 : Nat) : Int)) (.int .u64 ((limb one 1 : Nat) : Int)) (.int .u64 ((limb one 2 : Nat) : Int)) (.int .u64 ((limb one 3 : Nat) : Int))
  replace ho := (ho.drew.trans hE).set4 (b := g13) (.inr (by have := ho.size; omega)) (.int .u64 ((limb one 0 : Nat) : Int)) (.int .u64 ((limb one 1 : Nat) : Int)) (.int .u64 ((limb one 2 : Nat) : Int)) (.int .u64 ((limb one 3 : Nat) : Int))
  clear hE hle l1 l2 l3 bxr cyr dzr
  obtain ⟨r0, r1, r2, r3, rf⟩ := hs.four
  go_wp2_with fail
  clear r0 r1 r2 r3 rf hs
  generalize (((w3.setCell ⟨g13, 0, none⟩ (.int .u64 ((limb one 0 : Nat) : Int))).setCell ⟨g13, 1, none⟩ (.int .u64 ((limb one 1 : Nat) : Int))).setCell ⟨g13, 2, none⟩ (.int .u64 ((limb one 2 : Nat) : Int))).setCell ⟨g13, 3, none⟩ (.int .u64 ((limb one 3 : Nat) : Int)) = w6 at *
  have hcut : ∀ (w8 : World), Blk w8 g2 (lc m) 37 → Blk w8 g3 (lc n) 37 → Blk w8 g4 (lc o) 37 → Only [] w w8 → True := fun _ _ _ _ _ => trivial
  clear hcut
  by_cases h0 : m = 0
  · have hone := H1.out h0
    have e6 := fun w1 => E6.out w1
    rw [decide_eq_true h0] at e6
    have e7 := fun w1 => eqIn_zero 0 (by decide) w1
    rw [decide_eq_true rfl] at e7
    rw [hone] at b13
    have E7 := Lib.hid e6; have E8 := Lib.hid e7
    clear e6 e7 hone h0
    refine region_mix mixed 15 [0, 0, 3, 7, 15, 15, 63, 127, 255, 511, 511, 2047, 4095, 8191, 8191, 32767, 65535, 131071] (by kernel_rfl) (Only []) (Only.refl _) (fun _ _ _ => Only.trans) ?_
    simp only [List.take_succ_cons, List.take_zero, List.drop_succ_cons, List.drop_zero]
    refine mix_ld (Only.refl _) (cs := lc m) (fun w3 hE => hE.blk bx.drew (by simp)) isRow37 size37 _ rfl (fun _ => rfl) (fun _ => rfl) ?_
    simp only [Act.put, List.setIfInBounds_toArray, List.set_cons_succ, List.set_cons_zero, Nat.zero_add, List.nil_append]
    refine mix_op (Only.refl _) ?_ (fun _ => rfl) ?_ ?_
    rotate_left
    · intro _ w1 _ _ K hK
      go_step
      exact hK
    simp only [Act.put, List.setIfInBounds_toArray, List.set_cons_succ, List.set_cons_zero, Nat.reduceAdd, List.nil_append, List.cons_append]
    refine mix_op (Only.refl _) ?_ (fun _ => rfl) ?_ ?_
    rotate_left
    · intro _ w1 _ _ K hK
      have fact0 := E7.out w1
      go_step
      exact hK
    simp only [Act.put, List.setIfInBounds_toArray, List.set_cons_succ, List.set_cons_zero, Nat.reduceAdd, List.nil_append, List.cons_append]
    refine mix_op (Only.refl _) ?_ (fun _ => rfl) ?_ ?_
    rotate_left
    · intro _ w1 _ _ K hK
      go_step
      exact hK
    simp only [Act.put, List.setIfInBounds_toArray, List.set_cons_succ, List.set_cons_zero, Nat.reduceAdd, List.nil_append, List.cons_append]
    refine mix_ld (Only.refl _) (cs := lc 0) (fun w3 hE => hE.blk b13.drew (by simp)) isRow37 size37 _ rfl (fun _ => rfl) (fun _ => rfl) ?_
    simp only [Act.put, List.setIfInBounds_toArray, List.set_cons_succ, List.set_cons_zero, Nat.reduceAdd, List.nil_append, List.cons_append]
    refine mix_op (Only.refl _) ?_ (fun _ => rfl) ?_ ?_
    rotate_left
    · intro _ w1 _ _ K hK
      go_step
      exact hK
    simp only [Act.put, List.setIfInBounds_toArray, List.set_cons_succ, List.set_cons_zero, Nat.reduceAdd, List.nil_append, List.cons_append]
    refine mix_op (Only.refl _) ?_ (fun _ => rfl) ?_ ?_
    rotate_left
    · intro _ w1 _ _ K hK
      have fact0 := E8.out w1
      go_step
      exact hK
    simp only [Act.put, List.setIfInBounds_toArray, List.set_cons_succ, List.set_cons_zero, Nat.reduceAdd, List.nil_append, List.cons_append]
    refine mix_op (Only.refl _) ?_ (fun _ => rfl) ?_ ?_
    rotate_left
    · intro _ w1 _ _ K hK
      go_step
      exact hK
    simp only [Act.put, List.setIfInBounds_toArray, List.set_cons_succ, List.set_cons_zero, Nat.reduceAdd, List.nil_append, List.cons_append]
    refine mix_op (Only.refl _) ?_ (fun _ => rfl) ?_ ?_
    rotate_left
    · intro _ w1 _ _ K hK
      go_step
      exact hK
    simp only [Act.put, List.setIfInBounds_toArray, List.set_cons_succ, List.set_cons_zero, Nat.reduceAdd, List.nil_append, List.cons_append]
    refine mix_ld (Only.refl _) (cs := lc m) (fun w3 hE => hE.blk bx.drew (by simp)) isRow37 size37 _ rfl (fun _ => rfl) (fun _ => rfl) ?_
    simp only [Act.put, List.setIfInBounds_toArray, List.set_cons_succ, List.set_cons_zero, Nat.reduceAdd, List.nil_append, List.cons_append]
    refine mix_op (Only.refl _) ?_ (fun _ => rfl) ?_ ?_
    rotate_left
    · intro _ w1 _ _ K hK
      go_step
      exact hK
    simp only [Act.put, List.setIfInBounds_toArray, List.set_cons_succ, List.set_cons_zero, Nat.reduceAdd, List.nil_append, List.cons_append]
    refine mix_op (Only.refl _) ?_ (fun _ => rfl) ?_ ?_
    rotate_left
    · intro _ w1 _ _ K hK
      have fact0 := E7.out w1
      go_step
      exact hK
    simp only [Act.put, List.setIfInBounds_toArray, List.set_cons_succ, List.set_cons_zero, Nat.reduceAdd, List.nil_append, List.cons_append]
    refine mix_op (Only.refl _) ?_ (fun _ => rfl) ?_ ?_
    rotate_left
    · intro _ w1 _ _ K hK
      go_step
      exact hK
    simp only [Act.put, List.setIfInBounds_toArray, List.set_cons_succ, List.set_cons_zero, Nat.reduceAdd, List.nil_append, List.cons_append]
    refine mix_skip (fun _ => rfl) ?_
    simp only [Act.put, List.setIfInBounds_toArray, List.set_cons_succ, List.set_cons_zero, Nat.reduceAdd, List.nil_append, List.cons_append]
    refine mix_skip (fun _ => rfl) ?_
    simp only [Act.put, List.setIfInBounds_toArray, List.set_cons_succ, List.set_cons_zero, Nat.reduceAdd, List.nil_append, List.cons_append]
    refine mix_nil ?_
    intro V w3 hE _
    replace bx := hE.blk bx.drew (by simp); replace cy := hE.blk cy.drew (by simp); replace dz := hE.blk dz.drew (by simp); replace ho := ho.drew.trans hE
    clear hE b13
    go_wp2_with fail
    simp only [List.append_eq, List.cons_append, List.nil_append]
    refine region_mix mixed 68 [0, 0, 3, 7, 0, 0, 48, 127, 255, 511, 1023, 1023, 4095, 8191, 1023, 1023, 50175, 131071, 262143, 524287, 1048575, 2097151, 2097151, 2097151, 14680063, 31457279, 67108863, 134217727, 2097151, 2097151, 807403519, 2147483647, 2097151, 2097151, 12886999039, 34359738367, 68719476735, 137438953471, 274877906943, 549755813887, 1099511627775, 2199023255551, 2199023255551, 6597069766655, 17592186044415, 35184372088831, 70368744177663, 140737488355327, 281474976710655, 562949953421311, 1125899906842623, 1125899906842623, 4503599627370495, 9007199254740991, 1125899906842623, 36028797018963967, 1125899906842623, 144115188075855871, 288230376151711743, 576460752303423487, 1152921504606846975, 2305843009213693951, 1152921504606846975, 9223372036854775807, 18446744073709551615, 1152921504606846975, 1152921504606846975, 111833385946864156671, 295147905179352825855, 590295810358705651711, 1180591620717411303423, 2361183241434822606847, 4722366482869645213695] (by kernel_rfl) (Only []) (Only.refl _) (fun _ _ _ => Only.trans) ?_
    simp only [List.take_succ_cons, List.take_zero, List.drop_succ_cons, List.drop_zero]
    refine mix_ld (Only.refl _) (cs := lc m) (fun w3 hE => hE.blk bx.drew (by simp)) isRow37 size37 _ rfl (fun _ => rfl) (fun _ => rfl) ?_
    simp only [Act.put, List.setIfInBounds_toArray, List.set_cons_succ, List.set_cons_zero, Nat.zero_add, List.nil_append]
    refine mix_ld (Only.refl _) (cs := lc n) (fun w3 hE => hE.blk cy.drew (by simp)) isRow37 size37 _ rfl (fun _ => rfl) (fun _ => rfl) ?_
    simp only [Act.put, List.setIfInBounds_toArray, List.set_cons_succ, List.set_cons_zero, Nat.reduceAdd, List.nil_append, List.cons_append]
    refine mix_root (MadeAt (w3.heap.size) 2 2 (cells3 [m, n]).toArray 37) MadeAt.only (fun _ => rfl) ?_ ?_
    · intro _ w1 hE _ K hK
      go_step
      exact hK _ _ ((Only.refl _ _).alloc _) ⟨_, rfl, Blk.new _ _ _, hE.size⟩
    simp only [Act.put, List.setIfInBounds_toArray, List.set_cons_succ, List.set_cons_zero, Nat.reduceAdd, List.nil_append, List.cons_append]
    refine mix_call (ev s1) 40 (fun V => #[V 2]) (fun _ => rfl) (fun _ _ => by go_simp) (fun _ w1 _ hF => by simp only [facts, Nat.reduceMod, Nat.reduceDiv, forall_const, true_and, and_true] at hF; exact A1.out _ _ w1 (by first | exact hF | exact hF.2 | exact hF.2.2 | exact hF.2.2.2 | exact hF.2.2.2.2 | exact hF.2.2.2.2.2 | exact hF.2.2.2.2.2.2 | exact hF.2.2.2.2.2.2.2 | exact hF.2.2.2.2.2.2.2.2 | exact hF.2.2.2.2.2.2.2.2.2 | exact hF.2.2.2.2.2.2.2.2.2.2 | exact hF.2.2.2.2.2.2.2.2.2.2.2 | exact hF.2.2.2.2.2.2.2.2.2.2.2.2)) ?_
    simp only [Act.put, List.setIfInBounds_toArray, List.set_cons_succ, List.set_cons_zero, Nat.reduceAdd, List.nil_append, List.cons_append]
    refine mix_ld (Only.refl _) (cs := lc n) (fun w3 hE => hE.blk cy.drew (by simp)) isRow37 size37 _ rfl (fun _ => rfl) (fun _ => rfl) ?_
    simp only [Act.put, List.setIfInBounds_toArray, List.set_cons_succ, List.set_cons_zero, Nat.reduceAdd, List.nil_append, List.cons_append]
    refine mix_ld (Only.refl _) (cs := lc m) (fun w3 hE => hE.blk bx.drew (by simp)) isRow37 size37 _ rfl (fun _ => rfl) (fun _ => rfl) ?_
    simp only [Act.put, List.setIfInBounds_toArray, List.set_cons_succ, List.set_cons_zero, Nat.reduceAdd, List.nil_append, List.cons_append]
    refine mix_root (MadeAt (w3.heap.size) 2 2 (cells3 [n, m]).toArray 37) MadeAt.only (fun _ => rfl) ?_ ?_
    · intro _ w1 hE _ K hK
      go_step
      exact hK _ _ ((Only.refl _ _).alloc _) ⟨_, rfl, Blk.new _ _ _, hE.size⟩
    simp only [Act.put, List.setIfInBounds_toArray, List.set_cons_succ, List.set_cons_zero, Nat.reduceAdd, List.nil_append, List.cons_append]
    refine mix_call (ev s1) 40 (fun V => #[V 6]) (fun _ => rfl) (fun _ _ => by go_simp) (fun _ w1 _ hF => by simp only [facts, Nat.reduceMod, Nat.reduceDiv, forall_const, true_and, and_true] at hF; exact A2.out _ _ w1 (by first | exact hF | exact hF.2 | exact hF.2.2 | exact hF.2.2.2 | exact hF.2.2.2.2 | exact hF.2.2.2.2.2 | exact hF.2.2.2.2.2.2 | exact hF.2.2.2.2.2.2.2 | exact hF.2.2.2.2.2.2.2.2 | exact hF.2.2.2.2.2.2.2.2.2 | exact hF.2.2.2.2.2.2.2.2.2.2 | exact hF.2.2.2.2.2.2.2.2.2.2.2 | exact hF.2.2.2.2.2.2.2.2.2.2.2.2)) ?_
    simp only [Act.put, List.setIfInBounds_toArray, List.set_cons_succ, List.set_cons_zero, Nat.reduceAdd, List.nil_append, List.cons_append]
    refine mix_op (Only.refl _) ?_ (fun _ => rfl) ?_ ?_
    rotate_left
    · intro _ w1 _ _ K hK
      have fact0 := E1.out w1
      go_step
      exact hK
    simp only [Act.put, List.setIfInBounds_toArray, List.set_cons_succ, List.set_cons_zero, Nat.reduceAdd, List.nil_append, List.cons_append]
    refine mix_op (Only.refl _) ?_ (fun _ => rfl) ?_ ?_
    rotate_left
    · intro _ w1 _ _ K hK
      go_step
      exact hK
    simp only [Act.put, List.setIfInBounds_toArray, List.set_cons_succ, List.set_cons_zero, Nat.reduceAdd, List.nil_append, List.cons_append]
    refine mix_ld (Only.refl _) (cs := lc m) (fun w3 hE => hE.blk bx.drew (by simp)) isRow37 size37 _ rfl (fun _ => rfl) (fun _ => rfl) ?_
    simp only [Act.put, List.setIfInBounds_toArray, List.set_cons_succ, List.set_cons_zero, Nat.reduceAdd, List.nil_append, List.cons_append]
    refine mix_ld (Only.refl _) (cs := lc n) (fun w3 hE => hE.blk cy.drew (by simp)) isRow37 size37 _ rfl (fun _ => rfl) (fun _ => rfl) ?_
    simp only [Act.put, List.setIfInBounds_toArray, List.set_cons_succ, List.set_cons_zero, Nat.reduceAdd, List.nil_append, List.cons_append]
    refine mix_root (MadeAt (w3.heap.size) 2 2 (cells3 [m, n]).toArray 37) MadeAt.only (fun _ => rfl) ?_ ?_
    · intro _ w1 hE _ K hK
      go_step
      exact hK _ _ ((Only.refl _ _).alloc _) ⟨_, rfl, Blk.new _ _ _, hE.size⟩
    simp only [Act.put, List.setIfInBounds_toArray, List.set_cons_succ, List.set_cons_zero, Nat.reduceAdd, List.nil_append, List.cons_append]
    refine mix_call (ev p1) 36 (fun V => #[V 12]) (fun _ => rfl) (fun _ _ => by go_simp) (fun _ w1 _ hF => by simp only [facts, Nat.reduceMod, Nat.reduceDiv, forall_const, true_and, and_true] at hF; exact M1.out _ _ w1 (by first | exact hF | exact hF.2 | exact hF.2.2 | exact hF.2.2.2 | exact hF.2.2.2.2 | exact hF.2.2.2.2.2 | exact hF.2.2.2.2.2.2 | exact hF.2.2.2.2.2.2.2 | exact hF.2.2.2.2.2.2.2.2 | exact hF.2.2.2.2.2.2.2.2.2 | exact hF.2.2.2.2.2.2.2.2.2.2 | exact hF.2.2.2.2.2.2.2.2.2.2.2 | exact hF.2.2.2.2.2.2.2.2.2.2.2.2)) ?_
    simp only [Act.put, List.setIfInBounds_toArray, List.set_cons_succ, List.set_cons_zero, Nat.reduceAdd, List.nil_append, List.cons_append]
    refine mix_ld (Only.refl _) (cs := lc n) (fun w3 hE => hE.blk cy.drew (by simp)) isRow37 size37 _ rfl (fun _ => rfl) (fun _ => rfl) ?_
    simp only [Act.put, List.setIfInBounds_toArray, List.set_cons_succ, List.set_cons_zero, Nat.reduceAdd, List.nil_append, List.cons_append]
    refine mix_ld (Only.refl _) (cs := lc m) (fun w3 hE => hE.blk bx.drew (by simp)) isRow37 size37 _ rfl (fun _ => rfl) (fun _ => rfl) ?_
    simp only [Act.put, List.setIfInBounds_toArray, List.set_cons_succ, List.set_cons_zero, Nat.reduceAdd, List.nil_append, List.cons_append]
    refine mix_root (MadeAt (w3.heap.size) 2 2 (cells3 [n, m]).toArray 37) MadeAt.only (fun _ => rfl) ?_ ?_
    · intro _ w1 hE _ K hK
      go_step
      exact hK _ _ ((Only.refl _ _).alloc _) ⟨_, rfl, Blk.new _ _ _, hE.size⟩
    simp only [Act.put, List.setIfInBounds_toArray, List.set_cons_succ, List.set_cons_zero, Nat.reduceAdd, List.nil_append, List.cons_append]
    refine mix_call (ev p1) 36 (fun V => #[V 16]) (fun _ => rfl) (fun _ _ => by go_simp) (fun _ w1 _ hF => by simp only [facts, Nat.reduceMod, Nat.reduceDiv, forall_const, true_and, and_true] at hF; exact M2.out _ _ w1 (by first | exact hF | exact hF.2 | exact hF.2.2 | exact hF.2.2.2 | exact hF.2.2.2.2 | exact hF.2.2.2.2.2 | exact hF.2.2.2.2.2.2 | exact hF.2.2.2.2.2.2.2 | exact hF.2.2.2.2.2.2.2.2 | exact hF.2.2.2.2.2.2.2.2.2 | exact hF.2.2.2.2.2.2.2.2.2.2 | exact hF.2.2.2.2.2.2.2.2.2.2.2 | exact hF.2.2.2.2.2.2.2.2.2.2.2.2)) ?_
    simp only [Act.put, List.setIfInBounds_toArray, List.set_cons_succ, List.set_cons_zero, Nat.reduceAdd, List.nil_append, List.cons_append]
    refine mix_op (Only.refl _) ?_ (fun _ => rfl) ?_ ?_
    rotate_left
    · intro _ w1 _ _ K hK
      have fact0 := E2.out w1
      go_step
      exact hK
    simp only [Act.put, List.setIfInBounds_toArray, List.set_cons_succ, List.set_cons_zero, Nat.reduceAdd, List.nil_append, List.cons_append]
    refine mix_op (Only.refl _) ?_ (fun _ => rfl) ?_ ?_
    rotate_left
    · intro _ w1 _ _ K hK
      go_step
      exact hK
    simp only [Act.put, List.setIfInBounds_toArray, List.set_cons_succ, List.set_cons_zero, Nat.reduceAdd, List.nil_append, List.cons_append]
    refine mix_op (Only.refl _) ?_ (fun _ => rfl) ?_ ?_
    rotate_left
    · intro _ w1 _ _ K hK
      go_step
      exact hK
    simp only [Act.put, List.setIfInBounds_toArray, List.set_cons_succ, List.set_cons_zero, Nat.reduceAdd, List.nil_append, List.cons_append]
    refine mix_ld (Only.refl _) (cs := lc m) (fun w3 hE => hE.blk bx.drew (by simp)) isRow37 size37 _ rfl (fun _ => rfl) (fun _ => rfl) ?_
    simp only [Act.put, List.setIfInBounds_toArray, List.set_cons_succ, List.set_cons_zero, Nat.reduceAdd, List.nil_append, List.cons_append]
    refine mix_ld (Only.refl _) (cs := lc n) (fun w3 hE => hE.blk cy.drew (by simp)) isRow37 size37 _ rfl (fun _ => rfl) (fun _ => rfl) ?_
    simp only [Act.put, List.setIfInBounds_toArray, List.set_cons_succ, List.set_cons_zero, Nat.reduceAdd, List.nil_append, List.cons_append]
    refine mix_ld (Only.refl _) (cs := lc o) (fun w3 hE => hE.blk dz.drew (by simp)) isRow37 size37 _ rfl (fun _ => rfl) (fun _ => rfl) ?_
    simp only [Act.put, List.setIfInBounds_toArray, List.set_cons_succ, List.set_cons_zero, Nat.reduceAdd, List.nil_append, List.cons_append]
    refine mix_root (MadeAt (w3.heap.size) 2 2 (cells3 [n, o]).toArray 37) MadeAt.only (fun _ => rfl) ?_ ?_
    · intro _ w1 hE _ K hK
      go_step
      exact hK _ _ ((Only.refl _ _).alloc _) ⟨_, rfl, Blk.new _ _ _, hE.size⟩
    simp only [Act.put, List.setIfInBounds_toArray, List.set_cons_succ, List.set_cons_zero, Nat.reduceAdd, List.nil_append, List.cons_append]
    refine mix_call (ev s2) 40 (fun V => #[V 24]) (fun _ => rfl) (fun _ _ => by go_simp) (fun _ w1 _ hF => by simp only [facts, Nat.reduceMod, Nat.reduceDiv, Nat.reduceEqDiff, forall_const, implies_true, true_and, and_true] at hF; exact A3.out _ _ w1 (by first | exact hF | exact hF.2 | exact hF.2.2 | exact hF.2.2.2 | exact hF.2.2.2.2 | exact hF.2.2.2.2.2 | exact hF.2.2.2.2.2.2 | exact hF.2.2.2.2.2.2.2 | exact hF.2.2.2.2.2.2.2.2 | exact hF.2.2.2.2.2.2.2.2.2 | exact hF.2.2.2.2.2.2.2.2.2.2 | exact hF.2.2.2.2.2.2.2.2.2.2.2 | exact hF.2.2.2.2.2.2.2.2.2.2.2.2)) ?_
    simp only [Act.put, List.setIfInBounds_toArray, List.set_cons_succ, List.set_cons_zero, Nat.reduceAdd, List.nil_append, List.cons_append]
    refine mix_root (MadeAt (w3.heap.size) 2 2 (cells3 [m, s2]).toArray 37) MadeAt.only (fun _ => rfl) ?_ ?_
    · intro _ w1 hE _ K hK
      go_step
      exact hK _ _ ((Only.refl _ _).alloc _) ⟨_, rfl, Blk.new _ _ _, hE.size⟩
    simp only [Act.put, List.setIfInBounds_toArray, List.set_cons_succ, List.set_cons_zero, Nat.reduceAdd, List.nil_append, List.cons_append]
    refine mix_call (ev d) 36 (fun V => #[V 26]) (fun _ => rfl) (fun _ _ => by go_simp) (fun _ w1 _ hF => by simp only [facts, Nat.reduceMod, Nat.reduceDiv, forall_const, true_and, and_true] at hF; exact M3.out _ _ w1 (by first | exact hF | exact hF.2 | exact hF.2.2 | exact hF.2.2.2 | exact hF.2.2.2.2 | exact hF.2.2.2.2.2 | exact hF.2.2.2.2.2.2 | exact hF.2.2.2.2.2.2.2 | exact hF.2.2.2.2.2.2.2.2 | exact hF.2.2.2.2.2.2.2.2.2 | exact hF.2.2.2.2.2.2.2.2.2.2 | exact hF.2.2.2.2.2.2.2.2.2.2.2 | exact hF.2.2.2.2.2.2.2.2.2.2.2.2)) ?_
    simp only [Act.put, List.setIfInBounds_toArray, List.set_cons_succ, List.set_cons_zero, Nat.reduceAdd, List.nil_append, List.cons_append]
    refine mix_ld (Only.refl _) (cs := lc m) (fun w3 hE => hE.blk bx.drew (by simp)) isRow37 size37 _ rfl (fun _ => rfl) (fun _ => rfl) ?_
    simp only [Act.put, List.setIfInBounds_toArray, List.set_cons_succ, List.set_cons_zero, Nat.reduceAdd, List.nil_append, List.cons_append]
    refine mix_ld (Only.refl _) (cs := lc n) (fun w3 hE => hE.blk cy.drew (by simp)) isRow37 size37 _ rfl (fun _ => rfl) (fun _ => rfl) ?_
    simp only [Act.put, List.setIfInBounds_toArray, List.set_cons_succ, List.set_cons_zero, Nat.reduceAdd, List.nil_append, List.cons_append]
    refine mix_root (MadeAt (w3.heap.size) 2 2 (cells3 [m, n]).toArray 37) MadeAt.only (fun _ => rfl) ?_ ?_
    · intro _ w1 hE _ K hK
      go_step
      exact hK _ _ ((Only.refl _ _).alloc _) ⟨_, rfl, Blk.new _ _ _, hE.size⟩
    simp only [Act.put, List.setIfInBounds_toArray, List.set_cons_succ, List.set_cons_zero, Nat.reduceAdd, List.nil_append, List.cons_append]
    refine mix_call (ev p1) 36 (fun V => #[V 30]) (fun _ => rfl) (fun _ _ => by go_simp) (fun _ w1 _ hF => by simp only [facts, Nat.reduceMod, Nat.reduceDiv, forall_const, true_and, and_true] at hF; exact M1.out _ _ w1 (by first | exact hF | exact hF.2 | exact hF.2.2 | exact hF.2.2.2 | exact hF.2.2.2.2 | exact hF.2.2.2.2.2 | exact hF.2.2.2.2.2.2 | exact hF.2.2.2.2.2.2.2 | exact hF.2.2.2.2.2.2.2.2 | exact hF.2.2.2.2.2.2.2.2.2 | exact hF.2.2.2.2.2.2.2.2.2.2 | exact hF.2.2.2.2.2.2.2.2.2.2.2 | exact hF.2.2.2.2.2.2.2.2.2.2.2.2)) ?_
    simp only [Act.put, List.setIfInBounds_toArray, List.set_cons_succ, List.set_cons_zero, Nat.reduceAdd, List.nil_append, List.cons_append]
    refine mix_ld (Only.refl _) (cs := lc m) (fun w3 hE => hE.blk bx.drew (by simp)) isRow37 size37 _ rfl (fun _ => rfl) (fun _ => rfl) ?_
    simp only [Act.put, List.setIfInBounds_toArray, List.set_cons_succ, List.set_cons_zero, Nat.reduceAdd, List.nil_append, List.cons_append]
    refine mix_ld (Only.refl _) (cs := lc o) (fun w3 hE => hE.blk dz.drew (by simp)) isRow37 size37 _ rfl (fun _ => rfl) (fun _ => rfl) ?_
    simp only [Act.put, List.setIfInBounds_toArray, List.set_cons_succ, List.set_cons_zero, Nat.reduceAdd, List.nil_append, List.cons_append]
    refine mix_root (MadeAt (w3.heap.size) 2 2 (cells3 [m, o]).toArray 37) MadeAt.only (fun _ => rfl) ?_ ?_
    · intro _ w1 hE _ K hK
      go_step
      exact hK _ _ ((Only.refl _ _).alloc _) ⟨_, rfl, Blk.new _ _ _, hE.size⟩
    simp only [Act.put, List.setIfInBounds_toArray, List.set_cons_succ, List.set_cons_zero, Nat.reduceAdd, List.nil_append, List.cons_append]
    refine mix_call (ev p2) 36 (fun V => #[V 34]) (fun _ => rfl) (fun _ _ => by go_simp) (fun _ w1 _ hF => by simp only [facts, Nat.reduceMod, Nat.reduceDiv, forall_const, true_and, and_true] at hF; exact M4.out _ _ w1 (by first | exact hF | exact hF.2 | exact hF.2.2 | exact hF.2.2.2 | exact hF.2.2.2.2 | exact hF.2.2.2.2.2 | exact hF.2.2.2.2.2.2 | exact hF.2.2.2.2.2.2.2 | exact hF.2.2.2.2.2.2.2.2 | exact hF.2.2.2.2.2.2.2.2.2 | exact hF.2.2.2.2.2.2.2.2.2.2 | exact hF.2.2.2.2.2.2.2.2.2.2.2 | exact hF.2.2.2.2.2.2.2.2.2.2.2.2)) ?_
    simp only [Act.put, List.setIfInBounds_toArray, List.set_cons_succ, List.set_cons_zero, Nat.reduceAdd, List.nil_append, List.cons_append]
    refine mix_root (MadeAt (w3.heap.size) 2 2 (cells3 [p1, p2]).toArray 37) MadeAt.only (fun _ => rfl) ?_ ?_
    · intro _ w1 hE _ K hK
      go_step
      exact hK _ _ ((Only.refl _ _).alloc _) ⟨_, rfl, Blk.new _ _ _, hE.size⟩
    simp only [Act.put, List.setIfInBounds_toArray, List.set_cons_succ, List.set_cons_zero, Nat.reduceAdd, List.nil_append, List.cons_append]
    refine mix_call (ev d) 40 (fun V => #[V 36]) (fun _ => rfl) (fun _ _ => by go_simp) (fun _ w1 _ hF => by simp only [facts, Nat.reduceMod, Nat.reduceDiv, forall_const, true_and, and_true] at hF; exact A4.out _ _ w1 (by first | exact hF | exact hF.2 | exact hF.2.2 | exact hF.2.2.2 | exact hF.2.2.2.2 | exact hF.2.2.2.2.2 | exact hF.2.2.2.2.2.2 | exact hF.2.2.2.2.2.2.2 | exact hF.2.2.2.2.2.2.2.2 | exact hF.2.2.2.2.2.2.2.2.2 | exact hF.2.2.2.2.2.2.2.2.2.2 | exact hF.2.2.2.2.2.2.2.2.2.2.2 | exact hF.2.2.2.2.2.2.2.2.2.2.2.2)) ?_
    simp only [Act.put, List.setIfInBounds_toArray, List.set_cons_succ, List.set_cons_zero, Nat.reduceAdd, List.nil_append, List.cons_append]
    refine mix_op (Only.refl _) ?_ (fun _ => rfl) ?_ ?_
    rotate_left
    · intro _ w1 _ _ K hK
      have fact0 := E3.out w1
      go_step
      exact hK
    simp only [Act.put, List.setIfInBounds_toArray, List.set_cons_succ, List.set_cons_zero, Nat.reduceAdd, List.nil_append, List.cons_append]
    refine mix_op (Only.refl _) ?_ (fun _ => rfl) ?_ ?_
    rotate_left
    · intro _ w1 _ _ K hK
      go_step
      exact hK
    simp only [Act.put, List.setIfInBounds_toArray, List.set_cons_succ, List.set_cons_zero, Nat.reduceAdd, List.nil_append, List.cons_append]
    refine mix_op (Only.refl _) ?_ (fun _ => rfl) ?_ ?_
    rotate_left
    · intro _ w1 _ _ K hK
      go_step
      exact hK
    simp only [Act.put, List.setIfInBounds_toArray, List.set_cons_succ, List.set_cons_zero, Nat.reduceAdd, List.nil_append, List.cons_append]
    refine mix_ld (Only.refl _) (cs := lc m) (fun w3 hE => hE.blk bx.drew (by simp)) isRow37 size37 _ rfl (fun _ => rfl) (fun _ => rfl) ?_
    simp only [Act.put, List.setIfInBounds_toArray, List.set_cons_succ, List.set_cons_zero, Nat.reduceAdd, List.nil_append, List.cons_append]
    refine mix_ld (Only.refl _) (cs := lc m) (fun w3 hE => hE.blk bx.drew (by simp)) isRow37 size37 _ rfl (fun _ => rfl) (fun _ => rfl) ?_
    simp only [Act.put, List.setIfInBounds_toArray, List.set_cons_succ, List.set_cons_zero, Nat.reduceAdd, List.nil_append, List.cons_append]
    refine mix_call (ev ng) 37 (fun _ => #[ev m]) (fun _ => rfl) (fun _ _ => by go_simp) (fun _ w1 _ _ => HNG.out w1) ?_
    simp only [Act.put, List.setIfInBounds_toArray, List.set_cons_succ, List.set_cons_zero, Nat.reduceAdd, List.nil_append, List.cons_append]
    refine mix_root (MadeAt (w3.heap.size) 2 2 (cells3 [m, ng]).toArray 37) MadeAt.only (fun _ => rfl) ?_ ?_
    · intro _ w1 hE _ K hK
      go_step
      exact hK _ _ ((Only.refl _ _).alloc _) ⟨_, rfl, Blk.new _ _ _, hE.size⟩
    simp only [Act.put, List.setIfInBounds_toArray, List.set_cons_succ, List.set_cons_zero, Nat.reduceAdd, List.nil_append, List.cons_append]
    refine mix_call (ev 0) 40 (fun V => #[V 44]) (fun _ => rfl) (fun _ _ => by go_simp) (fun _ w1 _ hF => by simp only [facts, Nat.reduceMod, Nat.reduceDiv, forall_const, true_and, and_true] at hF; exact A5.out _ _ w1 (by first | exact hF | exact hF.2 | exact hF.2.2 | exact hF.2.2.2 | exact hF.2.2.2.2 | exact hF.2.2.2.2.2 | exact hF.2.2.2.2.2.2 | exact hF.2.2.2.2.2.2.2 | exact hF.2.2.2.2.2.2.2.2 | exact hF.2.2.2.2.2.2.2.2.2 | exact hF.2.2.2.2.2.2.2.2.2.2 | exact hF.2.2.2.2.2.2.2.2.2.2.2 | exact hF.2.2.2.2.2.2.2.2.2.2.2.2)) ?_
    simp only [Act.put, List.setIfInBounds_toArray, List.set_cons_succ, List.set_cons_zero, Nat.reduceAdd, List.nil_append, List.cons_append]
    refine mix_call (ev 0) 45 (fun _ => #[.int .u64 0]) (fun _ => rfl) (fun _ _ => by go_simp) (fun _ w1 _ _ => S0.out w1) ?_
    simp only [Act.put, List.setIfInBounds_toArray, List.set_cons_succ, List.set_cons_zero, Nat.reduceAdd, List.nil_append, List.cons_append]
    refine mix_op (Only.refl _) ?_ (fun _ => rfl) ?_ ?_
    rotate_left
    · intro _ w1 _ _ K hK
      have fact0 := E4.out w1
      go_step
      exact hK
    simp only [Act.put, List.setIfInBounds_toArray, List.set_cons_succ, List.set_cons_zero, Nat.reduceAdd, List.nil_append, List.cons_append]
    refine mix_op (Only.refl _) ?_ (fun _ => rfl) ?_ ?_
    rotate_left
    · intro _ w1 _ _ K hK
      go_step
      exact hK
    simp only [Act.put, List.setIfInBounds_toArray, List.set_cons_succ, List.set_cons_zero, Nat.reduceAdd, List.nil_append, List.cons_append]
    refine mix_op (Only.refl _) ?_ (fun _ => rfl) ?_ ?_
    rotate_left
    · intro _ w1 _ _ K hK
      go_step
      exact hK
    simp only [Act.put, List.setIfInBounds_toArray, List.set_cons_succ, List.set_cons_zero, Nat.reduceAdd, List.nil_append, List.cons_append]
    refine mix_ld (Only.refl _) (cs := lc m) (fun w3 hE => hE.blk bx.drew (by simp)) isRow37 size37 _ rfl (fun _ => rfl) (fun _ => rfl) ?_
    simp only [Act.put, List.setIfInBounds_toArray, List.set_cons_succ, List.set_cons_zero, Nat.reduceAdd, List.nil_append, List.cons_append]
    refine mix_ld (Only.refl _) (cs := lc n) (fun w3 hE => hE.blk cy.drew (by simp)) isRow37 size37 _ rfl (fun _ => rfl) (fun _ => rfl) ?_
    simp only [Act.put, List.setIfInBounds_toArray, List.set_cons_succ, List.set_cons_zero, Nat.reduceAdd, List.nil_append, List.cons_append]
    refine mix_root (MadeAt (w3.heap.size) 2 2 (cells3 [m, n]).toArray 37) MadeAt.only (fun _ => rfl) ?_ ?_
    · intro _ w1 hE _ K hK
      go_step
      exact hK _ _ ((Only.refl _ _).alloc _) ⟨_, rfl, Blk.new _ _ _, hE.size⟩
    simp only [Act.put, List.setIfInBounds_toArray, List.set_cons_succ, List.set_cons_zero, Nat.reduceAdd, List.nil_append, List.cons_append]
    refine mix_call (ev s1) 40 (fun V => #[V 52]) (fun _ => rfl) (fun _ _ => by go_simp) (fun _ w1 _ hF => by simp only [facts, Nat.reduceMod, Nat.reduceDiv, forall_const, true_and, and_true] at hF; exact A1.out _ _ w1 (by first | exact hF | exact hF.2 | exact hF.2.2 | exact hF.2.2.2 | exact hF.2.2.2.2 | exact hF.2.2.2.2.2 | exact hF.2.2.2.2.2.2 | exact hF.2.2.2.2.2.2.2 | exact hF.2.2.2.2.2.2.2.2 | exact hF.2.2.2.2.2.2.2.2.2 | exact hF.2.2.2.2.2.2.2.2.2.2 | exact hF.2.2.2.2.2.2.2.2.2.2.2 | exact hF.2.2.2.2.2.2.2.2.2.2.2.2)) ?_
    simp only [Act.put, List.setIfInBounds_toArray, List.set_cons_succ, List.set_cons_zero, Nat.reduceAdd, List.nil_append, List.cons_append]
    refine mix_ld (Only.refl _) (cs := lc n) (fun w3 hE => hE.blk cy.drew (by simp)) isRow37 size37 _ rfl (fun _ => rfl) (fun _ => rfl) ?_
    simp only [Act.put, List.setIfInBounds_toArray, List.set_cons_succ, List.set_cons_zero, Nat.reduceAdd, List.nil_append, List.cons_append]
    refine mix_call (ev m) 41 (fun _ => #[ev s1, ev n]) (fun _ => rfl) (fun _ _ => by go_simp) (fun _ w1 _ _ => HSB.out w1) ?_
    simp only [Act.put, List.setIfInBounds_toArray, List.set_cons_succ, List.set_cons_zero, Nat.reduceAdd, List.nil_append, List.cons_append]
    refine mix_ld (Only.refl _) (cs := lc m) (fun w3 hE => hE.blk bx.drew (by simp)) isRow37 size37 _ rfl (fun _ => rfl) (fun _ => rfl) ?_
    simp only [Act.put, List.setIfInBounds_toArray, List.set_cons_succ, List.set_cons_zero, Nat.reduceAdd, List.nil_append, List.cons_append]
    refine mix_op (Only.refl _) ?_ (fun _ => rfl) ?_ ?_
    rotate_left
    · intro _ w1 _ _ K hK
      have fact0 := E5.out w1
      go_step
      exact hK
    simp only [Act.put, List.setIfInBounds_toArray, List.set_cons_succ, List.set_cons_zero, Nat.reduceAdd, List.nil_append, List.cons_append]
    refine mix_op (Only.refl _) ?_ (fun _ => rfl) ?_ ?_
    rotate_left
    · intro _ w1 _ _ K hK
      go_step
      exact hK
    simp only [Act.put, List.setIfInBounds_toArray, List.set_cons_succ, List.set_cons_zero, Nat.reduceAdd, List.nil_append, List.cons_append]
    refine mix_op (Only.refl _) ?_ (fun _ => rfl) ?_ ?_
    rotate_left
    · intro _ w1 _ _ K hK
      go_step
      exact hK
    simp only [Act.put, List.setIfInBounds_toArray, List.set_cons_succ, List.set_cons_zero, Nat.reduceAdd, List.nil_append, List.cons_append]
    refine mix_ld (Only.refl _) (cs := lc m) (fun w3 hE => hE.blk bx.drew (by simp)) isRow37 size37 _ rfl (fun _ => rfl) (fun _ => rfl) ?_
    simp only [Act.put, List.setIfInBounds_toArray, List.set_cons_succ, List.set_cons_zero, Nat.reduceAdd, List.nil_append, List.cons_append]
    refine mix_call (ev ng) 37 (fun _ => #[ev m]) (fun _ => rfl) (fun _ _ => by go_simp) (fun _ w1 _ _ => HNG.out w1) ?_
    simp only [Act.put, List.setIfInBounds_toArray, List.set_cons_succ, List.set_cons_zero, Nat.reduceAdd, List.nil_append, List.cons_append]
    refine mix_ld (Only.refl _) (cs := lc n) (fun w3 hE => hE.blk cy.drew (by simp)) isRow37 size37 _ rfl (fun _ => rfl) (fun _ => rfl) ?_
    simp only [Act.put, List.setIfInBounds_toArray, List.set_cons_succ, List.set_cons_zero, Nat.reduceAdd, List.nil_append, List.cons_append]
    refine mix_root (MadeAt (w3.heap.size) 2 2 (cells3 [ng, n]).toArray 37) MadeAt.only (fun _ => rfl) ?_ ?_
    · intro _ w1 hE _ K hK
      go_step
      exact hK _ _ ((Only.refl _ _).alloc _) ⟨_, rfl, Blk.new _ _ _, hE.size⟩
    simp only [Act.put, List.setIfInBounds_toArray, List.set_cons_succ, List.set_cons_zero, Nat.reduceAdd, List.nil_append, List.cons_append]
    refine mix_call (ev q) 36 (fun V => #[V 63]) (fun _ => rfl) (fun _ _ => by go_simp) (fun _ w1 _ hF => by simp only [facts, Nat.reduceMod, Nat.reduceDiv, forall_const, true_and, and_true] at hF; exact M5.out _ _ w1 (by first | exact hF | exact hF.2 | exact hF.2.2 | exact hF.2.2.2 | exact hF.2.2.2.2 | exact hF.2.2.2.2.2 | exact hF.2.2.2.2.2.2 | exact hF.2.2.2.2.2.2.2 | exact hF.2.2.2.2.2.2.2.2 | exact hF.2.2.2.2.2.2.2.2.2 | exact hF.2.2.2.2.2.2.2.2.2.2 | exact hF.2.2.2.2.2.2.2.2.2.2.2 | exact hF.2.2.2.2.2.2.2.2.2.2.2.2)) ?_
    simp only [Act.put, List.setIfInBounds_toArray, List.set_cons_succ, List.set_cons_zero, Nat.reduceAdd, List.nil_append, List.cons_append]
    refine mix_ld (Only.refl _) (cs := lc m) (fun w3 hE => hE.blk bx.drew (by simp)) isRow37 size37 _ rfl (fun _ => rfl) (fun _ => rfl) ?_
    simp only [Act.put, List.setIfInBounds_toArray, List.set_cons_succ, List.set_cons_zero, Nat.reduceAdd, List.nil_append, List.cons_append]
    refine mix_ld (Only.refl _) (cs := lc n) (fun w3 hE => hE.blk cy.drew (by simp)) isRow37 size37 _ rfl (fun _ => rfl) (fun _ => rfl) ?_
    simp only [Act.put, List.setIfInBounds_toArray, List.set_cons_succ, List.set_cons_zero, Nat.reduceAdd, List.nil_append, List.cons_append]
    refine mix_root (MadeAt (w3.heap.size) 2 2 (cells3 [m, n]).toArray 37) MadeAt.only (fun _ => rfl) ?_ ?_
    · intro _ w1 hE _ K hK
      go_step
      exact hK _ _ ((Only.refl _ _).alloc _) ⟨_, rfl, Blk.new _ _ _, hE.size⟩
    simp only [Act.put, List.setIfInBounds_toArray, List.set_cons_succ, List.set_cons_zero, Nat.reduceAdd, List.nil_append, List.cons_append]
    refine mix_nil ?_
    intro V w3 hE hR
    simp only [allR, true_and, and_true] at hR
    have hlast := hR.2.2.2.2.2.2.2.2.2.2.2.2
    replace ho := ho.drew.trans hE
    clear hR hE bx cy dz
    go_wp2_with fail
    refine (M1.out _ _ _ hlast).mono ?_
    rintro r w8 ⟨rfl, ho8⟩
    go_wp2_with fail
    refine (HNQ.out _).mono ?_
    rintro r w9 ⟨rfl, ho9⟩
    have hqq := EQ.out
    go_wp2_with fail
    go_ret
    exact ⟨rfl, (ho.trans ho8).trans ho9⟩
  · have hone := H2.out h0
    have e6 := fun w1 => E6.out w1
    rw [decide_eq_false h0] at e6
    rw [hone] at b13
    have E7 := Lib.hid e6
    clear e6 hone h0
    refine region_mix mixed 15 [0, 0, 3, 7, 15, 15, 63, 127, 255, 511, 511, 2047, 4095, 8191, 8191, 32767, 65535, 131071] (by kernel_rfl) (Only []) (Only.refl _) (fun _ _ _ => Only.trans) ?_
    simp only [List.take_succ_cons, List.take_zero, List.drop_succ_cons, List.drop_zero]
    refine mix_ld (Only.refl _) (cs := lc m) (fun w3 hE => hE.blk bx.drew (by simp)) isRow37 size37 _ rfl (fun _ => rfl) (fun _ => rfl) ?_
    simp only [Act.put, List.setIfInBounds_toArray, List.set_cons_succ, List.set_cons_zero, Nat.zero_add, List.nil_append]
    refine mix_op (Only.refl _) ?_ (fun _ => rfl) ?_ ?_
    rotate_left
    · intro _ w1 _ _ K hK
      go_step
      exact hK
    simp only [Act.put, List.setIfInBounds_toArray, List.set_cons_succ, List.set_cons_zero, Nat.reduceAdd, List.nil_append, List.cons_append]
    refine mix_op (Only.refl _) ?_ (fun _ => rfl) ?_ ?_
    rotate_left
    · intro _ w1 _ _ K hK
      have fact0 := E7.out w1
      go_step
      exact hK
    simp only [Act.put, List.setIfInBounds_toArray, List.set_cons_succ, List.set_cons_zero, Nat.reduceAdd, List.nil_append, List.cons_append]
    refine mix_op (Only.refl _) ?_ (fun _ => rfl) ?_ ?_
    rotate_left
    · intro _ w1 _ _ K hK
      go_step
      exact hK
    simp only [Act.put, List.setIfInBounds_toArray, List.set_cons_succ, List.set_cons_zero, Nat.reduceAdd, List.nil_append, List.cons_append]
    refine mix_skip (fun _ => rfl) ?_
    simp only [Act.put, List.setIfInBounds_toArray, List.set_cons_succ, List.set_cons_zero, Nat.reduceAdd, List.nil_append, List.cons_append]
    refine mix_skip (fun _ => rfl) ?_
    simp only [Act.put, List.setIfInBounds_toArray, List.set_cons_succ, List.set_cons_zero, Nat.reduceAdd, List.nil_append, List.cons_append]
    refine mix_skip (fun _ => rfl) ?_
    simp only [Act.put, List.setIfInBounds_toArray, List.set_cons_succ, List.set_cons_zero, Nat.reduceAdd, List.nil_append, List.cons_append]
    refine mix_op (Only.refl _) ?_ (fun _ => rfl) ?_ ?_
    rotate_left
    · intro _ w1 _ _ K hK
      go_step
      exact hK
    simp only [Act.put, List.setIfInBounds_toArray, List.set_cons_succ, List.set_cons_zero, Nat.reduceAdd, List.nil_append, List.cons_append]
    refine mix_op (Only.refl _) ?_ (fun _ => rfl) ?_ ?_
    rotate_left
    · intro _ w1 _ _ K hK
      go_step
      exact hK
    simp only [Act.put, List.setIfInBounds_toArray, List.set_cons_succ, List.set_cons_zero, Nat.reduceAdd, List.nil_append, List.cons_append]
    refine mix_ld (Only.refl _) (cs := lc m) (fun w3 hE => hE.blk bx.drew (by simp)) isRow37 size37 _ rfl (fun _ => rfl) (fun _ => rfl) ?_
    simp only [Act.put, List.setIfInBounds_toArray, List.set_cons_succ, List.set_cons_zero, Nat.reduceAdd, List.nil_append, List.cons_append]
    refine mix_op (Only.refl _) ?_ (fun _ => rfl) ?_ ?_
    rotate_left
    · intro _ w1 _ _ K hK
      go_step
      exact hK
    simp only [Act.put, List.setIfInBounds_toArray, List.set_cons_succ, List.set_cons_zero, Nat.reduceAdd, List.nil_append, List.cons_append]
    refine mix_op (Only.refl _) ?_ (fun _ => rfl) ?_ ?_
    rotate_left
    · intro _ w1 _ _ K hK
      have fact0 := E7.out w1
      go_step
      exact hK
    simp only [Act.put, List.setIfInBounds_toArray, List.set_cons_succ, List.set_cons_zero, Nat.reduceAdd, List.nil_append, List.cons_append]
    refine mix_op (Only.refl _) ?_ (fun _ => rfl) ?_ ?_
    rotate_left
    · intro _ w1 _ _ K hK
      go_step
      exact hK
    simp only [Act.put, List.setIfInBounds_toArray, List.set_cons_succ, List.set_cons_zero, Nat.reduceAdd, List.nil_append, List.cons_append]
    refine mix_ld (Only.refl _) (cs := lc 1) (fun w3 hE => hE.blk b13.drew (by simp)) isRow37 size37 _ rfl (fun _ => rfl) (fun _ => rfl) ?_
    simp only [Act.put, List.setIfInBounds_toArray, List.set_cons_succ, List.set_cons_zero, Nat.reduceAdd, List.nil_append, List.cons_append]
    refine mix_call (ev 1) 45 (fun _ => #[.int .u64 1]) (fun _ => rfl) (fun _ _ => by go_simp) (fun _ w1 _ _ => S1.out w1) ?_
    simp only [Act.put, List.setIfInBounds_toArray, List.set_cons_succ, List.set_cons_zero, Nat.reduceAdd, List.nil_append, List.cons_append]
    refine mix_nil ?_
    intro V w3 hE _
    replace bx := hE.blk bx.drew (by simp); replace cy := hE.blk cy.drew (by simp); replace dz := hE.blk dz.drew (by simp); replace ho := ho.drew.trans hE
    clear hE b13
    have hn1 := N1.out
    go_wp2_with fail
    simp only [List.append_eq, List.cons_append, List.nil_append]
    refine region_mix mixed 68 [0, 0, 3, 7, 0, 0, 48, 127, 255, 511, 1023, 1023, 4095, 8191, 1023, 1023, 50175, 131071, 262143, 524287, 1048575, 2097151, 2097151, 2097151, 14680063, 31457279, 67108863, 134217727, 2097151, 2097151, 807403519, 2147483647, 2097151, 2097151, 12886999039, 34359738367, 68719476735, 137438953471, 274877906943, 549755813887, 1099511627775, 2199023255551, 2199023255551, 6597069766655, 17592186044415, 35184372088831, 70368744177663, 140737488355327, 281474976710655, 562949953421311, 1125899906842623, 1125899906842623, 4503599627370495, 9007199254740991, 1125899906842623, 36028797018963967, 1125899906842623, 144115188075855871, 288230376151711743, 576460752303423487, 1152921504606846975, 2305843009213693951, 1152921504606846975, 9223372036854775807, 18446744073709551615, 1152921504606846975, 1152921504606846975, 111833385946864156671, 295147905179352825855, 590295810358705651711, 1180591620717411303423, 2361183241434822606847, 4722366482869645213695] (by kernel_rfl) (Only []) (Only.refl _) (fun _ _ _ => Only.trans) ?_
    simp only [List.take_succ_cons, List.take_zero, List.drop_succ_cons, List.drop_zero]
    refine mix_ld (Only.refl _) (cs := lc m) (fun w3 hE => hE.blk bx.drew (by simp)) isRow37 size37 _ rfl (fun _ => rfl) (fun _ => rfl) ?_
    simp only [Act.put, List.setIfInBounds_toArray, List.set_cons_succ, List.set_cons_zero, Nat.zero_add, List.nil_append]
    refine mix_ld (Only.refl _) (cs := lc n) (fun w3 hE => hE.blk cy.drew (by simp)) isRow37 size37 _ rfl (fun _ => rfl) (fun _ => rfl) ?_
    simp only [Act.put, List.setIfInBounds_toArray, List.set_cons_succ, List.set_cons_zero, Nat.reduceAdd, List.nil_append, List.cons_append]
    refine mix_root (MadeAt (w3.heap.size) 2 2 (cells3 [m, n]).toArray 37) MadeAt.only (fun _ => rfl) ?_ ?_
    · intro _ w1 hE _ K hK
      go_step
      exact hK _ _ ((Only.refl _ _).alloc _) ⟨_, rfl, Blk.new _ _ _, hE.size⟩
    simp only [Act.put, List.setIfInBounds_toArray, List.set_cons_succ, List.set_cons_zero, Nat.reduceAdd, List.nil_append, List.cons_append]
    refine mix_call (ev s1) 40 (fun V => #[V 2]) (fun _ => rfl) (fun _ _ => by go_simp) (fun _ w1 _ hF => by simp only [facts, Nat.reduceMod, Nat.reduceDiv, forall_const, true_and, and_true] at hF; exact A1.out _ _ w1 (by first | exact hF | exact hF.2 | exact hF.2.2 | exact hF.2.2.2 | exact hF.2.2.2.2 | exact hF.2.2.2.2.2 | exact hF.2.2.2.2.2.2 | exact hF.2.2.2.2.2.2.2 | exact hF.2.2.2.2.2.2.2.2 | exact hF.2.2.2.2.2.2.2.2.2 | exact hF.2.2.2.2.2.2.2.2.2.2 | exact hF.2.2.2.2.2.2.2.2.2.2.2 | exact hF.2.2.2.2.2.2.2.2.2.2.2.2)) ?_
    simp only [Act.put, List.setIfInBounds_toArray, List.set_cons_succ, List.set_cons_zero, Nat.reduceAdd, List.nil_append, List.cons_append]
    refine mix_ld (Only.refl _) (cs := lc n) (fun w3 hE => hE.blk cy.drew (by simp)) isRow37 size37 _ rfl (fun _ => rfl) (fun _ => rfl) ?_
    simp only [Act.put, List.setIfInBounds_toArray, List.set_cons_succ, List.set_cons_zero, Nat.reduceAdd, List.nil_append, List.cons_append]
    refine mix_ld (Only.refl _) (cs := lc m) (fun w3 hE => hE.blk bx.drew (by simp)) isRow37 size37 _ rfl (fun _ => rfl) (fun _ => rfl) ?_
    simp only [Act.put, List.setIfInBounds_toArray, List.set_cons_succ, List.set_cons_zero, Nat.reduceAdd, List.nil_append, List.cons_append]
    refine mix_root (MadeAt (w3.heap.size) 2 2 (cells3 [n, m]).toArray 37) MadeAt.only (fun _ => rfl) ?_ ?_
    · intro _ w1 hE _ K hK
      go_step
      exact hK _ _ ((Only.refl _ _).alloc _) ⟨_, rfl, Blk.new _ _ _, hE.size⟩
    simp only [Act.put, List.setIfInBounds_toArray, List.set_cons_succ, List.set_cons_zero, Nat.reduceAdd, List.nil_append, List.cons_append]
    refine mix_call (ev s1) 40 (fun V => #[V 6]) (fun _ => rfl) (fun _ _ => by go_simp) (fun _ w1 _ hF => by simp only [facts, Nat.reduceMod, Nat.reduceDiv, forall_const, true_and, and_true] at hF; exact A2.out _ _ w1 (by first | exact hF | exact hF.2 | exact hF.2.2 | exact hF.2.2.2 | exact hF.2.2.2.2 | exact hF.2.2.2.2.2 | exact hF.2.2.2.2.2.2 | exact hF.2.2.2.2.2.2.2 | exact hF.2.2.2.2.2.2.2.2 | exact hF.2.2.2.2.2.2.2.2.2 | exact hF.2.2.2.2.2.2.2.2.2.2 | exact hF.2.2.2.2.2.2.2.2.2.2.2 | exact hF.2.2.2.2.2.2.2.2.2.2.2.2)) ?_
    simp only [Act.put, List.setIfInBounds_toArray, List.set_cons_succ, List.set_cons_zero, Nat.reduceAdd, List.nil_append, List.cons_append]
    refine mix_op (Only.refl _) ?_ (fun _ => rfl) ?_ ?_
    rotate_left
    · intro _ w1 _ _ K hK
      have fact0 := E1.out w1
      go_step
      exact hK
    simp only [Act.put, List.setIfInBounds_toArray, List.set_cons_succ, List.set_cons_zero, Nat.reduceAdd, List.nil_append, List.cons_append]
    refine mix_op (Only.refl _) ?_ (fun _ => rfl) ?_ ?_
    rotate_left
    · intro _ w1 _ _ K hK
      go_step
      exact hK
    simp only [Act.put, List.setIfInBounds_toArray, List.set_cons_succ, List.set_cons_zero, Nat.reduceAdd, List.nil_append, List.cons_append]
    refine mix_ld (Only.refl _) (cs := lc m) (fun w3 hE => hE.blk bx.drew (by simp)) isRow37 size37 _ rfl (fun _ => rfl) (fun _ => rfl) ?_
    simp only [Act.put, List.setIfInBounds_toArray, List.set_cons_succ, List.set_cons_zero, Nat.reduceAdd, List.nil_append, List.cons_append]
    refine mix_ld (Only.refl _) (cs := lc n) (fun w3 hE => hE.blk cy.drew (by simp)) isRow37 size37 _ rfl (fun _ => rfl) (fun _ => rfl) ?_
    simp only [Act.put, List.setIfInBounds_toArray, List.set_cons_succ, List.set_cons_zero, Nat.reduceAdd, List.nil_append, List.cons_append]
    refine mix_root (MadeAt (w3.heap.size) 2 2 (cells3 [m, n]).toArray 37) MadeAt.only (fun _ => rfl) ?_ ?_
    · intro _ w1 hE _ K hK
      go_step
      exact hK _ _ ((Only.refl _ _).alloc _) ⟨_, rfl, Blk.new _ _ _, hE.size⟩
    simp only [Act.put, List.setIfInBounds_toArray, List.set_cons_succ, List.set_cons_zero, Nat.reduceAdd, List.nil_append, List.cons_append]
    refine mix_call (ev p1) 36 (fun V => #[V 12]) (fun _ => rfl) (fun _ _ => by go_simp) (fun _ w1 _ hF => by simp only [facts, Nat.reduceMod, Nat.reduceDiv, forall_const, true_and, and_true] at hF; exact M1.out _ _ w1 (by first | exact hF | exact hF.2 | exact hF.2.2 | exact hF.2.2.2 | exact hF.2.2.2.2 | exact hF.2.2.2.2.2 | exact hF.2.2.2.2.2.2 | exact hF.2.2.2.2.2.2.2 | exact hF.2.2.2.2.2.2.2.2 | exact hF.2.2.2.2.2.2.2.2.2 | exact hF.2.2.2.2.2.2.2.2.2.2 | exact hF.2.2.2.2.2.2.2.2.2.2.2 | exact hF.2.2.2.2.2.2.2.2.2.2.2.2)) ?_
    simp only [Act.put, List.setIfInBounds_toArray, List.set_cons_succ, List.set_cons_zero, Nat.reduceAdd, List.nil_append, List.cons_append]
    refine mix_ld (Only.refl _) (cs := lc n) (fun w3 hE => hE.blk cy.drew (by simp)) isRow37 size37 _ rfl (fun _ => rfl) (fun _ => rfl) ?_
    simp only [Act.put, List.setIfInBounds_toArray, List.set_cons_succ, List.set_cons_zero, Nat.reduceAdd, List.nil_append, List.cons_append]
    refine mix_ld (Only.refl _) (cs := lc m) (fun w3 hE => hE.blk bx.drew (by simp)) isRow37 size37 _ rfl (fun _ => rfl) (fun _ => rfl) ?_
    simp only [Act.put, List.setIfInBounds_toArray, List.set_cons_succ, List.set_cons_zero, Nat.reduceAdd, List.nil_append, List.cons_append]
    refine mix_root (MadeAt (w3.heap.size) 2 2 (cells3 [n, m]).toArray 37) MadeAt.only (fun _ => rfl) ?_ ?_
    · intro _ w1 hE _ K hK
      go_step
      exact hK _ _ ((Only.refl _ _).alloc _) ⟨_, rfl, Blk.new _ _ _, hE.size⟩
    simp only [Act.put, List.setIfInBounds_toArray, List.set_cons_succ, List.set_cons_zero, Nat.reduceAdd, List.nil_append, List.cons_append]
    refine mix_call (ev p1) 36 (fun V => #[V 16]) (fun _ => rfl) (fun _ _ => by go_simp) (fun _ w1 _ hF => by simp only [facts, Nat.reduceMod, Nat.reduceDiv, forall_const, true_and, and_true] at hF; exact M2.out _ _ w1 (by first | exact hF | exact hF.2 | exact hF.2.2 | exact hF.2.2.2 | exact hF.2.2.2.2 | exact hF.2.2.2.2.2 | exact hF.2.2.2.2.2.2 | exact hF.2.2.2.2.2.2.2 | exact hF.2.2.2.2.2.2.2.2 | exact hF.2.2.2.2.2.2.2.2.2 | exact hF.2.2.2.2.2.2.2.2.2.2 | exact hF.2.2.2.2.2.2.2.2.2.2.2 | exact hF.2.2.2.2.2.2.2.2.2.2.2.2)) ?_
    simp only [Act.put, List.setIfInBounds_toArray, List.set_cons_succ, List.set_cons_zero, Nat.reduceAdd, List.nil_append, List.cons_append]
    refine mix_op (Only.refl _) ?_ (fun _ => rfl) ?_ ?_
    rotate_left
    · intro _ w1 _ _ K hK
      have fact0 := E2.out w1
      go_step
      exact hK
    simp only [Act.put, List.setIfInBounds_toArray, List.set_cons_succ, List.set_cons_zero, Nat.reduceAdd, List.nil_append, List.cons_append]
    refine mix_op (Only.refl _) ?_ (fun _ => rfl) ?_ ?_
    rotate_left
    · intro _ w1 _ _ K hK
      go_step
      exact hK
    simp only [Act.put, List.setIfInBounds_toArray, List.set_cons_succ, List.set_cons_zero, Nat.reduceAdd, List.nil_append, List.cons_append]
    refine mix_op (Only.refl _) ?_ (fun _ => rfl) ?_ ?_
    rotate_left
    · intro _ w1 _ _ K hK
      go_step
      exact hK
    simp only [Act.put, List.setIfInBounds_toArray, List.set_cons_succ, List.set_cons_zero, Nat.reduceAdd, List.nil_append, List.cons_append]
    refine mix_ld (Only.refl _) (cs := lc m) (fun w3 hE => hE.blk bx.drew (by simp)) isRow37 size37 _ rfl (fun _ => rfl) (fun _ => rfl) ?_
    simp only [Act.put, List.setIfInBounds_toArray, List.set_cons_succ, List.set_cons_zero, Nat.reduceAdd, List.nil_append, List.cons_append]
    refine mix_ld (Only.refl _) (cs := lc n) (fun w3 hE => hE.blk cy.drew (by simp)) isRow37 size37 _ rfl (fun _ => rfl) (fun _ => rfl) ?_
    simp only [Act.put, List.setIfInBounds_toArray, List.set_cons_succ, List.set_cons_zero, Nat.reduceAdd, List.nil_append, List.cons_append]
    refine mix_ld (Only.refl _) (cs := lc o) (fun w3 hE => hE.blk dz.drew (by simp)) isRow37 size37 _ rfl (fun _ => rfl) (fun _ => rfl) ?_
    simp only [Act.put, List.setIfInBounds_toArray, List.set_cons_succ, List.set_cons_zero, Nat.reduceAdd, List.nil_append, List.cons_append]
    refine mix_root (MadeAt (w3.heap.size) 2 2 (cells3 [n, o]).toArray 37) MadeAt.only (fun _ => rfl) ?_ ?_
    · intro _ w1 hE _ K hK
      go_step
      exact hK _ _ ((Only.refl _ _).alloc _) ⟨_, rfl, Blk.new _ _ _, hE.size⟩
    simp only [Act.put, List.setIfInBounds_toArray, List.set_cons_succ, List.set_cons_zero, Nat.reduceAdd, List.nil_append, List.cons_append]
    refine mix_call (ev s2) 40 (fun V => #[V 24]) (fun _ => rfl) (fun _ _ => by go_simp) (fun _ w1 _ hF => by simp only [facts, Nat.reduceMod, Nat.reduceDiv, Nat.reduceEqDiff, forall_const, implies_true, true_and, and_true] at hF; exact A3.out _ _ w1 (by first | exact hF | exact hF.2 | exact hF.2.2 | exact hF.2.2.2 | exact hF.2.2.2.2 | exact hF.2.2.2.2.2 | exact hF.2.2.2.2.2.2 | exact hF.2.2.2.2.2.2.2 | exact hF.2.2.2.2.2.2.2.2 | exact hF.2.2.2.2.2.2.2.2.2 | exact hF.2.2.2.2.2.2.2.2.2.2 | exact hF.2.2.2.2.2.2.2.2.2.2.2 | exact hF.2.2.2.2.2.2.2.2.2.2.2.2)) ?_
    simp only [Act.put, List.setIfInBounds_toArray, List.set_cons_succ, List.set_cons_zero, Nat.reduceAdd, List.nil_append, List.cons_append]
    refine mix_root (MadeAt (w3.heap.size) 2 2 (cells3 [m, s2]).toArray 37) MadeAt.only (fun _ => rfl) ?_ ?_
    · intro _ w1 hE _ K hK
      go_step
      exact hK _ _ ((Only.refl _ _).alloc _) ⟨_, rfl, Blk.new _ _ _, hE.size⟩
    simp only [Act.put, List.setIfInBounds_toArray, List.set_cons_succ, List.set_cons_zero, Nat.reduceAdd, List.nil_append, List.cons_append]
    refine mix_call (ev d) 36 (fun V => #[V 26]) (fun _ => rfl) (fun _ _ => by go_simp) (fun _ w1 _ hF => by simp only [facts, Nat.reduceMod, Nat.reduceDiv, forall_const, true_and, and_true] at hF; exact M3.out _ _ w1 (by first | exact hF | exact hF.2 | exact hF.2.2 | exact hF.2.2.2 | exact hF.2.2.2.2 | exact hF.2.2.2.2.2 | exact hF.2.2.2.2.2.2 | exact hF.2.2.2.2.2.2.2 | exact hF.2.2.2.2.2.2.2.2 | exact hF.2.2.2.2.2.2.2.2.2 | exact hF.2.2.2.2.2.2.2.2.2.2 | exact hF.2.2.2.2.2.2.2.2.2.2.2 | exact hF.2.2.2.2.2.2.2.2.2.2.2.2)) ?_
    simp only [Act.put, List.setIfInBounds_toArray, List.set_cons_succ, List.set_cons_zero, Nat.reduceAdd, List.nil_append, List.cons_append]
    refine mix_ld (Only.refl _) (cs := lc m) (fun w3 hE => hE.blk bx.drew (by simp)) isRow37 size37 _ rfl (fun _ => rfl) (fun _ => rfl) ?_
    simp only [Act.put, List.setIfInBounds_toArray, List.set_cons_succ, List.set_cons_zero, Nat.reduceAdd, List.nil_append, List.cons_append]
    refine mix_ld (Only.refl _) (cs := lc n) (fun w3 hE => hE.blk cy.drew (by simp)) isRow37 size37 _ rfl (fun _ => rfl) (fun _ => rfl) ?_
    simp only [Act.put, List.setIfInBounds_toArray, List.set_cons_succ, List.set_cons_zero, Nat.reduceAdd, List.nil_append, List.cons_append]
    refine mix_root (MadeAt (w3.heap.size) 2 2 (cells3 [m, n]).toArray 37) MadeAt.only (fun _ => rfl) ?_ ?_
    · intro _ w1 hE _ K hK
      go_step
      exact hK _ _ ((Only.refl _ _).alloc _) ⟨_, rfl, Blk.new _ _ _, hE.size⟩
    simp only [Act.put, List.setIfInBounds_toArray, List.set_cons_succ, List.set_cons_zero, Nat.reduceAdd, List.nil_append, List.cons_append]
    refine mix_call (ev p1) 36 (fun V => #[V 30]) (fun _ => rfl) (fun _ _ => by go_simp) (fun _ w1 _ hF => by simp only [facts, Nat.reduceMod, Nat.reduceDiv, forall_const, true_and, and_true] at hF; exact M1.out _ _ w1 (by first | exact hF | exact hF.2 | exact hF.2.2 | exact hF.2.2.2 | exact hF.2.2.2.2 | exact hF.2.2.2.2.2 | exact hF.2.2.2.2.2.2 | exact hF.2.2.2.2.2.2.2 | exact hF.2.2.2.2.2.2.2.2 | exact hF.2.2.2.2.2.2.2.2.2 | exact hF.2.2.2.2.2.2.2.2.2.2 | exact hF.2.2.2.2.2.2.2.2.2.2.2 | exact hF.2.2.2.2.2.2.2.2.2.2.2.2)) ?_
    simp only [Act.put, List.setIfInBounds_toArray, List.set_cons_succ, List.set_cons_zero, Nat.reduceAdd, List.nil_append, List.cons_append]
    refine mix_ld (Only.refl _) (cs := lc m) (fun w3 hE => hE.blk bx.drew (by simp)) isRow37 size37 _ rfl (fun _ => rfl) (fun _ => rfl) ?_
    simp only [Act.put, List.setIfInBounds_toArray, List.set_cons_succ, List.set_cons_zero, Nat.reduceAdd, List.nil_append, List.cons_append]
    refine mix_ld (Only.refl _) (cs := lc o) (fun w3 hE => hE.blk dz.drew (by simp)) isRow37 size37 _ rfl (fun _ => rfl) (fun _ => rfl) ?_
    simp only [Act.put, List.setIfInBounds_toArray, List.set_cons_succ, List.set_cons_zero, Nat.reduceAdd, List.nil_append, List.cons_append]
    refine mix_root (MadeAt (w3.heap.size) 2 2 (cells3 [m, o]).toArray 37) MadeAt.only (fun _ => rfl) ?_ ?_
    · intro _ w1 hE _ K hK
      go_step
      exact hK _ _ ((Only.refl _ _).alloc _) ⟨_, rfl, Blk.new _ _ _, hE.size⟩
    simp only [Act.put, List.setIfInBounds_toArray, List.set_cons_succ, List.set_cons_zero, Nat.reduceAdd, List.nil_append, List.cons_append]
    refine mix_call (ev p2) 36 (fun V => #[V 34]) (fun _ => rfl) (fun _ _ => by go_simp) (fun _ w1 _ hF => by simp only [facts, Nat.reduceMod, Nat.reduceDiv, forall_const, true_and, and_true] at hF; exact M4.out _ _ w1 (by first | exact hF | exact hF.2 | exact hF.2.2 | exact hF.2.2.2 | exact hF.2.2.2.2 | exact hF.2.2.2.2.2 | exact hF.2.2.2.2.2.2 | exact hF.2.2.2.2.2.2.2 | exact hF.2.2.2.2.2.2.2.2 | exact hF.2.2.2.2.2.2.2.2.2 | exact hF.2.2.2.2.2.2.2.2.2.2 | exact hF.2.2.2.2.2.2.2.2.2.2.2 | exact hF.2.2.2.2.2.2.2.2.2.2.2.2)) ?_
    simp only [Act.put, List.setIfInBounds_toArray, List.set_cons_succ, List.set_cons_zero, Nat.reduceAdd, List.nil_append, List.cons_append]
    refine mix_root (MadeAt (w3.heap.size) 2 2 (cells3 [p1, p2]).toArray 37) MadeAt.only (fun _ => rfl) ?_ ?_
    · intro _ w1 hE _ K hK
      go_step
      exact hK _ _ ((Only.refl _ _).alloc _) ⟨_, rfl, Blk.new _ _ _, hE.size⟩
    simp only [Act.put, List.setIfInBounds_toArray, List.set_cons_succ, List.set_cons_zero, Nat.reduceAdd, List.nil_append, List.cons_append]
    refine mix_call (ev d) 40 (fun V => #[V 36]) (fun _ => rfl) (fun _ _ => by go_simp) (fun _ w1 _ hF => by simp only [facts, Nat.reduceMod, Nat.reduceDiv, forall_const, true_and, and_true] at hF; exact A4.out _ _ w1 (by first | exact hF | exact hF.2 | exact hF.2.2 | exact hF.2.2.2 | exact hF.2.2.2.2 | exact hF.2.2.2.2.2 | exact hF.2.2.2.2.2.2 | exact hF.2.2.2.2.2.2.2 | exact hF.2.2.2.2.2.2.2.2 | exact hF.2.2.2.2.2.2.2.2.2 | exact hF.2.2.2.2.2.2.2.2.2.2 | exact hF.2.2.2.2.2.2.2.2.2.2.2 | exact hF.2.2.2.2.2.2.2.2.2.2.2.2)) ?_
    simp only [Act.put, List.setIfInBounds_toArray, List.set_cons_succ, List.set_cons_zero, Nat.reduceAdd, List.nil_append, List.cons_append]
    refine mix_op (Only.refl _) ?_ (fun _ => rfl) ?_ ?_
    rotate_left
    · intro _ w1 _ _ K hK
      have fact0 := E3.out w1
      go_step
      exact hK
    simp only [Act.put, List.setIfInBounds_toArray, List.set_cons_succ, List.set_cons_zero, Nat.reduceAdd, List.nil_append, List.cons_append]
    refine mix_op (Only.refl _) ?_ (fun _ => rfl) ?_ ?_
    rotate_left
    · intro _ w1 _ _ K hK
      go_step
      exact hK
    simp only [Act.put, List.setIfInBounds_toArray, List.set_cons_succ, List.set_cons_zero, Nat.reduceAdd, List.nil_append, List.cons_append]
    refine mix_op (Only.refl _) ?_ (fun _ => rfl) ?_ ?_
    rotate_left
    · intro _ w1 _ _ K hK
      go_step
      exact hK
    simp only [Act.put, List.setIfInBounds_toArray, List.set_cons_succ, List.set_cons_zero, Nat.reduceAdd, List.nil_append, List.cons_append]
    refine mix_ld (Only.refl _) (cs := lc m) (fun w3 hE => hE.blk bx.drew (by simp)) isRow37 size37 _ rfl (fun _ => rfl) (fun _ => rfl) ?_
    simp only [Act.put, List.setIfInBounds_toArray, List.set_cons_succ, List.set_cons_zero, Nat.reduceAdd, List.nil_append, List.cons_append]
    refine mix_ld (Only.refl _) (cs := lc m) (fun w3 hE => hE.blk bx.drew (by simp)) isRow37 size37 _ rfl (fun _ => rfl) (fun _ => rfl) ?_
    simp only [Act.put, List.setIfInBounds_toArray, List.set_cons_succ, List.set_cons_zero, Nat.reduceAdd, List.nil_append, List.cons_append]
    refine mix_call (ev ng) 37 (fun _ => #[ev m]) (fun _ => rfl) (fun _ _ => by go_simp) (fun _ w1 _ _ => HNG.out w1) ?_
    simp only [Act.put, List.setIfInBounds_toArray, List.set_cons_succ, List.set_cons_zero, Nat.reduceAdd, List.nil_append, List.cons_append]
    refine mix_root (MadeAt (w3.heap.size) 2 2 (cells3 [m, ng]).toArray 37) MadeAt.only (fun _ => rfl) ?_ ?_
    · intro _ w1 hE _ K hK
      go_step
      exact hK _ _ ((Only.refl _ _).alloc _) ⟨_, rfl, Blk.new _ _ _, hE.size⟩
    simp only [Act.put, List.setIfInBounds_toArray, List.set_cons_succ, List.set_cons_zero, Nat.reduceAdd, List.nil_append, List.cons_append]
    refine mix_call (ev 0) 40 (fun V => #[V 44]) (fun _ => rfl) (fun _ _ => by go_simp) (fun _ w1 _ hF => by simp only [facts, Nat.reduceMod, Nat.reduceDiv, forall_const, true_and, and_true] at hF; exact A5.out _ _ w1 (by first | exact hF | exact hF.2 | exact hF.2.2 | exact hF.2.2.2 | exact hF.2.2.2.2 | exact hF.2.2.2.2.2 | exact hF.2.2.2.2.2.2 | exact hF.2.2.2.2.2.2.2 | exact hF.2.2.2.2.2.2.2.2 | exact hF.2.2.2.2.2.2.2.2.2 | exact hF.2.2.2.2.2.2.2.2.2.2 | exact hF.2.2.2.2.2.2.2.2.2.2.2 | exact hF.2.2.2.2.2.2.2.2.2.2.2.2)) ?_
    simp only [Act.put, List.setIfInBounds_toArray, List.set_cons_succ, List.set_cons_zero, Nat.reduceAdd, List.nil_append, List.cons_append]
    refine mix_call (ev 0) 45 (fun _ => #[.int .u64 0]) (fun _ => rfl) (fun _ _ => by go_simp) (fun _ w1 _ _ => S0.out w1) ?_
    simp only [Act.put, List.setIfInBounds_toArray, List.set_cons_succ, List.set_cons_zero, Nat.reduceAdd, List.nil_append, List.cons_append]
    refine mix_op (Only.refl _) ?_ (fun _ => rfl) ?_ ?_
    rotate_left
    · intro _ w1 _ _ K hK
      have fact0 := E4.out w1
      go_step
      exact hK
    simp only [Act.put, List.setIfInBounds_toArray, List.set_cons_succ, List.set_cons_zero, Nat.reduceAdd, List.nil_append, List.cons_append]
    refine mix_op (Only.refl _) ?_ (fun _ => rfl) ?_ ?_
    rotate_left
    · intro _ w1 _ _ K hK
      go_step
      exact hK
    simp only [Act.put, List.setIfInBounds_toArray, List.set_cons_succ, List.set_cons_zero, Nat.reduceAdd, List.nil_append, List.cons_append]
    refine mix_op (Only.refl _) ?_ (fun _ => rfl) ?_ ?_
    rotate_left
    · intro _ w1 _ _ K hK
      go_step
      exact hK
    simp only [Act.put, List.setIfInBounds_toArray, List.set_cons_succ, List.set_cons_zero, Nat.reduceAdd, List.nil_append, List.cons_append]
    refine mix_ld (Only.refl _) (cs := lc m) (fun w3 hE => hE.blk bx.drew (by simp)) isRow37 size37 _ rfl (fun _ => rfl) (fun _ => rfl) ?_
    simp only [Act.put, List.setIfInBounds_toArray, List.set_cons_succ, List.set_cons_zero, Nat.reduceAdd, List.nil_append, List.cons_append]
    refine mix_ld (Only.refl _) (cs := lc n) (fun w3 hE => hE.blk cy.drew (by simp)) isRow37 size37 _ rfl (fun _ => rfl) (fun _ => rfl) ?_
    simp only [Act.put, List.setIfInBounds_toArray, List.set_cons_succ, List.set_cons_zero, Nat.reduceAdd, List.nil_append, List.cons_append]
    refine mix_root (MadeAt (w3.heap.size) 2 2 (cells3 [m, n]).toArray 37) MadeAt.only (fun _ => rfl) ?_ ?_
    · intro _ w1 hE _ K hK
      go_step
      exact hK _ _ ((Only.refl _ _).alloc _) ⟨_, rfl, Blk.new _ _ _, hE.size⟩
    simp only [Act.put, List.setIfInBounds_toArray, List.set_cons_succ, List.set_cons_zero, Nat.reduceAdd, List.nil_append, List.cons_append]
    refine mix_call (ev s1) 40 (fun V => #[V 52]) (fun _ => rfl) (fun _ _ => by go_simp) (fun _ w1 _ hF => by simp only [facts, Nat.reduceMod, Nat.reduceDiv, forall_const, true_and, and_true] at hF; exact A1.out _ _ w1 (by first | exact hF | exact hF.2 | exact hF.2.2 | exact hF.2.2.2 | exact hF.2.2.2.2 | exact hF.2.2.2.2.2 | exact hF.2.2.2.2.2.2 | exact hF.2.2.2.2.2.2.2 | exact hF.2.2.2.2.2.2.2.2 | exact hF.2.2.2.2.2.2.2.2.2 | exact hF.2.2.2.2.2.2.2.2.2.2 | exact hF.2.2.2.2.2.2.2.2.2.2.2 | exact hF.2.2.2.2.2.2.2.2.2.2.2.2)) ?_
    simp only [Act.put, List.setIfInBounds_toArray, List.set_cons_succ, List.set_cons_zero, Nat.reduceAdd, List.nil_append, List.cons_append]
    refine mix_ld (Only.refl _) (cs := lc n) (fun w3 hE => hE.blk cy.drew (by simp)) isRow37 size37 _ rfl (fun _ => rfl) (fun _ => rfl) ?_
    simp only [Act.put, List.setIfInBounds_toArray, List.set_cons_succ, List.set_cons_zero, Nat.reduceAdd, List.nil_append, List.cons_append]
    refine mix_call (ev m) 41 (fun _ => #[ev s1, ev n]) (fun _ => rfl) (fun _ _ => by go_simp) (fun _ w1 _ _ => HSB.out w1) ?_
    simp only [Act.put, List.setIfInBounds_toArray, List.set_cons_succ, List.set_cons_zero, Nat.reduceAdd, List.nil_append, List.cons_append]
    refine mix_ld (Only.refl _) (cs := lc m) (fun w3 hE => hE.blk bx.drew (by simp)) isRow37 size37 _ rfl (fun _ => rfl) (fun _ => rfl) ?_
    simp only [Act.put, List.setIfInBounds_toArray, List.set_cons_succ, List.set_cons_zero, Nat.reduceAdd, List.nil_append, List.cons_append]
    refine mix_op (Only.refl _) ?_ (fun _ => rfl) ?_ ?_
    rotate_left
    · intro _ w1 _ _ K hK
      have fact0 := E5.out w1
      go_step
      exact hK
    simp only [Act.put, List.setIfInBounds_toArray, List.set_cons_succ, List.set_cons_zero, Nat.reduceAdd, List.nil_append, List.cons_append]
    refine mix_op (Only.refl _) ?_ (fun _ => rfl) ?_ ?_
    rotate_left
    · intro _ w1 _ _ K hK
      go_step
      exact hK
    simp only [Act.put, List.setIfInBounds_toArray, List.set_cons_succ, List.set_cons_zero, Nat.reduceAdd, List.nil_append, List.cons_append]
    refine mix_op (Only.refl _) ?_ (fun _ => rfl) ?_ ?_
    rotate_left
    · intro _ w1 _ _ K hK
      go_step
      exact hK
    simp only [Act.put, List.setIfInBounds_toArray, List.set_cons_succ, List.set_cons_zero, Nat.reduceAdd, List.nil_append, List.cons_append]
    refine mix_ld (Only.refl _) (cs := lc m) (fun w3 hE => hE.blk bx.drew (by simp)) isRow37 size37 _ rfl (fun _ => rfl) (fun _ => rfl) ?_
    simp only [Act.put, List.setIfInBounds_toArray, List.set_cons_succ, List.set_cons_zero, Nat.reduceAdd, List.nil_append, List.cons_append]
    refine mix_call (ev ng) 37 (fun _ => #[ev m]) (fun _ => rfl) (fun _ _ => by go_simp) (fun _ w1 _ _ => HNG.out w1) ?_
    simp only [Act.put, List.setIfInBounds_toArray, List.set_cons_succ, List.set_cons_zero, Nat.reduceAdd, List.nil_append, List.cons_append]
    refine mix_ld (Only.refl _) (cs := lc n) (fun w3 hE => hE.blk cy.drew (by simp)) isRow37 size37 _ rfl (fun _ => rfl) (fun _ => rfl) ?_
    simp only [Act.put, List.setIfInBounds_toArray, List.set_cons_succ, List.set_cons_zero, Nat.reduceAdd, List.nil_append, List.cons_append]
    refine mix_root (MadeAt (w3.heap.size) 2 2 (cells3 [ng, n]).toArray 37) MadeAt.only (fun _ => rfl) ?_ ?_
    · intro _ w1 hE _ K hK
      go_step
      exact hK _ _ ((Only.refl _ _).alloc _) ⟨_, rfl, Blk.new _ _ _, hE.size⟩
    simp only [Act.put, List.setIfInBounds_toArray, List.set_cons_succ, List.set_cons_zero, Nat.reduceAdd, List.nil_append, List.cons_append]
    refine mix_call (ev q) 36 (fun V => #[V 63]) (fun _ => rfl) (fun _ _ => by go_simp) (fun _ w1 _ hF => by simp only [facts, Nat.reduceMod, Nat.reduceDiv, forall_const, true_and, and_true] at hF; exact M5.out _ _ w1 (by first | exact hF | exact hF.2 | exact hF.2.2 | exact hF.2.2.2 | exact hF.2.2.2.2 | exact hF.2.2.2.2.2 | exact hF.2.2.2.2.2.2 | exact hF.2.2.2.2.2.2.2 | exact hF.2.2.2.2.2.2.2.2 | exact hF.2.2.2.2.2.2.2.2.2 | exact hF.2.2.2.2.2.2.2.2.2.2 | exact hF.2.2.2.2.2.2.2.2.2.2.2 | exact hF.2.2.2.2.2.2.2.2.2.2.2.2)) ?_
    simp only [Act.put, List.setIfInBounds_toArray, List.set_cons_succ, List.set_cons_zero, Nat.reduceAdd, List.nil_append, List.cons_append]
    refine mix_ld (Only.refl _) (cs := lc m) (fun w3 hE => hE.blk bx.drew (by simp)) isRow37 size37 _ rfl (fun _ => rfl) (fun _ => rfl) ?_
    simp only [Act.put, List.setIfInBounds_toArray, List.set_cons_succ, List.set_cons_zero, Nat.reduceAdd, List.nil_append, List.cons_append]
    refine mix_ld (Only.refl _) (cs := lc n) (fun w3 hE => hE.blk cy.drew (by simp)) isRow37 size37 _ rfl (fun _ => rfl) (fun _ => rfl) ?_
    simp only [Act.put, List.setIfInBounds_toArray, List.set_cons_succ, List.set_cons_zero, Nat.reduceAdd, List.nil_append, List.cons_append]
    refine mix_root (MadeAt (w3.heap.size) 2 2 (cells3 [m, n]).toArray 37) MadeAt.only (fun _ => rfl) ?_ ?_
    · intro _ w1 hE _ K hK
      go_step
      exact hK _ _ ((Only.refl _ _).alloc _) ⟨_, rfl, Blk.new _ _ _, hE.size⟩
    simp only [Act.put, List.setIfInBounds_toArray, List.set_cons_succ, List.set_cons_zero, Nat.reduceAdd, List.nil_append, List.cons_append]
    refine mix_nil ?_
    intro V w3 hE hR
    simp only [allR, true_and, and_true] at hR
    have hlast := hR.2.2.2.2.2.2.2.2.2.2.2.2
    replace ho := ho.drew.trans hE
    clear hR hE bx cy dz
    go_wp2_with fail
    refine (M1.out _ _ _ hlast).mono ?_
    rintro r w8 ⟨rfl, ho8⟩
    go_wp2_with fail
    refine (HNQ.out _).mono ?_
    rintro r w9 ⟨rfl, ho9⟩
    have hqq := EQ.out
    go_wp2_with fail
    go_ret
    exact ⟨rfl, (ho.trans ho8).trans ho9⟩
theorem walk (x y z : Nat) (hx : x < W256) (hy : y < W256) (hz : z < W256) (w : World) :
    Calls Try.prog 7 #[ev x, ev y, ev z] w fun r w' => r = .returned (.bool true) ∧ Below w.heap.size w w' := by
  have lm : x % P255 < P255 := Nat.mod_lt _ (by decide)
  have ln : y % P255 < P255 := Nat.mod_lt _ (by decide)
  have lo : z % P255 < P255 := Nat.mod_lt _ (by decide)
  have lt : ∀ a, a % P255 < P255 := fun a => Nat.mod_lt _ (by decide)
  generalize hm : x % P255 = m at *
  generalize hn : y % P255 = n at *
  generalize ho : z % P255 = o at *
  refine (walk0 x y z hx hy hz m n o (invN m) (m * invN m % P255) ((m + n) % P255) (m * n % P255) ((n + o) % P255) (m * ((n + o) % P255) % P255) (m * o % P255) (negN m) (negN m * n % P255) hm hn ho
    ⟨lm, ln, lo, invN_lt _, lt _, lt _, lt _, lt _, lt _, lt _, negN_ltP _, lt _⟩ rfl rfl (fun h => by rw [h, Nat.zero_mul, Nat.zero_mod]) (fun h => mul_inv h lm)
    rfl (by rw [Nat.add_comm]) rfl (by rw [Nat.mul_comm]) rfl rfl rfl (by rw [Nat.mul_mod_mod, Nat.mul_add, ← Nat.add_mod]) rfl (add_neg m lm) ?_ rfl (negN_mul m n lm).symm w).mono fun _ _ h => ⟨h.1, h.2.toGrow⟩
  unfold subN
  rw [Nat.mod_add_mod, Nat.add_assoc, Nat.add_mod, add_neg n ln, Nat.add_zero, Nat.mod_mod, Nat.mod_eq_of_lt lm]

/-! ### THE ROW's STEP -/
set_option maxRecDepth 100000 in
theorem lifted (os : Os) (started : os.Started) (H : Type) (enc : TypeId × Value → H) :
    ReturnsInHanded {} Try.checked os 7 .any (Rows.fieldRulesSpec.pre6 enc Try.prog Try.f7 Rows.fieldRulesRow.domain false) (Rows.fieldRulesSpec.post enc Try.prog Try.f7 false true false false) := by
  refine returnsInHanded_of_change (C := Try.checked) own started (by kernel_rfl) Try.func7
    (ChangeSpec.witness6 (enc := enc) (C := Try.checked) false ⟨#[], #[.agg #[.int .u64 0, .int .u64 0, .int .u64 0, .int .u64 0], .agg #[.int .u64 0, .int .u64 0, .int .u64 0, .int .u64 0], .agg #[.int .u64 0, .int .u64 0, .int .u64 0, .int .u64 0]], []⟩ 8 (by kernel_rfl) (by kernel_rfl) (by kernel_rfl) (by kernel_rfl)) ?_
  intro W base args ds gs before hval0 hW hcnd _
  have hval : ∀ (j : Nat) t v, Try.f7.params[j]? = some t → args[j]? = some v → Value.okWide Try.prog W .any base t v := hval0
  have hW' := hW
  obtain ⟨p, q, hA0, hV, rfl, hfz, hnd⟩ := hW
  have hA : DataW.TrodAll enc Try.prog W 0 (fun _ => true) true Try.f7.params.toList args.toList ds p := hA0
  rw [Try.params7] at hA hval
  obtain ⟨v0, vs0, d0, ds0, p0, q0, hargs, rfl, rfl, h0, r0⟩ := trodAll_cons hA
  obtain ⟨v1, vs1, d1, ds1, p1, q1, rfl, rfl, rfl, h1, r1⟩ := trodAll_cons r0
  obtain ⟨v2, vs2, d2, ds2, p2, q2, rfl, rfl, rfl, h2, r2⟩ := trodAll_cons r1
  obtain ⟨rfl, rfl, rfl⟩ := trodAll_nil r2
  obtain rfl : args = #[v0, v1, v2] := by cases args; simp_all
  obtain ⟨rfl, rfl⟩ := trodVars_none hV
  have k0 := h0
  have k1 := h1
  have k2 := h2
  obtain ⟨x0, l0, rfl⟩ := open_limbs (hval 0 36 v0 rfl rfl) h0
  obtain ⟨x1, l1, rfl⟩ := open_limbs (hval 1 36 v1 rfl rfl) h1
  obtain ⟨x2, l2, rfl⟩ := open_limbs (hval 2 36 v2 rfl rfl) h2
  clear hA0 hval0
  refine (walk x0 x1 x2 l0 l1 l2 W).mono fun e W' ⟨he, bel⟩ => ?_
  subst he
  exact ⟨_, rfl, _, _, _, [], _, [], hW', trodAll_mk1 (shut_bool Try.underlying4 _), (trodAll_cons_mk (Below.trod laidOut (by kernel_rfl) (of_decide_eq_true (by kernel_rfl)) k0 bel (trod_places k0)) (trodAll_cons_mk (Below.trod laidOut (by kernel_rfl) (of_decide_eq_true (by kernel_rfl)) k1 bel (trod_places k1)) (trodAll_cons_mk (Below.trod laidOut (by kernel_rfl) (of_decide_eq_true (by kernel_rfl)) k2 bel (trod_places k2)) trodAll_mk0))), rfl, bel.frame _, fun h => by cases h⟩

theorem over : Rows.fieldRulesRow.holds Try.pinned (OpenSpec.ofChange Rows.fieldRulesSpec) :=
  OpenClaim.holds_of_wide 7 Try.f7 rfl rfl rfl rfl rfl rfl rfl ⟨rfl, rfl, rfl, rfl, rfl⟩ rfl rfl rfl rfl rfl (by kernel_rfl) Try.func7 (by kernel_rfl)
    (of_decide_eq_true (by kernel_rfl)) (by unfold Func.isWrapper; first | (rw [if_pos (by decide +kernel)]; kernel_rfl) | (rw [if_neg (by decide +kernel)]; exact ⟨rfl, rfl⟩))
    (fun os started H enc _ => lifted os started H enc)

/-- ████ THE STATEMENT ████ -/
theorem proved : Rows.FieldRulesSaid := over
#print axioms proved
end Go.Proofs.Ytmlahbmaomoiaaa.fieldRules
