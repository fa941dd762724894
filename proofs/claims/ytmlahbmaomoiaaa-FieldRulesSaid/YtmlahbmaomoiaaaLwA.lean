/-
  The field's laws: their helpers: num, like, lives.
-/
import Derived.Test.YtmlahbmaomoiaaaRfQ
import Derived.Test.YtmlahbmaomoiaaaRow
import Derived.Test.YtmlahbmaomoiaaaPrB
namespace Go.Proofs.Ytmlahbmaomoiaaa
open Go.RowKit

theorem powN_pm (x e : Nat) (h : e < 2 ^ 256) : powN x e = pm P255 256 x e := (pm_eq P255 256 x e h).symm
theorem eroot_lt : ERoot < 2 ^ 256 := by decide
theorem root0_pm (x : Nat) : root0 x = pm P255 256 x ERoot := powN_pm x ERoot eroot_lt
def root1K (x : Nat) : Nat := if pm P255 256 x ERoot * pm P255 256 x ERoot % P255 = x then pm P255 256 x ERoot else pm P255 256 x ERoot * IRoot % P255
def rootBK (x : Nat) : Bool := decide (root1K x * root1K x % P255 = x)
def rootNK (x : Nat) : Nat := if rootBK x then (if root1K x % 2 = 1 then negN (root1K x) else root1K x) else 0
theorem root1_pm (x : Nat) : root1 x = root1K x := by unfold root1 root1K; rw [root0_pm]
theorem rootB_pm (x : Nat) : rootB x = rootBK x := by unfold rootB rootBK; rw [root1_pm]
theorem rootN_pm (x : Nat) : rootN x = rootNK x := by unfold rootN rootNK; rw [root1_pm, rootB_pm]
theorem rootB_4 : rootB 4 = true := (rootB_pm 4).trans (by decide +kernel)
theorem rootN_4 : rootN 4 = 2 := (rootN_pm 4).trans (by decide +kernel)
theorem rootB_2 : rootB 2 = false := (rootB_pm 2).trans (by decide +kernel)

set_option maxRecDepth 100000 in
set_option maxHeartbeats 1000000 in
theorem num_any (x : Nat) (hx : x < W256) (w : World) : Calls Try.prog 24 #[ev x] w fun e w' => e = .returned (.tuple #[ev (x % P255), rv (x % P255)]) ∧ Only [] w w' := by
  have HF := Lib.hid fun w1 => fromlimbs_any x hx w1
  have hm : x % P255 < W255 := Nat.lt_trans (Nat.mod_lt _ (by decide)) p255_lt
  have HL := Lib.hid fun w1 => limbs_any (x % P255) hm w1
  clear hx hm
  generalize x % P255 = m at *
  have hb2 : Blk (((w.alloc (.cells (lc x) 36)).alloc (.cells (lc 0) 37)).alloc (.cells zc 39)) (w.heap.size + 1) (lc 0) 37 := (Blk.newAt _ _ (by simp)).alloc _
  have hb3 : Blk (((w.alloc (.cells (lc x) 36)).alloc (.cells (lc 0) 37)).alloc (.cells zc 39)) (w.heap.size + 1 + 1) (nc fun _ => 0) 39 := Blk.newAt _ _ (by simp)
  have ho : Only [] w (((w.alloc (.cells (lc x) 36)).alloc (.cells (lc 0) 37)).alloc (.cells zc 39)) := (((Only.refl _ _).alloc _).alloc _).alloc _
  go_enter Try.func24, Try.ntmps24
  go_wp2_with fail
  refine (HF.out _).mono ?_
  rintro e w1 ⟨rfl, ho1⟩
  replace hb2 := ho1.blk hb2 (by simp)
  replace hb3 := ho1.blk hb3 (by simp)
  replace ho := ho.trans ho1
  clear ho1
  have hs := hb3.lt
  have hb4 : Blk (w1.alloc (.cells zc 39)) w1.heap.size (nc fun _ => 0) 39 := Blk.new _ _ _
  replace hb2 := hb2.alloc (.cells zc 39)
  replace hb3 := hb3.alloc (.cells zc 39)
  replace ho := ho.alloc (.cells zc 39)
  generalize hB : w1.heap.size = b4 at *
  go_wp2_with (first | refine load_nc rfl _ rfl rfl (by assumption) ?_ | refine store_nc rfl _ _ rfl rfl rfl (by assumption) ?_)
  replace hb2 := hb2.farRow (g := b4) (by omega) (nc (dig m))
  replace hb3 := hb3.farRow (g := b4) (by omega) (nc (dig m))
  replace hb4 := hb4.setRow (nc (dig m))
  replace ho := ho.setRow (g := b4) (.inr (by omega)) (nc (dig m))
  generalize (w1.alloc (.cells zc 39)).setRow b4 (nc (dig m)) = w2 at *
  have hlt4 := hb4.lt
  refine region_mix mixed 4 [0, 1, 0, 3, 15] (by kernel_rfl) (Turn (w.heap.size + 1) (lc m) 37) (Turn.refl _ _ _) Turn.trans ?_
  simp only [List.take_succ_cons, List.take_zero, List.drop_succ_cons, List.drop_zero]
  refine mix_ld (Turn.refl _ _ _) (cs := rc m) (fun w3 hE => hE.1.blk hb4.drew (by simp; omega)) isRow39 size39 _ rfl (fun V => rfl) (fun V => rfl) ?_
  simp only [Act.put, List.setIfInBounds_toArray, List.set_cons_succ, List.set_cons_zero, Nat.zero_add]
  refine mix_call (ev m) 87 (fun V => #[rv m]) (fun V => rfl) (fun V w1 => by go_simp) (fun V w1 hE hF => (HL.out w1).mono fun e w' h => ⟨h.1, h.2.turn (by have := hE.1.size; simp at *; omega)⟩) ?_
  simp only [Act.put, List.setIfInBounds_toArray, List.set_cons_succ, List.set_cons_zero, Nat.reduceAdd]
  refine mix_ld (Turn.refl _ _ _) (cs := rc m) (fun w3 hE => hE.1.blk hb4.drew (by simp; omega)) isRow39 size39 _ rfl (fun V => rfl) (fun V => rfl) ?_
  simp only [Act.put, List.setIfInBounds_toArray, List.set_cons_succ, List.set_cons_zero, Nat.reduceAdd]
  refine mix_st (cs := lc m) rfl hb2.drew rfl size37 (lc_one m) _ _ rfl (fun V => rfl) (fun V => rfl) (fun V => rfl) ?_
  simp only [Act.put, Nat.reduceAdd]
  refine mix_nil ?_
  intro V w3 hE hR
  simp only [allR, List.nil_append, List.cons_append, true_and, and_true] at hR
  replace hb3 := hE.1.blk hb3.drew (by simp)
  replace ho := ho.drew.then hE.1 (by intro z hz; simp at hz; omega)
  go_wp2_with (refine stRow hb3 (cs := rc m) size39 rfl (nc_one _) rfl _ _ rfl rfl rfl ?_)
  exact post_cc (cs := lc m) (ds := rc m) rfl (hR.farRow (by omega) _) (hb3.setRow _) isRow37 size37 isRow39 size39 rfl rfl rfl ⟨rfl, ho.setRow (.inr (by omega)) _⟩

set_option maxRecDepth 100000 in
set_option maxHeartbeats 1000000 in
theorem like_any (x y : Nat) (hx : x < W256) (hy : y < W255) (w : World) : Calls Try.prog 25 #[ev x, rv y] w fun e w' => e = .returned (.bool (decide (x = y))) ∧ Only [] w w' := by
  have HL := Lib.hid fun w1 => limbs_any y hy w1
  have heq := fun w1 => eq_ev x y hx (Nat.lt_trans hy (by decide)) w1
  have HQ := Lib.hid heq
  clear hx hy heq
  have hb0 : Blk ((w.alloc (.cells (lc x) 37)).alloc (.cells (rc y) 39)) w.heap.size (lc x) 37 := (Blk.new _ _ _).alloc _
  have hb1 : Blk ((w.alloc (.cells (lc x) 37)).alloc (.cells (rc y) 39)) (w.heap.size + 1) (rc y) 39 := Blk.newAt _ _ (by simp)
  have ho : Only [] w ((w.alloc (.cells (lc x) 37)).alloc (.cells (rc y) 39)) := ((Only.refl _ _).alloc _).alloc _
  go_enter Try.func25, Try.ntmps25
  go_wp2_with fail
  generalize (w.alloc (.cells (lc x) 37)).alloc (.cells (rc y) 39) = w2 at *
  refine region_mix mixed 3 [0, 0, 2, 7, 15] (by kernel_rfl) (Only []) (Only.refl _) (fun _ _ _ => Only.trans) ?_
  simp only [List.take_succ_cons, List.take_zero, List.drop_succ_cons, List.drop_zero]
  refine mix_ld (Only.refl _) (cs := lc x) (fun w3 hE => hE.blk hb0.drew (by simp)) isRow37 size37 _ rfl (fun V => rfl) (fun V => rfl) ?_
  simp only [Act.put, List.setIfInBounds_toArray, List.set_cons_succ, List.set_cons_zero, Nat.zero_add]
  refine mix_ld (Only.refl _) (cs := rc y) (fun w3 hE => hE.blk hb1.drew (by simp)) isRow39 size39 _ rfl (fun V => rfl) (fun V => rfl) ?_
  simp only [Act.put, List.setIfInBounds_toArray, List.set_cons_succ, List.set_cons_zero, Nat.reduceAdd]
  refine mix_call (ev y) 87 (fun V => #[rv y]) (fun V => rfl) (fun V w1 => by go_simp) (fun V w1 hE hF => HL.out w1) ?_
  simp only [Act.put, List.setIfInBounds_toArray, List.set_cons_succ, List.set_cons_zero, Nat.reduceAdd]
  refine mix_nil ?_
  intro V w3 hE hR
  simp only [allR, List.nil_append, List.cons_append, and_true] at hR
  clear hR
  have hq := HQ.out
  go_wp2_with fail
  go_ret
  exact ⟨rfl, ho.drew.trans hE⟩

set_option maxRecDepth 100000 in
set_option maxHeartbeats 1000000 in
theorem lives05 (w : World) : Calls Try.prog 23 #[] w fun e w' => e = .returned (.bool true) ∧ Only [] w w' := by
  have hr4 := fun w1 => root_any 4 (by decide) w1
  have hr2 := fun w1 => root_any 2 (by decide) w1
  rw [rootB_4, rootN_4] at hr4
  rw [rootB_2] at hr2
  have hn : ∃ n, n = rootN 2 := ⟨_, rfl⟩
  obtain ⟨n, hn⟩ := hn
  rw [← hn] at hr2
  clear hn
  have hq2 := fun w1 => eq_ev 2 2 (by decide) (by decide) w1
  have hq3 := fun w1 => eq_ev 3 3 (by decide) (by decide) w1
  rw [decide_eq_true (rfl : (2 : Nat) = 2)] at hq2
  rw [decide_eq_true (rfl : (3 : Nat) = 3)] at hq3
  have hadd := fun (g : Nat) (w1 : World) (hp : Elems w1 (some ⟨g, 0, none⟩) [1, 2]) => add_any [1, 2] (fun i hi => by
    have : i = 0 ∨ i = 1 := by simp at hi; omega
    rcases this with rfl | rfl <;> decide) (by simp) (some ⟨g, 0, none⟩) 2 w1 hp
  rw [show addN [1, 2] = 3 from rfl] at hadd
  have S1 := Lib.hid fun w1 => small_any 1 (by decide) w1
  have S2 := Lib.hid fun w1 => small_any 2 (by decide) w1
  have S3 := Lib.hid fun w1 => small_any 3 (by decide) w1
  have S4 := Lib.hid fun w1 => small_any 4 (by decide) w1
  have R4 := Lib.hid hr4; have R2 := Lib.hid hr2; have Q2 := Lib.hid hq2; have Q3 := Lib.hid hq3; have HA := Lib.hid hadd
  clear hr4 hr2 hq2 hq3 hadd
  go_enter Try.func23, Try.ntmps23
  go_wp2_with fail
  refine (S4.out _).mono ?_
  rintro e w1 ⟨rfl, ho1⟩
  go_wp2_with fail
  refine (R4.out _).mono ?_
  rintro e w2 ⟨rfl, ho2⟩
  go_wp2_with fail
  refine (S2.out _).mono ?_
  rintro e w3 ⟨rfl, ho3⟩
  go_wp2_with fail
  refine (R2.out _).mono ?_
  rintro e w4 ⟨rfl, ho4⟩
  have ho5 : Only [] w w2 := ho1.trans ho2
  have ho6 : Only [] (w2.alloc (.cells (lc 2) 37)) w4 := ho3.trans ho4
  have hb : Blk w4 w2.heap.size (lc 2) 37 := ho6.blk (Blk.new w2 (lc 2) 37) (by simp)
  have ho : Only [] w w4 := (ho5.alloc _).trans ho6
  clear ho1 ho2 ho3 ho4 ho5 ho6
  replace hb := hb.alloc (.cells (lc n) 37)
  replace ho := ho.alloc (.cells (lc n) 37)
  go_wp2_with fail
  refine region_mix mixed 8 [0, 1, 3, 7, 15, 31, 63, 63, 255, 511, 1023, 2047, 4095, 8191, 16383, 32767, 65535, 131071, 262143] (by kernel_rfl) (Only []) (Only.refl _) (fun _ _ _ => Only.trans) ?_
  simp only [List.take_succ_cons, List.take_zero, List.drop_succ_cons, List.drop_zero]
  refine mix_op (Only.refl _) ?_ (fun V => rfl) ?_ ?_
  rotate_left
  · intro V w1 hE hF K hK
    go_step
    exact hK
  simp only [Act.put, List.setIfInBounds_toArray, List.set_cons_succ, List.set_cons_zero, Nat.zero_add]
  refine mix_op (Only.refl _) ?_ (fun V => rfl) ?_ ?_
  rotate_left
  · intro V w1 hE hF K hK
    go_step
    exact hK
  simp only [Act.put, List.setIfInBounds_toArray, List.set_cons_succ, List.set_cons_zero, Nat.reduceAdd]
  refine mix_op (Only.refl _) ?_ (fun V => rfl) ?_ ?_
  rotate_left
  · intro V w1 hE hF K hK
    go_step
    exact hK
  simp only [Act.put, List.setIfInBounds_toArray, List.set_cons_succ, List.set_cons_zero, Nat.reduceAdd]
  refine mix_op (Only.refl _) ?_ (fun V => rfl) ?_ ?_
  rotate_left
  · intro V w1 hE hF K hK
    go_step
    exact hK
  simp only [Act.put, List.setIfInBounds_toArray, List.set_cons_succ, List.set_cons_zero, Nat.reduceAdd]
  refine mix_op (Only.refl _) ?_ (fun V => rfl) ?_ ?_
  rotate_left
  · intro V w1 hE hF K hK
    go_step
    exact hK
  simp only [Act.put, List.setIfInBounds_toArray, List.set_cons_succ, List.set_cons_zero, Nat.reduceAdd]
  refine mix_op (Only.refl _) ?_ (fun V => rfl) ?_ ?_
  rotate_left
  · intro V w1 hE hF K hK
    go_step
    exact hK
  simp only [Act.put, List.setIfInBounds_toArray, List.set_cons_succ, List.set_cons_zero, Nat.reduceAdd]
  refine mix_ld (Only.refl _) (cs := lc 2) (fun w3 hE => hE.blk hb.drew (by simp)) isRow37 size37 _ rfl (fun V => rfl) (fun V => rfl) ?_
  simp only [Act.put, List.setIfInBounds_toArray, List.set_cons_succ, List.set_cons_zero, Nat.reduceAdd]
  refine mix_call (ev 2) 45 (fun V => #[.int .u64 2]) (fun V => rfl) (fun V w1 => by go_simp) (fun V w1 hE hF => S2.out w1) ?_
  simp only [Act.put, List.setIfInBounds_toArray, List.set_cons_succ, List.set_cons_zero, Nat.reduceAdd]
  refine mix_nil ?_
  intro V w3 hE hR
  simp only [allR, List.nil_append, List.cons_append, and_true] at hR
  replace ho := ho.drew.trans hE
  clear hR hE hb
  have hq2 := Q2.out
  go_wp2_with fail
  clear hq2
  refine (S1.out _).mono ?_
  rintro e w5 ⟨rfl, ho5⟩
  go_wp2_with fail
  refine (S2.out _).mono ?_
  rintro e w6 ⟨rfl, ho6⟩
  go_wp2_with fail
  have hnew : Blk (w6.alloc (.cells (cells3 [1, 2]).toArray 37)) w6.heap.size (cells3 [1, 2]).toArray 37 := Blk.new _ _ _
  refine (HA.out w6.heap.size _ (elems_of [1, 2] hnew)).mono ?_
  rintro e w7 ⟨rfl, ho7⟩
  go_wp2_with fail
  refine (S3.out _).mono ?_
  rintro e w8 ⟨rfl, ho8⟩
  have hq3 := Q3.out
  go_wp2_with fail
  go_ret
  exact ⟨rfl, ((((ho.trans ho5).trans ho6).alloc _).trans ho7).trans ho8⟩
end Go.Proofs.Ytmlahbmaomoiaaa
