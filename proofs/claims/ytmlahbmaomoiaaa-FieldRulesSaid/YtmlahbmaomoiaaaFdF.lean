/-
  Field: Mul, Sub, Odd.
-/
import Derived.Test.YtmlahbmaomoiaaaFdE
namespace Go.Proofs.Ytmlahbmaomoiaaa
open Go.RowKit

def mulN (xs : List Nat) : Nat := xs.foldl (fun a x => a * x % P255) 1
theorem mulN_take (xs : List Nat) (i : Nat) (h : i < xs.length) : mulN (xs.take (i + 1)) = mulN (xs.take i) * xs.getD i 0 % P255 := by
  unfold mulN
  rw [List.take_add_one, List.getElem?_eq_getElem h, List.foldl_append]
  simp [List.getD, List.getElem?_eq_getElem h]
theorem mulN_lt (xs : List Nat) : mulN xs < P255 := by
  unfold mulN
  suffices h : ∀ (l : List Nat) (a : Nat), a < P255 → l.foldl (fun a x => a * x % P255) a < P255 from h xs 1 (by decide)
  intro l
  induction l with
  | nil => intro a h; exact h
  | cons x l ih => intro a _; exact ih _ (Nat.mod_lt _ (by decide))

set_option maxRecDepth 100000 in
set_option maxHeartbeats 4000000 in
theorem mul_any (xs : List Nat) (hxs : ∀ i, i < xs.length → xs.getD i 0 < W256) (hlen : xs.length < 4294967296) (p : Option Addr) (cap : Nat) (w : World) (hp : Elems w p xs) :
    Calls Try.prog 36 #[.slice p xs.length cap] w fun e w' => e = .returned (ev (mulN xs)) ∧ Only [] w w' := by
  have HX := Lib.hid hxs; clear hxs
  generalize hn : xs.length = n at *
  have HN := Lib.hid hn; clear hn
  go_enter Try.func36, Try.ntmps36
  go_wp2_with fail
  refine (small_any 1 (by decide) _).mono ?_
  rintro e w1 ⟨rfl, ho1⟩
  have hb0 := ho1.blk (Blk.new w (lc 0) 37) (by simp)
  have hoA : Only [] w w1 := ((Only.refl [] w).alloc _).trans ho1
  have hs1 := hb0.lt
  go_wp2_with fail
  have hb1 := Blk.new w1 (lc 1) 37
  have hb0 := hb0.alloc (.cells (lc 1) 37)
  have hoA : Only [] w (w1.alloc (.cells (lc 1) 37)) := hoA.alloc _
  generalize hbY : w1.heap.size = b1 at *
  go_loopw [9] (fun c wr => ∃ i : Nat, c = .int .i64 (i : Int) ∧ i ≤ n ∧ Blk wr w.heap.size (lc 0) 37 ∧ Blk wr b1 (lc (mulN (xs.take i))) 37 ∧ Only [] w wr) (fun c _ => n - (intOf c).toNat)
  case atStart => exact ⟨0, rfl, Nat.zero_le _, hb0, hb1, hoA⟩
  case round =>
    obtain ⟨i, rfl, hi, hb0, hb1, ho⟩ := hrel
    by_cases hlt : i < n
    · have hp1 := hp.only ho i (by rw [HN.out]; exact hlt)
      obtain ⟨g, rfl, hg, hc⟩ := hp1
      obtain ⟨y, hy⟩ : ∃ y, y = xs.getD i 0 := ⟨_, rfl⟩
      obtain ⟨x, hx⟩ : ∃ x, x = mulN (xs.take i) := ⟨_, rfl⟩
      rw [← hy] at hc
      rw [← hx] at hb1
      have hyl : y < W256 := by rw [hy]; exact HX.out i hlt
      have hxl : x < W256 := by rw [hx]; exact Nat.lt_trans (mulN_lt _) p_lt
      have hfin : x * y % P255 = mulN (xs.take (i + 1)) := by rw [mulN_take xs i (by rw [HN.out]; exact hlt), ← hx, ← hy]
      have HF := Lib.hid hfin
      have HXL := Lib.hid hxl; have HYL := Lib.hid hyl
      clear hx hy hyl hxl hfin
      have q0 : wr.cell? ⟨g, i * 4, none⟩ = _ := hc 0 (by omega)
      have q1 := hc 1 (by omega); have q2 := hc 2 (by omega); have q3 := hc 3 (by omega)
      have hlti : (i : Int) < (n : Int) := by omega
      clear hc
      obtain ⟨r0, r1, r2, r3, rf⟩ := hb1.four
      have hl1 := hb1.lt
      go_wp2_with fail
      refine (times_any x y HXL.out HYL.out _).mono ?_
      rintro e w4 ⟨rfl, ho4⟩
      rw [HF.out]
      have ho5 : Only [] wr w4 := ((Only.refl [] wr).alloc _).trans ho4
      have hb01 := ho5.blk hb0 (by simp)
      have hb11 := ho5.blk hb1 (by simp)
      have ho11 := ho.trans ho5
      clear hb0 hb1 ho q0 q1 q2 q3 r0 r1 r2 r3 rf
      obtain ⟨r0, r1, r2, r3, rf⟩ := hb11.four
      go_wp2_with fail
      go_roundw
      case rel => exact ⟨i + 1, by go_num, by omega, hb01.far4 (by omega) _ _ _ _, hb11.set4 _ _ _ _, ho11.set4 (b := b1) (.inr (by omega)) _ _ _ _⟩
      case measure => simp [intOf]; omega
    · have hin : i = n := by omega
      subst hin
      have hfin : mulN (xs.take i) = mulN xs := by rw [← HN.out, List.take_length]
      rw [hfin] at hb1
      clear hfin
      obtain ⟨q0, q1, q2, q3, qf⟩ := hb1.four
      obtain ⟨r0, r1, r2, r3, rf⟩ := hb0.four
      go_wp2_with fail
      exact bodyPost_ret (v := ev (mulN xs)) (by simp [results, Try.results36, go_sem, r0, r1, r2, r3]) rfl ⟨rfl, ho.set4 (b := w.heap.size) (.inr (by omega)) _ _ _ _⟩

/-- The cells of so many numbers. -/
def cells3 : List Nat → List Value
  | [] => []
  | x :: xs => (lc x).toList ++ cells3 xs
theorem cells3_get : ∀ (xs : List Nat) (i j : Nat), i < xs.length → j < 4 → (cells3 xs)[i * 4 + j]? = some (.int .u64 ((limb (xs.getD i 0) j : Nat) : Int))
  | [], i, j, h, _ => by simp at h
  | x :: xs, 0, j, _, hj => by
    have := lc_get x j hj
    rw [cells3, List.getElem?_append_left (by simp; omega)]
    simpa using this
  | x :: xs, i + 1, j, h, hj => by
    have ih := cells3_get xs i j (by simpa using h) hj
    rw [cells3, List.getElem?_append_right (by simp; omega), show (i + 1) * 4 + j - (lc x).toList.length = i * 4 + j from by simp; omega, ih]
    simp
theorem elems_of {w : World} {g : Nat} {t : TypeId} (xs : List Nat) (h : Blk w g (cells3 xs).toArray t) : Elems w (some ⟨g, 0, none⟩) xs := fun i hi =>
  ⟨g, rfl, h.lt, fun j hj => by rw [h.cell, List.getElem?_toArray]; exact cells3_get xs i j hi hj⟩

theorem negN_lt (x : Nat) : negN x < W256 := by
  unfold negN; split
  · decide
  · unfold P255 W256; omega
def subN (x y : Nat) : Nat := (x + negN y) % P255
theorem addN_two (x y : Nat) : addN [x, y] = (x + y) % P255 := by
  simp [addN]

set_option maxRecDepth 100000 in
set_option maxHeartbeats 4000000 in
theorem sub_any (x y : Nat) (hx : x < W256) (hy : y ≤ P255) (w : World) : Calls Try.prog 41 #[ev x, ev y] w fun e w' => e = .returned (ev (subN x y)) ∧ Only [] w w' := by
  have hadd := fun (g : Nat) (w1 : World) (hp : Elems w1 (some ⟨g, 0, none⟩) [x, negN y]) => add_any [x, negN y] (fun i hi => by
    have : i = 0 ∨ i = 1 := by simp at hi; omega
    rcases this with rfl | rfl
    · exact hx
    · exact negN_lt y) (by simp) (some ⟨g, 0, none⟩) 2 w1 hp
  simp only [addN_two, List.length_cons, List.length_nil, Nat.zero_add, Nat.reduceAdd] at hadd
  rw [← subN] at hadd
  generalize subN x y = z at *
  have HA := Lib.hid hadd; clear hadd
  have hneg := fun w1 : World => neg_any y hy w1
  have HG := Lib.hid hneg; clear hneg hx hy
  go_enter Try.func41, Try.ntmps41
  go_wp2_with fail
  refine region_free mixed 3 [0, 0, 2, 7, 15, 31] (by kernel_rfl) (Only []) (Only.refl _) (fun _ _ _ => Only.trans) ?_
  simp only [List.take_succ_cons, List.take_zero, List.drop_succ_cons, List.drop_zero]
  have hbx : Blk (((w.alloc (.cells (lc x) 37)).alloc (.cells (lc y) 37)).alloc (.cells (lc 0) 37)) w.heap.size (lc x) 37 := ((Blk.new _ _ _).alloc _).alloc _
  have hby : Blk (((w.alloc (.cells (lc x) 37)).alloc (.cells (lc y) 37)).alloc (.cells (lc 0) 37)) (w.heap.size + 1) (lc y) 37 := (Blk.newAt _ _ (by simp)).alloc _
  have hbr : Blk (((w.alloc (.cells (lc x) 37)).alloc (.cells (lc y) 37)).alloc (.cells (lc 0) 37)) (w.heap.size + 1 + 1) (lc 0) 37 := Blk.newAt _ _ (by simp)
  have ho : Only [] w (((w.alloc (.cells (lc x) 37)).alloc (.cells (lc y) 37)).alloc (.cells (lc 0) 37)) := (((Only.refl _ _).alloc _).alloc _).alloc _
  iterate 2
    refine wpFree_op (Only.refl _) ?_ (fun V w _ => rfl) ?_ ?_
    rotate_left
    · intro V w1 hE hF K hK
      obtain ⟨q0, q1, q2, q3, qf⟩ := (hE.blk hbx.drew (by simp)).four
      obtain ⟨r0, r1, r2, r3, rf⟩ := (hE.blk hby.drew (by simp)).four
      go_step
      exact hK
    simp only [Act.put, List.setIfInBounds_toArray, List.set_cons_succ, List.set_cons_zero, Nat.reduceAdd, Nat.zero_add]
  refine wpFree_call (ev (negN y)) 37 (fun V => #[V 1]) (fun V w _ => rfl) ?_ ?_ ?_
  · intro V w1 hE hF
    go_simp
  · intro V w1 hE hF
    simp only [facts, Nat.reduceMod, Nat.reduceDiv, Nat.reduceEqDiff, forall_const, false_implies, List.nil_append, List.cons_append, true_and, and_true] at hF
    rw [hF]
    exact HG.out w1
  simp only [Act.put, List.setIfInBounds_toArray, List.set_cons_succ, List.set_cons_zero, Nat.reduceAdd]
  refine wpFree_nil ?_
  intro V w3 hE hR
  simp only [allR, List.nil_append, List.cons_append] at hR
  simp only [hR]
  clear hR
  have hbr3 := hE.blk hbr.drew (by simp)
  have ho3 : Only [] w w3 := ho.drew.trans hE
  clear hbx hby hbr ho hE
  go_wp2_with fail
  have hnew : Blk (w3.alloc (.cells (cells3 [x, negN y]).toArray 37)) w3.heap.size (cells3 [x, negN y]).toArray 37 := Blk.new _ _ _
  refine (HA.out w3.heap.size _ (elems_of [x, negN y] hnew)).mono ?_
  rintro e w4 ⟨rfl, ho4⟩
  obtain ⟨r0, r1, r2, r3, rf⟩ := (ho4.blk (hbr3.alloc _) (by simp)).four
  have ho5 := (ho3.alloc _).trans ho4
  go_wp2_with fail
  exact bodyPost_ret (v := ev z) (by simp [results, Try.results41, go_sem, r0, r1, r2, r3]) rfl ⟨rfl, ho5.set4 (b := w.heap.size + 1 + 1) (.inr (by omega)) _ _ _ _⟩

set_option maxHeartbeats 1000000 in
theorem odd_any (x : Nat) (w : World) : Calls Try.prog 32 #[ev x] w fun e w' => e = .returned (.bool (x % 2 == 1)) ∧ Only [] w w' := by
  have hb : bits .and .u64 ((limb x 0 : Nat) : Int) 1 = ((x % 2 : Nat) : Int) := by
    have h := bits_and_u64_nat (limb x 0) 1 (limb_lt x 0) (by omega)
    have e : limb x 0 &&& 1 = x % 2 := by rw [Nat.and_one_is_mod, limb0]; omega
    rw [e] at h
    exact h
  go_enter Try.func32, Try.ntmps32
  go_wp2_with fail
  go_ret
  refine ⟨?_, (Only.refl _ _).alloc _⟩
  exact ret_bool (by rw [Bool.eq_iff_iff]; simp; omega)
end Go.Proofs.Ytmlahbmaomoiaaa
