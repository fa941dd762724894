/-
  Field: Add.
-/
import Derived.Test.YtmlahbmaomoiaaaFdC
import Derived.Test.YtmlahbmaomoiaaaLate
namespace Go.Proofs.Ytmlahbmaomoiaaa
open Go.RowKit

def carr (x y : Nat) : Nat → Nat
  | 0 => 0
  | k + 1 => (limb x k + limb y k + carr x y k) / W64
def adig (x y k : Nat) : Nat := (limb x k + limb y k + carr x y k) % W64
theorem carr_le (x y : Nat) : ∀ k, carr x y k ≤ 1
  | 0 => by simp [carr]
  | k + 1 => by have := carr_le x y k; exact car_le (limb_lt _ _) (limb_lt _ _) this
theorem adig_lt (x y k : Nat) : adig x y k < W64 := Nat.mod_lt _ (by decide)
theorem adig_eq (x y k : Nat) : adig x y k + W64 * carr x y (k + 1) = limb x k + limb y k + carr x y k := Nat.mod_add_div _ _
def sumD (x y : Nat) : Nat := val4 (adig x y 0) (adig x y 1) (adig x y 2) (adig x y 3)
theorem sumD_eq (x y : Nat) (hx : x < W256) (hy : y < W256) : sumD x y + W256 * carr x y 4 = x + y := by
  have h1 := val4_limbs x hx
  have h2 := val4_limbs y hy
  have d0 := adig_eq x y 0; have d1 := adig_eq x y 1; have d2 := adig_eq x y 2; have d3 := adig_eq x y 3
  have c0 : carr x y 0 = 0 := rfl
  unfold sumD val4 at *
  simp only [Nat.reduceAdd] at d0 d1 d2 d3
  unfold W64 W256 at *
  omega
theorem sumD_lt (x y : Nat) : sumD x y < W256 := val4_lt _ _ _ _ (adig_lt _ _ _) (adig_lt _ _ _) (adig_lt _ _ _) (adig_lt _ _ _)
theorem sumD_fold (x y : Nat) (hx : x < W256) (hy : y < W256) : foldN (sumD x y) (carr x y 4) = (x + y) % P255 := by unfold foldN; rw [sumD_eq x y hx hy]
theorem mixc_sum (x y : Nat) (g : Nat → Nat) : mixc (adig x y) g 4 = lc (sumD x y) := by
  rw [mixc_four]; unfold sumD; rw [lc_val4 _ _ _ _ (adig_lt _ _ _) (adig_lt _ _ _) (adig_lt _ _ _) (adig_lt _ _ _)]
theorem mixc_zero (f : Nat → Nat) (x : Nat) : mixc f (limb x) 0 = lc x := rfl

/-- The numbers of a slice. -/
def Elems (w : World) (p : Option Addr) (xs : List Nat) : Prop :=
  ∀ i, i < xs.length → ∃ g, p = some ⟨g, 0, none⟩ ∧ g < w.heap.size ∧ ∀ j, j < 4 → w.cell? ⟨g, i * 4 + j, none⟩ = some (.int .u64 ((limb (xs.getD i 0) j : Nat) : Int))
theorem Elems.only {w w' : World} {p : Option Addr} {xs : List Nat} (h : Elems w p xs) (ho : Only [] w w') : Elems w' p xs := fun i hi => by
  obtain ⟨g, h1, h2, h3⟩ := h i hi
  exact ⟨g, h1, Nat.lt_of_lt_of_le h2 ho.size, fun j hj => (ho.cell (p := ⟨g, i * 4 + j, none⟩) h2 (by simp)).trans (h3 j hj)⟩
def addN (xs : List Nat) : Nat := xs.foldl (fun a x => (a + x) % P255) 0
theorem addN_take (xs : List Nat) (i : Nat) (h : i < xs.length) : addN (xs.take (i + 1)) = (addN (xs.take i) + xs.getD i 0) % P255 := by
  unfold addN
  rw [List.take_add_one, List.getElem?_eq_getElem h, List.foldl_append]
  simp [List.getD, List.getElem?_eq_getElem h]
theorem addN_lt (xs : List Nat) : addN xs < P255 := by
  unfold addN
  suffices h : ∀ (l : List Nat) (a : Nat), a < P255 → l.foldl (fun a x => (a + x) % P255) a < P255 from h xs 0 (by decide)
  intro l
  induction l with
  | nil => intro a h; exact h
  | cons x l ih => intro a _; exact ih _ (Nat.mod_lt _ (by decide))

theorem mixc_blk_old {w w1 : World} {b k : Nat} {f g : Nat → Nat} (h : Only [] w w1) (hb : Blk w b (mixc f g k) 37) : Blk w1 b (mixc f g k) 37 := h.blk hb (by simp)

set_option maxRecDepth 100000 in
set_option maxHeartbeats 4000000 in
theorem add_any (xs : List Nat) (hxs : ∀ i, i < xs.length → xs.getD i 0 < W256) (hlen : xs.length < 4294967296) (p : Option Addr) (cap : Nat) (w : World) (hp : Elems w p xs) :
    Calls Try.prog 40 #[.slice p xs.length cap] w fun e w' => e = .returned (ev (addN xs)) ∧ Only [] w w' := by
  have HX := Lib.hid hxs; clear hxs
  generalize hn : xs.length = n at *
  have HN := Lib.hid hn; clear hn
  go_enter Try.func40, Try.ntmps40
  go_wp2_with fail
  go_loopw [10] (fun c wr => ∃ i : Nat, c = .int .i64 (i : Int) ∧ i ≤ n ∧ Blk wr w.heap.size (lc 0) 37 ∧ Blk wr (w.heap.size + 1) (lc (addN (xs.take i))) 37 ∧ Only [] w wr) (fun c _ => n - (intOf c).toNat)
  case atStart => exact ⟨0, rfl, Nat.zero_le _, (Blk.new _ _ _).alloc _, (show Blk _ _ (lc 0) 37 from Blk.newAt _ _ (by simp)), ((Only.refl _ _).alloc _).alloc _⟩
  case round =>
    obtain ⟨i, rfl, hi, hb0, hb1, ho⟩ := hrel
    by_cases hlt : i < n
    · have hp1 := hp.only ho i (by rw [HN.out]; exact hlt)
      obtain ⟨g, rfl, hg, hc⟩ := hp1
      obtain ⟨y, hy⟩ : ∃ y, y = xs.getD i 0 := ⟨_, rfl⟩
      obtain ⟨x, hx⟩ : ∃ x, x = addN (xs.take i) := ⟨_, rfl⟩
      rw [← hy] at hc
      rw [← hx] at hb1
      have hyl : y < W256 := by rw [hy]; exact HX.out i hlt
      have hxl : x < W256 := by rw [hx]; exact Nat.lt_trans (addN_lt _) p_lt
      have hfin : foldN (sumD x y) (carr x y 4) = addN (xs.take (i + 1)) := by rw [sumD_fold x y hxl hyl, addN_take xs i (by rw [HN.out]; exact hlt), ← hx, ← hy]
      have HF := Lib.hid hfin
      clear hx hy hyl hxl hfin
      have q0 : wr.cell? ⟨g, i * 4, none⟩ = _ := hc 0 (by omega)
      have q1 := hc 1 (by omega); have q2 := hc 2 (by omega); have q3 := hc 3 (by omega)
      have hlti : (i : Int) < (n : Int) := by omega
      clear hc
      go_wp2_with fail
      have hs1 := ho.size
      have hby0 : Blk (wr.alloc (.cells (lc y) 37)) wr.heap.size (lc y) 37 := Blk.new _ _ _
      have hb10 := hb1.alloc (.cells (lc y) 37)
      have hb00 := hb0.alloc (.cells (lc y) 37)
      have ho0 := ho.alloc (.cells (lc y) 37)
      have hg1 : w.heap.size + 1 < wr.heap.size := hb1.lt
      generalize hbY : wr.heap.size = bY at *
      generalize hwi : wr.alloc (.cells (lc y) 37) = wi at *
      clear hb0 hb1 ho hp q0 q1 q2 q3 hg hs1
      go_loopw [6, 14] (fun c j wt => ∃ k : Nat, k ≤ 4 ∧ j = .int .i64 (k : Int) ∧ c = .int .u64 ((carr x y k : Nat) : Int) ∧ Blk wt bY (lc y) 37 ∧ Blk wt (w.heap.size + 1) (mixc (adig x y) (limb x) k) 37 ∧ Blk wt w.heap.size (lc 0) 37 ∧ Only [] w wt) (fun _ j _ => 4 - (intOf j).toNat)
      case atStart => exact ⟨0, by omega, rfl, rfl, hby0, hb10, hb00, ho0⟩
      case round =>
        obtain ⟨k, hk, rfl, rfl, hby, hb5, hbr, ho⟩ := hrel
        by_cases hk4 : k < 4
        · have hcl := carr_le x y k
          go_wp2_with fail
          refine Late.region_late mixed 14 [0, 0, 2, 6, 0, 16, 48, 0, 254, 510, 1022, 1022, 2047, 6143, 16383] (by kernel_rfl) (Turn (w.heap.size + 1) (mixc (adig x y) (limb x) (k + 1)) 37) (Only []) 13 6143 rfl (Turn.refl _ _ _) Turn.trans (Only.refl _) (fun _ _ _ => Only.trans) ?_
          simp only [List.take_succ_cons, List.take_zero, List.drop_succ_cons, List.drop_zero]
          have hk1 : (k : Int) < 4 := by omega
          iterate 13
            refine Late.wpFree_op (Turn.refl _ _ _) (Only.refl _) ?_ (fun V w _ => rfl) ?_ ?_
            rotate_left
            · intro V w1 hE hE0 hF K hK
              simp only [facts, Nat.reduceMod, Nat.reduceDiv, Nat.reduceEqDiff, forall_const, false_implies, List.nil_append, List.cons_append, true_and, and_true] at hF
              have q0 := fun h => (((hE0 h).blk hb5.drew (by simp)).cell k).trans (mixc_get _ _ _ k hk4)
              simp only [Nat.lt_irrefl, if_false] at q0
              have q1 := ((hE.1.blk hby.drew (nin1 (by omega))).cell k).trans (lc_get y k hk4)
              have qs := run_add (limb x k) (limb y k) (carr x y k) hcl w1
              try simp only [hF] at hK ⊢
              try have q0 := q0 rfl
              clear hE0
              go_step
              exact hK
            simp only [Act.put, List.setIfInBounds_toArray, List.set_cons_succ, List.set_cons_zero, Nat.reduceAdd, Nat.zero_add]
          refine Late.wpFree_root (fun _ w' => Blk w' (w.heap.size + 1) (mixc (adig x y) (limb x) (k + 1)) 37) (fun _ => Turn.done) rfl (fun V w _ => rfl) ?_ ?_
          · intro V w1 hE hF K hK
            simp only [facts, Nat.reduceMod, Nat.reduceDiv, Nat.reduceEqDiff, forall_const, false_implies, List.nil_append, List.cons_append, true_and, and_true] at hF
            simp only [hF] at hK ⊢
            have hcase := hE.blk hb5.drew
            have q5 : ∃ v5, w1.cell? ⟨w.heap.size + 1, k, none⟩ = some v5 := by
              rcases hcase with h | h
              · exact ⟨_, (h.cell k).trans (mixc_get _ _ _ k hk4)⟩
              · exact ⟨_, (h.cell k).trans (mixc_get _ _ _ k hk4)⟩
            obtain ⟨v5, q5⟩ := q5
            have f5 : w1.frozen? ⟨w.heap.size + 1, k, none⟩ = false := by
              rcases hcase with h | h
              · exact h.free k
              · exact h.free k
            have hset : Blk (w1.setCell ⟨w.heap.size + 1, k, none⟩ (.int .u64 ((adig x y k : Nat) : Int))) (w.heap.size + 1) (mixc (adig x y) (limb x) (k + 1)) 37 := by
              rcases hcase with h | h
              · have := h.set k (.int .u64 ((adig x y k : Nat) : Int)); rwa [mixc_set _ _ _ hk4] at this
              · have := h.set k (.int .u64 ((adig x y k : Nat) : Int)); rwa [mixc_again _ _ _ hk4] at this
            have HS := Lib.hid hset; clear hset hcase
            go_step
            exact hK undef _ (Turn.of ((Only.refl _ _).setCell (by simp) _) HS.out) HS.out
          refine Late.wpFree_nil ?_
          intro V w3 hE hR
          simp only [allR, List.nil_append, List.cons_append] at hR
          simp only [Act.put, hR]
          obtain ⟨-, -, -, -, -, -, -, -, -, -, -, -, -, hb5', -⟩ := hR
          have hby' := hE.1.blk hby.drew (nin1 (by omega))
          have hbr' := hE.1.blk hbr.drew (nin1 (by omega))
          have ho' : Only [] w w3 := (ho.drew).then hE.1 (by intro z hz; simp at hz; omega)
          go_wp2_with fail
          go_roundw
          case rel => exact ⟨k + 1, by omega, by go_num, rfl, hby', hb5', hbr', ho'⟩
          case measure => simp [intOf]; omega
        · have hke : k = 4 := by omega
          subst hke
          rw [mixc_sum] at hb5
          have hcl := carr_le x y 4
          obtain ⟨q0, q1, q2, q3, qf⟩ := hb5.four
          go_wp2_with fail
          refine (folded_any (sumD x y) (carr x y 4) (sumD_lt x y) (by unfold W64; omega) _).mono ?_
          rintro e w4 ⟨rfl, ho4⟩
          rw [HF.out]
          have hb6 := ho4.blk hb5 (by simp)
          have hb7 := ho4.blk hbr (by simp)
          have ho7 := ho.trans ho4
          obtain ⟨r0, r1, r2, r3, rf⟩ := hb6.four
          go_wp2_with fail
          go_roundw
          case rel => exact ⟨i + 1, by go_num, by omega, hb7.far4 (by omega) _ _ _ _, hb6.set4 _ _ _ _, ho7.set4 (.inr (by simp)) _ _ _ _⟩
          case measure => simp [intOf]; omega
    · have hin : i = n := by omega
      subst hin
      have hfin : addN (xs.take i) = addN xs := by rw [← HN.out, List.take_length]
      rw [hfin] at hb1
      clear hfin
      obtain ⟨q0, q1, q2, q3, qf⟩ := hb1.four
      obtain ⟨r0, r1, r2, r3, rf⟩ := hb0.four
      go_wp2_with fail
      exact bodyPost_ret (v := ev (addN xs)) (by simp [results, Try.results40, go_sem, r0, r1, r2, r3]) rfl ⟨rfl, ho.set4 (.inr (by simp)) _ _ _ _⟩
end Go.Proofs.Ytmlahbmaomoiaaa
