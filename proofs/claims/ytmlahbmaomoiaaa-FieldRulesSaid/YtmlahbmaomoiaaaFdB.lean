/-
  Field: minus, Neg, reduced.
-/
import Derived.Test.YtmlahbmaomoiaaaFdA
import Derived.Test.YtmlahbmaomoiaaaArr
namespace Go.Proofs.Ytmlahbmaomoiaaa
open Go.RowKit

/-- Four cells: the first k of them f's, the others g's. -/
def mixc (f g : Nat → Nat) (k : Nat) : Array Value :=
  #[.int .u64 ((if 0 < k then f 0 else g 0 : Nat) : Int), .int .u64 ((if 1 < k then f 1 else g 1 : Nat) : Int), .int .u64 ((if 2 < k then f 2 else g 2 : Nat) : Int), .int .u64 ((if 3 < k then f 3 else g 3 : Nat) : Int)]
theorem mixc_get (f g : Nat → Nat) (k i : Nat) (h : i < 4) : (mixc f g k)[i]? = some (.int .u64 ((if i < k then f i else g i : Nat) : Int)) := by
  have : i = 0 ∨ i = 1 ∨ i = 2 ∨ i = 3 := by omega
  rcases this with rfl | rfl | rfl | rfl <;> rfl
theorem mixc_set (f g : Nat → Nat) (k : Nat) (h : k < 4) : (mixc f g k).setIfInBounds k (.int .u64 ((f k : Nat) : Int)) = mixc f g (k + 1) := by
  have : k = 0 ∨ k = 1 ∨ k = 2 ∨ k = 3 := by omega
  rcases this with rfl | rfl | rfl | rfl <;> simp [mixc]
theorem mixc_again (f g : Nat → Nat) (k : Nat) (h : k < 4) : (mixc f g (k + 1)).setIfInBounds k (.int .u64 ((f k : Nat) : Int)) = mixc f g (k + 1) := by
  have : k = 0 ∨ k = 1 ∨ k = 2 ∨ k = 3 := by omega
  rcases this with rfl | rfl | rfl | rfl <;> simp [mixc]
theorem mixc_four (f g : Nat → Nat) : mixc f g 4 = #[.int .u64 ((f 0 : Nat) : Int), .int .u64 ((f 1 : Nat) : Int), .int .u64 ((f 2 : Nat) : Int), .int .u64 ((f 3 : Nat) : Int)] := rfl

/-- Nothing has turned but block b, that is as it was, or holds these cells. -/
def Turn (b : Nat) (c : Array Value) (t : TypeId) (w w' : World) : Prop := Only [b] w w' ∧ (w'.heap[b]? = w.heap[b]? ∨ Blk w' b c t)
theorem Turn.refl (b : Nat) (c : Array Value) (t : TypeId) (w : World) : Turn b c t w w := ⟨Only.refl _ _, .inl rfl⟩
theorem Turn.trans {b : Nat} {c : Array Value} {t : TypeId} (x y z : World) (h : Turn b c t x y) (k : Turn b c t y z) : Turn b c t x z := by
  refine ⟨h.1.trans k.1, ?_⟩
  rcases k.2 with k2 | k2
  · rcases h.2 with h2 | h2
    · exact .inl (k2.trans h2)
    · right; unfold Blk at *; rw [k2]; exact h2
  · exact .inr k2
theorem Turn.blk {b : Nat} {c c0 : Array Value} {t : TypeId} {w w' : World} (h : Turn b c t w w') (hb : Blk w b c0 t) : Blk w' b c0 t ∨ Blk w' b c t := by
  rcases h.2 with h2 | h2
  · left; unfold Blk at *; rw [h2]; exact hb
  · exact .inr h2
theorem Turn.done {b : Nat} {c : Array Value} {t : TypeId} (w w' : World) (h : Turn b c t w w') (hb : Blk w b c t) : Blk w' b c t := by
  rcases h.blk hb with h | h <;> exact h
theorem Turn.of {b : Nat} {c : Array Value} {t : TypeId} {w w' : World} (h : Only [b] w w') (hb : Blk w' b c t) : Turn b c t w w' := ⟨h, .inr hb⟩

def bor (x y : Nat) : Nat → Nat
  | 0 => 0
  | k + 1 => if limb x k < limb y k + bor x y k then 1 else 0
def bdig (x y k : Nat) : Nat := (limb x k + 18446744073709551616 - limb y k - bor x y k) % 18446744073709551616
theorem bor_le (x y : Nat) : ∀ k, bor x y k ≤ 1
  | 0 => by simp [bor]
  | k + 1 => by unfold bor; split <;> omega
theorem bdig_lt (x y k : Nat) : bdig x y k < 18446744073709551616 := Nat.mod_lt _ (by decide)
theorem bdig_eq (x y k : Nat) : limb x k + 18446744073709551616 * bor x y (k + 1) = bdig x y k + limb y k + bor x y k := by
  have h1 := limb_lt x k; have h2 := limb_lt y k; have h3 := bor_le x y k
  rw [bor]; unfold bdig
  split <;> omega
def minusN (x y : Nat) : Nat := (x + W256 - y) % W256
theorem minus_val (x y : Nat) (hx : x < W256) (hy : y < W256) : val4 (bdig x y 0) (bdig x y 1) (bdig x y 2) (bdig x y 3) = minusN x y := by
  have h0 := bdig_eq x y 0; have h1 := bdig_eq x y 1; have h2 := bdig_eq x y 2; have h3 := bdig_eq x y 3
  have e1 := val4_limbs x hx; have e2 := val4_limbs y hy
  have d0 := bdig_lt x y 0; have d1 := bdig_lt x y 1; have d2 := bdig_lt x y 2; have d3 := bdig_lt x y 3
  have b4 := bor_le x y 4
  have b0 : bor x y 0 = 0 := rfl
  simp only [Nat.reduceAdd] at h0 h1 h2 h3
  unfold minusN W256 at *
  unfold val4 at *
  omega
theorem minus_limbs (x y : Nat) (hx : x < W256) (hy : y < W256) : ∀ j, j < 4 → limb (minusN x y) j = bdig x y j := by
  rw [← minus_val x y hx hy]
  obtain ⟨h0, h1, h2, h3⟩ := limbs_val4 _ _ _ _ (bdig_lt x y 0) (bdig_lt x y 1) (bdig_lt x y 2) (bdig_lt x y 3)
  intro j hj
  have : j = 0 ∨ j = 1 ∨ j = 2 ∨ j = 3 := by omega
  rcases this with rfl | rfl | rfl | rfl <;> assumption

set_option maxRecDepth 100000 in
set_option maxHeartbeats 2000000 in
theorem minus_any (x y : Nat) (hx : x < W256) (hy : y < W256) (w : World) : Calls Try.prog 89 #[ev x, ev y] w fun e w' => e = .returned (ev (minusN x y)) ∧ Only [] w w' := by
  have HM := Lib.hid (minus_limbs x y hx hy)
  clear hx hy
  go_enter Try.func89, Try.ntmps89
  go_wp2_with fail
  go_loopw [6, 8] (fun c i wr => ∃ k : Nat, k ≤ 4 ∧ i = .int .i64 (k : Int) ∧ c = .int .u64 ((bor x y k : Nat) : Int) ∧ Blk wr w.heap.size (lc x) 37 ∧ Blk wr (w.heap.size + 1) (lc y) 37 ∧ Blk wr (w.heap.size + 1 + 1) (lc 0) 37 ∧ Blk wr (w.heap.size + 1 + 1 + 1) (mixc (bdig x y) (fun _ => 0) k) 37 ∧ Only [] w wr) (fun _ i _ => 4 - (intOf i).toNat)
  case atStart =>
    exact ⟨0, by omega, rfl, rfl, (((Blk.new _ _ _).alloc _).alloc _).alloc _, ((Blk.newAt _ _ (by simp)).alloc _).alloc _, (Blk.newAt _ _ (by simp)).alloc _, Blk.newAt _ _ (by simp), ((((Only.refl _ _).alloc _).alloc _).alloc _).alloc _⟩
  case round =>
    obtain ⟨k, hk, rfl, rfl, hbx, hby, hb4, hb5, ho⟩ := hrel
    by_cases hlt : k < 4
    · have hb1 := bor_le x y k
      go_wp2_with fail
      refine region_free mixed 14 [0, 0, 2, 6, 0, 16, 48, 0, 254, 510, 1022, 1022, 2047, 6143, 16383] (by kernel_rfl) (Turn (w.heap.size + 1 + 1 + 1) (mixc (bdig x y) (fun _ => 0) (k + 1)) 37) (Turn.refl _ _ _) Turn.trans ?_
      simp only [List.take_succ_cons, List.take_zero, List.drop_succ_cons, List.drop_zero]
      have hk1 : (k : Int) < 4 := by omega
      iterate 13
        refine wpFree_op (Turn.refl _ _ _) ?_ (fun V w _ => rfl) ?_ ?_
        rotate_left
        · intro V w1 hE hF K hK
          simp only [facts, Nat.reduceMod, Nat.reduceDiv, Nat.reduceEqDiff, forall_const, false_implies, List.nil_append, List.cons_append, true_and, and_true] at hF
          have q0 := ((hE.1.blk hbx.drew (nin1 (by omega))).cell k).trans (lc_get x k hlt)
          have q1 := ((hE.1.blk hby.drew (nin1 (by omega))).cell k).trans (lc_get y k hlt)
          have qs := run_sub (limb x k) (limb y k) (bor x y k) hb1 w1
          try simp only [hF] at hK ⊢
          go_step
          exact hK
        simp only [Act.put, List.setIfInBounds_toArray, List.set_cons_succ, List.set_cons_zero, Nat.reduceAdd, Nat.zero_add]
      refine wpFree_root (fun _ w' => Blk w' (w.heap.size + 1 + 1 + 1) (mixc (bdig x y) (fun _ => 0) (k + 1)) 37) (fun _ => Turn.done) (fun V w _ => rfl) ?_ ?_
      · intro V w1 hE hF K hK
        simp only [facts, Nat.reduceMod, Nat.reduceDiv, Nat.reduceEqDiff, forall_const, false_implies, List.nil_append, List.cons_append, true_and, and_true] at hF
        simp only [hF] at hK ⊢
        have hcase := hE.blk hb5.drew
        have q5 : ∃ v5, w1.cell? ⟨w.heap.size + 1 + 1 + 1, k, none⟩ = some v5 := by
          rcases hcase with h | h
          · exact ⟨_, (h.cell k).trans (mixc_get _ _ _ k hlt)⟩
          · exact ⟨_, (h.cell k).trans (mixc_get _ _ _ k hlt)⟩
        obtain ⟨v5, q5⟩ := q5
        have f5 : w1.frozen? ⟨w.heap.size + 1 + 1 + 1, k, none⟩ = false := by
          rcases hcase with h | h
          · exact h.free k
          · exact h.free k
        have hset : Blk (w1.setCell ⟨w.heap.size + 1 + 1 + 1, k, none⟩ (.int .u64 ((bdig x y k : Nat) : Int))) (w.heap.size + 1 + 1 + 1) (mixc (bdig x y) (fun _ => 0) (k + 1)) 37 := by
          rcases hcase with h | h
          · have := h.set k (.int .u64 ((bdig x y k : Nat) : Int)); rwa [mixc_set _ _ _ hlt] at this
          · have := h.set k (.int .u64 ((bdig x y k : Nat) : Int)); rwa [mixc_again _ _ _ hlt] at this
        have HS := Lib.hid hset; clear hset hcase
        go_step
        exact hK undef _ (Turn.of ((Only.refl _ _).setCell (by simp) _) HS.out) HS.out
      refine wpFree_nil ?_
      intro V w3 hE hR
      simp only [allR, List.nil_append, List.cons_append] at hR
      simp only [Act.put, hR]
      obtain ⟨-, -, -, -, -, -, -, -, -, -, -, -, -, hb5', -⟩ := hR
      have hbx' := hE.1.blk hbx.drew (nin1 (by omega))
      have hby' := hE.1.blk hby.drew (nin1 (by omega))
      have hb4' := hE.1.blk hb4.drew (nin1 (by omega))
      have ho' : Only [] w w3 := (ho.drew).then hE.1 (by intro z hz; simp at hz; omega)
      go_wp2_with fail
      go_roundw
      case rel => exact ⟨k + 1, by omega, by go_num, rfl, hbx', hby', hb4', hb5', ho'⟩
      case measure => simp [intOf]; omega
    · have hk4 : k = 4 := by omega
      subst hk4
      have hlc : mixc (bdig x y) (fun _ => 0) 4 = lc (minusN x y) := by rw [mixc_four]; unfold lc; rw [HM.out 0 (by omega), HM.out 1 (by omega), HM.out 2 (by omega), HM.out 3 (by omega)]
      rw [hlc] at hb5
      clear hlc
      obtain ⟨q0, q1, q2, q3, qf⟩ := hb5.four
      obtain ⟨r0, r1, r2, r3, rf⟩ := hb4.four
      clear hbx hby
      go_wp2_with fail
      refine bodyPost_ret (v := ev (minusN x y)) ?_ rfl ⟨rfl, ((((ho.setCell (by simp; omega) _).setCell (by simp; omega) _).setCell (by simp; omega) _).setCell (by simp; omega) _)⟩
      simp [results, Try.results89, go_sem, r0, r1, r2, r3]

theorem minus_le {x y : Nat} (hx : x < W256) (h : y ≤ x) : minusN x y = x - y := by unfold minusN; unfold W256 at *; omega
theorem p_lt : P255 < W256 := by decide

def li (x : Nat) : List Int := [((limb x 0 : Nat) : Int), ((limb x 1 : Nat) : Int), ((limb x 2 : Nat) : Int), ((limb x 3 : Nat) : Int)]
theorem li_inj (x y : Nat) (hx : x < W256) (hy : y < W256) : decide (li x = li y) = decide (x = y) := by
  rw [decide_eq_decide]
  constructor
  · intro h
    simp only [li, List.cons.injEq, and_true] at h
    refine eq_of_limbs x y hx hy fun j hj => ?_
    have : j = 0 ∨ j = 1 ∨ j = 2 ∨ j = 3 := by omega
    rcases this with rfl | rfl | rfl | rfl <;> omega
  · rintro rfl; rfl
/-- Two arrays of four numbers are compared. -/
theorem eq_ev (x y : Nat) (hx : x < W256) (hy : y < W256) (w : World) : (binOp .eql 37 (ev x) (ev y)).run Try.prog w = .ok (.bool (decide (x = y))) w := by
  rw [← li_inj x y hx hy]
  exact run_eql_ints w 37 35 4 .u64 Try.underlying37 Try.underlying35 size35 (li x) (li y) rfl rfl
theorem neq_ev (x y : Nat) (hx : x < W256) (hy : y < W256) (w : World) : (binOp .neq 37 (ev x) (ev y)).run Try.prog w = .ok (.bool (!decide (x = y))) w := by
  rw [← li_inj x y hx hy]
  exact run_neq_ints w 37 35 4 .u64 Try.underlying37 Try.underlying35 size35 (li x) (li y) rfl rfl

def negN (x : Nat) : Nat := if x = 0 then 0 else P255 - x

set_option maxRecDepth 100000 in
set_option maxHeartbeats 1000000 in
theorem neg_any (x : Nat) (hx : x ≤ P255) (w : World) : Calls Try.prog 37 #[ev x] w fun e w' => e = .returned (ev (negN x)) ∧ Only [] w w' := by
  have h256 : x < W256 := Nat.lt_of_le_of_lt hx p_lt
  have hm := fun w1 : World => minus_any P255 x p_lt h256 w1
  rw [minus_le p_lt hx] at hm
  have HMI := Lib.hid hm; clear hm
  have heq : ∀ w1 : World, (binOp .eql 37 (ev x) (.agg #[.int .u64 0, .int .u64 0, .int .u64 0, .int .u64 0])).run Try.prog w1 = .ok (.bool (decide (x = 0))) w1 := fun w1 => eq_ev x 0 h256 (by decide) w1
  by_cases h0 : x = 0
  · have e : negN x = x := by unfold negN; rw [if_pos h0, h0]
    rw [decide_eq_true h0] at heq
    have HN := Lib.hid e; clear e h0 hx h256
    go_enter Try.func37, Try.ntmps37
    go_wp2_with fail
    rw [HN.out]
    exact bodyPost_ret (v := ev x) (by simp [results, Try.results37, go_sem]) rfl ⟨rfl, ((Only.refl _ _).alloc _).alloc _⟩
  · have e : negN x = P255 - x := by unfold negN; rw [if_neg h0]
    rw [decide_eq_false h0] at heq
    have HN := Lib.hid e; clear e h0 hx h256
    go_enter Try.func37, Try.ntmps37
    go_wp2_with fail
    refine region_free mixed 2 [0, 0, 3, 7] (by kernel_rfl) (Only []) (Only.refl _) (fun _ _ _ => Only.trans) ?_
    simp only [List.take_succ_cons, List.take_zero, List.drop_succ_cons, List.drop_zero]
    refine wpFree_call (ev P255) 90 (fun V => #[]) (fun V w _ => rfl) ?_ ?_ ?_
    · intro V w1 hE hF
      go_simp
    · intro V w1 hE hF
      exact modulus_any w1
    simp only [Act.put, List.setIfInBounds_toArray, List.set_cons_succ, List.set_cons_zero, Nat.zero_add]
    refine wpFree_op (Only.refl _) ?_ (fun V w _ => rfl) ?_ ?_
    rotate_left
    · intro V w1 hE hF K hK
      have hb := hE.blk (b := w.heap.size) (c := lc x) (t := 37) (((Blk.new _ _ _).alloc _).drew) (by simp)
      obtain ⟨q0, q1, q2, q3, qf⟩ := hb.four
      go_step
      exact hK
    simp only [Act.put, List.setIfInBounds_toArray, List.set_cons_succ, List.set_cons_zero, Nat.reduceAdd]
    refine wpFree_nil ?_
    intro V w3 hE hR
    simp only [allR, List.nil_append, List.cons_append] at hR
    simp only [hR]
    clear hR
    have hb2 := hE.blk (b := w.heap.size + 1) (c := lc 0) (t := 37) ((Blk.newAt _ _ (by simp)).drew) (by simp)
    have ho3 : Only [] w w3 := (((Only.refl _ _).alloc _).alloc _).drew.trans hE
    go_wp2_with fail
    refine (HMI.out w3).mono ?_
    rintro e w4 ⟨rfl, ho4⟩
    obtain ⟨q0, q1, q2, q3, qf⟩ := (ho4.blk hb2 (by simp)).four
    have ho5 := ho3.trans ho4
    go_wp2_with fail
    rw [HN.out]
    exact bodyPost_ret (v := ev (P255 - x)) (by simp [results, Try.results37, go_sem, q0, q1, q2, q3]) rfl ⟨rfl, ((((ho5.setCell (by simp) _).setCell (by simp) _).setCell (by simp) _).setCell (by simp) _)⟩
end Go.Proofs.Ytmlahbmaomoiaaa
