/-
  Field: reduced, folded.
-/
import Derived.Test.YtmlahbmaomoiaaaFdB
namespace Go.Proofs.Ytmlahbmaomoiaaa
open Go.RowKit

theorem Blk.set4 {w : World} {b : Nat} {a0 a1 a2 a3 : Value} {t : TypeId} (h : Blk w b #[a0, a1, a2, a3] t) (c0 c1 c2 c3 : Value) :
    Blk ((((w.setCell ⟨b, 0, none⟩ c0).setCell ⟨b, 1, none⟩ c1).setCell ⟨b, 2, none⟩ c2).setCell ⟨b, 3, none⟩ c3) b #[c0, c1, c2, c3] t := by
  have := (((h.set 0 c0).set 1 c1).set 2 c2).set 3 c3
  simpa using this
theorem Blk.far4 {w : World} {b g : Nat} {c : Array Value} {t : TypeId} (h : Blk w b c t) (hn : b ≠ g) (c0 c1 c2 c3 : Value) :
    Blk ((((w.setCell ⟨g, 0, none⟩ c0).setCell ⟨g, 1, none⟩ c1).setCell ⟨g, 2, none⟩ c2).setCell ⟨g, 3, none⟩ c3) b c t :=
  (((h.far hn c0).far hn c1).far hn c2).far hn c3
theorem Only.set4 {S : List Nat} {a w : World} {b : Nat} (h : Only S a w) (hb : b ∈ S ∨ a.heap.size ≤ b) (c0 c1 c2 c3 : Value) :
    Only S a ((((w.setCell ⟨b, 0, none⟩ c0).setCell ⟨b, 1, none⟩ c1).setCell ⟨b, 2, none⟩ c2).setCell ⟨b, 3, none⟩ c3) :=
  (((h.setCell hb c0).setCell hb c1).setCell hb c2).setCell hb c3

/-- The number in the i-th cell of a block. -/
def cellN (w : World) (b i : Nat) : Nat := match w.cell? ⟨b, i, none⟩ with
  | some (.int _ n) => n.toNat
  | _ => 0
def wval (w : World) (b : Nat) : Nat := val4 (cellN w b 0) (cellN w b 1) (cellN w b 2) (cellN w b 3)
theorem wval_of {w : World} {b a : Nat} {t : TypeId} (h : Blk w b (lc a) t) (ha : a < W256) : wval w b = a := by
  obtain ⟨q0, q1, q2, q3, -⟩ := h.four
  unfold wval cellN
  rw [q0, q1, q2, q3]
  simp only [Int.toNat_natCast]
  exact val4_limbs a ha

set_option maxRecDepth 100000 in
set_option maxHeartbeats 2000000 in
theorem reduced_any (x : Nat) (hx : x < W256) (w : World) : Calls Try.prog 132 #[ev x] w fun e w' => e = .returned (ev (x % P255)) ∧ Only [] w w' := by
  have HX := Lib.hid hx; clear hx
  go_enter Try.func132, Try.ntmps132
  go_wp2_with fail
  go_loopw [] (fun wr => ∃ a : Nat, Hid (a < W256 ∧ a % P255 = x % P255) ∧ Blk wr w.heap.size (lc a) 37 ∧ Blk wr (w.heap.size + 1) (lc 0) 37 ∧ Only [] w wr) (fun wr => wval wr w.heap.size)
  case atStart => exact ⟨x, ⟨HX.out, rfl⟩, (Blk.new _ _ _).alloc _, Blk.newAt _ _ (by simp), ((Only.refl _ _).alloc _).alloc _⟩
  case round =>
    obtain ⟨a, HA, hba, hbr, ho⟩ := hrel
    have e0 := wval_of hba HA.out.1
    have HV := Lib.hid e0; clear e0
    go_wp2_with fail
    refine region_free mixed 2 [0, 0, 3, 7] (by kernel_rfl) (Only []) (Only.refl _) (fun _ _ _ => Only.trans) ?_
    simp only [List.take_succ_cons, List.take_zero, List.drop_succ_cons, List.drop_zero]
    refine wpFree_op (Only.refl _) ?_ (fun V w _ => rfl) ?_ ?_
    rotate_left
    · intro V w1 hE hF K hK
      obtain ⟨q0, q1, q2, q3, qf⟩ := (hE.blk hba.drew (by simp)).four
      go_step
      exact hK
    simp only [Act.put, List.setIfInBounds_toArray, List.set_cons_succ, List.set_cons_zero, Nat.zero_add]
    refine wpFree_call (ev P255) 90 (fun V => #[]) (fun V w _ => rfl) ?_ ?_ ?_
    · intro V w1 hE hF
      go_simp
    · intro V w1 hE hF
      exact modulus_any w1
    simp only [Act.put, List.setIfInBounds_toArray, List.set_cons_succ, List.set_cons_zero, Nat.reduceAdd]
    refine wpFree_nil ?_
    intro V w3 hE hR
    simp only [allR, List.nil_append, List.cons_append] at hR
    simp only [hR]
    clear hR
    have hba3 := hE.blk hba.drew (by simp)
    have hbr3 := hE.blk hbr.drew (by simp)
    have ho3 : Only [] w w3 := ho.drew.trans hE
    clear hba hbr ho hE
    go_wp2_with fail
    refine (less_any a P255 HA.out.1 p_lt w3).mono ?_
    rintro e w4 ⟨rfl, ho4⟩
    have hba4 := ho4.blk hba3 (by simp)
    have hbr4 := ho4.blk hbr3 (by simp)
    have ho4' := ho3.trans ho4
    clear hba3 hbr3 ho3 ho4
    by_cases hlt : a < P255
    · have hd : decide (a < P255) = true := decide_eq_true hlt
      rw [hd]
      have HL := Lib.hid hlt; clear hlt hd
      obtain ⟨q0, q1, q2, q3, qf⟩ := hba4.four
      obtain ⟨r0, r1, r2, r3, rf⟩ := hbr4.four
      go_wp2_with fail
      refine bodyPost_ret (v := ev a) (by simp [results, Try.results132, go_sem, r0, r1, r2, r3]) rfl ⟨?_, ho4'.set4 (.inr (by simp)) _ _ _ _⟩
      rw [← HA.out.2, Nat.mod_eq_of_lt HL.out]
    · have hd : decide (a < P255) = false := decide_eq_false hlt
      rw [hd]
      have HL := Lib.hid hlt; clear hlt hd
      go_wp2_with fail
      refine region_free mixed 2 [0, 0, 3, 7] (by kernel_rfl) (Only []) (Only.refl _) (fun _ _ _ => Only.trans) ?_
      simp only [List.take_succ_cons, List.take_zero, List.drop_succ_cons, List.drop_zero]
      refine wpFree_op (Only.refl _) ?_ (fun V w _ => rfl) ?_ ?_
      rotate_left
      · intro V w1 hE hF K hK
        obtain ⟨q0, q1, q2, q3, qf⟩ := (hE.blk hba4.drew (by simp)).four
        go_step
        exact hK
      simp only [Act.put, List.setIfInBounds_toArray, List.set_cons_succ, List.set_cons_zero, Nat.zero_add]
      refine wpFree_call (ev P255) 90 (fun V => #[]) (fun V w _ => rfl) ?_ ?_ ?_
      · intro V w1 hE hF
        go_simp
      · intro V w1 hE hF
        exact modulus_any w1
      simp only [Act.put, List.setIfInBounds_toArray, List.set_cons_succ, List.set_cons_zero, Nat.reduceAdd]
      refine wpFree_nil ?_
      intro V w5 hE hR
      simp only [allR, List.nil_append, List.cons_append] at hR
      simp only [hR]
      clear hR
      have hba5 := hE.blk hba4.drew (by simp)
      have hbr5 := hE.blk hbr4.drew (by simp)
      have ho5 : Only [] w w5 := ho4'.drew.trans hE
      clear hba4 hbr4 ho4' hE
      go_wp2_with fail
      refine (minus_any a P255 HA.out.1 p_lt w5).mono ?_
      rintro e w6 ⟨rfl, ho6⟩
      have hba6 := ho6.blk hba5 (by simp)
      have hbr6 := ho6.blk hbr5 (by simp)
      have ho6' := ho5.trans ho6
      clear hba5 hbr5 ho5 ho6
      obtain ⟨q0, q1, q2, q3, qf⟩ := hba6.four
      go_wp2_with fail
      have hle : P255 ≤ a := Nat.le_of_not_lt HL.out
      have hm : minusN a P255 = a - P255 := minus_le HA.out.1 hle
      have hb7 := hba6.set4 (.int .u64 ((limb (minusN a P255) 0 : Nat) : Int)) (.int .u64 ((limb (minusN a P255) 1 : Nat) : Int)) (.int .u64 ((limb (minusN a P255) 2 : Nat) : Int)) (.int .u64 ((limb (minusN a P255) 3 : Nat) : Int))
      have hp : 0 < P255 := by decide
      have hA := HA.out
      have hlt : minusN a P255 < W256 := by rw [hm]; omega
      go_roundw
      case rel =>
        refine ⟨minusN a P255, ⟨hlt, ?_⟩, hb7, hbr6.far4 (by omega) _ _ _ _, ho6'.set4 (.inr (by simp)) _ _ _ _⟩
        rw [hm, ← hA.2, Nat.mod_eq_sub_mod hle]
      case measure =>
        have e1 := wval_of hb7 hlt
        rw [HV.out]
        refine Nat.lt_of_le_of_lt (Nat.le_of_eq e1) ?_
        rw [hm]; omega

/-- What a number of 256 bits and what goes over are, modulo P. -/
def foldN (x v : Nat) : Nat := (x + W256 * v) % P255
/-- One round: 38 for each that goes over. -/
def car1 (x v : Nat) : Nat := (limb x 0 + v * 38 % W64) / W64
def car2 (x v : Nat) : Nat := (limb x 1 + v * 38 / W64 + car1 x v) / W64
def car3 (x v : Nat) : Nat := (limb x 2 + 0 + car2 x v) / W64
def car4 (x v : Nat) : Nat := (limb x 3 + 0 + car3 x v) / W64
def fstep (x v : Nat) : Nat := val4 ((limb x 0 + v * 38 % W64) % W64) ((limb x 1 + v * 38 / W64 + car1 x v) % W64) ((limb x 2 + 0 + car2 x v) % W64) ((limb x 3 + 0 + car3 x v) % W64)
theorem fstep_eq (x v : Nat) (hx : x < W256) : fstep x v + W256 * car4 x v = x + 38 * v := by
  have h := val4_limbs x hx
  unfold fstep car4 car3 car2 car1 val4 at *
  unfold W64 W256 at *
  omega
theorem fstep_lt (x v : Nat) : fstep x v < W256 := val4_lt _ _ _ _ (Nat.mod_lt _ (by decide)) (Nat.mod_lt _ (by decide)) (Nat.mod_lt _ (by decide)) (Nat.mod_lt _ (by decide))
theorem fold_step (x v : Nat) (hx : x < W256) : foldN (fstep x v) (car4 x v) = foldN x v := by
  unfold foldN
  rw [fstep_eq x v hx]
  have : x + W256 * v = x + 38 * v + P255 * (2 * v) := by
    have : W256 = 2 * P255 + 38 := by decide
    rw [this, Nat.add_mul]
    rw [show P255 * (2 * v) = 2 * P255 * v from by rw [Nat.mul_comm 2 P255, Nat.mul_assoc]]
    omega
  rw [this, Nat.add_mul_mod_self_left]
theorem car4_le (x v : Nat) (hx : x < W256) (hv : v < W64) : car4 x v ≤ 1 := by
  have := fstep_eq x v hx
  have := fstep_lt x v
  unfold W64 at hv; unfold W256 at *
  omega
theorem car4_end (x v : Nat) (hx : x < W256) (hv : v < W64) (h : W256 - 38 * 18446744073709551616 > x) : car4 x v = 0 := by
  have := fstep_eq x v hx
  unfold W64 at hv; unfold W256 at *
  omega
/-- Behind a round that goes over what is left is small. -/
theorem fstep_small (x v : Nat) (hx : x < W256) (hv : v < W64) (h : car4 x v ≠ 0) : fstep x v < 38 * 18446744073709551616 := by
  have := fstep_eq x v hx
  unfold W64 at hv; unfold W256 at *
  omega

theorem lc_val4 (a b c d : Nat) (ha : a < W64) (hb : b < W64) (hc : c < W64) (hd : d < W64) :
    lc (val4 a b c d) = #[.int .u64 (a : Int), .int .u64 (b : Int), .int .u64 (c : Int), .int .u64 (d : Int)] := by
  obtain ⟨h0, h1, h2, h3⟩ := limbs_val4 a b c d ha hb hc hd
  unfold lc; rw [h0, h1, h2, h3]
def fmeas (u a : Nat) : Nat := if u = 0 then 0 else if a < 38 * 18446744073709551616 then 1 else 2
theorem fmeas_lt (a u : Nat) (ha : a < W256) (hu : u < W64) (h0 : u ≠ 0) : fmeas (car4 a u) (fstep a u) < fmeas u a := by
  have f1 := car4_end a u ha hu
  have f2 := fstep_small a u ha hu
  have hW : W256 = 115792089237316195423570985008687907853269984665640564039457584007913129639936 := rfl
  unfold fmeas
  rw [if_neg h0]
  by_cases hc : car4 a u = 0
  · rw [if_pos hc]; split <;> omega
  · rw [if_neg hc, if_pos (f2 hc), if_neg (fun hh => hc (f1 (by omega)))]; omega
/-- Add64 with names for what comes out. -/
theorem add_named (x y c : Nat) (hc : c ≤ 1) : ∃ d e : Nat, d = (x + y + c) % W64 ∧ e = (x + y + c) / W64 ∧
    ∀ w : World, (callFunc 93 #[.int .u64 (x : Int), .int .u64 (y : Int), .int .u64 (c : Int)]).run Try.prog w = .ok (.value (.tuple #[.int .u64 (d : Int), .int .u64 (e : Int)])) w :=
  ⟨_, _, rfl, rfl, fun w => run_add x y c hc w⟩
theorem mul_named (x y : Nat) (hx : x < W64) (hy : y < W64) : ∃ hi lo : Nat, hi = x * y / W64 ∧ lo = x * y % W64 ∧
    ∀ w : World, Calls Try.prog 130 #[.int .u64 (x : Int), .int .u64 (y : Int)] w fun e w' => e = .returned (.tuple #[.int .u64 (hi : Int), .int .u64 (lo : Int)]) ∧ w = w' :=
  ⟨_, _, rfl, rfl, fun w => mul64_any x y hx hy w⟩
theorem car_le {x y c : Nat} (hx : x < W64) (hy : y < W64) (hc : c ≤ 1) : (x + y + c) / W64 ≤ 1 := by unfold W64 at *; omega

set_option maxRecDepth 100000 in
set_option maxHeartbeats 2000000 in
theorem folded_any (x v : Nat) (hx : x < W256) (hv : v < W64) (w : World) : Calls Try.prog 94 #[ev x, .int .u64 (v : Int)] w fun e w' => e = .returned (ev (foldN x v)) ∧ Only [] w w' := by
  have HX := Lib.hid hx; clear hx
  have HV := Lib.hid hv; clear hv
  go_enter Try.func94, Try.ntmps94
  go_wp2_with fail
  go_loopw [1] (fun o wr => ∃ a u : Nat, o = .int .u64 (u : Int) ∧ Hid (a < W256 ∧ u < W64 ∧ foldN a u = foldN x v) ∧ Blk wr w.heap.size (lc a) 37 ∧ Blk wr (w.heap.size + 1) (lc 0) 37 ∧ Only [] w wr) (fun o wr => fmeas (intOf o).toNat (wval wr w.heap.size))
  case atStart => exact ⟨x, v, rfl, ⟨HX.out, HV.out, rfl⟩, (Blk.new _ _ _).alloc _, Blk.newAt _ _ (by simp), ((Only.refl _ _).alloc _).alloc _⟩
  case round =>
    obtain ⟨a, u, rfl, HA, hba, hbr, ho⟩ := hrel
    have e0 := wval_of hba HA.out.1
    have HE := Lib.hid e0; clear e0
    by_cases h0 : u = 0
    · subst h0
      obtain ⟨q0, q1, q2, q3, qf⟩ := hba.four
      obtain ⟨r0, r1, r2, r3, rf⟩ := hbr.four
      go_wp2_with fail
      refine (reduced_any a HA.out.1 _).mono ?_
      rintro e w4 ⟨rfl, ho4⟩
      obtain ⟨s0, s1, s2, s3, sf⟩ := (ho4.blk hbr (by simp)).four
      have ho5 := ho.trans ho4
      go_wp2_with fail
      refine bodyPost_ret (v := ev (a % P255)) (by simp [results, Try.results94, go_sem, s0, s1, s2, s3]) rfl ⟨?_, ho5.set4 (.inr (by simp)) _ _ _ _⟩
      rw [← HA.out.2.2]; rfl
    · have hpos : 0 < (u : Int) := by omega
      have H0 := Lib.hid h0; clear h0
      obtain ⟨q0, q1, q2, q3, qf⟩ := hba.four
      go_wp2_with fail
      obtain ⟨hi, lo, hhi, hlo, hm⟩ := mul_named u 38 HA.out.2.1 (by decide)
      refine (hm wr).mono ?_
      rintro e w4 ⟨rfl, rfl⟩
      obtain ⟨d0, c1, hd0, hc1, s1⟩ := add_named (limb a 0) lo 0 (by omega)
      have hc1' : c1 ≤ 1 := by rw [hc1]; exact car_le (limb_lt _ _) (by rw [hlo]; exact Nat.mod_lt _ (by decide)) (by omega)
      obtain ⟨d1, c2, hd1, hc2, s2⟩ := add_named (limb a 1) hi c1 hc1'
      have hc2' : c2 ≤ 1 := by rw [hc2]; refine car_le (limb_lt _ _) ?_ hc1'; have := HA.out.2.1; rw [hhi]; unfold W64 at *; omega
      obtain ⟨d2, c3, hd2, hc3, s3⟩ := add_named (limb a 2) 0 c2 hc2'
      have hc3' : c3 ≤ 1 := by rw [hc3]; exact car_le (limb_lt _ _) (by decide) hc2'
      obtain ⟨d3, c4, hd3, hc4, s4⟩ := add_named (limb a 3) 0 c3 hc3'
      have hval : fstep a u = val4 d0 d1 d2 d3 := by
        unfold fstep car3 car2 car1
        rw [hd3, hd2, hd1, hd0, hc3, hc2, hc1, hlo, hhi]; rfl
      have hcar : car4 a u = c4 := by
        unfold car4 car3 car2 car1
        rw [hc4, hc3, hc2, hc1, hlo, hhi]; rfl
      have l0 : d0 < W64 := by rw [hd0]; exact Nat.mod_lt _ (by decide)
      have l1 : d1 < W64 := by rw [hd1]; exact Nat.mod_lt _ (by decide)
      have l2 : d2 < W64 := by rw [hd2]; exact Nat.mod_lt _ (by decide)
      have l3 : d3 < W64 := by rw [hd3]; exact Nat.mod_lt _ (by decide)
      clear hd0 hd1 hd2 hd3 hc1 hc2 hc3 hc4 hm hhi hlo
      have hlc := lc_val4 d0 d1 d2 d3 l0 l1 l2 l3
      have HL := Lib.hid hlc; have HW := Lib.hid hval; have HC := Lib.hid hcar
      clear hlc hval hcar l0 l1 l2 l3
      simp only [Int.natCast_zero] at s1 s3 s4
      go_wp2_with fail
      have hb7 := hba.set4 (.int .u64 (d0 : Int)) (.int .u64 (d1 : Int)) (.int .u64 (d2 : Int)) (.int .u64 (d3 : Int))
      rw [← HL.out, ← HW.out] at hb7
      have hA := HA.out
      go_roundw
      case rel =>
        refine ⟨fstep a u, c4, rfl, ⟨fstep_lt a u, by have := car4_le a u hA.1 hA.2.1; rw [← HC.out]; unfold W64; omega, ?_⟩, hb7, hbr.far4 (by omega) _ _ _ _, ho.set4 (.inr (by simp)) _ _ _ _⟩
        rw [← HC.out, fold_step a u hA.1]; exact hA.2.2
      case measure =>
        have e1 := wval_of hb7 (fstep_lt a u)
        have e2 := HE.out
        show fmeas (Int.toNat (c4 : Int)) (wval _ _) < fmeas (Int.toNat (u : Int)) (wval wr _)
        rw [e1, e2, Int.toNat_natCast, Int.toNat_natCast, ← HC.out]
        exact fmeas_lt a u hA.1 hA.2.1 H0.out
end Go.Proofs.Ytmlahbmaomoiaaa
