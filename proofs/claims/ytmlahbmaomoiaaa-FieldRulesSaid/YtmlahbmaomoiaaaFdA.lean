/-
  Field: limbs; Mul64, Add64, Sub64; Small, modulus, less.
-/
import Derived.Test.YtmlahbmaomoiaaaMem
import Derived.Deep.QuietTactic
import Derived.BigQuiet
import Derived.Lib.Mul64
import Derived.Laws.Bits64b
import Derived.Laws.Externs
namespace Go.Proofs.Ytmlahbmaomoiaaa
open Go.RowKit

def W64 : Nat := 18446744073709551616
def limb (x i : Nat) : Nat := x / 2 ^ (64 * i) % 18446744073709551616
theorem limb_lt (x i : Nat) : limb x i < 18446744073709551616 := Nat.mod_lt _ (by decide)
def val4 (a b c d : Nat) : Nat := a + 18446744073709551616 * b + 340282366920938463463374607431768211456 * c + 6277101735386680763835789423207666416102355444464034512896 * d
def P255 : Nat := 57896044618658097711785492504343953926634992332820282019728792003956564819949
def W256 : Nat := 115792089237316195423570985008687907853269984665640564039457584007913129639936
theorem limb0 (x : Nat) : limb x 0 = x % 18446744073709551616 := by simp [limb]
theorem limb1 (x : Nat) : limb x 1 = x / 18446744073709551616 % 18446744073709551616 := rfl
theorem limb2 (x : Nat) : limb x 2 = x / 340282366920938463463374607431768211456 % 18446744073709551616 := rfl
theorem limb3 (x : Nat) : limb x 3 = x / 6277101735386680763835789423207666416102355444464034512896 % 18446744073709551616 := rfl
theorem val4_limbs (x : Nat) (h : x < W256) : val4 (limb x 0) (limb x 1) (limb x 2) (limb x 3) = x := by
  rw [limb0, limb1, limb2, limb3]; unfold val4; unfold W256 at h; omega
theorem limbs_val4 (a b c d : Nat) (ha : a < 18446744073709551616) (hb : b < 18446744073709551616) (hc : c < 18446744073709551616) (hd : d < 18446744073709551616) :
    limb (val4 a b c d) 0 = a ∧ limb (val4 a b c d) 1 = b ∧ limb (val4 a b c d) 2 = c ∧ limb (val4 a b c d) 3 = d := by
  rw [limb0, limb1, limb2, limb3]; unfold val4; omega
theorem val4_lt (a b c d : Nat) (ha : a < 18446744073709551616) (hb : b < 18446744073709551616) (hc : c < 18446744073709551616) (hd : d < 18446744073709551616) : val4 a b c d < W256 := by
  unfold val4 W256; omega

abbrev lc (x : Nat) : Array Value := #[.int .u64 ((limb x 0 : Nat) : Int), .int .u64 ((limb x 1 : Nat) : Int), .int .u64 ((limb x 2 : Nat) : Int), .int .u64 ((limb x 3 : Nat) : Int)]
/-- A number as the program's array of four. -/
abbrev ev (x : Nat) : Value := .agg #[.int .u64 ((limb x 0 : Nat) : Int), .int .u64 ((limb x 1 : Nat) : Int), .int .u64 ((limb x 2 : Nat) : Int), .int .u64 ((limb x 3 : Nat) : Int)]
theorem lc_get (x i : Nat) (h : i < 4) : (lc x)[i]? = some (.int .u64 ((limb x i : Nat) : Int)) := by
  have : i = 0 ∨ i = 1 ∨ i = 2 ∨ i = 3 := by omega
  rcases this with rfl | rfl | rfl | rfl <;> rfl

theorem Blk.four {w : World} {b : Nat} {a c d e : Value} {t : TypeId} (h : Blk w b #[a, c, d, e] t) :
    w.cell? ⟨b, 0, none⟩ = some a ∧ w.cell? ⟨b, 1, none⟩ = some c ∧ w.cell? ⟨b, 2, none⟩ = some d ∧ w.cell? ⟨b, 3, none⟩ = some e ∧ ∀ o, w.frozen? ⟨b, o, none⟩ = false :=
  ⟨h.cell 0, h.cell 1, h.cell 2, h.cell 3, fun o => h.free o⟩
theorem run_add (x y c : Nat) (hc : c ≤ 1) (w : World) :
    (callFunc 93 #[.int .u64 (x : Int), .int .u64 (y : Int), .int .u64 (c : Int)]).run Try.prog w =
      .ok (.value (.tuple #[.int .u64 (((x + y + c) % 18446744073709551616 : Nat) : Int), .int .u64 (((x + y + c) / 18446744073709551616 : Nat) : Int)])) w := by
  rw [run_callFunc_extern Try.func93 (by kernel_rfl) (by kernel_rfl) (by kernel_rfl) (e := add64Entry) (by kernel_rfl), run_add64 x y c (by omega) (by omega) (by omega) (by omega)]
  simp only [Result.andThen]
  congr 5 <;> omega
def sub64Entry : Array Value → Sem Value := fun args => do
  let (x, y, b) ← Extern.MathBitsCarry.three "Sub64" args
  pure (Extern.MathBitsCarry.pair ((x + Extern.MathBitsCarry.m64 - y - b) % Extern.MathBitsCarry.m64) (if x < y + b then 1 else 0))
theorem run_sub (x y b : Nat) (hb : b ≤ 1) (w : World) :
    (callFunc 131 #[.int .u64 (x : Int), .int .u64 (y : Int), .int .u64 (b : Int)]).run Try.prog w =
      .ok (.value (.tuple #[.int .u64 (((x + 18446744073709551616 - y - b) % 18446744073709551616 : Nat) : Int), .int .u64 (((if x < y + b then 1 else 0) : Nat) : Int)])) w := by
  have key : (sub64Entry #[.int .u64 (x : Int), .int .u64 (y : Int), .int .u64 (b : Int)]).run Try.prog w =
      .ok (Extern.MathBitsCarry.pair ((x + Extern.MathBitsCarry.m64 - y - b) % Extern.MathBitsCarry.m64) (if x < y + b then 1 else 0)) w := by
    have : b = 0 ∨ b = 1 := by omega
    rcases this with rfl | rfl <;> rfl
  rw [run_callFunc_extern Try.func131 (by kernel_rfl) (by kernel_rfl) (by kernel_rfl) (e := sub64Entry) (by kernel_rfl), key]
  rfl

namespace Mul64
theorem maskN (a : Nat) (ha : a < 18446744073709551616) : bits .and .u64 (a : Int) 4294967295 = ((a % 4294967296 : Nat) : Int) := by
  have h := bits_and_u64_nat a 4294967295 ha (by omega)
  have e : a &&& 4294967295 = a % 4294967296 := Nat.and_two_pow_sub_one_eq_mod a 32
  rw [e] at h
  exact h
theorem divN (a : Nat) : (a : Int) / 4294967296 = ((a / 4294967296 : Nat) : Int) := by omega
theorem mulN (a b : Nat) : (a : Int) * (b : Int) = ((a * b : Nat) : Int) := (Int.natCast_mul a b).symm
theorem addN (a b : Nat) : (a : Int) + (b : Int) = ((a + b : Nat) : Int) := (Int.natCast_add a b).symm
theorem wrapN (a : Nat) (ha : a < 18446744073709551616) : IntKind.u64.wrap (a : Int) = (a : Int) := by rw [IntKind.wrap_u64]; omega
theorem wrapM (a : Nat) : IntKind.u64.wrap (a : Int) = ((a % 18446744073709551616 : Nat) : Int) := by rw [IntKind.wrap_u64]; omega
end Mul64
set_option maxHeartbeats 1000000 in
theorem mul64_any (x y : Nat) (hx : x < 18446744073709551616) (hy : y < 18446744073709551616) (w : World) :
    Calls Try.prog 130 #[.int .u64 (x : Int), .int .u64 (y : Int)] w fun e w' => e = .returned (.tuple #[.int .u64 ((x * y / 18446744073709551616 : Nat) : Int), .int .u64 ((x * y % 18446744073709551616 : Nat) : Int)]) ∧ w = w' := by
  obtain ⟨bd, bt, bw, hhi⟩ := Lib.mul64_hi x y hx hy
  have ba := Lib.half_mul_le (a := x / 4294967296) (b := y / 4294967296) (by omega) (by omega)
  have bb := Lib.half_mul_le (a := x / 4294967296) (b := y % 4294967296) (by omega) (by omega)
  have bc := Lib.half_mul_le (a := x % 4294967296) (b := y / 4294967296) (by omega) (by omega)
  have ba' : x / 4294967296 * (y / 4294967296) < 18446744073709551616 := by omega
  have bb' : x / 4294967296 * (y % 4294967296) < 18446744073709551616 := by omega
  have bc' : x % 4294967296 * (y / 4294967296) < 18446744073709551616 := by omega
  have bh1 : x / 4294967296 * (y / 4294967296) + (x / 4294967296 * (y % 4294967296) + x % 4294967296 * (y % 4294967296) / 4294967296) / 4294967296 < 18446744073709551616 := by omega
  have bh : x / 4294967296 * (y / 4294967296) + (x / 4294967296 * (y % 4294967296) + x % 4294967296 * (y % 4294967296) / 4294967296) / 4294967296 + ((x / 4294967296 * (y % 4294967296) + x % 4294967296 * (y % 4294967296) / 4294967296) % 4294967296 + x % 4294967296 * (y / 4294967296)) / 4294967296 < 18446744073709551616 := by omega
  go_enter Try.func130, Try.ntmps130
  go_wp2
  simp only [Mul64.maskN x hx, Mul64.maskN y hy, Mul64.divN, Mul64.mulN, Mul64.addN, Mul64.wrapN _ bd, Mul64.wrapN _ bb', Mul64.wrapN _ bt, Mul64.maskN _ bt, Mul64.wrapN _ bc', Mul64.wrapN _ bw, Mul64.wrapN _ ba', Mul64.wrapN _ bh1, Mul64.wrapN _ bh, Mul64.wrapM (x * y)]
  rw [hhi]
  go_ret2
  exact ⟨rfl, rfl⟩

set_option maxHeartbeats 400000 in
theorem small_any (n : Nat) (hn : n < 18446744073709551616) (w : World) : Calls Try.prog 45 #[.int .u64 (n : Int)] w fun e w' => e = .returned (ev n) ∧ Only [] w w' := by
  have e0 : limb n 0 = n := by rw [limb0]; omega
  have e1 : limb n 1 = 0 := by rw [limb1]; omega
  have e2 : limb n 2 = 0 := by rw [limb2]; omega
  have e3 : limb n 3 = 0 := by rw [limb3]; omega
  have E0 := Lib.hid e0; have E1 := Lib.hid e1; have E2 := Lib.hid e2; have E3 := Lib.hid e3
  clear e0 e1 e2 e3 hn
  go_enter Try.func45, Try.ntmps45
  go_wp2
  refine bodyPost_ret (v := .agg #[.int .u64 (n : Int), .int .u64 0, .int .u64 0, .int .u64 0]) (by simp [results, Try.results45, go_sem]) rfl ⟨?_, (Only.refl _ _).alloc _⟩
  unfold ev; rw [E0.out, E1.out, E2.out, E3.out]; rfl

set_option maxHeartbeats 400000 in
theorem modulus_any (w : World) : Calls Try.prog 90 #[] w fun e w' => e = .returned (ev P255) ∧ Only [] w w' := by
  go_enter Try.func90, Try.ntmps90
  go_wp2
  refine bodyPost_ret (v := ev P255) (by simp [results, Try.results90, go_sem]; decide) rfl ⟨rfl, (Only.refl _ _).alloc _⟩

theorem less_at (x y k : Nat) (hx : x < W256) (hy : y < W256) (hk : k < 4) (he : ∀ j, k < j → j < 4 → limb x j = limb y j) (hne : limb x k ≠ limb y k) : (x < y) = (limb x k < limb y k) := by
  have h1 := val4_limbs x hx
  have h2 := val4_limbs y hy
  have a0 := limb_lt x 0; have a1 := limb_lt x 1; have a2 := limb_lt x 2; have a3 := limb_lt x 3
  have b0 := limb_lt y 0; have b1 := limb_lt y 1; have b2 := limb_lt y 2; have b3 := limb_lt y 3
  unfold val4 at h1 h2
  have : k = 0 ∨ k = 1 ∨ k = 2 ∨ k = 3 := by omega
  rcases this with rfl | rfl | rfl | rfl
  · have c1 := he 1 (by omega) (by omega); have c2 := he 2 (by omega) (by omega); have c3 := he 3 (by omega) (by omega)
    simp only [eq_iff_iff]; omega
  · have c2 := he 2 (by omega) (by omega); have c3 := he 3 (by omega) (by omega)
    simp only [eq_iff_iff]; omega
  · have c3 := he 3 (by omega) (by omega)
    simp only [eq_iff_iff]; omega
  · simp only [eq_iff_iff]; omega
theorem eq_of_limbs (x y : Nat) (hx : x < W256) (hy : y < W256) (he : ∀ j, j < 4 → limb x j = limb y j) : x = y := by
  rw [← val4_limbs x hx, ← val4_limbs y hy, he 0 (by omega), he 1 (by omega), he 2 (by omega), he 3 (by omega)]

set_option maxRecDepth 100000 in
set_option maxHeartbeats 1000000 in
theorem less_any (x y : Nat) (hx : x < W256) (hy : y < W256) (w : World) : Calls Try.prog 97 #[ev x, ev y] w fun e w' => e = .returned (.bool (decide (x < y))) ∧ Only [] w w' := by
  have HX := Lib.hid hx; have HY := Lib.hid hy
  clear hx hy
  go_enter Try.func97, Try.ntmps97
  go_wp2_with fail
  go_loopw [5] (fun i wr => ∃ j : Nat, i = .int .i64 ((j : Int) - 1) ∧ j ≤ 4 ∧ Hid (∀ q, j ≤ q → q < 4 → limb x q = limb y q) ∧ Blk wr w.heap.size (lc x) 37 ∧ Blk wr (w.heap.size + 1) (lc y) 37 ∧ Only [] w wr) (fun i _ => (intOf i + 1).toNat)
  case atStart => exact ⟨4, rfl, by omega, fun q h1 h2 => by omega, (Blk.new _ _ _).alloc _, by simpa using Blk.new (w.alloc (.cells (lc x) 37)) (lc y) 37, ((Only.refl _ _).alloc _).alloc _⟩
  case round =>
    obtain ⟨j, rfl, hj, HE, hbx, hby, ho⟩ := hrel
    by_cases hj0 : j = 0
    · subst hj0
      have e : x = y := eq_of_limbs x y HX.out HY.out fun q hq => HE.out q (Nat.zero_le _) hq
      have hd : decide (x < y) = false := decide_eq_false (by omega)
      have HD := Lib.hid hd; clear hd e
      go_wp2_with fail
      go_ret
      rw [HD.out]
      exact ⟨rfl, ho⟩
    · obtain ⟨k, rfl⟩ : ∃ k, j = k + 1 := ⟨j - 1, by omega⟩
      have cx := (hbx.cell k).trans (lc_get x k (by omega))
      have cy := (hby.cell k).trans (lc_get y k (by omega))
      rw [show (((k + 1 : Nat) : Int) - 1) = (k : Int) from by omega]
      have hk4 : k < 4 := by omega
      have k4 : (k : Int) < 4 := by omega
      clear hj0
      by_cases he : limb x k = limb y k
      · have hq : (((limb x k : Nat) : Int) != ((limb y k : Nat) : Int)) = false := by rw [he]; simp
        have HEk := Lib.hid he; clear he
        go_wp2_with fail
        go_quiet (fail)
        go_wp2_with fail
        go_roundw
        case rel =>
          refine ⟨k, by go_num, by omega, fun q h1 h2 => ?_, hbx, hby, ho.trans (drewN_only _ _)⟩
          by_cases hqk : q = k
          · subst hqk; exact HEk.out
          · exact HE.out q (by omega) h2
        case measure => simp [intOf]
      · have hq : (((limb x k : Nat) : Int) != ((limb y k : Nat) : Int)) = true := by rw [bne_iff_ne]; intro h; exact he (by exact_mod_cast h)
        have hl := less_at x y k HX.out HY.out hk4 (fun q h1 h2 => HE.out q (by omega) h2) he
        have HLt := Lib.hid hl; clear hl he
        go_wp2_with fail
        go_quiet (fail)
        go_wp2_with fail
        go_quiet (fail)
        go_wp2_with fail
        go_ret
        refine ⟨?_, ho.trans ((drewN_only _ _).trans (drewN_only _ _))⟩
        exact ret_bool (decide_eq_decide.2 (by rw [HLt.out]))
end Go.Proofs.Ytmlahbmaomoiaaa
