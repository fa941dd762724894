/-
  Arguments that are arrays of bytes, opened.
-/
import Derived.Test.YtmlahbmaomoiaaaOpn
import Derived.Test.YtmlahbmaomoiaaaRfL
namespace Go.Proofs.Ytmlahbmaomoiaaa
open Go.ChangeShapes Go.WideShapes Go.ChangeAt Go.RowKit

/-- The number of n bytes, the lowest first. -/
def vb (f : Nat → Nat) : Nat → Nat
  | 0 => 0
  | n + 1 => vb f n + f n * 2 ^ (8 * n)
theorem vb_lt (f : Nat → Nat) (h : ∀ i, f i < 256) : ∀ n, vb f n < 2 ^ (8 * n)
  | 0 => by simp [vb]
  | n + 1 => by
    have ih := vb_lt f h n
    have h1 := h n
    have e : (2 : Nat) ^ (8 * (n + 1)) = 256 * 2 ^ (8 * n) := by rw [Nat.mul_add, Nat.pow_add, Nat.mul_comm]
    have h2 : f n * 2 ^ (8 * n) ≤ 255 * 2 ^ (8 * n) := Nat.mul_le_mul_right _ (by omega)
    rw [e, vb]; omega
theorem dg_vb (f : Nat → Nat) (h : ∀ i, f i < 256) : ∀ n i, i < n → dg 8 (vb f n) i = f i
  | 0, i, hi => by omega
  | n + 1, i, hi => by
    have hz := vb_lt f h n
    rw [vb]
    unfold dg
    by_cases h1 : i = n
    · subst h1
      rw [Nat.add_mul_div_right _ _ (Nat.two_pow_pos _), Nat.div_eq_of_lt hz, Nat.zero_add]
      exact Nat.mod_eq_of_lt (h i)
    · have ih := dg_vb f h n i (by omega)
      unfold dg at ih
      obtain ⟨m, hm⟩ : ∃ m, 8 * n = m + 8 + 8 * i := ⟨8 * n - 8 - 8 * i, by omega⟩
      rw [hm, Nat.pow_add, Nat.pow_add, ← Nat.mul_assoc, Nat.add_mul_div_right _ _ (Nat.two_pow_pos _), ← Nat.mul_assoc, Nat.add_mul_mod_self_right]
      exact ih

theorem cells67 : Try.prog.cellsOf 67 = 32 := by kernel_rfl
theorem cells5 : Try.prog.cellsOf 5 = 1 := by kernel_rfl
set_option maxRecDepth 100000
section
variable {t : TypeId} {H : Type} {enc : TypeId × Value → H} {w W : World} {base b0 : Nat} {spare : Nat → Bool} {held : Bool} {r : Reach} {v : Value} {d : DataW H} {p : List MemPlace}
theorem trod_bytes {n : Nat} {cs : Array Value} (ht : Try.prog.underlying t = some (.array n 5)) (hs : cs.size = n) (h : DataW.Trod enc Try.prog w base spare held t (.agg cs) d p) :
    ∃ f : Nat → Nat, (∀ i, f i < 256) ∧ cs = arrk .u8 n f := by
  obtain ⟨fuel, hf⟩ := h
  simp only [Value.cells] at hf
  obtain ⟨xs, m, _, _, _, hl, hx⟩ := DataW.trod_array ht hf
  have key : ∀ i, ∃ b : Nat, b < 256 ∧ (i < n → cs[i]? = some (.int .u8 (b : Int))) := fun i => by
    by_cases hi : i < n
    · have h1 := hx i hi
      rw [cells5, Nat.mul_one] at h1
      have hci : i < cs.toList.length := by simpa [hs] using hi
      have e : (cs.toList.drop i).take 1 = [cs.toList[i]] := by
        rw [List.drop_eq_getElem_cons hci]; simp
      have h2 : DataW.trod enc Try.prog w base spare held m 5 [cs.toList[i]] = xs[i]? := by rw [← e]; exact h1
      rw [List.getElem?_eq_getElem (by omega)] at h2
      obtain ⟨a, e1, _, w1⟩ := DataW.trod_int Try.underlying5 h2
      simp only [List.cons.injEq, and_true] at e1
      obtain ⟨b, rfl, hb⟩ := wf_u8 w1
      refine ⟨b, hb, fun _ => ?_⟩
      rw [Array.getElem?_eq_getElem (by omega)]
      simpa using e1
    · exact ⟨0, by decide, fun h => absurd h hi⟩
  refine ⟨fun i => Classical.choose (key i), fun i => (Classical.choose_spec (key i)).1, ?_⟩
  apply Array.ext_getElem?
  intro i
  by_cases hi : i < n
  · rw [(Classical.choose_spec (key i)).2 hi, arrk_get _ _ _ i hi]
  · rw [Array.getElem?_eq_none (by omega), Array.getElem?_eq_none (by rw [arrk_size]; omega)]
/-- Thirty-two bytes. -/
theorem open_bytes (hv : Value.okWide Try.prog W r b0 67 v) (h : DataW.Trod enc Try.prog w base spare held 67 v d p) : ∃ x, x < W256 ∧ v = .agg (arrk .u8 32 (dg 8 x)) := by
  obtain ⟨cs, rfl, hs⟩ := okWide_array Try.underlying67 hv
  rw [cells67] at hs
  obtain ⟨f, hf, rfl⟩ := trod_bytes Try.underlying67 hs h
  exact ⟨vb f 32, vb_lt f hf 32, by rw [arrk_congr (fun i hi => (dg_vb f hf 32 i hi).symm)]⟩
end
end Go.Proofs.Ytmlahbmaomoiaaa
