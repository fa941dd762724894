/-
  Arguments that are arrays of numbers, opened.
-/
import Derived.Test.YtmlahbmaomoiaaaFdA
import Derived.WalkKit
import Derived.ProofKit
import Derived.OpenShut
import Derived.ChangeOld
import Derived.Below
import Derived.Laws.IdiomArrays
namespace Go.Proofs.Ytmlahbmaomoiaaa
open Go.ChangeShapes Go.WideShapes Go.ChangeAt Go.RowKit

theorem okWide_array {P : Program} {w : World} {r : Reach} {base : Nat} {t e : TypeId} {n : Nat} {v : Value} (ht : P.underlying t = some (.array n e)) (h : Value.okWide P w r base t v) : ∃ cs, v = .agg cs ∧ cs.size = P.cellsOf t := by
  simp only [Value.okWide, ht] at h
  obtain ⟨cs, h1, h2, _⟩ := h
  exact ⟨cs, h1, h2⟩
theorem four_of {α : Type} {cs : Array α} (h : cs.size = 4) : ∃ c0 c1 c2 c3, cs = #[c0, c1, c2, c3] := by
  obtain ⟨l⟩ := cs
  match l, h with
  | [c0, c1, c2, c3], _ => exact ⟨c0, c1, c2, c3, rfl⟩
theorem cells36 : Try.prog.cellsOf 36 = 4 := by kernel_rfl
theorem cells35 : Try.prog.cellsOf 35 = 1 := by kernel_rfl
theorem wf_u64 {a : Int} (h : (Lit.int .u64 a).wf = true) : ∃ n : Nat, a = (n : Int) ∧ n < 18446744073709551616 := by
  have b : 0 ≤ a ∧ a ≤ 18446744073709551615 := by simpa [Lit.wf, IntKind.min, IntKind.max, IntKind.signed, IntKind.bits] using h
  exact ⟨a.toNat, by omega, by omega⟩
theorem wf_u8 {a : Int} (h : (Lit.int .u8 a).wf = true) : ∃ n : Nat, a = (n : Int) ∧ n < 256 := by
  have b : 0 ≤ a ∧ a ≤ 255 := by simpa [Lit.wf, IntKind.min, IntKind.max, IntKind.signed, IntKind.bits] using h
  exact ⟨a.toNat, by omega, by omega⟩
set_option maxRecDepth 100000
section
variable {t : TypeId} {H : Type} {enc : TypeId × Value → H} {w W : World} {base b0 : Nat} {spare : Nat → Bool} {held : Bool} {r : Reach} {v : Value} {d : DataW H} {p : List MemPlace}
/-- Four times sixty-four bits. -/
theorem open_limbs (hv : Value.okWide Try.prog W r b0 36 v) (h : DataW.Trod enc Try.prog w base spare held 36 v d p) : ∃ x, x < W256 ∧ v = ev x := by
  obtain ⟨cs, rfl, hs⟩ := okWide_array Try.underlying36 hv
  rw [cells36] at hs
  obtain ⟨c0, c1, c2, c3, rfl⟩ := four_of hs
  obtain ⟨fuel, hf⟩ := h
  simp only [Value.cells] at hf
  obtain ⟨y0, y1, y2, y3, n, _, h0, h1, h2, h3⟩ := trod_array4 Try.underlying36 cells35 (by simpa using hf)
  obtain ⟨a0, e0, _, w0⟩ := DataW.trod_int Try.underlying35 h0
  obtain ⟨a1, e1, _, w1⟩ := DataW.trod_int Try.underlying35 h1
  obtain ⟨a2, e2, _, w2⟩ := DataW.trod_int Try.underlying35 h2
  obtain ⟨a3, e3, _, w3⟩ := DataW.trod_int Try.underlying35 h3
  simp only [List.cons.injEq, and_true] at e0 e1 e2 e3
  subst e0; subst e1; subst e2; subst e3
  obtain ⟨n0, rfl, l0⟩ := wf_u64 w0
  obtain ⟨n1, rfl, l1⟩ := wf_u64 w1
  obtain ⟨n2, rfl, l2⟩ := wf_u64 w2
  obtain ⟨n3, rfl, l3⟩ := wf_u64 w3
  obtain ⟨q0, q1, q2, q3⟩ := limbs_val4 n0 n1 n2 n3 l0 l1 l2 l3
  exact ⟨val4 n0 n1 n2 n3, val4_lt n0 n1 n2 n3 l0 l1 l2 l3, by unfold ev; rw [q0, q1, q2, q3]⟩
theorem trod_places (h : DataW.Trod enc Try.prog w base spare held t v d p) : ∀ x ∈ p, x.block < w.heap.size := by
  obtain ⟨m, hm⟩ := h; exact DataW.trod_lt m _ _ _ hm
end
end Go.Proofs.Ytmlahbmaomoiaaa
