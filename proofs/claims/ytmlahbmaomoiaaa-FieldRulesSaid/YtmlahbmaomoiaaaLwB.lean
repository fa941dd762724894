/-
  The field's laws: what is laid behind num; sums and products of numbers that lie in a new slice.
-/
import Derived.Test.YtmlahbmaomoiaaaLwA
namespace Go.Proofs.Ytmlahbmaomoiaaa
open Go.RowKit

/-- Behind 'x, m := num(a)'. -/
abbrev afterNum (w : World) (m : Nat) : World := ((w.alloc (.cells (lc m) 37)).alloc (.cells zc 39)).setRow (w.heap.size + 1) (nc (dig m))
theorem afterNum_only {S : List Nat} {a w : World} (h : Only S a w) (m : Nat) : Only S a (afterNum w m) := ((h.alloc _).alloc _).setRow (.inr (by have := h.size; omega)) _
theorem afterNum_blk {w : World} {b : Nat} {c : Array Value} {t : TypeId} (h : Blk w b c t) (m : Nat) : Blk (afterNum w m) b c t := ((h.alloc _).alloc _).farRow (by have := h.lt; omega) _
theorem afterNum_e (w : World) (m : Nat) : Blk (afterNum w m) w.heap.size (lc m) 37 := ((Blk.new _ _ _).alloc _).farRow (by omega) _
theorem afterNum_r (w : World) (m : Nat) : Blk (afterNum w m) (w.heap.size + 1) (rc m) 39 := by
  have h : Blk ((w.alloc (.cells (lc m) 37)).alloc (.cells zc 39)) (w.heap.size + 1) zc 39 := Blk.newAt _ _ (by simp)
  exact h.setRow _
theorem zc_new (w : World) (m : Nat) : Blk ((w.alloc (.cells (lc m) 37)).alloc (.cells zc 39)) (w.heap.size + 1) (nc fun _ => 0) 39 := Blk.newAt _ _ (by simp)

/-- A new block, and a pointer to it. -/
def NewAt (base : Nat) (c : Array Value) (t : TypeId) (v : Value) (w : World) : Prop := ∃ g, v = .pointer (some ⟨g, 0, none⟩) ∧ Blk w g c t ∧ base ≤ g
theorem NewAt.only {base : Nat} {c : Array Value} {t : TypeId} (v : Value) (w w' : World) (hE : Only [] w w') (h : NewAt base c t v w) : NewAt base c t v w' := by
  obtain ⟨g, h1, h2, h3⟩ := h; exact ⟨g, h1, hE.blk h2 (by simp), h3⟩

theorem add_made {base n cap : Nat} (xs : List Nat) (hn : xs.length = n) (hxs : ∀ x ∈ xs, x < W256) (hlen : n < 4294967296) {v : Value} {w : World} (h : MadeAt base n cap (cells3 xs).toArray 37 v w) :
    Calls Try.prog 40 #[v] w fun e w' => e = .returned (ev (addN xs)) ∧ Only [] w w' := by
  obtain ⟨g, rfl, hb, _⟩ := h
  subst hn
  exact add_any xs (fun i hi => by rw [List.getD_eq_getElem?_getD, List.getElem?_eq_getElem hi]; exact hxs _ (List.getElem_mem hi)) hlen _ cap w (elems_of xs hb)
theorem mul_made {base n cap : Nat} (xs : List Nat) (hn : xs.length = n) (hxs : ∀ x ∈ xs, x < W256) (hlen : n < 4294967296) {v : Value} {w : World} (h : MadeAt base n cap (cells3 xs).toArray 37 v w) :
    Calls Try.prog 36 #[v] w fun e w' => e = .returned (ev (mulN xs)) ∧ Only [] w w' := by
  obtain ⟨g, rfl, hb, _⟩ := h
  subst hn
  exact mul_any xs (fun i hi => by rw [List.getD_eq_getElem?_getD, List.getElem?_eq_getElem hi]; exact hxs _ (List.getElem_mem hi)) hlen _ cap w (elems_of xs hb)
theorem elems_nil (w : World) (p : Option Addr) : Elems w p [] := fun i hi => by simp at hi
theorem add_none (w : World) : Calls Try.prog 40 #[.slice none 0 0] w fun e w' => e = .returned (ev 0) ∧ Only [] w w' :=
  add_any [] (fun i hi => by simp at hi) (by decide) none 0 w (elems_nil _ _)
theorem mul_none (w : World) : Calls Try.prog 36 #[.slice none 0 0] w fun e w' => e = .returned (ev 1) ∧ Only [] w w' :=
  mul_any [] (fun i hi => by simp at hi) (by decide) none 0 w (elems_nil _ _)
theorem dig0_odd (m : Nat) : dig m 0 % 2 = m % 2 := by unfold dig; simp
theorem addN_three (x y z : Nat) : addN [x, y, z] = ((x + y) % P255 + z) % P255 := by simp [addN]
theorem mulN_three (x y z : Nat) : mulN [x, y, z] = (x * y % P255) * z % P255 := by simp [mulN]
theorem mulN_two (x y : Nat) : mulN [x, y] = x * y % P255 := by simp [mulN]
theorem negN_r (x : Nat) (h : x < P255) : (P255 - x) % P255 = negN x := by
  unfold negN
  split
  · next h0 => subst h0; simp
  · rw [Nat.mod_eq_of_lt (by omega)]
theorem negN_ltP (x : Nat) : negN x < P255 := by
  unfold negN; split
  · decide
  · unfold P255; omega
theorem rsub_sub (x y : Nat) (h : y < P255) : rsubN x y = subN x y := by unfold rsubN subN; rw [negN_r y h]
end Go.Proofs.Ytmlahbmaomoiaaa
