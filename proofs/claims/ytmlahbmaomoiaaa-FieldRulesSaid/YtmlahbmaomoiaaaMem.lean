/-
  Memory: a block that is known whole; a world of which only some blocks have turned.
-/
import Derived.Test.YtmlahbmaomoiaaaBase
import Derived.Deep.QuietTactic
import Derived.BigQuiet
namespace Go.Proofs.Ytmlahbmaomoiaaa
open Go.RowKit

theorem mixed : Try.prog.follows .mixedOrders = true := by kernel_rfl

/-- Block b holds these cells, of this element type; none is frozen. -/
def Blk (w : World) (b : Nat) (c : Array Value) (t : TypeId) : Prop := w.heap[b]? = some (.cells c t (0, 0))

theorem Blk.cell {w : World} {b : Nat} {c : Array Value} {t : TypeId} (h : Blk w b c t) (i : Nat) : w.cell? ⟨b, i, none⟩ = c[i]? := by
  unfold Blk at h; simp only [World.cell?, h]; rfl
theorem Blk.free {w : World} {b : Nat} {c : Array Value} {t : TypeId} (h : Blk w b c t) (i : Nat) : w.frozen? ⟨b, i, none⟩ = false := by
  unfold Blk at h; simp only [World.frozen?, h]; simp
theorem Blk.lt {w : World} {b : Nat} {c : Array Value} {t : TypeId} (h : Blk w b c t) : b < w.heap.size := by
  unfold Blk at h
  apply Nat.lt_of_not_le; intro hle
  rw [Array.getElem?_eq_none hle] at h; cases h
theorem Blk.set {w : World} {b : Nat} {c : Array Value} {t : TypeId} (h : Blk w b c t) (i : Nat) (v : Value) : Blk (w.setCell ⟨b, i, none⟩ v) b (c.setIfInBounds i v) t := by
  unfold Blk at *
  simp only [World.setCell, Array.getElem?_modify, if_true, h]; rfl
theorem Blk.far {w : World} {b : Nat} {c : Array Value} {t : TypeId} (h : Blk w b c t) {p : Addr} (hp : b ≠ p.block) (v : Value) : Blk (w.setCell p v) b c t := by
  unfold Blk at *
  rw [Below.heap_setCell _ _ _ _ hp]; exact h
theorem Blk.alloc {w : World} {b : Nat} {c : Array Value} {t : TypeId} (h : Blk w b c t) (o : Obj) : Blk (w.alloc o) b c t := by
  have := h.lt
  unfold Blk at *
  rw [Below.heap_alloc _ _ _ this]; exact h
theorem Blk.new (w : World) (c : Array Value) (t : TypeId) : Blk (w.alloc (.cells c t)) w.heap.size c t := by
  unfold Blk
  show (w.heap.push _)[w.heap.size]? = _
  simp
theorem Blk.newAt {w : World} {n : Nat} (c : Array Value) (t : TypeId) (h : w.heap.size = n) : Blk (w.alloc (.cells c t)) n c t := h ▸ Blk.new w c t
theorem Blk.drew {w : World} {b : Nat} {c : Array Value} {t : TypeId} (h : Blk w b c t) : Blk w.drew b c t := h
theorem Blk.inj {w : World} {b : Nat} {c c' : Array Value} {t t' : TypeId} (h : Blk w b c t) (h' : Blk w b c' t') : c = c' ∧ t = t' := by
  unfold Blk at *; rw [h] at h'; cases h'; exact ⟨rfl, rfl⟩

theorem nin1 {b c : Nat} (h : b ≠ c) : b ∉ [c] := by simpa using h
/-- Of what was there only the blocks of S may have turned. -/
structure Only (S : List Nat) (w w' : World) : Prop where
  os : w'.os = w.os
  tape : w'.tape = w.tape
  output : w'.output = w.output
  size : w.heap.size ≤ w'.heap.size
  block : ∀ k, k < w.heap.size → k ∉ S → w'.heap[k]? = w.heap[k]?
theorem Only.refl (S : List Nat) (w : World) : Only S w w := ⟨rfl, rfl, rfl, Nat.le_refl _, fun _ _ _ => rfl⟩
theorem Only.trans {S : List Nat} {a b c : World} (h : Only S a b) (k : Only S b c) : Only S a c :=
  ⟨k.os.trans h.os, k.tape.trans h.tape, k.output.trans h.output, Nat.le_trans h.size k.size, fun i hi hs => (k.block i (Nat.lt_of_lt_of_le hi h.size) hs).trans (h.block i hi hs)⟩
theorem Only.mono {S S' : List Nat} {w w' : World} (h : Only S w w') (hs : ∀ k, k ∈ S → k ∈ S' ∨ w.heap.size ≤ k) : Only S' w w' :=
  ⟨h.os, h.tape, h.output, h.size, fun k hk hn => h.block k hk fun hm => (hs k hm).elim hn (fun hle => by omega)⟩
theorem Only.to {S S' : List Nat} {w w' : World} (h : Only S w w') (hs : ∀ k, k ∈ S → k ∈ S') : Only S' w w' := h.mono fun k hk => .inl (hs k hk)
theorem Only.alloc {S : List Nat} {a w : World} (h : Only S a w) (o : Obj) : Only S a (w.alloc o) :=
  ⟨h.os, h.tape, h.output, by have := h.size; simp; omega, fun k hk hn => (Below.heap_alloc _ _ _ (by have := h.size; omega)).trans (h.block k hk hn)⟩
theorem Only.setCell {S : List Nat} {a w : World} (h : Only S a w) {p : Addr} (hp : p.block ∈ S ∨ a.heap.size ≤ p.block) (v : Value) : Only S a (w.setCell p v) :=
  ⟨h.os, h.tape, h.output, by have := h.size; simp [World.setCell]; omega, fun k hk hn => (Below.heap_setCell _ _ _ _ (fun e => by subst e; rcases hp with hp | hp; exact hn hp; omega)).trans (h.block k hk hn)⟩
theorem Only.drew {S : List Nat} {a w : World} (h : Only S a w) : Only S a w.drew := ⟨h.os, h.tape, h.output, h.size, h.block⟩
theorem Only.grow {S : List Nat} {w w' : World} (h : Grow w w') : Only S w w' := ⟨h.os, h.tape, h.output, h.size, fun k hk _ => h.block k hk⟩
theorem Only.toGrow {w w' : World} (h : Only [] w w') : Grow w w' := ⟨h.os, h.tape, h.output, h.size, fun k hk => h.block k hk (by simp)⟩
/-- Behind a part that turned only S: the whole turned S and what is new. -/
theorem Only.then {S S' : List Nat} {a b c : World} (h : Only S a b) (k : Only S' b c) (hs : ∀ x, x ∈ S' → x ∈ S ∨ a.heap.size ≤ x) : Only S a c :=
  ⟨k.os.trans h.os, k.tape.trans h.tape, k.output.trans h.output, Nat.le_trans h.size k.size, fun i hi hn =>
    (k.block i (Nat.lt_of_lt_of_le hi h.size) (fun hm => (hs i hm).elim hn (fun hle => by omega))).trans (h.block i hi hn)⟩
theorem Only.blk {S : List Nat} {w w' : World} (h : Only S w w') {b : Nat} {c : Array Value} {t : TypeId} (hb : Blk w b c t) (hn : b ∉ S) : Blk w' b c t := by
  have := hb.lt
  unfold Blk at *; rw [h.block b this hn]; exact hb
theorem Grow.blk {w w' : World} (h : Grow w w') {b : Nat} {c : Array Value} {t : TypeId} (hb : Blk w b c t) : Blk w' b c t := by
  have := hb.lt
  unfold Blk at *; rw [h.block b this]; exact hb
theorem Only.cell {S : List Nat} {w w' : World} (h : Only S w w') {p : Addr} (hp : p.block < w.heap.size) (hn : p.block ∉ S) : w'.cell? p = w.cell? p :=
  World.cell?_of_block (w := w) (h.block p.block hp hn)
theorem Grow.cells {w w1 : World} (hb : Grow w w1) : (∀ b o, b < w.heap.size → w1.cell? ⟨b, o, none⟩ = w.cell? ⟨b, o, none⟩) ∧ (∀ b o, b < w.heap.size → w1.frozen? ⟨b, o, none⟩ = w.frozen? ⟨b, o, none⟩) :=
  ⟨fun b o h => Below.cell (p := ⟨b, o, none⟩) hb h, fun b o h => Below.frozen (p := ⟨b, o, none⟩) hb h⟩
theorem Grow.alloc {a w : World} (h : Grow a w) (o : Obj) : Grow a (w.alloc o) := Below.alloc h h.size o
theorem Grow.drew {a w : World} (h : Grow a w) : Grow a w.drew := Below.drew h
theorem Grow.setCell {a w : World} (h : Grow a w) {p : Addr} (hp : a.heap.size ≤ p.block) (v : Value) : Grow a (w.setCell p v) := Below.setCell h hp v
theorem Grow.trans' {a b c : World} (h : Grow a b) (k : Grow b c) : Grow a c := h.trans k
theorem drewN_only (w : World) (n : Nat) : Only [] w (w.drewN n) := ⟨rfl, rfl, rfl, Nat.le_refl _, fun _ _ _ => rfl⟩
theorem ret_bool {a b : Bool} (h : a = b) : Ending.returned (.bool a) = .returned (.bool b) := by rw [h]
theorem ret_num {k : IntKind} {a b : Int} (h : a = b) : Ending.returned (.int k a) = .returned (.int k b) := by rw [h]
/-- A slice over a block of its own. -/
def MadeAt (base : Nat) (n cap : Nat) (c : Array Value) (t : TypeId) (v : Value) (w : World) : Prop := ∃ g, v = .slice (some ⟨g, 0, none⟩) n cap ∧ Blk w g c t ∧ base ≤ g
theorem MadeAt.only {base n cap : Nat} {c : Array Value} {t : TypeId} (v : Value) (w w' : World) (hE : Only [] w w') (h : MadeAt base n cap c t v w) : MadeAt base n cap c t v w' := by
  obtain ⟨g, h1, h2, h3⟩ := h; exact ⟨g, h1, hE.blk h2 (by simp), h3⟩
end Go.Proofs.Ytmlahbmaomoiaaa
