/-
  Flash: Clone, Read, Program, Erase, New.
-/
import Derived.Test.YtmlahbmaomoiaaaFlB
namespace Go.Proofs.Ytmlahbmaomoiaaa
open Go.RowKit

theorem info5 : (Try.prog.info? 5).map (fun i => (i.zero, i.size, i.bytes)) = some (some (.int .u8 0), 1, 1) := by kernel_rfl
theorem info3 : (Try.prog.info? 3).map (fun i => (i.zero, i.size, i.bytes)) = some (some (.int .i64 0), 1, 8) := by kernel_rfl

/-- A slice that the call itself made, of single cells, that hold xs. -/
abbrev Own (base : Nat) (w : World) (e : TypeId) (v : Value) (xs : List Value) : Prop := w.ownsRow base e 1 v xs.length xs
def bvals (l : List Nat) : List Value := l.map fun n : Nat => Value.int .u8 (n : Int)
def ivals (l : List Nat) : List Value := l.map fun n : Nat => Value.int .i64 (n : Int)
theorem bvals_len (l : List Nat) : (bvals l).length = l.length := by simp [bvals]
theorem ivals_len (l : List Nat) : (ivals l).length = l.length := by simp [ivals]
theorem bvals_get (l : List Nat) (j : Nat) (hj : j < l.length) : (bvals l)[j]? = some (.int .u8 ((l.getD j 0 : Nat) : Int)) := by simp [bvals, List.getD, List.getElem?_eq_getElem hj]
theorem ivals_get (l : List Nat) (j : Nat) (hj : j < l.length) : (ivals l)[j]? = some (.int .i64 ((l.getD j 0 : Nat) : Int)) := by simp [ivals, List.getD, List.getElem?_eq_getElem hj]

/-- Behind an append to a block of the call's own. -/
theorem grown_only {S : List Nat} {w w1 w2 : World} {r : Option Nat} (h1 : Only S w w1) (h : w1.grownBy w2 r) (hr : ∀ k, r = some k → k ∈ S ∨ w.heap.size ≤ k) : Only S w w2 :=
  ⟨h.os.trans h1.os, h.tape.trans h1.tape, h.output.trans h1.output, Nat.le_trans h1.size h.size, fun k hk hn =>
    (h.block k (Nat.lt_of_lt_of_le hk h1.size) (fun e => by rcases hr k e.symm with h2 | h2; exact hn h2; omega)).trans (h1.block k hk hn)⟩

theorem eq_nil_some (P : Program) (w : World) {t e : TypeId} (a : Addr) (n c : Nat) (h : P.underlying t = some (.slice e)) : (binOp .eql t (.slice (some a) n c) (.slice none 0 0)).run P w = .ok (.bool false) w :=
  Lib.run_eql_slice_nil w t e (some a) n c 0 0 h
theorem eq_nil_none (P : Program) (w : World) {t e : TypeId} (h : P.underlying t = some (.slice e)) : (binOp .eql t (.slice none 0 0) (.slice none 0 0)).run P w = .ok (.bool true) w :=
  Lib.run_eql_slice_nil w t e none 0 0 0 0 h

theorem add_some (g off j : Nat) : ((⟨g, off, none⟩ : Addr).add j) = ⟨g, off + j, none⟩ := by unfold Addr.add; split <;> simp_all

/-- The cells that an append reads, in a world with a block more. -/
theorem news_alloc {w : World} {g off : Nat} {xs : List Value} (o : Obj) (h : ∀ j u, xs[j]? = some u → w.cell? ⟨g, off + j, none⟩ = some u) :
    ∀ j u, xs[j]? = some u → (w.alloc o).cell? ((⟨g, off, none⟩ : Addr).add j) = some u := by
  intro j u hu
  have h1 := h j u hu
  have hlt := World.block_lt_of_cell? w _ h1
  rw [add_some, World.cell?_alloc_lt w o _ hlt]
  exact h1

set_option maxRecDepth 100000 in
set_option maxHeartbeats 400000 in
theorem clone_bytes (g off n cap : Nat) (l : List Nat) (w : World) (hl : l.length = n) (hn : n ≤ 140737488351232) (hc : ∀ j, j < n → w.cell? ⟨g, off + j, none⟩ = some (.int .u8 ((l.getD j 0 : Nat) : Int))) :
    Calls Try.prog 86 #[.slice (some ⟨g, off, none⟩) n cap] w fun e w' => ∃ v, e = .returned v ∧ Own w.heap.size w' 5 v (bvals l) ∧ v ≠ .slice none 0 0 ∧ Only [] w w' := by
  obtain ⟨i0, hi, hz0, hz1, hz2⟩ := info_parts info5
  have hnews : ∀ j u, (bvals l)[j]? = some u → w.cell? ⟨g, off + j, none⟩ = some u := fun j u hu => by
    have hj : j < l.length := by have := (List.getElem?_eq_some_iff.1 hu).1; rwa [bvals_len] at this
    rw [bvals_get l j hj] at hu; cases hu; exact hc j (hl ▸ hj)
  have HN := Lib.hid hn; have HL := Lib.hid hl; have HI := Lib.hid hi; have H0 := Lib.hid hz0; have H1 := Lib.hid hz1; have H2 := Lib.hid hz2; have HC := Lib.hid hnews
  clear hn hl hi hz0 hz1 hz2 hc hnews
  have he := eq_nil_some Try.prog w (t := 22) (e := 5) ⟨g, off, none⟩ n cap Try.underlying22
  go_enter Try.func86, Try.ntmps86
  go_wp2_with (at_builtin; refine wpList_append_own _ rfl (.tmp 5) (.tmp 6) 22 rfl w.heap.size 5 i0 (.int .u8 0) 1 1 Try.underlying22 HI.out H0.out H1.out H2.out rfl (by decide) (.slice (some ⟨w.heap.size, 0, none⟩) 0 0) 0 [] rfl (World.ownsRow_made w #[] 0 (Nat.le_refl _) (by decide) (by simp)) ⟨g, off, none⟩ n cap (bvals l) rfl ?c0 (news_alloc _ HC.out) ?c2 ?c3 ?c4 ?c5 ?_)
  case c0 => rw [bvals_len, HL.out, Nat.mul_one]
  case c2 => intro u hu; obtain ⟨_, _, rfl⟩ := List.mem_map.1 hu; rfl
  case c3 => have := HN.out; simp only [maxLen]; omega
  case c4 => have := HN.out; omega
  case c5 => simp
  intro v' w1 hown hg hne
  go_wp2
  go_ret
  refine ⟨_, rfl, by unfold Own; rw [bvals_len, HL.out]; simpa using hown, fun h => hne h, ?_⟩
  · exact grown_only ((Only.refl _ _).alloc _) hg (by intro k hk; simp [Value.ownBlock] at hk; omega)

set_option maxRecDepth 100000 in
set_option maxHeartbeats 400000 in
theorem clone_ints (g off n cap : Nat) (l : List Nat) (w : World) (hl : l.length = n) (hn : n ≤ 1000000) (hc : ∀ j, j < n → w.cell? ⟨g, off + j, none⟩ = some (.int .i64 ((l.getD j 0 : Nat) : Int))) :
    Calls Try.prog 96 #[.slice (some ⟨g, off, none⟩) n cap] w fun e w' => ∃ v, e = .returned v ∧ Own w.heap.size w' 3 v (ivals l) ∧ v ≠ .slice none 0 0 ∧ Only [] w w' := by
  obtain ⟨i0, hi, hz0, hz1, hz2⟩ := info_parts info3
  have hnews : ∀ j u, (ivals l)[j]? = some u → w.cell? ⟨g, off + j, none⟩ = some u := fun j u hu => by
    have hj : j < l.length := by have := (List.getElem?_eq_some_iff.1 hu).1; rwa [ivals_len] at this
    rw [ivals_get l j hj] at hu; cases hu; exact hc j (hl ▸ hj)
  have HN := Lib.hid hn; have HL := Lib.hid hl; have HI := Lib.hid hi; have H0 := Lib.hid hz0; have H1 := Lib.hid hz1; have H2 := Lib.hid hz2; have HC := Lib.hid hnews
  clear hn hl hi hz0 hz1 hz2 hc hnews
  have he := eq_nil_some Try.prog w (t := 64) (e := 3) ⟨g, off, none⟩ n cap Try.underlying64
  go_enter Try.func96, Try.ntmps96
  go_wp2_with (at_builtin; refine wpList_append_own _ rfl (.tmp 5) (.tmp 6) 64 rfl w.heap.size 3 i0 (.int .i64 0) 1 8 Try.underlying64 HI.out H0.out H1.out H2.out rfl (by decide) (.slice (some ⟨w.heap.size, 0, none⟩) 0 0) 0 [] rfl (World.ownsRow_made w #[] 0 (Nat.le_refl _) (by decide) (by simp)) ⟨g, off, none⟩ n cap (ivals l) rfl ?c0 (news_alloc _ HC.out) ?c2 ?c3 ?c4 ?c5 ?_)
  case c0 => rw [ivals_len, HL.out, Nat.mul_one]
  case c2 => intro u hu; obtain ⟨_, _, rfl⟩ := List.mem_map.1 hu; rfl
  case c3 => have := HN.out; simp only [maxLen]; omega
  case c4 => have := HN.out; omega
  case c5 => simp
  intro v' w1 hown hg hne
  go_wp2
  go_ret
  refine ⟨_, rfl, by unfold Own; rw [ivals_len, HL.out]; simpa using hown, fun h => hne h, ?_⟩
  · exact grown_only ((Only.refl _ _).alloc _) hg (by intro k hk; simp [Value.ownBlock] at hk; omega)

/-- Read: the error, and the bytes. -/
def Fl.read (F : Fl) (at_ n : Int) : Option (List Nat) × Nat :=
  if F.off = true then (none, 5)
  else if at_ < 0 ∨ n < 0 ∨ (F.b.length : Int) < at_ ∨ (F.b.length : Int) - at_ < n then (none, 3)
  else (some ((F.b.drop at_.toNat).take n.toNat), 0)

/-- What Read hands back: nil, or a slice of its own with these bytes. -/
def IsRead (base : Nat) (w : World) (v : Value) : Option (List Nat) → Prop
  | none => v = .slice none 0 0
  | some l => Own base w 5 v (bvals l) ∧ v ≠ .slice none 0 0

set_option maxRecDepth 100000 in
set_option maxHeartbeats 400000 in
theorem read_any {w : World} {g gb ge : Nat} {F : Fl} (h : IsFl w g gb ge F) (k : F.Ok) (a n : Int) (ha : -9223372036854775808 ≤ a ∧ a ≤ 9223372036854775807) :
    Calls Try.prog 22 #[.pointer (some ⟨g, 0, none⟩), .int .i64 a, .int .i64 n] w fun e w' => ∃ v, e = .returned (.tuple #[v, .int .i64 ((F.read a n).2 : Int)]) ∧ IsRead w.heap.size w' v (F.read a n).1 ∧ Only [] w w' := by
  obtain ⟨c0, c1, c2, c3, c4, c5, c6, c7, c8, cf⟩ := h.cells
  have hlen : F.b.length ≤ 16384 := by have := k.len; have := k.pages; omega
  clear c1 c2 c3 c4 c5 c6 c8 cf
  by_cases ho : F.off = true
  · have e : F.read a n = (none, 5) := by unfold Fl.read; rw [if_pos ho]
    have E := Lib.hid e; clear e
    rw [ho] at c7; clear ho
    go_enter Try.func22, Try.ntmps22
    go_wp2
    go_ret2
    rw [E.out]
    exact ⟨_, rfl, rfl, Only.refl _ _⟩
  · have ho' : F.off = false := by simpa using ho
    rw [ho'] at c7
    by_cases hb : a < 0 ∨ n < 0 ∨ (F.b.length : Int) < a ∨ (F.b.length : Int) - a < n
    · have e : F.read a n = (none, 3) := by unfold Fl.read; rw [if_neg ho, if_pos hb]
      have E := Lib.hid e; clear e
      clear ho ho'
      by_cases h1 : a < 0
      · clear hb
        go_enter Try.func22, Try.ntmps22
        go_wp2
        go_ret2
        rw [E.out]
        exact ⟨_, rfl, rfl, Only.refl _ _⟩
      · by_cases h2 : n < 0
        · clear hb
          go_enter Try.func22, Try.ntmps22
          go_wp2
          go_ret2
          rw [E.out]
          exact ⟨_, rfl, rfl, Only.refl _ _⟩
        · by_cases h3 : (F.b.length : Int) < a
          · clear hb
            go_enter Try.func22, Try.ntmps22
            go_wp2
            go_ret2
            rw [E.out]
            exact ⟨_, rfl, rfl, Only.refl _ _⟩
          · have h4 : (F.b.length : Int) - a < n := by omega
            clear hb
            go_enter Try.func22, Try.ntmps22
            go_wp2
            go_ret2
            rw [E.out]
            exact ⟨_, rfl, rfl, Only.refl _ _⟩
    · have e : F.read a n = (some ((F.b.drop a.toNat).take n.toNat), 0) := by unfold Fl.read; rw [if_neg ho, if_neg hb]
      have E := Lib.hid e; clear e
      obtain ⟨x, rfl⟩ := Int.eq_ofNat_of_zero_le (by omega : 0 ≤ a)
      obtain ⟨y, rfl⟩ := Int.eq_ofNat_of_zero_le (by omega : 0 ≤ n)
      have hxy : x + y ≤ F.b.length := by omega
      clear ho ho' hb
      by_cases hxl : x < F.b.length
      · have hcl := fun cap => clone_bytes gb x y cap ((F.b.drop x).take y) w (by simp; omega) (by omega) (fun j hj => by
          have := (h.bytes.cell (x + j)).trans (bcells_get F.b (x + j) (by omega))
          rw [this]; simp [List.getD, hj])
        have HCL := Lib.hid hcl; clear hcl
        go_enter Try.func22, Try.ntmps22
        go_wp2_with fail
        refine (HCL.out _).mono ?_
        rintro e w1 ⟨v, rfl, hown, hne, ho1⟩
        go_wp2
        go_ret2
        rw [E.out]
        exact ⟨_, rfl, ⟨by simpa using hown, hne⟩, ho1⟩
      · have hxl' : x = F.b.length := by omega
        have hy : y = 0 := by omega
        subst hxl' hy
        have hcl := fun cap => clone_bytes gb 0 0 cap [] w rfl (by omega) (fun j hj => by omega)
        have HCL := Lib.hid hcl; clear hcl hxy hxl
        go_enter Try.func22, Try.ntmps22
        go_wp2_with fail
        refine (HCL.out _).mono ?_
        rintro e w1 ⟨v, rfl, hown, hne, ho1⟩
        go_wp2
        go_ret2
        rw [E.out]
        exact ⟨_, rfl, ⟨by simpa using hown, hne⟩, ho1⟩
end Go.Proofs.Ytmlahbmaomoiaaa
