/-
  The reference's numbers: seventeen digits of fifteen bits; P, Less, under.
-/
import Derived.Test.YtmlahbmaomoiaaaFdI
import Derived.Laws.Rows
import Derived.Laws.Tables
namespace Go.Proofs.Ytmlahbmaomoiaaa
open Go.RowKit

/-- Seventeen cells. -/
def nc (d : Nat → Nat) : Array Value := #[.int .i64 ((d 0 : Nat) : Int), .int .i64 ((d 1 : Nat) : Int), .int .i64 ((d 2 : Nat) : Int), .int .i64 ((d 3 : Nat) : Int), .int .i64 ((d 4 : Nat) : Int), .int .i64 ((d 5 : Nat) : Int), .int .i64 ((d 6 : Nat) : Int), .int .i64 ((d 7 : Nat) : Int), .int .i64 ((d 8 : Nat) : Int), .int .i64 ((d 9 : Nat) : Int), .int .i64 ((d 10 : Nat) : Int), .int .i64 ((d 11 : Nat) : Int), .int .i64 ((d 12 : Nat) : Int), .int .i64 ((d 13 : Nat) : Int), .int .i64 ((d 14 : Nat) : Int), .int .i64 ((d 15 : Nat) : Int), .int .i64 ((d 16 : Nat) : Int)]
abbrev nv (d : Nat → Nat) : Value := .agg (nc d)
def dig (x i : Nat) : Nat := x / 2 ^ (15 * i) % 32768
theorem dig_lt (x i : Nat) : dig x i < 32768 := Nat.mod_lt _ (by decide)
abbrev rc (x : Nat) : Array Value := nc (dig x)
abbrev rv (x : Nat) : Value := nv (dig x)
def W255 : Nat := 57896044618658097711785492504343953926634992332820282019728792003956564819968
theorem lt17 {i : Nat} (h : i < 17) : i = 0 ∨ i = 1 ∨ i = 2 ∨ i = 3 ∨ i = 4 ∨ i = 5 ∨ i = 6 ∨ i = 7 ∨ i = 8 ∨ i = 9 ∨ i = 10 ∨ i = 11 ∨ i = 12 ∨ i = 13 ∨ i = 14 ∨ i = 15 ∨ i = 16 := by omega
theorem nc_get (d : Nat → Nat) (i : Nat) (h : i < 17) : (nc d)[i]? = some (.int .i64 ((d i : Nat) : Int)) := by
  rcases lt17 h with rfl | rfl | rfl | rfl | rfl | rfl | rfl | rfl | rfl | rfl | rfl | rfl | rfl | rfl | rfl | rfl | rfl <;> rfl
theorem nc_put (d : Nat → Nat) (k v : Nat) (h : k < 17) : (nc d).setIfInBounds k (.int .i64 ((v : Nat) : Int)) = nc (put d k v) := by
  rcases lt17 h with rfl | rfl | rfl | rfl | rfl | rfl | rfl | rfl | rfl | rfl | rfl | rfl | rfl | rfl | rfl | rfl | rfl <;> simp [nc, put]
theorem nc_congr {d e : Nat → Nat} (h : ∀ i, i < 17 → d i = e i) : nc d = nc e := by
  unfold nc
  rw [h 0 (by omega), h 1 (by omega), h 2 (by omega), h 3 (by omega), h 4 (by omega), h 5 (by omega), h 6 (by omega), h 7 (by omega), h 8 (by omega), h 9 (by omega), h 10 (by omega), h 11 (by omega), h 12 (by omega), h 13 (by omega), h 14 (by omega), h 15 (by omega), h 16 (by omega)]

theorem Blk.setRow {w : World} {b : Nat} {c : Array Value} {t : TypeId} (h : Blk w b c t) (c' : Array Value) : Blk (w.setRow b c') b c' t := by
  unfold Blk at *; exact setRow_heap w b c c' t _ h
theorem Blk.farRow {w : World} {b g : Nat} {c : Array Value} {t : TypeId} (h : Blk w b c t) (hn : b ≠ g) (c' : Array Value) : Blk (w.setRow g c') b c t := by
  unfold Blk at *; rw [setRow_other w g b c' hn]; exact h
theorem Only.setRow {S : List Nat} {a w : World} (h : Only S a w) {g : Nat} (hb : g ∈ S ∨ a.heap.size ≤ g) (c : Array Value) : Only S a (w.setRow g c) :=
  ⟨h.os, h.tape, h.output, by have := h.size; simp; omega, fun k hk hn => (setRow_other w g k c (fun e => by subst e; rcases hb with hb | hb; exact hn hb; omega)).trans (h.block k hk hn)⟩
theorem info39 : (Try.prog.info? 39).map (·.size) = some 17 := by kernel_rfl
/-- A whole array out of its block. -/
theorem load_blk {P : Program} {ops : Array Oper} {rest : List Oper} {o : Oper} {a : Act} {w : World} {Q : Exit → Act → World → Prop} {g : Nat} {t : TypeId} {cs : Array Value} (hb : Blk w g cs t) (hgd : o.guard = none) (ty : TypeId) (x : Operand) (ho : o.op = .load ty x)
    (hx : a.eval x = .pointer (some ⟨g, 0, none⟩)) {n : Nat} {e : TypeId} (hu : P.underlying ty = some (.array n e)) (hi : (P.info? ty).map (·.size) = some cs.size)
    (h : wpList P ops Q rest (a.put o.dst (.agg cs)) w) : wpList P ops Q (o :: rest) a w :=
  wpList_load_row hgd ty x ho g hx t cs (0, 0) _ hb hu rfl hi h
/-- A whole array into its block. -/
theorem store_blk {P : Program} {ops : Array Oper} {rest : List Oper} {o : Oper} {a : Act} {w : World} {Q : Exit → Act → World → Prop} {g : Nat} {t : TypeId} {old : Array Value} (hb : Blk w g old t) (hgd : o.guard = none) (ty : TypeId) (x y : Operand) (ho : o.op = .store ty x y)
    (cells : Array Value) (hx : a.eval x = .pointer (some ⟨g, 0, none⟩)) (hy : a.eval y = .agg cells) (hi : (P.info? ty).map (·.size) = some cells.size)
    (hold : old.size = cells.size) (h1 : cells.all (·.oneCell') = true)
    (h : wpList P ops Q rest (a.put o.dst undef) (w.setRow g cells)) : wpList P ops Q (o :: rest) a w :=
  wpList_store_row hgd ty x y ho g cells hx hy t old hb hi hold h1 h
/-- The result is what a block holds. -/
theorem post_blk {fn : Func} {p : Tmp} {ty : TypeId} (hf : fn.results = #[.cell p ty]) {post : Ending → World → Prop} {a : Act} {w : World} {g : Nat} {t : TypeId} {cs : Array Value} (hb : Blk w g cs t)
    (hp : a.tmps.getD p undef = .pointer (some ⟨g, 0, none⟩)) (hd : a.defers = []) {n : Nat} {e : TypeId} (hu : Try.prog.underlying ty = some (.array n e)) (hi : (Try.prog.info? ty).map (·.size) = some cs.size)
    (h : post (.returned (.agg cs)) w) : bodyPost Try.prog fn post .ret a w :=
  bodyPost_ret (v := .agg cs) (results_cell_row hf _ _ g t cs (0, 0) _ hp hb hu rfl hi) hd h
theorem nc_size (d : Nat → Nat) : (nc d).size = 17 := rfl
theorem nc_one (d : Nat → Nat) : (nc d).all (·.oneCell') = true := by unfold nc; simp [Value.oneCell']
theorem load_nc {ops : Array Oper} {rest : List Oper} {o : Oper} {a : Act} {w : World} {Q : Exit → Act → World → Prop} {g : Nat} {d : Nat → Nat} (hgd : o.guard = none) (x : Operand) (ho : o.op = .load 39 x)
    (hx : a.eval x = .pointer (some ⟨g, 0, none⟩)) (hb : Blk w g (nc d) 39)
    (h : wpList Try.prog ops Q rest (a.put o.dst (.agg (nc d))) w) : wpList Try.prog ops Q (o :: rest) a w :=
  load_blk hb hgd 39 x ho hx Try.underlying39 info39 h
theorem store_nc {ops : Array Oper} {rest : List Oper} {o : Oper} {a : Act} {w : World} {Q : Exit → Act → World → Prop} {g : Nat} {d e : Nat → Nat} (hgd : o.guard = none) (x y : Operand) (ho : o.op = .store 39 x y)
    (hx : a.eval x = .pointer (some ⟨g, 0, none⟩)) (hy : a.eval y = .agg (nc d)) (hb : Blk w g (nc e) 39)
    (h : wpList Try.prog ops Q rest (a.put o.dst undef) (w.setRow g (nc d))) : wpList Try.prog ops Q (o :: rest) a w :=
  store_blk hb hgd 39 x y ho (nc d) hx hy info39 rfl (nc_one _) h
theorem post_nc {fn : Func} {p : Tmp} (hf : fn.results = #[.cell p 39]) {post : Ending → World → Prop} {a : Act} {w : World} {g : Nat} {d : Nat → Nat} (hb : Blk w g (nc d) 39)
    (hp : a.tmps.getD p undef = .pointer (some ⟨g, 0, none⟩)) (hd : a.defers = []) (h : post (.returned (nv d)) w) : bodyPost Try.prog fn post .ret a w :=
  post_blk hf hb hp hd Try.underlying39 info39 h
theorem div_step (x k : Nat) : x / 2 ^ (15 * k) = 32768 * (x / 2 ^ (15 * (k + 1))) + dig x k := by
  unfold dig
  rw [Nat.mul_add, Nat.pow_add, ← Nat.div_div_eq_div_mul]
  omega
theorem div_top (x : Nat) (hx : x < W255) : x / 2 ^ (15 * 17) = 0 := Nat.div_eq_of_lt hx
theorem div_lt_of (x y p : Nat) (hne : x / p ≠ y / p) : (x < y) = (x / p < y / p) := by
  rw [eq_iff_iff]
  constructor
  · intro h
    have := Nat.div_le_div_right (c := p) (Nat.le_of_lt h)
    omega
  · intro h
    apply Nat.lt_of_not_le; intro hle
    have := Nat.div_le_div_right (c := p) hle
    omega

set_option maxRecDepth 100000 in
set_option maxHeartbeats 1000000 in
theorem rless_any (x y : Nat) (hx : x < W255) (hy : y < W255) (w : World) : Calls Try.prog 33 #[rv x, rv y] w fun e w' => e = .returned (.bool (decide (x < y))) ∧ Only [] w w' := by
  have HX := Lib.hid hx; have HY := Lib.hid hy
  clear hx hy
  go_enter Try.func33, Try.ntmps33
  go_wp2_with fail
  go_loopw [5] (fun i wr => ∃ j : Nat, i = .int .i64 ((j : Int) - 1) ∧ j ≤ 17 ∧ Hid (x / 2 ^ (15 * j) = y / 2 ^ (15 * j)) ∧ Blk wr w.heap.size (rc x) 39 ∧ Blk wr (w.heap.size + 1) (rc y) 39 ∧ Only [] w wr) (fun i _ => (intOf i + 1).toNat)
  case atStart => exact ⟨17, rfl, by omega, (div_top x HX.out).trans (div_top y HY.out).symm, (Blk.new _ _ _).alloc _, Blk.newAt _ _ (by simp), ((Only.refl _ _).alloc _).alloc _⟩
  case round =>
    obtain ⟨j, rfl, hj, HE, hbx, hby, ho⟩ := hrel
    by_cases hj0 : j = 0
    · subst hj0
      have e : x = y := by have := HE.out; simpa using this
      have hd : decide (x < y) = false := decide_eq_false (by omega)
      have HD := Lib.hid hd; clear hd e
      go_wp2_with fail
      go_ret
      rw [HD.out]
      exact ⟨rfl, ho⟩
    · obtain ⟨k, rfl⟩ : ∃ k, j = k + 1 := ⟨j - 1, by omega⟩
      have hk17 : k < 17 := by omega
      have cx := (hbx.cell k).trans (nc_get _ k hk17)
      have cy := (hby.cell k).trans (nc_get _ k hk17)
      rw [show (((k + 1 : Nat) : Int) - 1) = (k : Int) from by omega]
      have k17 : (k : Int) < 17 := by omega
      have ex := div_step x k
      have ey := div_step y k
      rw [HE.out] at ex
      clear hj0
      by_cases he : dig x k = dig y k
      · have hq : (((dig x k : Nat) : Int) != ((dig y k : Nat) : Int)) = false := by rw [he]; simp
        have hz : x / 2 ^ (15 * k) = y / 2 ^ (15 * k) := by rw [ex, ey, he]
        have HEk := Lib.hid hz; clear he ex ey hz
        go_wp2_with fail
        go_quiet (fail)
        go_wp2_with fail
        go_roundw
        case rel =>
          refine ⟨k, by go_num, by omega, HEk.out, hbx, hby, ho.trans (drewN_only _ _)⟩
        case measure => simp [intOf]
      · have hq : (((dig x k : Nat) : Int) != ((dig y k : Nat) : Int)) = true := by rw [bne_iff_ne]; intro h; exact he (by exact_mod_cast h)
        have hl : (x < y) = (dig x k < dig y k) := by
          rw [div_lt_of x y (2 ^ (15 * k)) (by omega), ex, ey]
          simp only [eq_iff_iff]; omega
        have HLt := Lib.hid hl; clear hl he ex ey
        go_wp2_with fail
        go_quiet (fail)
        go_wp2_with fail
        go_quiet (fail)
        go_wp2_with fail
        go_ret
        refine ⟨?_, ho.trans ((drewN_only _ _).trans (drewN_only _ _))⟩
        exact ret_bool (decide_eq_decide.2 (by rw [HLt.out]))

end Go.Proofs.Ytmlahbmaomoiaaa
