/-
  The flash: its block, and the methods that touch that block alone.
-/
import Derived.Test.YtmlahbmaomoiaaaMem
namespace Go.Proofs.Ytmlahbmaomoiaaa
open Go.RowKit

structure Fl where
  b : List Nat
  lo : Nat
  hi : Nat
  ops : Nat
  armed : Bool
  left : Nat
  tear : Nat
  off : Bool
  worn : List Nat

def bcells (l : List Nat) : Array Value := (l.map fun n : Nat => Value.int .u8 (n : Int)).toArray
def icells (l : List Nat) : Array Value := (l.map fun n : Nat => Value.int .i64 (n : Int)).toArray
theorem bcells_size (l : List Nat) : (bcells l).size = l.length := by simp [bcells]
theorem bcells_get (l : List Nat) (i : Nat) (h : i < l.length) : (bcells l)[i]? = some (.int .u8 ((l.getD i 0 : Nat) : Int)) := by
  simp [bcells, List.getD, List.getElem?_eq_getElem h]
theorem bcells_set (l : List Nat) (i v : Nat) : (bcells l).setIfInBounds i (.int .u8 (v : Int)) = bcells (l.set i v) := by
  simp [bcells, List.map_set]
theorem icells_get (l : List Nat) (i : Nat) (h : i < l.length) : (icells l)[i]? = some (.int .i64 ((l.getD i 0 : Nat) : Int)) := by
  simp [icells, List.getD, List.getElem?_eq_getElem h]
theorem icells_set (l : List Nat) (i v : Nat) : (icells l).setIfInBounds i (.int .i64 (v : Int)) = icells (l.set i v) := by
  simp [icells, List.map_set]

def flCells (gb ge : Nat) (F : Fl) : Array Value :=
  #[.slice (some ⟨gb, 0, none⟩) F.b.length F.b.length, .int .i64 (F.lo : Int), .int .i64 (F.hi : Int), .int .i64 (F.ops : Int), .bool F.armed, .int .i64 (F.left : Int), .int .u32 (F.tear : Int), .bool F.off,
    .slice (some ⟨ge, 0, none⟩) F.worn.length F.worn.length]

/-- At block g lies a flash in the state F, its bytes at gb, its wear at ge. -/
structure IsFl (w : World) (g gb ge : Nat) (F : Fl) : Prop where
  main : Blk w g (flCells gb ge F) 129
  bytes : Blk w gb (bcells F.b) 5
  wear : Blk w ge (icells F.worn) 3
  gb_ne : g ≠ gb
  ge_ne : g ≠ ge
  be_ne : gb ≠ ge

theorem IsFl.cells {w : World} {g gb ge : Nat} {F : Fl} (h : IsFl w g gb ge F) :
    w.cell? ⟨g, 0, none⟩ = some (.slice (some ⟨gb, 0, none⟩) F.b.length F.b.length) ∧ w.cell? ⟨g, 1, none⟩ = some (.int .i64 (F.lo : Int)) ∧ w.cell? ⟨g, 2, none⟩ = some (.int .i64 (F.hi : Int)) ∧
    w.cell? ⟨g, 3, none⟩ = some (.int .i64 (F.ops : Int)) ∧ w.cell? ⟨g, 4, none⟩ = some (.bool F.armed) ∧ w.cell? ⟨g, 5, none⟩ = some (.int .i64 (F.left : Int)) ∧ w.cell? ⟨g, 6, none⟩ = some (.int .u32 (F.tear : Int)) ∧
    w.cell? ⟨g, 7, none⟩ = some (.bool F.off) ∧ w.cell? ⟨g, 8, none⟩ = some (.slice (some ⟨ge, 0, none⟩) F.worn.length F.worn.length) ∧ (∀ i, w.frozen? ⟨g, i, none⟩ = false) :=
  ⟨h.main.cell 0, h.main.cell 1, h.main.cell 2, h.main.cell 3, h.main.cell 4, h.main.cell 5, h.main.cell 6, h.main.cell 7, h.main.cell 8, fun i => h.main.free i⟩

theorem IsFl.drew {w : World} {g gb ge : Nat} {F : Fl} (h : IsFl w g gb ge F) : IsFl w.drew g gb ge F := ⟨h.main, h.bytes, h.wear, h.gb_ne, h.ge_ne, h.be_ne⟩
theorem IsFl.alloc {w : World} {g gb ge : Nat} {F : Fl} (h : IsFl w g gb ge F) (o : Obj) : IsFl (w.alloc o) g gb ge F :=
  ⟨h.main.alloc o, h.bytes.alloc o, h.wear.alloc o, h.gb_ne, h.ge_ne, h.be_ne⟩
theorem IsFl.only {S : List Nat} {w w' : World} {g gb ge : Nat} {F : Fl} (h : IsFl w g gb ge F) (k : Only S w w') (h1 : g ∉ S) (h2 : gb ∉ S) (h3 : ge ∉ S) : IsFl w' g gb ge F :=
  ⟨k.blk h.main h1, k.blk h.bytes h2, k.blk h.wear h3, h.gb_ne, h.ge_ne, h.be_ne⟩
theorem IsFl.grow {w w' : World} {g gb ge : Nat} {F : Fl} (h : IsFl w g gb ge F) (k : Grow w w') : IsFl w' g gb ge F :=
  ⟨k.blk h.main, k.blk h.bytes, k.blk h.wear, h.gb_ne, h.ge_ne, h.be_ne⟩
/-- A store into the flash's own block. -/
theorem IsFl.set {w : World} {g gb ge : Nat} {F F' : Fl} (h : IsFl w g gb ge F) (i : Nat) (v : Value) (hb : F'.b = F.b) (hw : F'.worn = F.worn) (hc : (flCells gb ge F).setIfInBounds i v = flCells gb ge F') :
    IsFl (w.setCell ⟨g, i, none⟩ v) g gb ge F' :=
  ⟨hc ▸ h.main.set i v, hb ▸ h.bytes.far (Ne.symm h.gb_ne) v, hw ▸ h.wear.far (Ne.symm h.ge_ne) v, h.gb_ne, h.ge_ne, h.be_ne⟩

namespace Fl
/-- Is a step done whole; the flash behind it. -/
def step (F : Fl) : Bool × Fl :=
  if F.armed = true ∧ F.left = 0 then (false, { F with off := true, armed := false })
  else (true, { F with left := if F.armed = true then F.left - 1 else F.left, ops := F.ops + 1 })
end Fl

/-- What the flash's numbers hold. -/
structure Fl.Ok (F : Fl) : Prop where
  len : F.b.length = 256 * F.worn.length
  pages : F.worn.length ≤ 64
  byte : ∀ x ∈ F.b, x < 256
  lo : F.lo ≤ 64
  hi : F.hi ≤ 64
  left : F.left ≤ 9223372036854775807
  tear : F.tear < 4294967296

set_option maxHeartbeats 400000 in
theorem step_any {w : World} {g gb ge : Nat} {F : Fl} (h : IsFl w g gb ge F) (h0 : F.ops ≤ 4611686018427387904) (h1 : F.left ≤ 9223372036854775807) :
    Calls Try.prog 95 #[.pointer (some ⟨g, 0, none⟩)] w fun e w' => e = .returned (.bool F.step.1) ∧ IsFl w' g gb ge F.step.2 ∧ Only [g] w w' := by
  obtain ⟨c0, c1, c2, c3, c4, c5, c6, c7, c8, cf⟩ := h.cells
  by_cases ha : F.armed = true
  · by_cases hl : F.left = 0
    · have e : F.step = (false, { F with off := true, armed := false }) := by unfold Fl.step; rw [if_pos ⟨ha, hl⟩]
      have E := Lib.hid e; clear e
      rw [hl] at c5; rw [ha] at c4
      clear h1 hl ha c0 c1 c2 c6 c8
      go_enter Try.func95, Try.ntmps95
      go_wp2
      go_ret
      rw [E.out]
      exact ⟨rfl, (h.set 7 _ (F' := { F with off := true }) rfl rfl rfl).set 4 _ rfl rfl rfl, ((Only.refl _ _).setCell (by simp) _).setCell (by simp) _⟩
    · have e : F.step = (true, { F with left := F.left - 1, ops := F.ops + 1 }) := by unfold Fl.step; rw [if_neg (fun h => hl h.2), if_pos ha]
      have E := Lib.hid e; clear e
      rw [ha] at c4
      have hl' : ((F.left : Int) == 0) = false := by rw [beq_eq_false_iff_ne]; omega
      have hl1 : 1 ≤ F.left := by omega
      clear hl ha c0 c1 c2 c6 c7 c8
      go_enter Try.func95, Try.ntmps95
      go_wp2
      go_ret
      rw [E.out]
      refine ⟨rfl, (h.set 5 _ (F' := { F with left := F.left - 1 }) rfl rfl ?_).set 3 _ rfl rfl rfl, ((Only.refl _ _).setCell (by simp) _).setCell (by simp) _⟩
      have : ((F.left : Int) - 1) = ((F.left - 1 : Nat) : Int) := by omega
      rw [this]; rfl
  · have e : F.step = (true, { F with ops := F.ops + 1 }) := by unfold Fl.step; rw [if_neg (fun h => ha h.1), if_neg ha]
    have E := Lib.hid e; clear e
    have ha' : F.armed = false := by simpa using ha
    rw [ha'] at c4
    clear ha ha' c0 c1 c2 c5 c6 c7 c8
    go_enter Try.func95, Try.ntmps95
    go_wp2
    go_ret
    rw [E.out]
    exact ⟨rfl, h.set 3 _ rfl rfl rfl, (Only.refl _ _).setCell (by simp) _⟩

theorem ret_bool {a b : Bool} (h : a = b) : Ending.returned (.bool a) = .returned (.bool b) := by rw [h]
theorem ret_num {k : IntKind} {a b : Int} (h : a = b) : Ending.returned (.int k a) = .returned (.int k b) := by rw [h]

def Fl.locked (F : Fl) (p : Nat) : Bool := decide (F.lo ≤ p ∧ p < F.hi)
set_option maxHeartbeats 400000 in
theorem locked_any {w : World} {g gb ge : Nat} {F : Fl} (h : IsFl w g gb ge F) (p : Nat) :
    Calls Try.prog 83 #[.pointer (some ⟨g, 0, none⟩), .int .i64 (p : Int)] w fun e w' => e = .returned (.bool (F.locked p)) ∧ w = w' := by
  obtain ⟨c0, c1, c2, c3, c4, c5, c6, c7, c8, cf⟩ := h.cells
  clear c0 c3 c4 c5 c6 c7 c8
  by_cases h1 : F.lo ≤ p
  · by_cases h2 : p < F.hi
    · have e : F.locked p = true := by simp [Fl.locked, h1, h2]
      have E := Lib.hid e; clear e
      go_enter Try.func83, Try.ntmps83
      go_wp2
      go_ret
      exact ⟨ret_bool (by rw [E.out]), rfl⟩
    · have e : F.locked p = false := by simp [Fl.locked, h2]
      have E := Lib.hid e; clear e
      go_enter Try.func83, Try.ntmps83
      go_wp2
      go_ret
      exact ⟨ret_bool (by rw [E.out]), rfl⟩
  · have e : F.locked p = false := by simp [Fl.locked, h1]
    have E := Lib.hid e; clear e
    go_enter Try.func83, Try.ntmps83
    go_wp2
    go_ret
    exact ⟨ret_bool (by rw [E.out]), rfl⟩

def Fl.fail (F : Fl) (after : Int) (tear : Nat) : Nat × Fl := if after < 0 then (1, F) else (0, { F with armed := true, left := after.toNat, tear := tear })
set_option maxHeartbeats 400000 in
theorem fail_any {w : World} {g gb ge : Nat} {F : Fl} (h : IsFl w g gb ge F) (a : Int) (t : Nat) :
    Calls Try.prog 18 #[.pointer (some ⟨g, 0, none⟩), .int .i64 a, .int .u32 (t : Int)] w fun e w' => e = .returned (.int .i64 ((F.fail a t).1 : Int)) ∧ IsFl w' g gb ge (F.fail a t).2 ∧ Only [g] w w' := by
  obtain ⟨c0, c1, c2, c3, c4, c5, c6, c7, c8, cf⟩ := h.cells
  clear c0 c1 c2 c3 c7 c8
  by_cases ha : a < 0
  · have e : F.fail a t = (1, F) := by simp [Fl.fail, ha]
    have E := Lib.hid e; clear e
    go_enter Try.func18, Try.ntmps18
    go_wp2
    go_ret
    rw [E.out]
    exact ⟨rfl, h, Only.refl _ _⟩
  · have e : F.fail a t = (0, { F with armed := true, left := a.toNat, tear := t }) := by simp [Fl.fail, ha]
    have E := Lib.hid e; clear e
    obtain ⟨n, rfl⟩ := Int.eq_ofNat_of_zero_le (by omega : 0 ≤ a)
    go_enter Try.func18, Try.ntmps18
    go_wp2
    go_ret
    rw [E.out]
    exact ⟨rfl, ((h.set 4 _ (F' := { F with armed := true }) rfl rfl rfl).set 5 _ (F' := { F with armed := true, left := n }) rfl rfl rfl).set 6 _ rfl rfl rfl, (((Only.refl _ _).setCell (by simp) _).setCell (by simp) _).setCell (by simp) _⟩

set_option maxHeartbeats 400000 in
theorem fail_nil (w : World) (a : Int) (t : Int) : Calls Try.prog 18 #[.pointer none, .int .i64 a, .int .u32 t] w fun e w' => e = .returned (.int .i64 1) ∧ w = w' := by
  go_enter Try.func18, Try.ntmps18
  go_wp2
  go_ret
  exact ⟨rfl, rfl⟩

set_option maxHeartbeats 400000 in
theorem off_any {w : World} {g gb ge : Nat} {F : Fl} (h : IsFl w g gb ge F) :
    Calls Try.prog 20 #[.pointer (some ⟨g, 0, none⟩)] w fun e w' => e = .returned (.bool F.off) ∧ w = w' := by
  obtain ⟨c0, c1, c2, c3, c4, c5, c6, c7, c8, cf⟩ := h.cells
  clear c0 c1 c2 c3 c4 c5 c6 c8
  go_enter Try.func20, Try.ntmps20
  go_wp2
  go_ret
  exact ⟨rfl, rfl⟩
set_option maxHeartbeats 400000 in
theorem off_nil (w : World) : Calls Try.prog 20 #[.pointer none] w fun e w' => e = .returned (.bool true) ∧ w = w' := by
  go_enter Try.func20, Try.ntmps20
  go_wp2
  go_ret
  exact ⟨rfl, rfl⟩

set_option maxHeartbeats 400000 in
theorem power_any {w : World} {g gb ge : Nat} {F : Fl} (h : IsFl w g gb ge F) :
    Calls Try.prog 21 #[.pointer (some ⟨g, 0, none⟩)] w fun e w' => e = .returned (.tuple #[]) ∧ IsFl w' g gb ge { F with off := false, armed := false } ∧ Only [g] w w' := by
  obtain ⟨c0, c1, c2, c3, c4, c5, c6, c7, c8, cf⟩ := h.cells
  clear c0 c1 c2 c3 c5 c6 c8
  go_enter Try.func21, Try.ntmps21
  go_wp2
  go_end0
  exact ⟨rfl, (h.set 7 _ (F' := { F with off := false }) rfl rfl rfl).set 4 _ rfl rfl rfl, ((Only.refl _ _).setCell (by simp) _).setCell (by simp) _⟩
set_option maxHeartbeats 400000 in
theorem power_nil (w : World) : Calls Try.prog 21 #[.pointer none] w fun e w' => e = .returned (.tuple #[]) ∧ w = w' := by
  go_enter Try.func21, Try.ntmps21
  go_wp2
  go_end0
  exact ⟨rfl, rfl⟩

set_option maxHeartbeats 400000 in
theorem size_any {w : World} {g gb ge : Nat} {F : Fl} (h : IsFl w g gb ge F) :
    Calls Try.prog 48 #[.pointer (some ⟨g, 0, none⟩)] w fun e w' => e = .returned (.int .i64 (F.b.length : Int)) ∧ w = w' := by
  obtain ⟨c0, c1, c2, c3, c4, c5, c6, c7, c8, cf⟩ := h.cells
  clear c1 c2 c3 c4 c5 c6 c7 c8
  go_enter Try.func48, Try.ntmps48
  go_wp2
  go_ret
  exact ⟨rfl, rfl⟩
set_option maxHeartbeats 400000 in
theorem size_nil (w : World) : Calls Try.prog 48 #[.pointer none] w fun e w' => e = .returned (.int .i64 0) ∧ w = w' := by
  go_enter Try.func48, Try.ntmps48
  go_wp2
  go_ret
  exact ⟨rfl, rfl⟩
set_option maxHeartbeats 400000 in
theorem steps_any {w : World} {g gb ge : Nat} {F : Fl} (h : IsFl w g gb ge F) :
    Calls Try.prog 49 #[.pointer (some ⟨g, 0, none⟩)] w fun e w' => e = .returned (.int .i64 (F.ops : Int)) ∧ w = w' := by
  obtain ⟨c0, c1, c2, c3, c4, c5, c6, c7, c8, cf⟩ := h.cells
  clear c0 c1 c2 c4 c5 c6 c7 c8
  go_enter Try.func49, Try.ntmps49
  go_wp2
  go_ret
  exact ⟨rfl, rfl⟩
set_option maxHeartbeats 400000 in
theorem steps_nil (w : World) : Calls Try.prog 49 #[.pointer none] w fun e w' => e = .returned (.int .i64 0) ∧ w = w' := by
  go_enter Try.func49, Try.ntmps49
  go_wp2
  go_ret
  exact ⟨rfl, rfl⟩
set_option maxHeartbeats 400000 in
theorem lock_nil (w : World) (a b : Int) : Calls Try.prog 47 #[.pointer none, .int .i64 a, .int .i64 b] w fun e w' => e = .returned (.int .i64 1) ∧ w = w' := by
  go_enter Try.func47, Try.ntmps47
  go_wp2
  go_ret
  exact ⟨rfl, rfl⟩
set_option maxHeartbeats 400000 in
theorem worn_nil (w : World) : Calls Try.prog 50 #[.pointer none] w fun e w' => e = .returned (.slice none 0 0) ∧ w = w' := by
  go_enter Try.func50, Try.ntmps50
  go_wp2
  go_ret
  exact ⟨rfl, rfl⟩
set_option maxHeartbeats 400000 in
theorem erase_nil (w : World) (a : Int) : Calls Try.prog 46 #[.pointer none, .int .i64 a] w fun e w' => e = .returned (.int .i64 1) ∧ w = w' := by
  go_enter Try.func46, Try.ntmps46
  go_wp2
  go_ret
  exact ⟨rfl, rfl⟩
set_option maxHeartbeats 400000 in
theorem program_nil (w : World) (a : Int) (v : Value) : Calls Try.prog 19 #[.pointer none, .int .i64 a, v] w fun e w' => e = .returned (.int .i64 1) ∧ w = w' := by
  go_enter Try.func19, Try.ntmps19
  go_wp2
  go_ret
  exact ⟨rfl, rfl⟩
set_option maxHeartbeats 400000 in
theorem read_nil (w : World) (a b : Int) : Calls Try.prog 22 #[.pointer none, .int .i64 a, .int .i64 b] w fun e w' => e = .returned (.tuple #[.slice none 0 0, .int .i64 1]) ∧ w = w' := by
  go_enter Try.func22, Try.ntmps22
  go_wp2
  go_ret2
  exact ⟨rfl, rfl⟩
end Go.Proofs.Ytmlahbmaomoiaaa
