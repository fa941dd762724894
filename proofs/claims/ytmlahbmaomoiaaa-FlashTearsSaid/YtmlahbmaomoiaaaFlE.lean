/-
  Flash: New.
-/
import Derived.Test.YtmlahbmaomoiaaaFlD
namespace Go.Proofs.Ytmlahbmaomoiaaa
open Go.RowKit

theorem made_rep (z : Value) (n : Nat) : madeCells #[z] n = (List.replicate n z).toArray := by
  apply Array.ext'
  simp [madeCells]
  apply List.ext_getElem (by simp)
  intro i h1 h2
  simp [Nat.mod_one]
set_option maxRecDepth 100000 in
theorem run_make1 (w : World) (t e : TypeId) (i : TypeInfo) (z : Value) (ht : Try.prog.underlying t = some (.slice e)) (hi : Try.prog.info? e = some i) (hz : i.zero = some z) (hzc : z.cells = #[z]) (hs : i.size = 1) (n : Nat) (hb : i.bytes * n ≤ 281474976710656) (hn : n ≤ 1000000) :
    (Instr.makeSlice t (.int .i64 (n : Int)) (.int .i64 (n : Int))).run Try.prog w = .ok (.slice (some ⟨w.heap.size, 0, none⟩) n n) (w.alloc (.cells (List.replicate n z).toArray e)) := by
  have h := run_make (P := Try.prog) w t e i z ht hi hz .i64 .i64 n n (by omega) (Int.le_refl _) (by rw [← Int.natCast_mul]; omega) (by omega)
  rw [h, hzc, hs]
  simp [made_rep]

def Fl.fresh (n : Nat) : Fl := { b := List.replicate (256 * n) 255, lo := 0, hi := 0, ops := 0, armed := false, left := 0, tear := 0, off := false, worn := List.replicate n 0 }
/-- The flash while New fills it: the first k bytes are 255. -/
def Fl.filling (n k : Nat) : Fl := { Fl.fresh n with b := List.replicate k 255 ++ List.replicate (256 * n - k) 0 }
theorem filling_len (n k : Nat) (h : k ≤ 256 * n) : (Fl.filling n k).b.length = 256 * n := by simp [Fl.filling]; omega
theorem filling_set (n k : Nat) (h : k < 256 * n) : (Fl.filling n k).b.set k 255 = (Fl.filling n (k + 1)).b := by
  unfold Fl.filling
  simp only
  rw [List.set_append_right _ _ (by simp)]
  simp only [List.length_replicate, Nat.sub_self]
  obtain ⟨d, hd⟩ := Nat.exists_eq_add_of_lt h
  rw [show 256 * n - k = d + 1 from by omega, List.replicate_succ, List.set_cons_zero, show 256 * n - (k + 1) = d from by omega, List.replicate_succ', List.append_assoc]
  rfl
theorem fresh_ok (n : Nat) (h : n ≤ 64) : (Fl.fresh n).Ok :=
  ⟨by simp [Fl.fresh], by simpa [Fl.fresh] using h, fun x hx => by have := List.eq_of_mem_replicate hx; omega, by simp [Fl.fresh], by simp [Fl.fresh], by simp [Fl.fresh], by simp [Fl.fresh]⟩

set_option maxHeartbeats 400000 in
theorem new_no (n : Int) (h : n < 1 ∨ 64 < n) (w : World) : Calls Try.prog 17 #[.int .i64 n] w fun e w' => e = .returned (.tuple #[.pointer none, .int .i64 1]) ∧ w = w' := by
  rcases h with h | h
  · go_enter Try.func17, Try.ntmps17
    go_wp2
    go_ret2
    exact ⟨rfl, rfl⟩
  · have h1 : ¬ n < 1 := by omega
    go_enter Try.func17, Try.ntmps17
    go_wp2
    go_ret2
    exact ⟨rfl, rfl⟩

set_option maxRecDepth 100000 in
set_option maxHeartbeats 1000000 in
theorem new_any (n : Nat) (h1 : 1 ≤ n) (h2 : n ≤ 64) (w : World) :
    Calls Try.prog 17 #[.int .i64 (n : Int)] w fun e w' => ∃ g gb ge, e = .returned (.tuple #[.pointer (some ⟨g, 0, none⟩), .int .i64 0]) ∧ IsFl w' g gb ge (Fl.fresh n) ∧ Only [] w w' ∧ w.heap.size ≤ g ∧ w.heap.size ≤ gb ∧ w.heap.size ≤ ge := by
  obtain ⟨i5, hi5, hz5, hs5, hb5⟩ := info_parts info5
  obtain ⟨i3, hi3, hz3, hs3, hb3⟩ := info_parts info3
  have m5 := fun w : World => run_make1 w 22 5 i5 (.int .u8 0) Try.underlying22 hi5 hz5 rfl hs5 (256 * n) (by rw [hb5]; omega) (by omega)
  have m3 := fun w : World => run_make1 w 64 3 i3 (.int .i64 0) Try.underlying64 hi3 hz3 rfl hs3 n (by rw [hb3]; omega) (by omega)
  rw [show ((256 * n : Nat) : Int) = (n : Int) * 256 from by omega] at m5
  clear hi5 hz5 hs5 hb5 hi3 hz3 hs3 hb3
  have M5 := Lib.hid m5; have M3 := Lib.hid m3; clear m5 m3
  go_enter Try.func17, Try.ntmps17
  go_wp2_with fail
  refine region_free mixed 5 [0, 1, 3, 0, 8, 31, 63, 127] (by kernel_rfl) (Only []) (Only.refl _) (fun _ _ _ => Only.trans) ?_
  simp only [List.take_succ_cons, List.take_zero, List.drop_succ_cons, List.drop_zero]
  iterate 2
    refine wpFree_op (Only.refl _) ?_ (fun V w _ => rfl) ?_ ?_
    rotate_left
    · intro V w1 hE hF K hK
      simp only [facts, Nat.reduceMod, Nat.reduceDiv, Nat.reduceEqDiff, forall_const, false_implies, List.append_nil, List.nil_append, List.cons_append, true_and, and_true] at hF
      go_step
      exact hK
    simp only [Act.put, List.setIfInBounds_toArray, List.set_cons_succ, List.set_cons_zero, Nat.reduceAdd, Nat.zero_add]
  refine wpFree_root (MadeAt w.heap.size (256 * n) (256 * n) (List.replicate (256 * n) (.int .u8 0)).toArray 5) MadeAt.only (fun V w _ => rfl) ?_ ?_
  · intro V w1 hE hF K hK
    simp only [facts, Nat.reduceMod, Nat.reduceDiv, Nat.reduceEqDiff, forall_const, false_implies, List.append_nil, List.nil_append, List.cons_append, true_and, and_true] at hF
    have m5 := M5.out
    go_step
    refine hK _ _ ((Only.refl _ _).alloc _) ⟨_, rfl, Blk.new _ _ _, hE.size⟩
  simp only [Act.put, List.setIfInBounds_toArray, List.set_cons_succ, List.set_cons_zero, Nat.reduceAdd, Nat.zero_add]
  refine wpFree_op (Only.refl _) ?_ (fun V w _ => rfl) ?_ ?_
  rotate_left
  · intro V w1 hE hF K hK
    simp only [facts, Nat.reduceMod, Nat.reduceDiv, Nat.reduceEqDiff, forall_const, false_implies, List.append_nil, List.nil_append, List.cons_append, true_and, and_true] at hF
    go_step
    exact hK
  simp only [Act.put, List.setIfInBounds_toArray, List.set_cons_succ, List.set_cons_zero, Nat.reduceAdd, Nat.zero_add]
  refine wpFree_root (MadeAt w.heap.size n n (List.replicate n (.int .i64 0)).toArray 3) MadeAt.only (fun V w _ => rfl) ?_ ?_
  · intro V w1 hE hF K hK
    simp only [facts, Nat.reduceMod, Nat.reduceDiv, Nat.reduceEqDiff, forall_const, false_implies, List.append_nil, List.nil_append, List.cons_append, true_and, and_true] at hF
    have m3 := M3.out
    go_step
    refine hK _ _ ((Only.refl _ _).alloc _) ⟨_, rfl, Blk.new _ _ _, hE.size⟩
  simp only [Act.put, List.setIfInBounds_toArray, List.set_cons_succ, List.set_cons_zero, Nat.reduceAdd, Nat.zero_add]
  refine wpFree_nil ?_
  intro V w3 hE hR
  simp only [allR, List.nil_append, List.cons_append] at hR
  obtain ⟨h_0, h_1, ⟨gb, hgb, hbb, hgb0⟩, h_3, ⟨ge, hge, hbe, hge0⟩, -⟩ := hR
  simp only [h_0, h_1, hgb, h_3, hge]
  clear h_0 h_1 hgb h_3 hge
  have n1 : decide ((n : Int) < 1) = false := decide_eq_false (by omega)
  have n2 : decide ((64 : Int) < (n : Int)) = false := decide_eq_false (by omega)
  have hgne : gb ≠ ge := fun h => by subst h; have := (hbb.inj hbe).2; cases this
  have hlb := hbb.lt
  have hle := hbe.lt
  have h256 : 256 * n ≤ 16384 := by omega
  have hbb0 : Blk w3 gb (bcells (List.replicate (256 * n) 0)) 5 := by simpa [bcells] using hbb
  have hbe0 : Blk w3 ge (icells (List.replicate n 0)) 3 := by simpa [icells] using hbe
  go_wp2_with fail
  go_loopw [24] (fun i wr => ∃ k : Nat, k ≤ 256 * n ∧ i = .int .i64 (k : Int) ∧ IsFl wr w3.heap.size gb ge (Fl.filling n k) ∧ Only [] w wr) (fun i _ => 256 * n - (intOf i).toNat)
  case atStart =>
    refine ⟨0, by omega, rfl, ⟨?_, ?_, ?_, by omega, by omega, hgne⟩, (Only.drew (Only.refl _ _)).trans (hE.trans ((Only.refl _ _).alloc _))⟩
    · have := Blk.new w3 (flCells gb ge (Fl.filling n 0)) 129
      simpa [flCells, Fl.filling, Fl.fresh] using this
    · have := hbb0.alloc (.cells (flCells gb ge (Fl.filling n 0)) 129)
      simpa [flCells, Fl.filling, Fl.fresh] using this
    · have := hbe0.alloc (.cells (flCells gb ge (Fl.filling n 0)) 129)
      simpa [flCells, Fl.filling, Fl.fresh] using this
  case round =>
    obtain ⟨k, hk, rfl, hfl, ho⟩ := hrel
    have d0 := hfl.cells.1
    have hlen := filling_len n k hk
    rw [hlen] at d0
    by_cases hlt : k < 256 * n
    · have hc := (hfl.bytes.cell k).trans (bcells_get _ k (by rw [hlen]; exact hlt))
      have hf := hfl.bytes.free k
      have HLEN := Lib.hid hlen; clear hlen
      go_wp2_with fail
      go_roundw
      case rel =>
        refine ⟨k + 1, by omega, by go_num, ?_, ho.setCell (by simp; omega) _⟩
        have h1 := hfl.bytes.set k (.int .u8 ((255 : Nat) : Int))
        rw [bcells_set, filling_set n k hlt] at h1
        refine ⟨?_, h1, hfl.wear.far (Ne.symm hgne) _, hfl.gb_ne, hfl.ge_ne, hfl.be_ne⟩
        have h2 := hfl.main.far (p := ⟨gb, k, none⟩) hfl.gb_ne (.int .u8 255)
        unfold flCells at h2 ⊢
        rw [HLEN.out] at h2
        rw [filling_len n (k + 1) (by omega)]
        exact h2
      case measure => simp [intOf]; omega
    · have hk2 : k = 256 * n := by omega
      subst hk2
      go_wp2_with fail
      go_ret2
      have he : Fl.filling n (256 * n) = Fl.fresh n := by unfold Fl.filling; simp [Fl.fresh]
      rw [he] at hfl
      exact ⟨_, gb, ge, rfl, hfl, ho, by have := hE.size; simp at this; omega, hgb0, hge0⟩
end Go.Proofs.Ytmlahbmaomoiaaa
