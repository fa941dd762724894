/-
  Whole arrays and structs: loads and stores by law, in a walk and in a region that draws; results that lie in memory.
-/
import Derived.Test.YtmlahbmaomoiaaaRfA
import Derived.Test.YtmlahbmaomoiaaaDet
namespace Go.Proofs.Ytmlahbmaomoiaaa
open Go.RowKit

noncomputable def isRow (ty : TypeId) : Bool := match Try.prog.underlying ty with | some (.struct _) => true | some (.array _ _) => true | _ => false
theorem isRow_out {ty : TypeId} (h : isRow ty = true) : (∃ fs, Try.prog.underlying ty = some (.struct fs)) ∨ (∃ n e, Try.prog.underlying ty = some (.array n e)) := by
  unfold isRow at h
  cases hu : Try.prog.underlying ty with
  | none => rw [hu] at h; cases h
  | some d =>
    rw [hu] at h
    cases d with
    | struct fs => exact .inl ⟨fs, rfl⟩
    | array n e => exact .inr ⟨n, e, rfl⟩
    | _ => cases h
noncomputable def rowSize (ty : TypeId) (n : Nat) : Bool := (Try.prog.info? ty).map (·.size) == some n
theorem rowSize_out {ty : TypeId} {n : Nat} (h : rowSize ty n = true) : (Try.prog.info? ty).map (·.size) = some n := by simpa [rowSize] using h
theorem isRow36 : isRow 36 = true := by kernel_rfl
theorem isRow37 : isRow 37 = true := by kernel_rfl
theorem isRow39 : isRow 39 = true := by kernel_rfl
theorem isRow67 : isRow 67 = true := by kernel_rfl
theorem size36 : rowSize 36 4 = true := by kernel_rfl
theorem size37 : rowSize 37 4 = true := by kernel_rfl
theorem size39 : rowSize 39 17 = true := by kernel_rfl
theorem size67 : rowSize 67 32 = true := by kernel_rfl

theorem ldRow {ops : Array Oper} {rest : List Oper} {o : Oper} {a : Act} {w : World} {Q : Exit → Act → World → Prop} {g : Nat} {t ty : TypeId} {cs : Array Value} (hb : Blk w g cs t) (hr : isRow ty = true) (hi : rowSize ty cs.size = true) (hgd : o.guard = none) (x : Operand) (ho : o.op = .load ty x)
    (hx : a.eval x = .pointer (some ⟨g, 0, none⟩)) (h : wpList Try.prog ops Q rest (a.put o.dst (.agg cs)) w) : wpList Try.prog ops Q (o :: rest) a w := by
  rcases isRow_out hr with ⟨fs, hu⟩ | ⟨n, e, hu⟩
  · exact wpList_load_row hgd ty x ho g hx t cs (0, 0) _ hb hu rfl (rowSize_out hi) h
  · exact wpList_load_row hgd ty x ho g hx t cs (0, 0) _ hb hu rfl (rowSize_out hi) h
theorem stRow {ops : Array Oper} {rest : List Oper} {o : Oper} {a : Act} {w : World} {Q : Exit → Act → World → Prop} {g : Nat} {t ty : TypeId} {old cs : Array Value} (hb : Blk w g old t) (hi : rowSize ty cs.size = true) (hs : old.size = cs.size) (h1 : cs.all (·.oneCell') = true) (hgd : o.guard = none) (x y : Operand) (ho : o.op = .store ty x y)
    (hx : a.eval x = .pointer (some ⟨g, 0, none⟩)) (hy : a.eval y = .agg cs) (h : wpList Try.prog ops Q rest (a.put o.dst undef) (w.setRow g cs)) : wpList Try.prog ops Q (o :: rest) a w :=
  wpList_store_row hgd ty x y ho g cs hx hy t old hb (rowSize_out hi) hs h1 h

theorem lc_one (x : Nat) : (lc x).all (·.oneCell') = true := by simp [Value.oneCell']
theorem run_row {ty t : TypeId} {w : World} {g : Nat} {cs : Array Value} (hb : Blk w g cs t) (hr : isRow ty = true) (hi : rowSize ty cs.size = true) : (loadVar ty ⟨g, 0, none⟩).run Try.prog w = .ok (.agg cs) w := by
  rcases isRow_out hr with ⟨fs, hu⟩ | ⟨n, e, hu⟩
  · exact run_loadVar_row w g t ty cs (0, 0) _ hb hu rfl (rowSize_out hi)
  · exact run_loadVar_row w g t ty cs (0, 0) _ hb hu rfl (rowSize_out hi)
/-- One result, out of memory. -/
theorem post_c {fn : Func} {p : Tmp} {ty : TypeId} (hf : fn.results = #[.cell p ty]) {post : Ending → World → Prop} {a : Act} {w : World} {g : Nat} {t : TypeId} {cs : Array Value} (hb : Blk w g cs t)
    (hr : isRow ty = true) (hi : rowSize ty cs.size = true) (hp : a.tmps.getD p undef = .pointer (some ⟨g, 0, none⟩)) (hd : a.defers = [])
    (h : post (.returned (.agg cs)) w) : bodyPost Try.prog fn post .ret a w := by
  have hp' : a.tmps[p]?.getD undef = .pointer (some ⟨g, 0, none⟩) := by simpa using hp
  exact bodyPost_ret (v := .agg cs) (by simp [results, hf, hp', asAddr, run_row hb hr hi]) hd h
/-- Two results, out of memory. -/
theorem post_cc {fn : Func} {p q : Tmp} {ty uy : TypeId} (hf : fn.results = #[.cell p ty, .cell q uy]) {post : Ending → World → Prop} {a : Act} {w : World} {g h : Nat} {t u : TypeId} {cs ds : Array Value} (hb : Blk w g cs t) (hc : Blk w h ds u)
    (hr : isRow ty = true) (hi : rowSize ty cs.size = true) (hr' : isRow uy = true) (hi' : rowSize uy ds.size = true)
    (hp : a.tmps.getD p undef = .pointer (some ⟨g, 0, none⟩)) (hq : a.tmps.getD q undef = .pointer (some ⟨h, 0, none⟩)) (hd : a.defers = [])
    (hh : post (.returned (.tuple #[.agg cs, .agg ds])) w) : bodyPost Try.prog fn post .ret a w := by
  have hp' : a.tmps[p]?.getD undef = .pointer (some ⟨g, 0, none⟩) := by simpa using hp
  have hq' : a.tmps[q]?.getD undef = .pointer (some ⟨h, 0, none⟩) := by simpa using hq
  exact bodyPost_ret (v := .tuple #[.agg cs, .agg ds]) (by simp [results, hf, hp', hq', asAddr, run_row hb hr hi, run_row hc hr' hi']) hd hh
/-- Two results, the first one out of memory. -/
theorem post_ct {fn : Func} {p q : Tmp} {ty : TypeId} (hf : fn.results = #[.cell p ty, .tmp q]) {post : Ending → World → Prop} {a : Act} {w : World} {g : Nat} {t : TypeId} {cs : Array Value} {v : Value} (hb : Blk w g cs t)
    (hr : isRow ty = true) (hi : rowSize ty cs.size = true) (hp : a.tmps.getD p undef = .pointer (some ⟨g, 0, none⟩)) (hq : a.tmps.getD q undef = v) (hd : a.defers = [])
    (hh : post (.returned (.tuple #[.agg cs, v])) w) : bodyPost Try.prog fn post .ret a w := by
  have hp' : a.tmps[p]?.getD undef = .pointer (some ⟨g, 0, none⟩) := by simpa using hp
  have hq' : a.tmps[q]?.getD undef = v := by simpa using hq
  exact bodyPost_ret (v := .tuple #[.agg cs, v]) (by simp [results, hf, hp', hq', asAddr, run_row hb hr hi]) hd hh

theorem Only.turn {b : Nat} {c : Array Value} {t : TypeId} {w w' : World} (h : Only [] w w') (hb : b < w.heap.size) : Turn b c t w w' := ⟨h.to (by simp), .inl (h.block b hb (by simp))⟩
theorem Turn.both {b : Nat} {c c0 : Array Value} {t : TypeId} {w w' : World} (h : Turn b c t w w') (hb : Blk w b c0 t) (hs : c0.size = c.size) : ∃ c1, Blk w' b c1 t ∧ c1.size = c.size := by
  rcases h.blk hb with h | h
  · exact ⟨_, h, hs⟩
  · exact ⟨_, h, rfl⟩

section
variable {ops : Array Oper} {E : World → World → Prop} {w0 : World} {T : Act → World → Prop} {k : Nat} {o : Oper} {l : List Oper} {p : Nat} {ps : List Nat} {Rs : List Rel} {fr : (Nat → Value) → Act}
/-- A whole array out of a block that is known. -/
theorem mix_ld (hrf : ∀ a, E a a) {g : Nat} {t ty : TypeId} {cs : Array Value} (hb : ∀ w, E w0 w → Blk w g cs t) (hr : isRow ty = true) (hi : rowSize ty cs.size = true) (x : Operand) (ho : o.op = .load ty x) (hx : ∀ V, (fr V).eval x = .pointer (some ⟨g, 0, none⟩))
    (hw : ∀ V, Region.wanted o (yielded ops (fr V).tmps) = true)
    (hrest : wpMix Try.prog ops E w0 T (k + 1) l ps (Rs ++ [fun _ _ => True]) (fun V => (fr V).put o.dst (.agg cs))) : wpMix Try.prog ops E w0 T k (o :: l) (p :: ps) Rs fr :=
  mix_op hrf (.agg cs) hw (fun V w hE _ K hK => by
    rcases isRow_out hr with ⟨fs, hu⟩ | ⟨n, e, hu⟩
    · exact wp_load_row ty x ho g (hx V) t cs (0, 0) _ (hb w hE) hu rfl (rowSize_out hi) hK
    · exact wp_load_row ty x ho g (hx V) t cs (0, 0) _ (hb w hE) hu rfl (rowSize_out hi) hK) hrest
/-- A whole array into a block: the one that the region turns. -/
theorem mix_st {g : Nat} {t ty : TypeId} {cs c0 : Array Value} (hE : E = Turn g cs t) (hb : Blk w0 g c0 t) (hs : c0.size = cs.size) (hi : rowSize ty cs.size = true) (h1 : cs.all (·.oneCell') = true) (x y : Operand) (ho : o.op = .store ty x y) (hx : ∀ V, (fr V).eval x = .pointer (some ⟨g, 0, none⟩)) (hy : ∀ V, (fr V).eval y = .agg cs)
    (hw : ∀ V, Region.wanted o (yielded ops (fr V).tmps) = true)
    (hrest : wpMix Try.prog ops E w0 T (k + 1) l ps (Rs ++ [fun V w => (fun _ w' => Blk w' g cs t) (V k) w]) (fun V => (fr V).put o.dst (V k))) : wpMix Try.prog ops E w0 T k (o :: l) (p :: ps) Rs fr := by
  subst hE
  refine mix_root (fun _ w' => Blk w' g cs t) (fun _ => Turn.done) hw (fun V w hE _ K hK => ?_) hrest
  obtain ⟨c1, h2, h3⟩ := hE.both hb hs
  refine wp_store_row ty x y ho g cs (hx V) (hy V) t c1 h2 (rowSize_out hi) h3 h1 ?_
  exact hK _ _ (Turn.of ((Only.refl _ _).setRow (.inl (by simp)) _) (h2.setRow _)) (h2.setRow _)
end
end Go.Proofs.Ytmlahbmaomoiaaa
