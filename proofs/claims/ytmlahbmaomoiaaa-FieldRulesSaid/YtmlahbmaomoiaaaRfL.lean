/-
  The reference's numbers: Bytes.
-/
import Derived.Test.YtmlahbmaomoiaaaRfK
namespace Go.Proofs.Ytmlahbmaomoiaaa
open Go.RowKit

/-- So many cells of a kind. -/
def arrk (κ : IntKind) (n : Nat) (d : Nat → Nat) : Array Value := ((List.range n).map fun i => Value.int κ ((d i : Nat) : Int)).toArray
theorem arrk_get (κ : IntKind) (n : Nat) (d : Nat → Nat) (i : Nat) (h : i < n) : (arrk κ n d)[i]? = some (.int κ ((d i : Nat) : Int)) := by
  unfold arrk; simp [h]
theorem arrk_put (κ : IntKind) (n : Nat) (d : Nat → Nat) (k v : Nat) : (arrk κ n d).setIfInBounds k (.int κ ((v : Nat) : Int)) = arrk κ n (put d k v) := by
  unfold arrk
  apply Array.ext_getElem?
  intro i
  simp only [Array.getElem?_setIfInBounds, List.getElem?_toArray, List.getElem?_map, List.size_toArray, List.length_map, List.length_range]
  by_cases hi : i < n
  · rw [List.getElem?_range hi]
    by_cases hk : k = i
    · subst hk; simp [hi, put]
    · rw [if_neg hk]; simp [put, Ne.symm hk]
  · rw [List.getElem?_eq_none (by simp; omega)]
    split
    · split
      · omega
      · rfl
    · rfl
theorem arrk_congr {κ : IntKind} {n : Nat} {d e : Nat → Nat} (h : ∀ i, i < n → d i = e i) : arrk κ n d = arrk κ n e := by
  unfold arrk
  congr 1
  exact List.map_congr_left fun i hi => by rw [h i (by simpa using hi)]
theorem arrk_size (κ : IntKind) (n : Nat) (d : Nat → Nat) : (arrk κ n d).size = n := by unfold arrk; simp
theorem arrk_one (κ : IntKind) (n : Nat) (d : Nat → Nat) : (arrk κ n d).all (·.oneCell') = true := by unfold arrk; simp [Value.oneCell']
theorem info67 : (Try.prog.info? 67).map (·.size) = some 32 := by kernel_rfl
theorem load_bc {ops : Array Oper} {rest : List Oper} {o : Oper} {a : Act} {w : World} {Q : Exit → Act → World → Prop} {g : Nat} {d : Nat → Nat} (hgd : o.guard = none) (x : Operand) (ho : o.op = .load 67 x)
    (hx : a.eval x = .pointer (some ⟨g, 0, none⟩)) (hb : Blk w g (arrk .u8 32 d) 67)
    (h : wpList Try.prog ops Q rest (a.put o.dst (.agg (arrk .u8 32 d))) w) : wpList Try.prog ops Q (o :: rest) a w :=
  load_blk hb hgd 67 x ho hx Try.underlying67 (by rw [arrk_size]; exact info67) h
theorem store_bc {ops : Array Oper} {rest : List Oper} {o : Oper} {a : Act} {w : World} {Q : Exit → Act → World → Prop} {g : Nat} {d e : Nat → Nat} (hgd : o.guard = none) (x y : Operand) (ho : o.op = .store 67 x y)
    (hx : a.eval x = .pointer (some ⟨g, 0, none⟩)) (hy : a.eval y = .agg (arrk .u8 32 d)) (hb : Blk w g (arrk .u8 32 e) 67)
    (h : wpList Try.prog ops Q rest (a.put o.dst undef) (w.setRow g (arrk .u8 32 d))) : wpList Try.prog ops Q (o :: rest) a w :=
  store_blk hb hgd 67 x y ho _ hx hy (by rw [arrk_size]; exact info67) (by rw [arrk_size, arrk_size]) (arrk_one _ _ _) h
theorem post_bc {fn : Func} {p : Tmp} (hf : fn.results = #[.cell p 67]) {post : Ending → World → Prop} {a : Act} {w : World} {g : Nat} {d : Nat → Nat} (hb : Blk w g (arrk .u8 32 d) 67)
    (hp : a.tmps.getD p undef = .pointer (some ⟨g, 0, none⟩)) (hd : a.defers = []) (h : post (.returned (.agg (arrk .u8 32 d))) w) : bodyPost Try.prog fn post .ret a w :=
  post_blk hf hb hp hd Try.underlying67 (by rw [arrk_size]; exact info67) h

set_option maxRecDepth 100000 in
set_option maxHeartbeats 2000000 in
theorem bytes_any (x : Nat) (hx : x < W255) (w : World) : Calls Try.prog 112 #[rv x] w fun e w' => e = .returned (.agg (arrk .u8 32 (dg 8 x))) ∧ Only [] w w' := by
  have HX := Lib.hid hx; clear hx
  go_enter Try.func112, Try.ntmps112
  go_wp2_with fail
  go_loopw [4] (fun c wr => ∃ i : Nat, c = .int .i64 (i : Int) ∧ i ≤ 255 ∧ Blk wr w.heap.size (rc x) 39 ∧ Blk wr (w.heap.size + 1) (arrk .u8 32 fun _ => 0) 67 ∧ Blk wr (w.heap.size + 1 + 1) (arrk .u8 32 (dg 8 (x % 2 ^ i))) 67 ∧ Only [] w wr) (fun c _ => 255 - (intOf c).toNat)
  case atStart =>
    refine ⟨0, rfl, by omega, ((Blk.new _ _ _).alloc _).alloc _, (show Blk _ _ (arrk .u8 32 fun _ => 0) 67 from (Blk.newAt _ _ (by simp)).alloc _), ?_, (((Only.refl _ _).alloc _).alloc _).alloc _⟩
    rw [arrk_congr (e := fun _ => 0) (fun j _ => dg_zero 8 x j)]
    exact (show Blk _ _ (arrk .u8 32 fun _ => 0) 67 from Blk.newAt _ _ (by simp))
  case round =>
    obtain ⟨i, rfl, hi, hbx, hbr, hbo, ho⟩ := hrel
    by_cases hlt : i < 255
    · have hl : (i : Int) < 255 := by omega
      have h15 : i / 15 < 17 := by omega
      have qe := (hbx.cell (i / 15)).trans (nc_get _ (i / 15) h15)
      have hb := dg_bit 15 (by omega) x i
      have hand : (((dig x (i / 15) : Nat) : Int) / 2 ^ (i % 15)).tmod 2 = ((x / 2 ^ i % 2 : Nat) : Int) := by
        have h1 : (((dig x (i / 15) : Nat) : Int) / 2 ^ (i % 15)) = ((dig x (i / 15) / 2 ^ (i % 15) : Nat) : Int) := by
          rw [Int.natCast_ediv, Int.natCast_pow]; rfl
        rw [h1, ← hb, Int.tmod_eq_emod_of_nonneg (Int.natCast_nonneg _)]; exact (Int.natCast_emod _ 2).symm
      by_cases hbit : x / 2 ^ i % 2 = 1
      · have hq : ((((dig x (i / 15) : Nat) : Int) / 2 ^ (i % 15)).tmod 2 == 1) = true := by rw [hand, hbit]; rfl
        have h32 : i / 8 < 32 := by omega
        have hstep := arrk_congr (κ := .u8) (n := 32) (fun j _ => dg_set 8 (by omega) x i hbit j)
        have HST := Lib.hid hstep
        have hv : (((dg 8 (x % 2 ^ i) (i / 8) : Nat) : Int) + 2 ^ (i % 8)) % 256 = ((dg 8 (x % 2 ^ i) (i / 8) + 2 ^ (i % 8) : Nat) : Int) := by
          have h1 := dg_set 8 (by omega) x i hbit (i / 8)
          have h2 := dg_lt 8 (x % 2 ^ (i + 1)) (i / 8)
          rw [h1] at h2
          simp only [put, if_true, Nat.reducePow] at h2
          have h4 : (2 : Int) ^ (i % 8) = ((2 ^ (i % 8) : Nat) : Int) := (Int.natCast_pow 2 _).symm
          rw [h4]
          generalize 2 ^ (i % 8) = A at *
          omega
        have HV := Lib.hid hv
        clear hstep hand hb hbit hv
        go_wp2_with fail
        refine region_free mixed 7 [0, 1, 3, 7, 0, 16, 48, 127, 255, 511] (by kernel_rfl) (Only []) (Only.refl _) (fun _ _ _ => Only.trans) ?_
        simp only [List.take_succ_cons, List.take_zero, List.drop_succ_cons, List.drop_zero]
        iterate 7
          refine wpFree_op (Only.refl _) ?_ (fun V w _ => rfl) ?_ ?_
          rotate_left
          · intro V w1 hE hF K hK
            simp only [facts, Nat.reduceMod, Nat.reduceDiv, Nat.reduceEqDiff, forall_const, false_implies, List.nil_append, List.cons_append, true_and, and_true] at hF
            have q0 := ((hE.blk hbo.drew (by simp)).cell (i / 8)).trans (arrk_get _ _ _ (i / 8) h32)
            try simp only [hF] at hK ⊢
            go_step
            exact hK
          simp only [Act.put, List.setIfInBounds_toArray, List.set_cons_succ, List.set_cons_zero, Nat.reduceAdd, Nat.zero_add]
        refine wpFree_nil ?_
        intro V w3 hE hR
        simp only [allR, List.nil_append, List.cons_append] at hR
        simp only [hR]
        clear hR
        replace hbx := hE.blk hbx.drew (by simp)
        replace hbr := hE.blk hbr.drew (by simp)
        replace hbo := hE.blk hbo.drew (by simp)
        replace ho : Only [] w w3 := ho.drew.trans hE
        clear hE
        have cx := (hbo.cell (i / 8)).trans (arrk_get _ _ _ (i / 8) h32)
        have fx := hbo.free (i / 8)
        have hset := hbo.set (i / 8) (.int .u8 ((dg 8 (x % 2 ^ i) (i / 8) + 2 ^ (i % 8) : Nat) : Int))
        rw [arrk_put, ← HST.out] at hset
        have HSET := Lib.hid hset; clear hset
        go_wp2_with fail
        rw [HV.out]
        go_roundw
        case rel => exact ⟨i + 1, by go_num, by omega, hbx.far (by simp; omega) _, hbr.far (by simp) _, HSET.out, ho.setCell (.inr (by simp; omega)) _⟩
        case measure => simp [intOf]; omega
      · have hq : ((((dig x (i / 15) : Nat) : Int) / 2 ^ (i % 15)).tmod 2 == 1) = false := by
          rw [hand]; have : x / 2 ^ i % 2 = 0 := by omega
          rw [this]; rfl
        have hu := dg_unset x i hbit
        rw [← hu] at hbo
        clear hand hb hbit hu
        go_wp2_with fail
        go_roundw
        case rel => exact ⟨i + 1, by go_num, by omega, hbx, hbr, hbo, ho⟩
        case measure => simp [intOf]; omega
    · have hie : i = 255 := by omega
      subst hie
      rw [show x % 2 ^ 255 = x from Nat.mod_eq_of_lt HX.out] at hbo
      go_wp2_with (first | refine load_nc rfl _ rfl rfl (by assumption) ?_ | refine load_bc rfl _ rfl rfl (by assumption) ?_ | refine store_nc rfl _ _ rfl rfl rfl (by assumption) ?_ | refine store_bc rfl _ _ rfl rfl rfl (by assumption) ?_)
      exact post_bc (d := dg 8 x) rfl (hbr.setRow _) rfl rfl ⟨rfl, ho.setRow (.inr (by omega)) _⟩
end Go.Proofs.Ytmlahbmaomoiaaa
