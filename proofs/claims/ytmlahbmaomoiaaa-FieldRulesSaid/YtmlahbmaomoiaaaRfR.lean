/-
  The reference's numbers: Square.
-/
import Derived.Test.YtmlahbmaomoiaaaRow
import Derived.Test.YtmlahbmaomoiaaaRfQ
namespace Go.Proofs.Ytmlahbmaomoiaaa
open Go.RowKit

theorem nc_map (d : Nat → Nat) : nc d = (((List.range 17).map fun i => ((d i : Nat) : Int)).map (Value.int .i64)).toArray := rfl
theorem info3b : (Try.prog.info? 3).map (fun i => (i.zero, i.size, i.bytes)) = some (some (.int .i64 0), 1, 8) := by kernel_rfl
theorem size3 (w : World) : (sizeOf 3).run Try.prog w = .ok 1 w := by
  obtain ⟨i, hi, _, hs, _⟩ := info_parts info3b
  exact size1 3 i hi hs w
theorem digs_inj {x y : Nat} (hx : x < W255) (hy : y < W255) (h : ∀ i, i < 17 → dig x i = dig y i) : x = y := by
  rw [← val_dig x hx, ← val_dig y hy]
  exact vs_congr 17 h
theorem map_range_inj {n : Nat} {f g : Nat → Int} (h : (List.range n).map f = (List.range n).map g) (i : Nat) (hi : i < n) : f i = g i := by
  have h2 := congrArg (fun l : List Int => l[i]?) h
  simp only [List.getElem?_map, List.getElem?_range hi, Option.map_some, Option.some.injEq] at h2
  exact h2
set_option maxRecDepth 100000 in
theorem eq_rv (x y : Nat) (hx : x < W255) (hy : y < W255) (w : World) : (binOp .eql 39 (rv x) (rv y)).run Try.prog w = .ok (.bool (decide (x = y))) w := by
  have h := run_eql_ints (P := Try.prog) w 39 3 17 .i64 Try.underlying39 Try.underlying3 size3 ((List.range 17).map fun i => ((dig x i : Nat) : Int)) ((List.range 17).map fun i => ((dig y i : Nat) : Int)) (by simp) (by simp)
  rw [← nc_map, ← nc_map] at h
  rw [h]
  congr 2
  exact decide_eq_decide.2 ⟨fun h => digs_inj hx hy fun i hi => Int.ofNat_inj.1 (map_range_inj h i hi), fun h => by rw [h]⟩

/-- Half a number's digits, where i of them are done. -/
def hlf (n i j : Nat) : Nat := if j + 1 < i then dig (n / 2) j else if j + 1 = i then dig n j / 2 else dig n j
theorem half_dig (n j : Nat) : dig (n / 2) j = dig n j / 2 + dig n (j + 1) % 2 * 16384 := by
  unfold dig
  rw [Nat.mul_add, Nat.pow_add, ← Nat.div_div_eq_div_mul, Nat.div_div_eq_div_mul n 2, Nat.mul_comm 2, ← Nat.div_div_eq_div_mul]
  generalize n / 2 ^ (15 * j) = q
  omega
theorem hlf_self (n i : Nat) : hlf n i i = dig n i := by unfold hlf; rw [if_neg (by omega), if_neg (by omega)]
theorem hlf_even (n i j : Nat) (h : i = 0 ∨ dig n i % 2 = 0) : put (hlf n i) i (dig n i / 2) j = hlf n (i + 1) j := by
  unfold put hlf
  by_cases h1 : j = i
  · subst h1; rw [if_pos rfl, if_neg (by omega), if_pos rfl]
  · rw [if_neg h1]
    by_cases h2 : j + 1 < i
    · rw [if_pos h2, if_pos (by omega)]
    · rw [if_neg h2]
      by_cases h3 : j + 1 = i
      · rw [if_pos h3, if_pos (by omega), half_dig, h3]
        rcases h with h | h
        · omega
        · rw [h]; omega
      · rw [if_neg h3, if_neg (by omega), if_neg (by omega)]
theorem hlf_odd (n i j : Nat) (hi : 0 < i) (h : dig n i % 2 = 1) : put (put (hlf n i) (i - 1) (hlf n i (i - 1) + 16384)) i (dig n i / 2) j = hlf n (i + 1) j := by
  have e1 : hlf n i (i - 1) = dig n (i - 1) / 2 := by unfold hlf; rw [if_neg (by omega), if_pos (by omega)]
  rw [e1]
  unfold put hlf
  by_cases h1 : j = i
  · subst h1; rw [if_pos rfl, if_neg (by omega), if_pos rfl]
  · rw [if_neg h1]
    by_cases h3 : j = i - 1
    · subst h3
      have := half_dig n (i - 1)
      rw [show i - 1 + 1 = i from by omega] at this
      rw [if_pos rfl, if_pos (by omega), this, h]
    · rw [if_neg h3]
      by_cases h2 : j + 1 < i
      · rw [if_pos h2, if_pos (by omega)]
      · rw [if_neg h2, if_neg (by omega), if_neg (by omega), if_neg (by omega)]
theorem hlf_odd1 (n k j : Nat) (h : dig n (k + 1) % 2 = 1) : put (put (hlf n (k + 1)) k (hlf n (k + 1) k + 16384)) (k + 1) (dig n (k + 1) / 2) j = hlf n (k + 1 + 1) j := hlf_odd n (k + 1) j (by omega) h
theorem hlf_end (n j : Nat) (hn : n < W255) (hj : j < 17) : hlf n 17 j = dig (n / 2) j := by
  unfold hlf
  by_cases h : j + 1 < 17
  · rw [if_pos h]
  · rw [if_neg h, if_pos (by omega), half_dig]
    have : dig n (j + 1) = 0 := by
      rw [show j + 1 = 17 from by omega]; unfold dig; rw [div_top n hn]
    rw [this]; omega
theorem hlf_lt (n i j : Nat) : hlf n i j < 32768 := by
  unfold hlf; split
  · exact dig_lt _ _
  · have := dig_lt n j; split <;> omega

/-- Is a number a square? -/
def sqB (x : Nat) : Bool := decide (x = 0) || decide (powN x ((P255 - 1) / 2) = 1)

set_option maxRecDepth 100000 in
set_option maxHeartbeats 4000000 in
theorem square_with (x n z : Nat) (hx : x < W255) (hn : n < W255) (hz : z < W255) (hu : ∀ w1, Calls Try.prog 91 #[rv P255, rv 1] w1 fun e w' => e = .returned (rv n) ∧ Only [] w1 w')
    (hp : ∀ w1, Calls Try.prog 27 #[rv x, ev (n / 2)] w1 fun e w' => e = .returned (rv z) ∧ Only [] w1 w') (w : World) : Calls Try.prog 31 #[rv x] w fun e w' => e = .returned (.bool (decide (x = 0) || decide (z = 1))) ∧ Only [] w w' := by
  have h0 := fun w1 => rsmall_any 0 (by decide) w1
  rw [show 0 % P255 = 0 from rfl] at h0
  have h1 := fun w1 => rsmall_any 1 (by decide) w1
  rw [show 1 % P255 = 1 from rfl] at h1
  have hq0 := fun w1 => eq_rv x 0 hx (by decide) w1
  have hl := fun w1 : World => limbs_any (n / 2) (by omega) w1
  have hq1 := fun w1 => eq_rv z 1 hz (by decide) w1
  have H0 := Lib.hid h0; have H1 := Lib.hid h1; have HU := Lib.hid hu; have HQ0 := Lib.hid hq0; have HL := Lib.hid hl; have HP := Lib.hid hp; have HQ1 := Lib.hid hq1; have HN := Lib.hid hn
  clear h0 h1 hu hq0 hl hp hq1 hn hx hz
  have hbx : Blk (w.alloc (.cells (rc x) 39)) w.heap.size (rc x) 39 := Blk.new _ _ _
  have ho : Only [] w (w.alloc (.cells (rc x) 39)) := (Only.refl _ _).alloc _
  go_enter Try.func31, Try.ntmps31
  go_wp2_with fail
  generalize w.alloc (.cells (rc x) 39) = w0 at *
  refine region_mix mixed 2 [0, 0, 3] (by kernel_rfl) (Only []) (Only.refl _) (fun _ _ _ => Only.trans) ?_
  simp only [List.take_succ_cons, List.take_zero, List.drop_succ_cons, List.drop_zero]
  refine mix_ld (Only.refl _) (cs := rc x) (fun w3 hE => hE.blk hbx.drew (by simp)) isRow39 size39 _ rfl (fun _ => rfl) (fun _ => rfl) ?_
  simp only [Act.put, List.setIfInBounds_toArray, List.set_cons_succ, List.set_cons_zero, Nat.zero_add, List.nil_append]
  refine mix_call (rv 0) 44 (fun _ => #[.int .i64 0]) (fun _ => rfl) (fun _ _ => by go_simp) (fun _ w1 _ _ => H0.out w1) ?_
  simp only [Act.put, List.setIfInBounds_toArray, List.set_cons_succ, List.set_cons_zero, Nat.reduceAdd, List.nil_append, List.cons_append]
  refine mix_nil ?_
  intro V w3 hE hR
  simp only [allR, and_true] at hR
  replace hbx := hE.blk hbx.drew (by simp)
  replace ho := ho.drew.trans hE
  clear hE hR
  by_cases hx0 : x = 0
  · have hq := fun w1 => HQ0.out w1
    rw [decide_eq_true hx0] at hq
    have hb : (decide (x = 0) || decide (z = 1)) = true := by rw [decide_eq_true hx0, Bool.true_or]
    have HS := Lib.hid hb
    clear hb hx0
    go_wp2_with fail
    go_ret
    exact ⟨ret_bool HS.out.symm, ho⟩
  · have hq := fun w1 => HQ0.out w1
    rw [decide_eq_false hx0] at hq
    have hb : (decide (x = 0) || decide (z = 1)) = decide (z = 1) := by rw [decide_eq_false hx0, Bool.false_or]
    have HS := Lib.hid hb
    clear hb hx0
    go_wp2_with fail
    clear hq
    refine (rp_any _).mono ?_
    rintro r w4 ⟨rfl, ho4⟩
    go_wp2_with fail
    refine (H1.out _).mono ?_
    rintro r w5 ⟨rfl, ho5⟩
    go_wp2_with fail
    refine (HU.out _).mono ?_
    rintro r w6 ⟨rfl, ho6⟩
    replace hbx := ho6.blk (ho5.blk (ho4.blk hbx (by simp)) (by simp)) (by simp)
    replace ho := ((ho.trans ho4).trans ho5).trans ho6
    have hlx := hbx.lt
    clear ho4 ho5 ho6
    have hbn : Blk (w6.alloc (.cells zc 39)) w6.heap.size (nc fun _ => 0) 39 := Blk.new _ _ _
    go_wp2_with (first | refine load_nc rfl _ rfl rfl (by assumption) ?_ | refine load_bc rfl _ rfl rfl (by assumption) ?_ | refine store_nc rfl _ _ rfl rfl rfl (by assumption) ?_ | refine store_bc rfl _ _ rfl rfl rfl (by assumption) ?_)
    replace hbx := (hbx.alloc (.cells zc 39)).farRow (g := w6.heap.size) (by omega) (rc n)
    have hbh := hbn.setRow (rc n)
    replace ho := (ho.alloc (.cells zc 39)).setRow (g := w6.heap.size) (.inr (by have := ho.size; omega)) (rc n)
    clear hbn
    have hls := ho.size
    generalize (w6.alloc (.cells zc 39)).setRow w6.heap.size (rc n) = w7 at *
    have hg3 : w.heap.size ≤ w6.heap.size ∧ w.heap.size ≠ w6.heap.size := ⟨by omega, by omega⟩
    generalize w6.heap.size = g3 at *
    go_loopw [4] (fun c wr => ∃ i : Nat, c = .int .i64 (i : Int) ∧ i ≤ 17 ∧ Blk wr w.heap.size (rc x) 39 ∧ Blk wr g3 (nc (hlf n i)) 39 ∧ Only [] w wr) (fun c _ => 17 - (intOf c).toNat)
    case atStart =>
      exact ⟨0, rfl, by omega, hbx, hbh, ho⟩
    case round =>
      obtain ⟨i, rfl, hi, hbx, hbh, ho⟩ := hrel
      by_cases hlt : i < 17
      · have hl : (i : Int) < 17 := by omega
        have cx := (hbh.cell i).trans (nc_get _ i hlt)
        rw [hlf_self] at cx
        have fx := hbh.free i
        have hdl := dig_lt n i
        by_cases hi0 : i = 0
        · have hc0 : ¬ (0 : Int) < (i : Int) := by omega
          have hset := hbh.set i (.int .i64 ((dig n i / 2 : Nat) : Int))
          rw [nc_put _ _ _ hlt, nc_congr (fun j _ => hlf_even n i j (.inl hi0))] at hset
          have HSET := Lib.hid hset
          clear hset hi0
          go_wp2_with fail
          rw [show ((dig n i : Nat) : Int) / 2 = ((dig n i / 2 : Nat) : Int) from by omega]
          go_roundw
          case rel => exact ⟨i + 1, by go_num, by omega, hbx.far (by simp; omega) _, HSET.out, ho.setCell (.inr (by simp; omega)) _⟩
          case measure => simp [intOf]; omega
        · obtain ⟨k, rfl⟩ : ∃ k, i = k + 1 := ⟨i - 1, by omega⟩
          have hc0 : (0 : Int) < ((k + 1 : Nat) : Int) := by omega
          clear hi0
          by_cases hodd : dig n (k + 1) % 2 = 1
          · have hq : (((dig n (k + 1) : Nat) : Int) % 2 == 1) = true := by rw [beq_iff_eq]; omega
            have hk17 : k < 17 := by omega
            have ck := (hbh.cell k).trans (nc_get _ k hk17)
            have fk := hbh.free k
            have hhl := hlf_lt n (k + 1) k
            have e1 : ((hlf n (k + 1) k : Nat) : Int) + 16384 = ((hlf n (k + 1) k + 16384 : Nat) : Int) := by omega
            have hset1 := hbh.set k (.int .i64 ((hlf n (k + 1) k + 16384 : Nat) : Int))
            rw [nc_put _ _ _ hk17] at hset1
            have cx2 := (hset1.cell (k + 1)).trans (nc_get _ (k + 1) hlt)
            have e2 : put (hlf n (k + 1)) k (hlf n (k + 1) k + 16384) (k + 1) = dig n (k + 1) := by unfold put; rw [if_neg (by omega), hlf_self]
            rw [e2] at cx2
            have fx2 := hset1.free (k + 1)
            have hset2 := hset1.set (k + 1) (.int .i64 ((dig n (k + 1) / 2 : Nat) : Int))
            rw [nc_put _ _ _ hlt, nc_congr (fun j _ => hlf_odd1 n k j hodd)] at hset2
            rw [← e1] at cx2 fx2 hset2
            have HSET := Lib.hid hset2
            clear hset1 hset2 e1 e2 hodd
            go_wp2_with fail
            rw [show ((dig n (k + 1) : Nat) : Int) / 2 = ((dig n (k + 1) / 2 : Nat) : Int) from by omega]
            go_roundw
            case rel => exact ⟨k + 1 + 1, by go_num, by omega, (hbx.far (by simp; omega) _).far (by simp; omega) _, HSET.out, (ho.setCell (.inr (by simp; omega)) _).setCell (.inr (by simp; omega)) _⟩
            case measure => simp [intOf]; omega
          · have hq : (((dig n (k + 1) : Nat) : Int) % 2 == 1) = false := by rw [beq_eq_false_iff_ne]; omega
            have hset := hbh.set (k + 1) (.int .i64 ((dig n (k + 1) / 2 : Nat) : Int))
            rw [nc_put _ _ _ hlt, nc_congr (fun j _ => hlf_even n (k + 1) j (.inr (by omega)))] at hset
            have HSET := Lib.hid hset
            clear hset hodd
            go_wp2_with fail
            rw [show ((dig n (k + 1) : Nat) : Int) / 2 = ((dig n (k + 1) / 2 : Nat) : Int) from by omega]
            go_roundw
            case rel => exact ⟨k + 1 + 1, by go_num, by omega, hbx.far (by simp; omega) _, HSET.out, ho.setCell (.inr (by simp; omega)) _⟩
            case measure => simp [intOf]; omega
      · have hie : i = 17 := by omega
        subst hie
        rw [nc_congr (e := dig (n / 2)) (fun j hj => hlf_end n j HN.out hj)] at hbh
        clear hi hlt
        go_wp2_with fail
        refine region_mix mixed 3 [0, 0, 2, 7, 15, 31, 63] (by kernel_rfl) (Only []) (Only.refl _) (fun _ _ _ => Only.trans) ?_
        simp only [List.take_succ_cons, List.take_zero, List.drop_succ_cons, List.drop_zero]
        refine mix_ld (Only.refl _) (cs := rc x) (fun w3 hE => hE.blk hbx.drew (by simp)) isRow39 size39 _ rfl (fun _ => rfl) (fun _ => rfl) ?_
        simp only [Act.put, List.setIfInBounds_toArray, List.set_cons_succ, List.set_cons_zero, Nat.zero_add, List.nil_append]
        refine mix_ld (Only.refl _) (cs := rc (n / 2)) (fun w3 hE => hE.blk hbh.drew (by simp)) isRow39 size39 _ rfl (fun _ => rfl) (fun _ => rfl) ?_
        simp only [Act.put, List.setIfInBounds_toArray, List.set_cons_succ, List.set_cons_zero, Nat.reduceAdd, List.nil_append, List.cons_append]
        refine mix_call (ev (n / 2)) 87 (fun _ => #[rv (n / 2)]) (fun _ => rfl) (fun _ _ => by go_simp) (fun _ w1 _ _ => HL.out w1) ?_
        simp only [Act.put, List.setIfInBounds_toArray, List.set_cons_succ, List.set_cons_zero, Nat.reduceAdd, List.nil_append, List.cons_append]
        refine mix_nil ?_
        intro V w3 hE hR
        simp only [allR, and_true] at hR
        replace ho := ho.drew.trans hE
        clear hE hR hbx hbh
        go_wp2_with fail
        refine (HP.out _).mono ?_
        rintro r w4 ⟨rfl, ho4⟩
        go_wp2_with fail
        refine (H1.out _).mono ?_
        rintro r w5 ⟨rfl, ho5⟩
        have hq := HQ1.out
        go_wp2_with fail
        go_ret
        exact ⟨ret_bool HS.out.symm, (ho.trans ho4).trans ho5⟩
theorem square_any (x : Nat) (hx : x < W255) (w : World) : Calls Try.prog 31 #[rv x] w fun e w' => e = .returned (.bool (sqB x)) ∧ Only [] w w' :=
  square_with x (P255 - 1) (powN x ((P255 - 1) / 2)) hx (by decide) (powN_lt255 _ _) (fun w1 => under_any P255 1 (by decide) w1) (fun w1 => rpower_any x ((P255 - 1) / 2) hx (by decide) w1) w
end Go.Proofs.Ytmlahbmaomoiaaa
