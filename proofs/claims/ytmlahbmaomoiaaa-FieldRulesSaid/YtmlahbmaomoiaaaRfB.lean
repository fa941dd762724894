import Derived.Test.YtmlahbmaomoiaaaRfA
namespace Go.Proofs.Ytmlahbmaomoiaaa
open Go.RowKit
set_option maxRecDepth 100000 in
set_option maxHeartbeats 1000000 in
theorem rp_any (w : World) : Calls Try.prog 35 #[] w fun e w' => e = .returned (rv P255) ∧ Only [] w w' := by
  go_enter Try.func35, Try.ntmps35
  go_wp2_with fail
  go_loopw [2] (fun c wr => ∃ i : Nat, c = .int .i64 (i : Int) ∧ i ≤ 17 ∧ Blk wr w.heap.size (nc fun _ => 0) 39 ∧ Blk wr (w.heap.size + 1) (nc fun j => if j < i then 32767 else 0) 39 ∧ Only [] w wr) (fun c _ => 17 - (intOf c).toNat)
  case atStart => exact ⟨0, rfl, Nat.zero_le _, (Blk.new _ _ _).alloc _, (show Blk _ _ (nc fun _ => 0) 39 from Blk.newAt _ _ (by simp)), ((Only.refl _ _).alloc _).alloc _⟩
  case round =>
    obtain ⟨i, rfl, hi, hb0, hb1, ho⟩ := hrel
    by_cases hlt : i < 17
    · have hl : (i : Int) < 17 := by omega
      have qc := (hb1.cell i).trans (nc_get _ i hlt)
      have qf := hb1.free i
      go_wp2_with fail
      have hb2 := hb1.set i (.int .i64 ((32767 : Nat) : Int))
      rw [nc_put _ i 32767 hlt, nc_congr (e := fun j => if j < i + 1 then 32767 else 0) (fun j hj => by simp only [put]; split <;> split <;> (try split) <;> omega)] at hb2
      go_roundw
      case rel => exact ⟨i + 1, by go_num, by omega, hb0.far (by simp) _, hb2, ho.setCell (.inr (by simp)) _⟩
      case measure => simp [intOf]; omega
    · have hie : i = 17 := by omega
      subst hie
      have hfin : (nc fun j => if j < 17 then 32767 else 0).setIfInBounds 0 (.int .i64 32749) = rc P255 := by
        rw [show (.int .i64 32749 : Value) = .int .i64 ((32749 : Nat) : Int) from rfl, nc_put _ 0 _ (by omega)]
        refine nc_congr ?_
        decide
      have hb2 := hb1.set 0 (.int .i64 32749)
      rw [hfin] at hb2
      have hb0' := hb0.far (p := ⟨w.heap.size + 1, 0, none⟩) (by simp) (.int .i64 32749)
      have q0 := (hb1.cell 0).trans (nc_get _ 0 (by omega))
      have qf := hb1.free 0
      clear hb1 hb0 hfin
      go_wp2_with (first | refine load_nc rfl _ rfl rfl (by assumption) ?_ | refine store_nc rfl _ _ rfl rfl rfl (by assumption) ?_)
      exact post_nc (d := dig P255) rfl (hb0'.setRow _) rfl rfl ⟨rfl, (ho.setCell (.inr (by simp)) _).setRow (.inr (by omega)) _⟩
end Go.Proofs.Ytmlahbmaomoiaaa
