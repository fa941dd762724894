/-
  Flash: the chapter's example ('lives'), as bosunlaw01 calls it.
-/
import Derived.Test.YtmlahbmaomoiaaaFlE
namespace Go.Proofs.Ytmlahbmaomoiaaa
open Go.RowKit

theorem lives_1 : ((Fl.fresh 2).program 4 [0, 0, 0, 0]).1 = 0 := by decide +kernel
theorem lives_2 : (((Fl.fresh 2).program 4 [0, 0, 0, 0]).2.program 4 [1, 0, 0, 0]).1 = 6 := by decide +kernel

theorem program_ok {F : Fl} (h : F.Ok) (a : Int) (l : List Nat) : (F.program a l).2.Ok ∧ (F.program a l).2.ops ≤ F.ops + l.length / 4 ∧ (F.program a l).2.b.length = F.b.length := by
  have h0 : F.Ok ∧ F.ops ≤ F.ops + l.length / 4 ∧ F.b.length = F.b.length := ⟨h, by omega, rfl⟩
  unfold Fl.program
  split
  · exact h0
  · split
    · exact h0
    · split
      · exact h0
      · unfold Fl.progGo
        split
        · exact h0
        · exact words_ok h _ _ _

set_option maxRecDepth 100000 in
set_option maxHeartbeats 1000000 in
theorem lives01 (w : World) : Calls Try.prog 16 #[] w fun e w' => e = .returned (.bool true) ∧ Only [] w w' := by
  have hnew := new_any 2 (by omega) (by omega)
  have HN := Lib.hid hnew; clear hnew
  go_enter Try.func16, Try.ntmps16
  go_wp2_with fail
  refine (HN.out w).mono ?_
  rintro e w1 ⟨g, gb, ge, rfl, h1, ho1, hg, hgb, hge⟩
  have hlt := h1.main.lt
  have hltb := h1.bytes.lt
  have hlte := h1.wear.lt
  go_wp2_with fail
  refine (program_any (F := Fl.fresh 2) (ge := ge) (gb := gb) (h1.alloc _) (fresh_ok 2 (by omega)) (by simp [Fl.fresh]) 4 (by omega) _ _ [0, 0, 0, 0] (by simp) (by simp) ?_).mono ?_
  · exact .inr ⟨w1.heap.size, 0, rfl, by omega, by omega, by simp, by simp, fun j hj => by
      have : j = 0 ∨ j = 1 ∨ j = 2 ∨ j = 3 := by simp at hj; omega
      rcases this with rfl | rfl | rfl | rfl <;> simp⟩
  rintro e w2 ⟨rfl, h2, ho2⟩
  have hk2 := program_ok (fresh_ok 2 (by omega)) 4 [0, 0, 0, 0]
  rw [lives_1]
  have hlt2 := h2.main.lt
  have hltb2 := h2.bytes.lt
  have hlte2 := h2.wear.lt
  have L2 := lives_2
  generalize ((Fl.fresh 2).program 4 [0, 0, 0, 0]).2 = F2 at *
  have HK2 := Lib.hid hk2; clear hk2
  have HL2 := Lib.hid L2; clear L2
  go_wp2_with fail
  refine (program_any (F := F2) (ge := ge) (gb := gb) (h2.alloc _) HK2.out.1 (by have := HK2.out.2.1; simp [Fl.fresh] at this; omega) 4 (by omega) _ _ [1, 0, 0, 0] (by simp) (by simp) ?_).mono ?_
  · exact .inr ⟨w2.heap.size, 0, rfl, by omega, by omega, by simp, by simp, fun j hj => by
      have : j = 0 ∨ j = 1 ∨ j = 2 ∨ j = 3 := by simp at hj; omega
      rcases this with rfl | rfl | rfl | rfl <;> simp⟩
  rintro e w3 ⟨rfl, h3, ho3⟩
  rw [HL2.out]
  have hk3 := program_ok HK2.out.1 4 [1, 0, 0, 0]
  have hl3 : (F2.program 4 [1, 0, 0, 0]).2.b.length = 512 := by rw [hk3.2.2, HK2.out.2.2]; simp [Fl.fresh]
  have hsz := size_any h3
  rw [hl3] at hsz
  have HSZ := Lib.hid hsz
  clear hk3 hl3 hsz
  go_wp2_with fail
  refine HSZ.out.mono ?_
  rintro e w4 ⟨rfl, rfl⟩
  go_wp2_with fail
  go_ret
  refine ⟨rfl, ?_⟩
  have e1 : Only [g, gb] w w3 := (((ho1.to (by simp)).alloc _).trans ho2 |>.alloc _).trans ho3
  exact e1.mono (by simp; omega)
end Go.Proofs.Ytmlahbmaomoiaaa
