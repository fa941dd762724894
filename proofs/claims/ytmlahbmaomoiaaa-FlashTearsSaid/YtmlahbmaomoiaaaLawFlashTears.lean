/-
  PROVED: bosunlaw01.FlashTears returns true for every input (a slice of bytes, an int, a uint32), and each argument reads afterwards as it read before. Conditions: none.
-/
import Derived.Test.YtmlahbmaomoiaaaRows
import Derived.Test.YtmlahbmaomoiaaaFlG
import Derived.WalkKit
import Derived.ProofKit
import Derived.OpenShut
import Derived.ShutString
import Derived.ChangeOld
import Derived.Below
namespace Go.Proofs.Ytmlahbmaomoiaaa.flashTears
open Go.ChangeShapes Go.WideShapes Go.ChangeAt Go.RowKit
open Go.ChangeMaps (open_string shut_string)
set_option linter.unusedVariables false

set_option maxRecDepth 100000 in
set_option maxHeartbeats 1000000 in
theorem walk_long (A : Option Addr) (n cap : Nat) (a1 : Int) (t : Int) (w : World) (hn : 256 < n) (hm : n ≤ 9223372036854775807) :
    Calls Try.prog 3 #[.slice A n cap, .int .i64 a1, .int .u32 t] w fun e w' => e = .returned (.bool true) ∧ Only [] w w' := by
  go_enter Try.func3, Try.ntmps3
  go_wp2_with fail
  refine (lives01 _).mono ?_
  rintro e w1 ⟨rfl, h1⟩
  go_wp2_with fail
  refine (lives01 _).mono ?_
  rintro e w2 ⟨rfl, h2⟩
  go_wp2_with fail
  go_ret
  exact ⟨rfl, h1.trans h2⟩

set_option maxRecDepth 100000 in
set_option maxHeartbeats 1000000 in
theorem walk_short (A : Option Addr) (n cap : Nat) (a1 : Int) (t : Nat) (w : World) (hn : n < 4) (hc : n ≤ cap) (ht : t < 4294967296) :
    Calls Try.prog 3 #[.slice A n cap, .int .i64 a1, .int .u32 (t : Int)] w fun e w' => e = .returned (.bool true) ∧ Only [] w w' := by
  have hd : ((n : Int) / 4) = 0 := by omega
  have hnew := new_any 1 (by omega) (by omega)
  have HN := Lib.hid hnew; clear hnew
  go_enter Try.func3, Try.ntmps3
  go_wp2_with fail
  refine (lives01 _).mono ?_
  rintro e w1 ⟨rfl, h1⟩
  go_wp2_with fail
  refine (HN.out _).mono ?_
  rintro e w2 ⟨g, gb, ge, rfl, h2, ho2, hg, hgb, hge⟩
  go_wp2_with fail
  have e1 : (Fl.fresh 1).fail 0 t = (0, Fl.armedAt 0 t) := rfl
  have hf := fail_any h2 0 t
  rw [e1] at hf
  have HF := Lib.hid hf; clear hf e1
  refine HF.out.mono ?_
  rintro e w3 ⟨rfl, h3, ho3⟩
  have hok : (Fl.armedAt 0 t).Ok := ⟨armed_len 0 t, by simp [Fl.armedAt, Fl.fresh], (fresh_ok 1 (by omega)).byte, by simp [Fl.armedAt, Fl.fresh], by simp [Fl.armedAt, Fl.fresh], by simp [Fl.armedAt], ht⟩
  have hp := program_any h3 hok (by show (0 : Nat) ≤ _; omega) 0 (by omega) A cap [] (by simp) (by simp) (.inl rfl)
  have e2 : (Fl.armedAt 0 t).program 0 [] = (0, Fl.armedAt 0 t) := by
    unfold Fl.program
    rw [if_neg (by show ¬ (false = true); simp), if_neg (by simp), if_neg (by rw [armed_len]; simp)]
    unfold Fl.progGo
    rw [if_neg (by unfold Fl.lockHit; simp)]; rfl
  rw [e2] at hp
  have HP := Lib.hid hp; clear hp e2
  go_wp2_with fail
  refine HP.out.mono ?_
  rintro e w4 ⟨rfl, h4, ho4⟩
  go_wp2_with fail
  go_ret
  have how : Only [g, gb] w2 w4 := (ho3.to (by simp)).trans ho4
  exact ⟨rfl, (h1.trans ho2).then how (by intro y hy; simp at hy; have := h1.size; rcases hy with rfl | rfl <;> right <;> omega)⟩

set_option maxRecDepth 100000 in
set_option maxHeartbeats 1000000 in
theorem walk_go (gd od n cap m : Nat) (l : List Nat) (a1 : Int) (t : Nat) (w : World) (hm1 : 1 ≤ m) (hm : m = n / 4) (hn : n ≤ 256) (hc : n ≤ cap) (ht : t < 4294967296) (hl : l.length = 4 * m) (hb : ∀ x ∈ l, x < 256)
    (hcell : ∀ j, j < 4 * m → w.cell? ⟨gd, od + j, none⟩ = some (.int .u8 ((l.getD j 0 : Nat) : Int))) (ha : -9223372036854775808 ≤ a1 ∧ a1 ≤ 9223372036854775807) (hgd : gd < w.heap.size) :
    Calls Try.prog 3 #[.slice (some ⟨gd, od, none⟩) n cap, .int .i64 a1, .int .u32 (t : Int)] w fun e w' => e = .returned (.bool true) ∧ Only [] w w' := by
  have hd : ((n : Int) / 4) = m := by omega
  have hmn : 4 * m ≤ n := by omega
  have HM := Lib.hid hm; have HL := Lib.hid hl; have HB := Lib.hid hb; have HC := Lib.hid hcell
  clear hm hl hb hcell
  have hnew := new_any 1 (by omega) (by omega)
  have HN := Lib.hid hnew; clear hnew
  go_enter Try.func3, Try.ntmps3
  go_wp2_with fail
  refine (lives01 _).mono ?_
  rintro e w1 ⟨rfl, h1⟩
  go_wp2_with fail
  refine (HN.out _).mono ?_
  rintro e w2 ⟨g, gb, ge, rfl, h2, ho2, hg, hgb, hge⟩
  go_wp2_with fail
  obtain ⟨x, hx, hxm⟩ : ∃ x : Nat, wrap64 ((IntKind.u64.wrap a1).tmod (m : Int)) = (x : Int) ∧ x < m := by
    have h0 : 0 ≤ IntKind.u64.wrap a1 := by rw [IntKind.wrap_u64]; omega
    have h3 : (IntKind.u64.wrap a1).tmod (m : Int) = (IntKind.u64.wrap a1) % (m : Int) := Int.tmod_eq_emod_of_nonneg h0
    have h4 := Int.emod_nonneg (IntKind.u64.wrap a1) (show (m : Int) ≠ 0 by omega)
    have h5 := Int.emod_lt_of_pos (IntKind.u64.wrap a1) (show (0 : Int) < (m : Int) by omega)
    refine ⟨((IntKind.u64.wrap a1) % (m : Int)).toNat, ?_, by omega⟩
    rw [h3]; unfold wrap64; omega
  rw [hx]
  clear hx
  have e1 : (Fl.fresh 1).fail (x : Int) t = (0, Fl.armedAt x t) := by unfold Fl.fail; rw [if_neg (by omega)]; rfl
  have hf := fail_any h2 (x : Int) t
  rw [e1] at hf
  clear e1
  have HF := Lib.hid hf; clear hf
  refine HF.out.mono ?_
  rintro e w3 ⟨rfl, h3, ho3⟩
  have hm64 : m ≤ 64 := by omega
  have hpr := program_any h3 (by exact ⟨armed_len x t, by simp [Fl.armedAt, Fl.fresh], (fresh_ok 1 (by omega)).byte, by simp [Fl.armedAt, Fl.fresh], by simp [Fl.armedAt, Fl.fresh], by show x ≤ _; omega, ht⟩) (by show (0 : Nat) ≤ _; omega) 0 (by omega) (some ⟨gd, od, none⟩) cap l (by have := HL.out; omega) HB.out
    (.inr ⟨gd, od, rfl, by have := h1.size; omega, by have := h1.size; omega, by have := h1.size; have := ho2.size; have := ho3.size; omega, by have := HL.out; omega, fun j hj => by
      have hj' : j < 4 * m := by have := HL.out; omega
      have q := HC.out j hj'
      rw [← q]
      have e2 : Only [] w w2 := h1.trans ho2
      refine (ho3.cell (p := ⟨gd, od + j, none⟩) ?_ ?_).trans (e2.cell (p := ⟨gd, od + j, none⟩) hgd (by simp))
      · have := e2.size; show gd < w2.heap.size; omega
      · simp; have := h1.size; omega⟩)
  have htf := tears_first x m t l HL.out hm64 HB.out hxm
  rw [htf.1, show (l.length : Nat) = m * 4 from by have := HL.out; omega] at hpr
  have HPR := Lib.hid hpr; have HTF := Lib.hid htf; clear hpr htf
  have hok2 := (program_ok (F := Fl.armedAt x t) (by exact ⟨armed_len x t, by simp [Fl.armedAt, Fl.fresh], (fresh_ok 1 (by omega)).byte, by simp [Fl.armedAt, Fl.fresh], by simp [Fl.armedAt, Fl.fresh], by show x ≤ _; omega, ht⟩) 0 l)
  have HOK2 := Lib.hid hok2; clear hok2
  generalize ((Fl.armedAt x t).program 0 l).2 = F2 at *
  go_wp2_with fail
  refine HPR.out.mono ?_
  rintro e w4 ⟨rfl, h4, ho4⟩
  have hoff := off_any h4
  rw [HTF.out.2.1] at hoff
  have HOff := Lib.hid hoff; clear hoff
  go_wp2_with fail
  refine HOff.out.mono ?_
  rintro e w5 ⟨rfl, rfl⟩
  go_wp2_with fail
  refine (power_any h4).mono ?_
  rintro e w5 ⟨rfl, h5, ho5⟩
  have hF3 : ∃ F3 : Fl, F3 = { F2 with off := false, armed := false } := ⟨_, rfl⟩
  obtain ⟨F3, hF3⟩ := hF3
  rw [← hF3] at h5
  have b3 : F3.b = F2.b := by rw [hF3]
  have o3 : F3.off = false := by rw [hF3]
  have a3 : F3.armed = false := by rw [hF3]
  have i3 : F3.hi = 0 := by rw [hF3]; exact HTF.out.2.2.2.1
  have p3 : F3.ops = F2.ops := by rw [hF3]
  have k3 : F3.Ok := by rw [hF3]; exact ⟨HOK2.out.1.len, HOK2.out.1.pages, HOK2.out.1.byte, HOK2.out.1.lo, HOK2.out.1.hi, HOK2.out.1.left, HOK2.out.1.tear⟩
  have q3 : F3.b.length = 256 := by rw [b3]; exact HTF.out.2.2.2.2.1
  have er : F3.read 0 ((m : Int) * 4) = (some (F3.b.take (4 * m)), 0) := by
    unfold Fl.read
    rw [if_neg (by rw [o3]; simp), if_neg (by omega)]
    rw [show ((m : Int) * 4).toNat = 4 * m from by omega]; rfl
  have hrd := read_any h5 k3 0 ((m : Int) * 4) (by omega)
  rw [er] at hrd
  have HRD := Lib.hid hrd; have B3 := Lib.hid b3; have O3 := Lib.hid o3; have A3 := Lib.hid a3; have I3 := Lib.hid i3; have P3 := Lib.hid p3; have Q3 := Lib.hid q3
  clear hrd er b3 o3 a3 i3 p3 q3 hF3
  go_wp2_with fail
  refine HRD.out.mono ?_
  rintro e w6 ⟨v, rfl, ⟨hown, hne⟩, ho6⟩
  obtain ⟨gx, capx, hv, hgx, hgxl, hcx, hcm, hcells⟩ := own_open hown hne
  have hll : (bvals (F3.b.take (4 * m))).length = m * 4 := by rw [bvals_len, List.length_take, Q3.out]; omega
  rw [hll] at hv hcx
  subst hv
  clear hll hown hne
  have hx6 : ∀ j, j < 4 * m → w6.cell? ⟨gx, j, none⟩ = some (.int .u8 ((F2.b.getD j 0 : Nat) : Int)) := fun j hj => by
    refine hcells j _ ?_
    have hlt : j < (F3.b.take (4 * m)).length := by rw [List.length_take, Q3.out]; omega
    rw [bvals_get _ _ hlt]
    congr 3
    rw [List.getD_eq_getElem?_getD, List.getElem?_take, if_pos hj, ← List.getD_eq_getElem?_getD, B3.out]
  have ho2w : Only [] w w2 := h1.trans ho2
  have how : Only [g, gb] w2 w6 := (((ho3.to (by simp)).trans ho4).trans (ho5.to (by simp))).trans (ho6.to (by simp))
  have hww : Only [] w w6 := ho2w.then how (by intro y hy; simp at hy; have := h1.size; rcases hy with rfl | rfl <;> right <;> omega)
  have hb6 : ∀ j, j < 4 * m → w6.cell? ⟨gd, od + j, none⟩ = some (.int .u8 ((l.getD j 0 : Nat) : Int)) := fun j hj => (hww.cell (p := ⟨gd, od + j, none⟩) hgd (by simp)).trans (HC.out j hj)
  have HX := Lib.hid hx6; have HBB := Lib.hid hb6
  clear hx6 hb6 hcells
  go_wp2_with fail
  go_loopw [84] (fun i wr => ∃ k : Nat, i = .int .i64 (k : Int) ∧ k ≤ 4 * m ∧ Only [] w6 wr) (fun i _ => 4 * m - (intOf i).toNat)
  case atStart => exact ⟨0, rfl, by omega, Only.refl _ _⟩
  case round =>
    obtain ⟨k, rfl, hk, hor⟩ := hrel
    by_cases hlt : k < 4 * m
    · have cx := (hor.cell (p := ⟨gx, k, none⟩) hgxl (by simp)).trans (HX.out k hlt)
      have cb := (hor.cell (p := ⟨gd, od + k, none⟩) (by have := hww.size; show gd < _; omega) (by simp)).trans (HBB.out k hlt)
      have hrel := HTF.out.2.2.2.2.2 k (by omega)
      have hbl := getD_lt HB.out k
      have hxl : F2.b.getD k 0 < 256 := getD_lt HOK2.out.1.byte k
      have hk1 : (k : Int) < (m : Int) * 4 := by omega
      generalize hxv : F2.b.getD k 0 = xv at *
      generalize hbv : l.getD k 0 = bv at *
      clear hxv hbv
      by_cases hc1 : k < 4 * x
      · rw [if_pos hc1] at hrel
        have hq : ((xv : Int) != (bv : Int)) = false := by rw [hrel]; simp
        clear hrel
        go_wp2_with fail
        go_quiet (fail)
        go_wp2_with fail
        go_roundw
        case rel => exact ⟨k + 1, by go_num, by omega, hor.trans (drewN_only _ _)⟩
        case measure => simp [intOf]; omega
      · rw [if_neg hc1] at hrel
        by_cases hc2 : k < 4 * x + 4
        · rw [if_pos hc2] at hrel
          have hq : ((bits BinOp.or IntKind.u8 (xv : Int) (bv : Int)) != (xv : Int)) = false := by rw [u8_or_nat _ _ hxl hbl, hrel]; simp
          clear hrel
          go_wp2_with fail
          go_quiet (fail)
          go_wp2_with fail
          go_roundw
          case rel => exact ⟨k + 1, by go_num, by omega, hor.trans (drewN_only _ _)⟩
          case measure => simp [intOf]; omega
        · rw [if_neg hc2] at hrel
          subst hrel
          go_wp2_with fail
          go_roundw
          case rel => exact ⟨k + 1, by go_num, by omega, hor⟩
          case measure => simp [intOf]; omega
    · have hk4 : k = 4 * m := by omega
      subst hk4
      clear hlt
      have hr5 := h5.only (ho6.trans hor) (by simp) (by simp) (by simp)
      have hwr : Only [] w wr := hww.trans hor
      have hag := tears_again F3 m l HL.out (by rw [Q3.out]; omega) HB.out k3.byte A3.out O3.out I3.out (fun i hi => by
        rw [B3.out]
        have h9 := HTF.out.2.2.2.2.2 i (by omega)
        split at h9
        · rw [h9, Nat.or_self]
        · split at h9
          · exact h9
          · rw [h9]
            have hb8 := getD_lt HB.out i
            apply Nat.eq_of_testBit_eq
            intro j
            rw [Nat.testBit_or, show (255 : Nat) = 2 ^ 8 - 1 from rfl, Nat.testBit_two_pow_sub_one]
            by_cases hj : j < 8
            · simp [hj]
            · have : (l.getD i 0).testBit j = false := Nat.testBit_lt_two_pow (Nat.lt_of_lt_of_le hb8 (Nat.pow_le_pow_right (n := 2) (by decide) (by omega : 8 ≤ j)))
              simp only [this, Bool.or_false])
      have hp2 := program_any hr5 k3 (by rw [P3.out]; have h9 := HOK2.out.2.1; have hz : (Fl.armedAt x t).ops = 0 := rfl; have := HL.out; rw [hz] at h9; omega) 0 (by omega) (some ⟨gd, od, none⟩) cap l (by have := HL.out; omega) HB.out
        (.inr ⟨gd, od, rfl, by have := h1.size; omega, by have := h1.size; omega, by have := hwr.size; omega, by have := HL.out; omega, fun j hj => by
          have hj' : j < 4 * m := by have := HL.out; omega
          exact (hor.cell (p := ⟨gd, od + j, none⟩) (by have := hww.size; show gd < _; omega) (by simp)).trans (HBB.out j hj')⟩)
      have hok4 := (program_ok k3 0 l).1
      rw [hag.1, show (l.length : Nat) = m * 4 from by have := HL.out; omega] at hp2
      have HP2 := Lib.hid hp2; have HAG := Lib.hid hag; have HOK4 := Lib.hid hok4; clear hp2 hag hok4
      generalize (F3.program 0 l).2 = F4 at *
      go_wp2_with fail
      refine HP2.out.mono ?_
      rintro e w7 ⟨rfl, h7, ho7⟩
      have er : F4.read 0 ((m : Int) * 4) = (some l, 0) := by
        unfold Fl.read
        rw [if_neg (by rw [HAG.out.2.1]; simp), if_neg (by rw [HAG.out.2.2.1, Q3.out]; omega)]
        rw [show ((m : Int) * 4).toNat = 4 * m from by omega]
        show (some (F4.b.take (4 * m)), 0) = _
        rw [HAG.out.2.2.2]
      have hrd := read_any h7 HOK4.out 0 ((m : Int) * 4) (by omega)
      rw [er] at hrd
      have HRD := Lib.hid hrd
      clear hrd er
      go_wp2_with fail
      refine HRD.out.mono ?_
      rintro e w8 ⟨v, rfl, ⟨hown, hne⟩, ho8⟩
      obtain ⟨gy, capy, hv, hgy, hgyl, hcy, hcmy, hcells⟩ := own_open hown hne
      have hll : (bvals l).length = m * 4 := by rw [bvals_len, HL.out]; omega
      rw [hll] at hv
      subst hv
      have how8 : Only [] w w8 := (hwr.then ho7 (by intro y hy; simp at hy; have := h1.size; rcases hy with rfl | rfl <;> right <;> omega)).trans ho8
      have cy := conv_bytes w8 gy 0 (m * 4) capy l (by rw [HL.out]; omega) (fun i hi => by
        rw [Nat.zero_add]; exact hcells i _ (bvals_get l i (by rw [HL.out]; omega)))
      have cb := conv_bytes w8 gd od (m * 4) cap l (by rw [HL.out]; omega) (fun i hi => (how8.cell (p := ⟨gd, od + i, none⟩) hgd (by simp)).trans (HC.out i (by omega)))
      clear hll hown hne hcells hcy hcmy hcm hcx
      go_wp2_with fail
      go_ret
      exact ⟨by simp, how8⟩

theorem own : ownKnob Try.prog.godebug = none := by kernel_rfl
theorem laidOut : laidOutB Try.prog = true := by kernel_rfl

/-- WHAT THE WALK IS TOLD OF A SLICE OF INTEGERS THAT CAME IN: it is nil; or it leads to a row of 'cap' cells, the numbers 'zs' (the first 'len' are its elements, the rest its spare room), each fitting its kind. -/
def IsRow (k : IntKind) (w : World) (a : Option Addr) (len cap : Nat) (zs : List Int) : Prop :=
  (a = none ∧ len = 0 ∧ cap = 0 ∧ zs = []) ∨
  ∃ x, a = some x ∧ len ≤ cap ∧ cap ≤ maxLen ∧ zs.length = cap ∧ (∀ i, i < zs.length → w.cell? (x.add i) = some (.int k (zs.getD i 0))) ∧ ∀ n ∈ zs, (Lit.int k n).wf = true


theorem walk (a0 : Option Addr) (len0 cap0 : Nat) (z0 : List Int) (a1 : Int) (a2 : Int) (w : World) (w0 : IsRow .u8 w a0 len0 cap0 z0) (w1 : (Lit.int .i64 a1).wf = true) (w2 : (Lit.int .u32 a2).wf = true) :
    Calls Try.prog 3 #[.slice a0 len0 cap0, .int .i64 a1, .int .u32 a2] w fun e w' => e = .returned (.bool true) ∧ Below w.heap.size w w' := by
  have hlc : len0 ≤ cap0 ∧ cap0 ≤ 9223372036854775807 := by
    rcases w0 with ⟨_, rfl, rfl, _⟩ | ⟨x, _, h1, h2, _⟩
    · exact ⟨Nat.le_refl _, Nat.zero_le _⟩
    · refine ⟨h1, ?_⟩; simp only [maxLen] at h2; omega
  by_cases hlong : 256 < len0
  · exact (walk_long a0 len0 cap0 a1 a2 w hlong (by omega)).mono fun e w' h => ⟨h.1, h.2.toGrow⟩
  · have b2 : 0 ≤ a2 ∧ a2 ≤ 4294967295 := by simpa [Lit.wf, IntKind.min, IntKind.max, IntKind.signed, IntKind.bits] using w2
    have b1 : -9223372036854775808 ≤ a1 ∧ a1 ≤ 9223372036854775807 := by simpa [Lit.wf, IntKind.min, IntKind.max, IntKind.signed, IntKind.bits] using w1
    obtain ⟨t, rfl⟩ := Int.eq_ofNat_of_zero_le b2.1
    by_cases hshort : len0 < 4
    · exact (walk_short a0 len0 cap0 a1 t w hshort hlc.1 (by omega)).mono fun e w' h => ⟨h.1, h.2.toGrow⟩
    · rcases w0 with ⟨_, rfl, _, _⟩ | ⟨x, rfl, h1, h2, hz, hcell, hwf⟩
      · omega
      · obtain ⟨gd, od, rfl, hc⟩ := ints_at hcell (by omega)
        have hbyte : ∀ y ∈ z0, 0 ≤ y ∧ y ≤ 255 := fun y hy => by
          have := hwf y hy
          simpa [Lit.wf, IntKind.min, IntKind.max, IntKind.signed, IntKind.bits] using this
        have hget : ∀ j, j < z0.length → 0 ≤ z0.getD j 0 ∧ z0.getD j 0 ≤ 255 := fun j hj => by
          rw [List.getD_eq_getElem?_getD, List.getElem?_eq_getElem hj]; exact hbyte _ (List.getElem_mem hj)
        have hgd : gd < w.heap.size := World.block_lt_of_cell? w _ (hc 0 (by omega))
        refine (walk_go gd od len0 cap0 (len0 / 4) ((z0.take (4 * (len0 / 4))).map Int.toNat) a1 t w (by omega) rfl (by omega) hlc.1 (by omega) (by rw [List.length_map, List.length_take]; omega) ?_ (fun j hj => ?_) b1 hgd).mono fun e w' h => ⟨h.1, h.2.toGrow⟩
        · intro y hy
          obtain ⟨q, hq, rfl⟩ := List.mem_map.1 hy
          have := hbyte q (List.mem_of_mem_take hq); omega
        · have hj2 : j < z0.length := by omega
          rw [hc j hj2]
          have hg := hget j hj2
          have e : ((z0.take (4 * (len0 / 4))).map Int.toNat).getD j 0 = (z0.getD j 0).toNat := by
            rw [List.getD_eq_getElem?_getD, List.getElem?_map, List.getElem?_take, if_pos hj, List.getD_eq_getElem?_getD, List.getElem?_eq_getElem hj2]; rfl
          rw [e]; congr 2; omega

/-! ### THE ROW's STEP: WRITTEN OUT: LEAVE IT -/
set_option maxRecDepth 100000 in
theorem lifted (os : Os) (started : os.Started) (H : Type) (enc : TypeId × Value → H) :
    ReturnsInHanded {} Try.checked os 3 .any (Rows.flashTearsSpec.pre6 enc Try.prog Try.f3 Rows.flashTearsRow.domain false) (Rows.flashTearsSpec.post enc Try.prog Try.f3 false true false false) := by
  refine returnsInHanded_of_change (C := Try.checked) own started (by kernel_rfl) Try.func3
    (ChangeSpec.witness6 (enc := enc) (C := Try.checked) false ⟨#[], #[.slice none 0 0, .int .i64 0, .int .u32 0], []⟩ 8 (by kernel_rfl) (by kernel_rfl) (by kernel_rfl) (by kernel_rfl)) ?_
  intro W base args ds gs before hval0 hW hcnd _
  have hval : ∀ (j : Nat) t v, Try.f3.params[j]? = some t → args[j]? = some v → Value.okWide Try.prog W .any base t v := hval0
  have hW' := hW
  obtain ⟨p, q, hA0, hV, rfl, hfz, hnd⟩ := hW
  have hA : DataW.TrodAll enc Try.prog W 0 (fun _ => true) true Try.f3.params.toList args.toList ds p := hA0
  rw [Try.params3] at hA hval
  obtain ⟨v0, vs0, d0, ds0, p0, q0, hargs, rfl, rfl, h0, r0⟩ := trodAll_cons hA
  obtain ⟨v1, vs1, d1, ds1, p1, q1, rfl, rfl, rfl, h1, r1⟩ := trodAll_cons r0
  obtain ⟨v2, vs2, d2, ds2, p2, q2, rfl, rfl, rfl, h2, r2⟩ := trodAll_cons r1
  obtain ⟨rfl, rfl, rfl⟩ := trodAll_nil r2
  obtain rfl : args = #[v0, v1, v2] := by cases args; simp_all
  obtain ⟨rfl, rfl⟩ := trodVars_none hV
  obtain ⟨a0, len0, cap0, rfl⟩ := okWide_slice Try.underlying22 (hval 0 22 v0 rfl rfl)
  have k0 := h0
  have lt0 : ∀ x ∈ p0, x.block < W.heap.size := by obtain ⟨m, hm⟩ := k0; exact DataW.trod_lt m _ _ _ hm
  obtain ⟨z0, w0⟩ : ∃ zs, IsRow .u8 W a0 len0 cap0 zs := by
    obtain ⟨fuel, hf⟩ := h0
    rcases open_ints Try.underlying22 Try.underlying5 (by kernel_rfl) hf with ⟨hcs, _⟩ | ⟨x, l, c, zs, hcs, _, hl, hm, hz, _, hcell, hwz⟩
    · simp [Value.cells] at hcs
      obtain ⟨rfl, rfl, rfl⟩ := hcs
      exact ⟨[], .inl ⟨rfl, rfl, rfl, rfl⟩⟩
    · simp [Value.cells] at hcs
      obtain ⟨rfl, rfl, rfl⟩ := hcs
      exact ⟨zs, .inr ⟨_, rfl, hl, hm, by simpa using hz, hcell, hwz⟩⟩
  obtain ⟨a1, rfl, rfl, rfl, w1⟩ := open_int Try.underlying3 (hval 1 3 v1 rfl rfl) h1
  obtain ⟨a2, rfl, rfl, rfl, w2⟩ := open_int Try.underlying23 (hval 2 23 v2 rfl rfl) h2
  clear hA0 hval0
  refine (walk a0 len0 cap0 z0 a1 a2 W w0 w1 w2).mono fun e W' ⟨he, bel⟩ => ?_
  subst he
  exact ⟨_, rfl, _, _, _, [], _, [], hW', trodAll_mk1 (shut_bool Try.underlying4 _), (trodAll_cons_mk (Below.trod laidOut (by kernel_rfl) (of_decide_eq_true (by kernel_rfl)) k0 bel lt0) (trodAll_cons_mk (shut_int Try.underlying3 w1) (trodAll_cons_mk (shut_int Try.underlying23 w2) trodAll_mk0))), rfl, bel.frame _, fun h => by cases h⟩

theorem over : Rows.flashTearsRow.holds Try.pinned (OpenSpec.ofChange Rows.flashTearsSpec) :=
  OpenClaim.holds_of_wide 3 Try.f3 rfl rfl rfl rfl rfl rfl rfl ⟨rfl, rfl, rfl, rfl, rfl⟩ rfl rfl rfl rfl rfl (by kernel_rfl) Try.func3 (by kernel_rfl)
    (of_decide_eq_true (by kernel_rfl)) (by unfold Func.isWrapper; first | (rw [if_pos (by decide +kernel)]; kernel_rfl) | (rw [if_neg (by decide +kernel)]; exact ⟨rfl, rfl⟩))
    (fun os started H enc _ => lifted os started H enc)

/-- ████ THE STATEMENT ████ -/
theorem proved : Rows.FlashTearsSaid := over
#print axioms proved
end Go.Proofs.Ytmlahbmaomoiaaa.flashTears
