/-
  Flash: words in bytes; a word that is programmed.
-/
import Derived.Test.YtmlahbmaomoiaaaFlA
import Derived.Deep.QuietTactic
import Derived.BigQuiet
import Derived.Laws.BitsAllLaws
namespace Go.Proofs.Ytmlahbmaomoiaaa
open Go.RowKit

def putk (l : List Nat) (i w : Nat) : Nat → List Nat
  | 0 => l
  | k + 1 => (putk l i w k).set (i + k) (w / 2 ^ (8 * k) % 256)
theorem putk_len (l : List Nat) (i w : Nat) : ∀ k, (putk l i w k).length = l.length
  | 0 => rfl
  | k + 1 => by simp [putk, putk_len l i w k]
def putw (l : List Nat) (i w : Nat) : List Nat := putk l i w 4
theorem putw_len (l : List Nat) (i w : Nat) : (putw l i w).length = l.length := putk_len l i w 4
def getw (l : List Nat) (i : Nat) : Nat := l.getD i 0 + 256 * l.getD (i + 1) 0 + 65536 * l.getD (i + 2) 0 + 16777216 * l.getD (i + 3) 0

theorem drewN_only (w : World) (n : Nat) : Only [] w (w.drewN n) := ⟨rfl, rfl, rfl, Nat.le_refl _, fun _ _ _ => rfl⟩

set_option maxHeartbeats 400000 in
theorem put_any (g off n cap : Nat) (l : List Nat) (x : Nat) (w : World) (hn : 4 ≤ n) (hl : off + 4 ≤ l.length) (hx : x < 4294967296) (hb : Blk w g (bcells l) 5) :
    Calls Try.prog 129 #[.slice (some ⟨g, off, none⟩) n cap, .int .u32 (x : Int)] w fun e w' => e = .returned (.tuple #[]) ∧ Blk w' g (bcells (putw l off x)) 5 ∧ Only [g] w w' := by
  go_enter Try.func129, Try.ntmps129
  go_wp2
  go_loopw [4, 5] (fun _ i wr => ∃ k : Nat, k ≤ 4 ∧ i = .int .i64 (k : Int) ∧ Blk wr g (bcells (putk l off x k)) 5 ∧ Only [g] w wr) (fun _ i _ => 4 - (intOf i).toNat)
  case atStart => exact ⟨0, by omega, rfl, hb, Only.refl _ _⟩
  case round =>
    obtain ⟨k, hk, rfl, hbk, hok⟩ := hrel
    by_cases hlt : k < 4
    · have hc : wr.cell? ⟨g, off + k, none⟩ = some (.int .u8 (((putk l off x k).getD (off + k) 0 : Nat) : Int)) := (hbk.cell _).trans (bcells_get _ _ (by rw [putk_len]; omega))
      have hf := hbk.free (off + k)
      go_wp2
      go_roundw
      case rel =>
        refine ⟨k + 1, by omega, by go_num, ?_, hok.setCell (by simp) _⟩
        have e : ((x : Int) / 2 ^ (8 * k) % 256) = ((x / 2 ^ (8 * k) % 256 : Nat) : Int) := by rw [Int.natCast_emod, Int.natCast_ediv, Int.natCast_pow]; rfl
        rw [e]
        have := hbk.set (off + k) (.int .u8 ((x / 2 ^ (8 * k) % 256 : Nat) : Int))
        rw [bcells_set] at this
        exact this
      case measure => simp [intOf]; omega
    · have hk4 : k = 4 := by omega
      subst hk4
      go_wp2
      go_end0
      exact ⟨rfl, hbk, hok⟩

theorem or_u32 (k : Nat) (x y : Int) (hk : k ≤ 32) (hx₀ : 0 ≤ x) (hx : x % 2 ^ k = 0) (hx₁ : x < 2 ^ 32) (hy₀ : 0 ≤ y) (hy : y < 2 ^ k) : bits .or .u32 y x = x + y := by
  have hy1 : y < 2 ^ 32 := Int.lt_of_lt_of_le hy (by exact_mod_cast Nat.pow_le_pow_right (by decide : 0 < 2) hk)
  have h := bits_join .u32 32 (by decide) (fun n h₀ h₁ => by rw [IntKind.wrap_u32]; omega) k x y hx₀ hx hx₁ hy₀ hy hy1
  obtain ⟨a, rfl⟩ := Int.eq_ofNat_of_zero_le hx₀
  obtain ⟨b, rfl⟩ := Int.eq_ofNat_of_zero_le hy₀
  have ha : a < 2 ^ 32 := by exact_mod_cast hx₁
  have hb : b < 2 ^ 32 := by exact_mod_cast hy1
  have hw : ∀ n : Int, 0 ≤ n → n < 2 ^ 32 → IntKind.u32.wrap n = n := fun n h₀ h₁ => by rw [IntKind.wrap_u32]; omega
  rw [← h, (bits_nat .u32 32 (by decide) hw a b ha hb).2, (bits_nat .u32 32 (by decide) hw b a hb ha).2, Nat.or_comm]

theorem or_bytes (a b c d : Int) (ha : 0 ≤ a ∧ a ≤ 255) (hb : 0 ≤ b ∧ b ≤ 255) (hc : 0 ≤ c ∧ c ≤ 255) (hd : 0 ≤ d ∧ d ≤ 255) :
    bits .or .u32 (bits .or .u32 (bits .or .u32 a (b * 256)) (c * 65536)) (d * 16777216) = a + 256 * b + 65536 * c + 16777216 * d := by
  rw [or_u32 8 (b * 256) a (by decide) (by omega) (by omega) (by omega) (by omega) (by omega),
    or_u32 16 (c * 65536) _ (by decide) (by omega) (by omega) (by omega) (by omega) (by omega),
    or_u32 24 (d * 16777216) _ (by decide) (by omega) (by omega) (by omega) (by omega) (by omega)]
  omega

/-- A slice of bytes that is read: it is nil, or its bytes lie one behind the other. -/
def RdB (w : World) (v : Value) (l : List Nat) : Prop :=
  (v = .slice none 0 0 ∧ l = []) ∨ ∃ g off cap, v = .slice (some ⟨g, off, none⟩) l.length cap ∧ l.length ≤ cap ∧ cap ≤ maxLen ∧ g < w.heap.size ∧
    (∀ j, j < l.length → w.cell? ⟨g, off + j, none⟩ = some (.int .u8 ((l.getD j 0 : Nat) : Int)))

set_option maxHeartbeats 400000 in
theorem get_at (g off n cap : Nat) (l : List Nat) (i : Nat) (w : World) (hn : 4 ≤ n) (hl : ∀ j, j < 4 → l.getD (i + j) 0 < 256)
   (hc : ∀ j, j < 4 → w.cell? ⟨g, off + j, none⟩ = some (.int .u8 ((l.getD (i + j) 0 : Nat) : Int))) :
    Calls Try.prog 85 #[.slice (some ⟨g, off, none⟩) n cap] w fun e w' => e = .returned (.int .u32 (getw l i : Nat)) ∧ Only [] w w' := by
  have k0 : (0 : Int) < n := by omega
  have k1 : (1 : Int) < n := by omega
  have k2 : (2 : Int) < n := by omega
  have k3 : (3 : Int) < n := by omega
  have h0 := hc 0 (by omega)
  have h1 := hc 1 (by omega)
  have h2 := hc 2 (by omega)
  have h3 := hc 3 (by omega)
  have b0 := hl 0 (by omega)
  have b1 := hl 1 (by omega)
  have b2 := hl 2 (by omega)
  have b3 := hl 3 (by omega)
  clear hc hl
  simp only [Nat.add_zero] at h0 b0
  have e : (getw l i : Nat) = l.getD i 0 + 256 * l.getD (i + 1) 0 + 65536 * l.getD (i + 2) 0 + 16777216 * l.getD (i + 3) 0 := rfl
  have E := Lib.hid e; clear e
  generalize l.getD i 0 = a at *
  generalize l.getD (i + 1) 0 = b at *
  generalize l.getD (i + 2) 0 = c at *
  generalize l.getD (i + 3) 0 = d at *
  go_enter Try.func85, Try.ntmps85
  go_wp2
  go_quiet (fail)
  go_wp2
  go_ret
  refine ⟨ret_num ?_, drewN_only _ _⟩
  refine (or_bytes a b c d (by omega) (by omega) (by omega) (by omega)).trans ?_
  rw [E.out]
  omega

theorem not_u32 (x : Nat) (h : x < 4294967296) : (4294967295 ^^^ x) = 4294967295 - x := by
  apply Nat.eq_of_testBit_eq
  intro i
  rw [Nat.testBit_xor, show 4294967295 - x = 2 ^ 32 - (x + 1) from by omega, Nat.testBit_two_pow_sub_succ h, show (4294967295 : Nat) = 2 ^ 32 - 1 from rfl, Nat.testBit_two_pow_sub_one]
  by_cases hi : i < 32
  · simp [hi]
  · have : x.testBit i = false := Nat.testBit_lt_two_pow (Nat.lt_of_lt_of_le h (Nat.pow_le_pow_right (n := 2) (by decide) (by omega : 32 ≤ i)))
    simp [hi, this]
def tornw (was x tear : Nat) : Nat := was &&& (4294967295 - ((4294967295 - x) &&& tear))
theorem torn_u32 (was x tear : Nat) (hw : was < 4294967296) (hx : x < 4294967296) (ht : tear < 4294967296) :
    bits .andNot .u32 (was : Int) (bits .and .u32 (bits .xor .u32 (if IntKind.u32.signed = true then -1 else IntKind.u32.max) (x : Int)) (tear : Int)) = ((tornw was x tear : Nat) : Int) := by
  rw [show (if IntKind.u32.signed = true then (-1 : Int) else IntKind.u32.max) = ((4294967295 : Nat) : Int) from rfl, u32_xor_nat _ _ (by decide) hx, not_u32 x hx, u32_and_nat _ _ (by omega) ht,
    u32_andNot_nat _ _ hw (Nat.lt_of_le_of_lt (m := 4294967295 - x) Nat.and_le_left (by omega))]
  rfl
theorem tornw_lt (was x tear : Nat) (hw : was < 4294967296) : tornw was x tear < 4294967296 := Nat.lt_of_le_of_lt Nat.and_le_left hw

namespace Fl
/-- A word that is programmed: the error; the flash behind it. -/
def word (F : Fl) (at_ w : Nat) : Nat × Fl :=
  let was := getw F.b at_
  if F.step.1 = false then (5, { F.step.2 with b := putw F.b at_ (tornw was w F.tear) })
  else if was &&& w = w then (0, { F.step.2 with b := putw F.b at_ (was &&& w) })
  else (6, { F.step.2 with b := putw F.b at_ (was &&& w) })
theorem step_b (F : Fl) : F.step.2.b = F.b := by unfold step; split <;> rfl
theorem step_tear (F : Fl) : F.step.2.tear = F.tear := by unfold step; split <;> rfl
theorem step_worn (F : Fl) : F.step.2.worn = F.worn := by unfold step; split <;> rfl
end Fl

theorem IsFl.setBytes {w w' : World} {g gb ge : Nat} {F : Fl} (h : IsFl w g gb ge F) {l : List Nat} (hb : Blk w' gb (bcells l) 5) (ho : Only [gb] w w') (hl : l.length = F.b.length) : IsFl w' g gb ge { F with b := l } :=
  ⟨by have := ho.blk h.main (by simpa using h.gb_ne); unfold flCells at *; simpa [hl] using this, hb, ho.blk h.wear (by simpa using Ne.symm h.be_ne), h.gb_ne, h.ge_ne, h.be_ne⟩

theorem getD_lt {l : List Nat} (h : ∀ x ∈ l, x < 256) (i : Nat) : l.getD i 0 < 256 := by
  by_cases hi : i < l.length
  · rw [List.getD_eq_getElem?_getD, List.getElem?_eq_getElem hi]; exact h _ (List.getElem_mem hi)
  · rw [List.getD_eq_getElem?_getD, List.getElem?_eq_none (by omega)]; decide
theorem getw_lt {l : List Nat} (h : ∀ x ∈ l, x < 256) (i : Nat) : getw l i < 4294967296 := by
  have h0 := getD_lt h i; have h1 := getD_lt h (i + 1); have h2 := getD_lt h (i + 2); have h3 := getD_lt h (i + 3)
  unfold getw; omega

set_option maxRecDepth 100000 in
set_option maxHeartbeats 1000000 in
theorem word_any {w : World} {g gb ge : Nat} {F : Fl} (h : IsFl w g gb ge F) (k : F.Ok) (h0 : F.ops ≤ 4611686018427387904) (i x : Nat) (hi : i + 4 ≤ F.b.length) (hx : x < 4294967296) :
    Calls Try.prog 84 #[.pointer (some ⟨g, 0, none⟩), .int .i64 (i : Int), .int .u32 (x : Int)] w fun e w' => e = .returned (.int .i64 ((F.word i x).1 : Int)) ∧ IsFl w' g gb ge (F.word i x).2 ∧ Only [g, gb] w w' := by
  obtain ⟨c0, c1, c2, c3, c4, c5, c6, c7, c8, cf⟩ := h.cells
  have hlen : F.b.length ≤ 16384 := by have := k.len; have := k.pages; omega
  clear c1 c2 c3 c4 c5 c7 c8 cf
  have hb4 : ∀ j, j < 4 → w.cell? ⟨gb, i + j, none⟩ = some (.int .u8 ((F.b.getD (i + j) 0 : Nat) : Int)) := fun j hj => (h.bytes.cell _).trans (bcells_get _ _ (by omega))
  have hwas : getw F.b i < 4294967296 := getw_lt k.byte i
  have hleft := k.left
  have htear := k.tear
  have h95 := fun w1 (h1 : IsFl w1 g gb ge F) => step_any h1 h0 hleft
  have h85 := get_at gb i (F.b.length - i) (F.b.length - i) F.b i w (by omega) (fun j _ => getD_lt k.byte _) hb4
  have H85 := Lib.hid h85; have H95 := Lib.hid h95; clear h85 h95 hb4
  generalize hwv : getw F.b i = was at *
  have HW := Lib.hid hwv; clear hwv
  go_enter Try.func84, Try.ntmps84
  go_wp2_with fail
  refine H85.out.mono ?_
  rintro e w1 ⟨rfl, ho1⟩
  have h1 := h.only ho1 (by simp) (by simp) (by simp)
  go_wp2_with fail
  refine (H95.out w1 h1).mono ?_
  rintro e w2 ⟨rfl, h2, ho2⟩
  obtain ⟨d0, d1, d2, d3, d4, d5, d6, d7, d8, df⟩ := h2.cells
  rw [Fl.step_b] at d0
  rw [Fl.step_tear] at d6
  clear c0 c6 d1 d2 d3 d4 d5 d7 d8 df
  have hg := h2.main.lt
  have hb2 := h2.bytes
  rw [Fl.step_b] at hb2
  have hlb : i + 4 ≤ F.b.length := hi
  by_cases hs : F.step.1 = true
  · by_cases hx2 : was &&& x = x
    · have e : F.word i x = (0, { F.step.2 with b := putw F.b i (was &&& x) }) := by unfold Fl.word; rw [if_neg (by rw [hs]; simp), HW.out, if_pos hx2]
      have E := Lib.hid e; clear e
      have ha := u32_and_nat was x hwas hx
      have hxx := Lib.hid hx2; clear hx2
      have HA := Lib.hid ha; clear ha
      go_wp2_with fail
      rw [HA.out]
      have hlt : was &&& x < 4294967296 := Nat.lt_of_le_of_lt Nat.and_le_left hwas
      refine (put_any gb i _ _ F.b (was &&& x) _ (by omega) hlb hlt hb2).mono ?_
      rintro e w3 ⟨rfl, hb3, ho3⟩
      have h3 := h2.setBytes hb3 ho3 (by rw [putw_len, Fl.step_b])
      have hq : ((bits BinOp.and IntKind.u32 (was : Int) (x : Int)) != (x : Int)) = false := by rw [HA.out, hxx.out]; simp
      go_wp2_with fail
      go_ret
      rw [E.out]
      exact ⟨rfl, h3, ((ho1.to (by simp)).trans (ho2.to (by simp))).trans (ho3.to (by simp))⟩
    · have e : F.word i x = (6, { F.step.2 with b := putw F.b i (was &&& x) }) := by unfold Fl.word; rw [if_neg (by rw [hs]; simp), HW.out, if_neg hx2]
      have E := Lib.hid e; clear e
      have ha := u32_and_nat was x hwas hx
      have hxx := Lib.hid hx2; clear hx2
      have HA := Lib.hid ha; clear ha
      go_wp2_with fail
      rw [HA.out]
      have hlt : was &&& x < 4294967296 := Nat.lt_of_le_of_lt Nat.and_le_left hwas
      refine (put_any gb i _ _ F.b (was &&& x) _ (by omega) hlb hlt hb2).mono ?_
      rintro e w3 ⟨rfl, hb3, ho3⟩
      have h3 := h2.setBytes hb3 ho3 (by rw [putw_len, Fl.step_b])
      have hq : ((bits BinOp.and IntKind.u32 (was : Int) (x : Int)) != (x : Int)) = true := by rw [HA.out, bne_iff_ne]; intro hc; exact hxx.out (by exact_mod_cast hc)
      go_wp2_with fail
      go_ret
      rw [E.out]
      exact ⟨rfl, h3, ((ho1.to (by simp)).trans (ho2.to (by simp))).trans (ho3.to (by simp))⟩
  · have e : F.word i x = (5, { F.step.2 with b := putw F.b i (tornw was x F.tear) }) := by unfold Fl.word; rw [if_pos (by simpa using hs), HW.out]
    have E := Lib.hid e; clear e
    go_wp2_with fail
    refine region_free mixed 15 [0, 1, 3, 7, 0, 31, 0, 0, 128, 0, 512, 1536, 3584, 8064, 16320, 32767] (by kernel_rfl) (Only []) (Only.refl _) (fun _ _ _ => Only.trans) ?_
    simp only [List.take_succ_cons, List.take_zero, List.drop_succ_cons, List.drop_zero]
    clear H95 H85 HW
    iterate 15
      refine wpFree_op (Only.refl _) ?_ (fun V w _ => rfl) ?_ ?_
      rotate_left
      · intro V w1 hE hF K hK
        simp only [facts, Nat.reduceMod, Nat.reduceDiv, Nat.reduceEqDiff, forall_const, false_implies, List.append_nil, List.nil_append, List.cons_append, true_and, and_true] at hF
        have q0 := (hE.cell (p := ⟨g, 0, none⟩) hg (by simp)).trans d0
        have q6 := (hE.cell (p := ⟨g, 6, none⟩) hg (by simp)).trans d6
        go_step
        exact hK
      simp only [Act.put, List.setIfInBounds_toArray, List.set_cons_succ, List.set_cons_zero, Nat.reduceAdd, Nat.zero_add]
    refine wpFree_nil ?_
    intro V w3 hE hR
    simp only [allR, List.nil_append, List.cons_append] at hR
    simp only [hR]
    clear hR
    rw [torn_u32 was x F.tear hwas hx htear]
    go_wp2_with fail
    refine (put_any gb i _ _ F.b (tornw was x F.tear) _ (by omega) hlb (tornw_lt _ _ _ hwas) (hE.blk hb2 (by simp))).mono ?_
    rintro e w4 ⟨rfl, hb4, ho4⟩
    have h4 := (h2.only (Only.drew (Only.refl [] _) |>.trans hE) (by simp) (by simp) (by simp)).setBytes hb4 ho4 (by rw [putw_len, Fl.step_b])
    go_wp2_with fail
    go_ret
    rw [E.out]
    exact ⟨rfl, h4, ((((ho1.to (by simp)).trans (ho2.to (by simp))).trans (Only.drew (Only.refl _ _))).trans (hE.to (by simp))).trans (ho4.to (by simp))⟩
end Go.Proofs.Ytmlahbmaomoiaaa
