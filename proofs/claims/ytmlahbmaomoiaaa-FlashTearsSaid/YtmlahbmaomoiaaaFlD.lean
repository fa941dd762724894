/-
  Flash: Program.
-/
import Derived.Test.YtmlahbmaomoiaaaFlC
namespace Go.Proofs.Ytmlahbmaomoiaaa
open Go.RowKit

namespace Fl
def lockHit (F : Fl) (a n : Nat) : Prop := 0 < n ∧ a / 256 < F.hi ∧ F.lo ≤ (a + n - 1) / 256 ∧ F.lo < F.hi
instance (F : Fl) (a n : Nat) : Decidable (F.lockHit a n) := by unfold lockHit; infer_instance
/-- The first k words are programmed. -/
def words (F : Fl) (a : Nat) (l : List Nat) : Nat → Nat × Fl
  | 0 => (0, F)
  | k + 1 => if (words F a l k).1 = 0 then (words F a l k).2.word (a + 4 * k) (getw l (4 * k)) else words F a l k
def progGo (F : Fl) (a : Nat) (l : List Nat) : Nat × Fl := if F.lockHit a l.length then (4, F) else F.words a l (l.length / 4)
def program (F : Fl) (a : Int) (l : List Nat) : Nat × Fl :=
  if F.off = true then (5, F)
  else if a % 4 ≠ 0 ∨ l.length % 4 ≠ 0 then (2, F)
  else if a < 0 ∨ (F.b.length : Int) < a ∨ (F.b.length : Int) - a < l.length then (3, F)
  else F.progGo a.toNat l
end Fl

theorem putk_byte {l : List Nat} (h : ∀ x ∈ l, x < 256) (i w : Nat) : ∀ k, ∀ x ∈ putk l i w k, x < 256
  | 0 => h
  | k + 1 => fun x hx => by
    rcases List.mem_or_eq_of_mem_set hx with h1 | h1
    · exact putk_byte h i w k x h1
    · subst h1; exact Nat.mod_lt _ (by decide)
theorem step_ok {F : Fl} (h : F.Ok) : F.step.2.Ok := by
  unfold Fl.step; split
  · exact ⟨h.len, h.pages, h.byte, h.lo, h.hi, h.left, h.tear⟩
  · refine ⟨h.len, h.pages, h.byte, h.lo, h.hi, ?_, h.tear⟩
    show (if F.armed = true then F.left - 1 else F.left) ≤ _
    have := h.left
    split <;> omega
theorem step_ops (F : Fl) : F.step.2.ops ≤ F.ops + 1 := by unfold Fl.step; split <;> simp
theorem word_ok {F : Fl} (h : F.Ok) (i w : Nat) : (F.word i w).2.Ok := by
  have hs := step_ok h
  have hp : ∀ x, ({ F.step.2 with b := putw F.b i x } : Fl).Ok := fun x =>
    ⟨by show (putw F.b i x).length = _; rw [putw_len, ← Fl.step_b]; exact hs.len, hs.pages, putk_byte h.byte i x 4, hs.lo, hs.hi, hs.left, hs.tear⟩
  unfold Fl.word; simp only
  split
  · exact hp _
  · split <;> exact hp _
theorem word_ops (F : Fl) (i w : Nat) : (F.word i w).2.ops ≤ F.ops + 1 := by
  have := step_ops F
  unfold Fl.word; simp only
  split
  · exact this
  · split <;> exact this
theorem word_len (F : Fl) (i w : Nat) : (F.word i w).2.b.length = F.b.length := by
  unfold Fl.word; simp only
  split
  · exact putw_len _ _ _
  · split <;> exact putw_len _ _ _
theorem words_ok {F : Fl} (h : F.Ok) (a : Nat) (l : List Nat) : ∀ k, (F.words a l k).2.Ok ∧ (F.words a l k).2.ops ≤ F.ops + k ∧ (F.words a l k).2.b.length = F.b.length
  | 0 => ⟨h, by simp [Fl.words], rfl⟩
  | k + 1 => by
    obtain ⟨h1, h2, h3⟩ := words_ok h a l k
    unfold Fl.words
    split
    · refine ⟨word_ok h1 _ _, ?_, by rw [word_len]; exact h3⟩
      have := word_ops (F.words a l k).2 (a + 4 * k) (getw l (4 * k)); omega
    · exact ⟨h1, by omega, h3⟩
theorem words_stuck {F : Fl} (a : Nat) (l : List Nat) (k : Nat) (h : (F.words a l k).1 ≠ 0) : ∀ d, F.words a l (k + d) = F.words a l k
  | 0 => rfl
  | d + 1 => by
    have ih := words_stuck a l k h d
    show Fl.words F a l (k + d + 1) = _
    rw [Fl.words, if_neg (by rw [ih]; exact h)]
    exact ih
theorem words_at {F : Fl} (a : Nat) (l : List Nat) (k m : Nat) (h : (F.words a l k).1 ≠ 0) (hm : k ≤ m) : F.words a l m = F.words a l k := by
  obtain ⟨d, rfl⟩ := Nat.exists_eq_add_of_le hm
  exact words_stuck a l k h d
theorem words_succ {F : Fl} (a : Nat) (l : List Nat) (k : Nat) (h : (F.words a l k).1 = 0) : F.words a l (k + 1) = (F.words a l k).2.word (a + 4 * k) (getw l (4 * k)) := by
  rw [Fl.words, if_pos h]
theorem ok_locked_lo {F : Fl} (a l k) : (F.words a l k).2.lo = F.lo ∧ (F.words a l k).2.hi = F.hi := by
  induction k with
  | zero => exact ⟨rfl, rfl⟩
  | succ k ih =>
    unfold Fl.words
    split
    · have : ∀ (G : Fl) i w, (G.word i w).2.lo = G.lo ∧ (G.word i w).2.hi = G.hi := fun G i w => by
        have hs : G.step.2.lo = G.lo ∧ G.step.2.hi = G.hi := by unfold Fl.step; split <;> exact ⟨rfl, rfl⟩
        unfold Fl.word; simp only
        split
        · exact hs
        · split <;> exact hs
      exact ⟨(this _ _ _).1.trans ih.1, (this _ _ _).2.trans ih.2⟩
    · exact ih

theorem lock_step {F : Fl} {a n p : Nat} (hp : a / 256 ≤ p) (h : ∀ q, a / 256 ≤ q → q < p → ¬ (F.lo ≤ q ∧ q < F.hi)) (hn : 0 < n) (hlt : p * 256 < a + n) (hl : F.locked p = true) : F.lockHit a n := by
  simp only [Fl.locked, decide_eq_true_eq] at hl
  unfold Fl.lockHit
  refine ⟨hn, by omega, ?_, by omega⟩
  omega
theorem lock_end {F : Fl} {a n p : Nat} (h : ∀ q, a / 256 ≤ q → q < p → ¬ (F.lo ≤ q ∧ q < F.hi)) (hge : 0 < n → a + n ≤ p * 256) : ¬ F.lockHit a n := by
  unfold Fl.lockHit
  rintro ⟨h1, h2, h3, h4⟩
  have h5 := hge h1
  by_cases h6 : F.lo ≤ a / 256
  · exact h (a / 256) (Nat.le_refl _) (by omega) ⟨h6, h2⟩
  · exact h F.lo (by omega) (by omega) ⟨Nat.le_refl _, h4⟩

set_option maxRecDepth 100000 in
set_option maxHeartbeats 1000000 in
theorem program_go {w : World} {g gb ge : Nat} {F : Fl} (h : IsFl w g gb ge F) (k : F.Ok) (h0 : F.ops ≤ 4611686018427371520) (a : Nat) (gd od cap : Nat) (l : List Nat) (hg : gd ≠ g) (hgb : gd ≠ gb)
    (hoff : F.off = false) (h4 : a % 4 = 0) (hl4 : l.length % 4 = 0) (hin : a + l.length ≤ F.b.length) (hcap : l.length ≤ cap) (hlb : ∀ x ∈ l, x < 256)
    (hd : ∀ j, j < l.length → w.cell? ⟨gd, od + j, none⟩ = some (.int .u8 ((l.getD j 0 : Nat) : Int))) (hgd : gd < w.heap.size) :
    Calls Try.prog 19 #[.pointer (some ⟨g, 0, none⟩), .int .i64 (a : Int), .slice (some ⟨gd, od, none⟩) l.length cap] w fun e w' =>
      e = .returned (.int .i64 ((F.progGo a l).1 : Int)) ∧ IsFl w' g gb ge (F.progGo a l).2 ∧ Only [g, gb] w w' := by
  obtain ⟨c0, c1, c2, c3, c4, c5, c6, c7, c8, cf⟩ := h.cells
  have hlen : F.b.length ≤ 16384 := by have := k.len; have := k.pages; omega
  rw [hoff] at c7
  have HOff := Lib.hid hoff; have HD := Lib.hid hd; have HLB := Lib.hid hlb
  clear hoff hd hlb c1 c2 c3 c4 c5 c6 c8 cf
  have t1 : (((a : Int) % 4) != 0) = false := by rw [bne_eq_false_iff_eq]; omega
  have t2 : (((l.length : Int) % 4) != 0) = false := by rw [bne_eq_false_iff_eq]; omega
  have n1 : decide ((a : Int) < 0) = false := decide_eq_false (by omega)
  have n2 : decide (F.b.length < a) = false := decide_eq_false (by omega)
  have n3 : decide ((F.b.length : Int) - (a : Int) < (l.length : Int)) = false := decide_eq_false (by omega)
  have H4 := Lib.hid h4; have HL4 := Lib.hid hl4
  clear h4 hl4
  have hlk := fun (w1 : World) (p : Nat) (h1 : IsFl w1 g gb ge F) => locked_any h1 p
  have HLK := Lib.hid hlk; clear hlk
  go_enter Try.func19, Try.ntmps19
  go_wp2_with fail
  have hF0 := Lib.hid h
  go_loop [7] (fun p => ∃ q : Nat, p = .int .i64 (q : Int) ∧ a / 256 ≤ q ∧ q ≤ 65 ∧ Hid (∀ r, a / 256 ≤ r → r < q → ¬ (F.lo ≤ r ∧ r < F.hi))) (fun p => 66 - (intOf p).toNat)
  case atStart => exact ⟨a / 256, by go_num, Nat.le_refl _, by omega, fun r h1 h2 => by omega⟩
  case round =>
    obtain ⟨q, rfl, hq1, hq2, HQ⟩ := hrel
    by_cases hstop : 0 < l.length ∧ q * 256 < a + l.length
    · obtain ⟨hn, hlt⟩ := hstop
      by_cases hlock : F.locked q = true
      · have hhit := lock_step hq1 HQ.out hn hlt hlock
        have hif : F.progGo a l = (4, F) := if_pos hhit
        have HIF := Lib.hid hif; clear hif hhit
        go_wp2_with fail
        refine (HLK.out w q hF0.out).mono ?_
        rintro e w1 ⟨rfl, rfl⟩
        rw [hlock]
        clear hlock
        go_wp2_with fail
        go_ret
        rw [HIF.out]
        exact ⟨rfl, hF0.out, Only.refl _ _⟩
      · have hlock' : F.locked q = false := by simpa using hlock
        clear hlock
        go_wp2_with fail
        refine (HLK.out w q hF0.out).mono ?_
        rintro e w1 ⟨rfl, rfl⟩
        rw [hlock']
        go_wp2_with fail
        go_round
        case rel => exact ⟨q + 1, by go_num, by omega, by omega, fun r h1 h2 => by
          by_cases hr : r = q
          · subst hr; simpa [Fl.locked] using hlock'
          · exact HQ.out r h1 (by omega)⟩
        case measure => simp [intOf]; omega
    · have hno : ¬ F.lockHit a l.length := lock_end HQ.out (fun hn => by omega)
      have hif : F.progGo a l = F.words a l (l.length / 4) := if_neg hno
      have HIF := Lib.hid hif; clear hif hno
      have hw85 := fun (w1 : World) (j : Nat) (hj : 4 * j + 4 ≤ l.length) (ho : Only [g, gb] w w1) => get_at gd (od + 4 * j) (l.length - 4 * j) (cap - 4 * j) l (4 * j) w1 (by omega) (fun i _ => getD_lt HLB.out _)
        (fun i hi => (ho.cell hgd (by simp [hg, hgb])).trans (by rw [Nat.add_assoc]; exact HD.out (4 * j + i) (by omega)))
      have hw84 := fun (w1 : World) (j : Nat) (hj : 4 * j + 4 ≤ l.length) (h1 : IsFl w1 g gb ge (F.words a l j).2) => word_any h1 (words_ok k a l j).1 (by have := (words_ok k a l j).2.1; omega) (a + 4 * j) (getw l (4 * j)) (by rw [(words_ok k a l j).2.2]; omega) (getw_lt HLB.out _)
      have H85 := Lib.hid hw85; have H84 := Lib.hid hw84; clear hw85 hw84
      by_cases hn : 0 < l.length
      · have hge : ¬ q * 256 < a + l.length := fun h => hstop ⟨hn, h⟩
        clear hstop
        go_wp2_with fail
        go_loopw [8] (fun i wr => ∃ j : Nat, i = .int .i64 (4 * (j : Int)) ∧ 4 * j ≤ l.length ∧ IsFl wr g gb ge (F.words a l j).2 ∧ Hid ((F.words a l j).1 = 0) ∧ Only [g, gb] w wr) (fun i _ => l.length - (intOf i).toNat)
        case atStart => exact ⟨0, by go_num, by omega, hF0.out, rfl, Only.refl _ _⟩
        case round =>
          obtain ⟨j, rfl, hj, hfl, HE, ho⟩ := hrel
          by_cases hjl : 4 * j < l.length
          · have hj4 : 4 * j + 4 ≤ l.length := by have := HL4.out; omega
            go_wp2_with fail
            refine (H85.out wr j hj4 ho).mono ?_
            rintro e w1 ⟨rfl, ho1⟩
            go_wp2_with fail
            rw [show ((a : Int) + 4 * (j : Int)) = ((a + 4 * j : Nat) : Int) from by omega]
            refine (H84.out w1 j hj4 (hfl.only ho1 (by simp) (by simp) (by simp))).mono ?_
            rintro e w2 ⟨rfl, h2, ho2⟩
            have hs := words_succ (F := F) a l j HE.out
            rw [← hs] at h2 ⊢
            have ho3 := (ho.trans (ho1.to (by simp))).trans ho2
            clear hs ho1
            by_cases he : (F.words a l (j + 1)).1 = 0
            · have hq : ((((F.words a l (j + 1)).1 : Nat) : Int) != 0) = false := by rw [bne_eq_false_iff_eq]; omega
              have HE2 := Lib.hid he; clear he
              go_wp2_with fail
              go_roundw
              case rel => exact ⟨j + 1, by go_num, by omega, h2, HE2.out, ho3⟩
              case measure => simp [intOf]; omega
            · have hq : ((((F.words a l (j + 1)).1 : Nat) : Int) != 0) = true := by rw [bne_iff_ne]; omega
              have hfin : F.words a l (l.length / 4) = F.words a l (j + 1) := words_at a l (j + 1) _ he (by omega)
              have HFin := Lib.hid hfin; clear hfin he
              go_wp2_with fail
              go_ret
              rw [HIF.out, HFin.out]
              exact ⟨rfl, h2, ho3⟩
          · have hfin : F.words a l (l.length / 4) = F.words a l j := by congr 1; have := HL4.out; omega
            have HFin := Lib.hid hfin; clear hfin
            go_wp2_with fail
            go_ret
            rw [HIF.out, HFin.out, HE.out]
            exact ⟨rfl, hfl, ho⟩
      · have hfin : F.words a l (l.length / 4) = (0, F) := by rw [show l.length / 4 = 0 from by omega]; rfl
        have HFin := Lib.hid hfin; clear hfin hstop
        have hl0 : (l.length : Int) = 0 := by omega
        go_wp2_with fail
        go_loopw [8] (fun i wr => i = .int .i64 0 ∧ wr = w) (fun _ _ => 0)
        case atStart => exact ⟨rfl, rfl⟩
        case round =>
          obtain ⟨rfl, rfl⟩ := hrel
          go_wp2_with fail
          go_ret
          rw [HIF.out, HFin.out]
          exact ⟨rfl, hF0.out, Only.refl _ _⟩

set_option maxRecDepth 100000 in
set_option maxHeartbeats 1000000 in
/-- The calls that are refused. -/
theorem program_no {w : World} {g gb ge : Nat} {F : Fl} (h : IsFl w g gb ge F) (k : F.Ok) (a : Int) (A : Option Addr) (n cap : Nat) (hn : n ≤ 140737488351232) (ha : -9223372036854775808 ≤ a ∧ a ≤ 9223372036854775807) (c : Nat)
    (hc : (F.off = true ∧ c = 5) ∨ (F.off = false ∧ (a % 4 ≠ 0 ∨ n % 4 ≠ 0) ∧ c = 2) ∨ (F.off = false ∧ a % 4 = 0 ∧ n % 4 = 0 ∧ (a < 0 ∨ (F.b.length : Int) < a ∨ (F.b.length : Int) - a < n) ∧ c = 3)) :
    Calls Try.prog 19 #[.pointer (some ⟨g, 0, none⟩), .int .i64 a, .slice A n cap] w fun e w' => e = .returned (.int .i64 (c : Int)) ∧ w = w' := by
  obtain ⟨c0, c1, c2, c3, c4, c5, c6, c7, c8, cf⟩ := h.cells
  have hlen : F.b.length ≤ 16384 := by have := k.len; have := k.pages; omega
  clear c1 c2 c3 c4 c5 c6 c8 cf
  have tm : a % 4 = 0 → a.tmod 4 = 0 := fun h => by rw [Int.tmod_eq_emod]; split <;> omega
  have tm' : a % 4 ≠ 0 → a.tmod 4 ≠ 0 := fun h => by rw [Int.tmod_eq_emod]; split <;> omega
  rcases hc with ⟨ho, rfl⟩ | ⟨ho, hq, rfl⟩ | ⟨ho, h4, hn4, hq, rfl⟩
  · rw [ho] at c7
    clear ho tm tm' hn ha
    go_enter Try.func19, Try.ntmps19
    go_wp2
    go_ret
    exact ⟨rfl, rfl⟩
  · rw [ho] at c7
    clear ho
    by_cases h4 : a % 4 = 0
    · have hn4 : n % 4 ≠ 0 := by rcases hq with h | h; exact absurd h4 h; exact h
      have t1 : (a.tmod 4 != 0) = false := by rw [bne_eq_false_iff_eq]; exact tm h4
      have t2 : (((n : Int) % 4) != 0) = true := by rw [bne_iff_ne]; omega
      clear hq h4 hn4 tm tm' ha
      go_enter Try.func19, Try.ntmps19
      go_wp2
      go_ret
      exact ⟨rfl, rfl⟩
    · have t1 : (a.tmod 4 != 0) = true := by rw [bne_iff_ne]; exact tm' h4
      clear hq h4 tm tm' ha
      go_enter Try.func19, Try.ntmps19
      go_wp2
      go_ret
      exact ⟨rfl, rfl⟩
  · rw [ho] at c7
    have t1 : (a.tmod 4 != 0) = false := by rw [bne_eq_false_iff_eq]; exact tm h4
    have t2 : (((n : Int) % 4) != 0) = false := by rw [bne_eq_false_iff_eq]; omega
    clear ho h4 hn4 tm tm'
    by_cases h1 : a < 0
    · clear hq
      go_enter Try.func19, Try.ntmps19
      go_wp2
      go_ret
      exact ⟨rfl, rfl⟩
    · have t1' : ((a % 4) != 0) = false := by rw [← Int.tmod_eq_emod_of_nonneg (by omega)]; exact t1
      by_cases h2 : (F.b.length : Int) < a
      · clear hq
        go_enter Try.func19, Try.ntmps19
        go_wp2
        go_ret
        exact ⟨rfl, rfl⟩
      · have h3 : (F.b.length : Int) - a < n := by omega
        clear hq
        go_enter Try.func19, Try.ntmps19
        go_wp2
        go_ret
        exact ⟨rfl, rfl⟩

set_option maxRecDepth 100000 in
set_option maxHeartbeats 1000000 in
theorem program_zero {w : World} {g gb ge : Nat} {F : Fl} (h : IsFl w g gb ge F) (k : F.Ok) (a : Nat) (A : Option Addr) (cap : Nat) (hoff : F.off = false) (h4 : a % 4 = 0) (hin : a ≤ F.b.length) :
    Calls Try.prog 19 #[.pointer (some ⟨g, 0, none⟩), .int .i64 (a : Int), .slice A 0 cap] w fun e w' => e = .returned (.int .i64 0) ∧ w = w' := by
  obtain ⟨c0, c1, c2, c3, c4, c5, c6, c7, c8, cf⟩ := h.cells
  have hlen : F.b.length ≤ 16384 := by have := k.len; have := k.pages; omega
  rw [hoff] at c7
  clear hoff c1 c2 c3 c4 c5 c6 c8 cf
  have t1 : (((a : Int) % 4) != 0) = false := by rw [bne_eq_false_iff_eq]; omega
  have n1 : decide ((a : Int) < 0) = false := decide_eq_false (by omega)
  have n2 : decide (F.b.length < a) = false := decide_eq_false (by omega)
  have n3 : decide ((F.b.length : Int) - (a : Int) < 0) = false := decide_eq_false (by omega)
  clear h4
  go_enter Try.func19, Try.ntmps19
  go_wp2_with fail
  go_loop [7] (fun p => True) (fun _ => 0)
  case atStart => trivial
  case round =>
    go_wp2_with fail
    go_loop [8] (fun i => i = .int .i64 0) (fun _ => 0)
    case atStart => rfl
    case round =>
      obtain rfl := hrel
      go_wp2_with fail
      go_ret
      exact ⟨rfl, rfl⟩
/-- A slice of bytes that is handed to Program: it isn't the flash's own. -/
def ArgB (w : World) (g gb : Nat) (A : Option Addr) (cap : Nat) (l : List Nat) : Prop :=
  l = [] ∨ ∃ gd od, A = some ⟨gd, od, none⟩ ∧ gd ≠ g ∧ gd ≠ gb ∧ gd < w.heap.size ∧ l.length ≤ cap ∧ ∀ j, j < l.length → w.cell? ⟨gd, od + j, none⟩ = some (.int .u8 ((l.getD j 0 : Nat) : Int))

theorem program_any {w : World} {g gb ge : Nat} {F : Fl} (h : IsFl w g gb ge F) (k : F.Ok) (h0 : F.ops ≤ 4611686018427371520) (a : Int) (ha : -9223372036854775808 ≤ a ∧ a ≤ 9223372036854775807) (A : Option Addr) (cap : Nat) (l : List Nat)
    (hn : l.length ≤ 140737488351232) (hlb : ∀ x ∈ l, x < 256) (hA : ArgB w g gb A cap l) :
    Calls Try.prog 19 #[.pointer (some ⟨g, 0, none⟩), .int .i64 a, .slice A l.length cap] w fun e w' =>
      e = .returned (.int .i64 ((F.program a l).1 : Int)) ∧ IsFl w' g gb ge (F.program a l).2 ∧ Only [g, gb] w w' := by
  have hno := program_no h k a A l.length cap hn ha
  by_cases ho : F.off = true
  · have e : F.program a l = (5, F) := if_pos ho
    rw [e]
    exact (hno 5 (.inl ⟨ho, rfl⟩)).mono fun e w' ⟨he, hw⟩ => ⟨he, hw ▸ h, hw ▸ Only.refl _ _⟩
  · have ho' : F.off = false := by simpa using ho
    by_cases h4 : a % 4 ≠ 0 ∨ l.length % 4 ≠ 0
    · have e : F.program a l = (2, F) := by unfold Fl.program; rw [if_neg ho, if_pos h4]
      rw [e]
      exact (hno 2 (.inr (.inl ⟨ho', h4, rfl⟩))).mono fun e w' ⟨he, hw⟩ => ⟨he, hw ▸ h, hw ▸ Only.refl _ _⟩
    · by_cases hb : a < 0 ∨ (F.b.length : Int) < a ∨ (F.b.length : Int) - a < l.length
      · have e : F.program a l = (3, F) := by unfold Fl.program; rw [if_neg ho, if_neg h4, if_pos hb]
        rw [e]
        exact (hno 3 (.inr (.inr ⟨ho', by omega, by omega, hb, rfl⟩))).mono fun e w' ⟨he, hw⟩ => ⟨he, hw ▸ h, hw ▸ Only.refl _ _⟩
      · have e : F.program a l = F.progGo a.toNat l := by unfold Fl.program; rw [if_neg ho, if_neg h4, if_neg hb]
        rw [e]
        obtain ⟨x, rfl⟩ := Int.eq_ofNat_of_zero_le (by omega : 0 ≤ a)
        rcases hA with rfl | ⟨gd, od, rfl, hg, hgb, hgd, hcap, hc⟩
        · have e2 : F.progGo (Int.toNat x) [] = (0, F) := by unfold Fl.progGo; rw [if_neg (by unfold Fl.lockHit; simp)]; rfl
          rw [e2]
          exact (program_zero h k x A cap ho' (by omega) (by omega)).mono fun e w' ⟨he, hw⟩ => ⟨he, hw ▸ h, hw ▸ Only.refl _ _⟩
        · exact program_go h k h0 x gd od cap l hg hgb ho' (by omega) (by omega) (by omega) hcap hlb hc hgd
end Go.Proofs.Ytmlahbmaomoiaaa
