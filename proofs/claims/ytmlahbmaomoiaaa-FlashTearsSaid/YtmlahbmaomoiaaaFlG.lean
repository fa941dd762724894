/-
  Plain: what a torn programming of an erased page leaves, and what programming it once more gives.
-/
import Derived.Test.YtmlahbmaomoiaaaFlF
namespace Go.Proofs.Ytmlahbmaomoiaaa
open Go.RowKit

theorem getD_set (l : List Nat) (i v j : Nat) : (l.set i v).getD j 0 = if i = j ∧ j < l.length then v else l.getD j 0 := by
  simp only [List.getD_eq_getElem?_getD, List.getElem?_set]
  by_cases h : i = j
  · subst h
    by_cases h2 : i < l.length
    · simp [h2]
    · simp [h2, List.getElem?_eq_none (by omega : l.length ≤ i)]
  · simp [h]
theorem putw_get (l : List Nat) (i w j : Nat) (hi : i + 4 ≤ l.length) : (putw l i w).getD j 0 = if i ≤ j ∧ j < i + 4 then w / 2 ^ (8 * (j - i)) % 256 else l.getD j 0 := by
  have key : ∀ k, k ≤ 4 → (putk l i w k).getD j 0 = if i ≤ j ∧ j < i + k then w / 2 ^ (8 * (j - i)) % 256 else l.getD j 0 := by
    intro k
    induction k with
    | zero => intro _; rw [if_neg (by omega)]; rfl
    | succ k ih =>
      intro hk
      rw [putk, getD_set, ih (by omega), putk_len]
      by_cases h : i + k = j
      · subst h
        rw [if_pos ⟨rfl, by omega⟩, if_pos ⟨by omega, by omega⟩, show i + k - i = k from by omega]
      · rw [if_neg (fun h' => h h'.1)]
        by_cases h2 : i ≤ j ∧ j < i + k
        · rw [if_pos h2, if_pos ⟨h2.1, by omega⟩]
        · rw [if_neg h2, if_neg (by omega)]
  exact key 4 (by omega)
theorem byte_getw {l : List Nat} (h : ∀ x ∈ l, x < 256) (i k : Nat) (hk : k < 4) : getw l i / 2 ^ (8 * k) % 256 = l.getD (i + k) 0 := by
  have h0 := getD_lt h i; have h1 := getD_lt h (i + 1); have h2 := getD_lt h (i + 2); have h3 := getD_lt h (i + 3)
  unfold getw
  have : k = 0 ∨ k = 1 ∨ k = 2 ∨ k = 3 := by omega
  rcases this with rfl | rfl | rfl | rfl <;> simp only [Nat.mul_zero, Nat.pow_zero, Nat.add_zero, Nat.mul_one, Nat.reduceMul, Nat.reducePow] <;> omega
theorem and_full (w : Nat) (h : w < 4294967296) : 4294967295 &&& w = w := by
  rw [Nat.and_comm, show (4294967295 : Nat) = 2 ^ 32 - 1 from rfl, Nat.and_two_pow_sub_one_eq_mod, Nat.mod_eq_of_lt h]
theorem tornw_bit (was x t j : Nat) (hx : x < 4294967296) (hj : j < 32) : (tornw was x t).testBit j = (was.testBit j && (x.testBit j || !t.testBit j)) := by
  unfold tornw
  have h1 : (4294967295 - x) &&& t < 2 ^ 32 := Nat.lt_of_le_of_lt (m := 4294967295 - x) Nat.and_le_left (by omega)
  rw [Nat.testBit_and, show 4294967295 - ((4294967295 - x) &&& t) = 2 ^ 32 - (((4294967295 - x) &&& t) + 1) from by omega, Nat.testBit_two_pow_sub_succ h1, Nat.testBit_and,
    show 4294967295 - x = 2 ^ 32 - (x + 1) from by omega, Nat.testBit_two_pow_sub_succ hx]
  simp [hj]
theorem byte_bit (a k j : Nat) : (a / 2 ^ (8 * k) % 256).testBit j = (decide (j < 8) && a.testBit (8 * k + j)) := by
  rw [show 256 = 2 ^ 8 from rfl, Nat.testBit_mod_two_pow, Nat.testBit_div_two_pow, Nat.add_comm]
/-- The bits of a torn byte, that was erased, hold those that it should have. -/
theorem torn_byte {l : List Nat} (h : ∀ x ∈ l, x < 256) (i k t : Nat) (hk : k < 4) : (tornw 4294967295 (getw l i) t / 2 ^ (8 * k) % 256) ||| l.getD (i + k) 0 = tornw 4294967295 (getw l i) t / 2 ^ (8 * k) % 256 := by
  have hw := getw_lt h i
  rw [← byte_getw h i k hk]
  apply Nat.eq_of_testBit_eq
  intro j
  rw [Nat.testBit_or, byte_bit, byte_bit]
  by_cases hj : j < 8
  · rw [tornw_bit _ _ _ _ hw (by omega)]
    simp only [hj, decide_true, Bool.true_and]
    rw [show (4294967295 : Nat) = 2 ^ 32 - 1 from rfl, Nat.testBit_two_pow_sub_one]
    have : 8 * k + j < 32 := by omega
    simp only [this, decide_true, Bool.true_and]
    cases (getw l i).testBit (8 * k + j) <;> simp
  · simp [hj]

/-- The flash that FlashTears tears. -/
def Fl.armedAt (n t : Nat) : Fl := { Fl.fresh 1 with armed := true, left := n, tear := t }

theorem fresh_get (i : Nat) (h : i < 256) : (Fl.fresh 1).b.getD i 0 = 255 := by
  unfold Fl.fresh
  rw [List.getD_eq_getElem?_getD, List.getElem?_replicate, if_pos (by omega)]; rfl
theorem armed_len (n t : Nat) : (Fl.armedAt n t).b.length = 256 := by
  unfold Fl.armedAt Fl.fresh
  rw [List.length_replicate]
theorem armed_b (n t : Nat) : (Fl.armedAt n t).b = (Fl.fresh 1).b := rfl

theorem word_full (G : Fl) (i w : Nat) (hs : G.step.1 = true) (hw : getw G.b i &&& w = w) : G.word i w = (0, { G.step.2 with b := putw G.b i w }) := by
  unfold Fl.word; simp only
  rw [if_neg (by rw [hs]; simp), if_pos hw, hw]
theorem word_torn (G : Fl) (i w : Nat) (hs : G.step.1 = false) : G.word i w = (5, { G.step.2 with b := putw G.b i (tornw (getw G.b i) w G.tear) }) := by
  unfold Fl.word; simp only
  rw [if_pos hs]

theorem tears_words (n m t : Nat) (l : List Nat) (hl : l.length = 4 * m) (hm : m ≤ 64) (hb : ∀ x ∈ l, x < 256) (hn : n < m) : ∀ k, k ≤ n →
    ((Fl.armedAt n t).words 0 l k).1 = 0 ∧ ((Fl.armedAt n t).words 0 l k).2.armed = true ∧ ((Fl.armedAt n t).words 0 l k).2.left = n - k ∧ ((Fl.armedAt n t).words 0 l k).2.tear = t ∧
      ((Fl.armedAt n t).words 0 l k).2.off = false ∧ ((Fl.armedAt n t).words 0 l k).2.b.length = 256 ∧ ∀ i, i < 256 → ((Fl.armedAt n t).words 0 l k).2.b.getD i 0 = if i < 4 * k then l.getD i 0 else 255
  | 0, _ => ⟨rfl, rfl, rfl, rfl, rfl, armed_len n t, fun i hi => by rw [if_neg (by omega)]; exact fresh_get i hi⟩
  | k + 1, hk => by
    obtain ⟨h1, h2, h3, h4, h5, h6, h7⟩ := tears_words n m t l hl hm hb hn k (by omega)
    rw [words_succ _ _ _ h1]
    generalize ((Fl.armedAt n t).words 0 l k).2 = G at *
    have hst : G.step = (true, { G with left := G.left - 1, ops := G.ops + 1 }) := by unfold Fl.step; rw [if_neg (by omega), if_pos h2]
    have hfull : getw G.b (4 * k) = 4294967295 := by
      unfold getw
      rw [h7 _ (by omega), h7 _ (by omega), h7 _ (by omega), h7 _ (by omega), if_neg (by omega), if_neg (by omega), if_neg (by omega), if_neg (by omega)]
    have hw := word_full G (0 + 4 * k) (getw l (4 * k)) (by rw [hst]) (by rw [Nat.zero_add, hfull, and_full _ (getw_lt hb _)])
    rw [hw, hst]
    simp only [Nat.zero_add]
    refine ⟨trivial, h2, by rw [h3]; omega, h4, h5, by rw [putw_len]; exact h6, fun i hi => ?_⟩
    rw [putw_get _ _ _ _ (by omega)]
    by_cases hc : 4 * k ≤ i ∧ i < 4 * k + 4
    · rw [if_pos hc, if_pos (by omega), byte_getw hb _ _ (by omega)]
      congr 1; omega
    · rw [if_neg hc, h7 i hi]
      by_cases h8 : i < 4 * k
      · rw [if_pos h8, if_pos (by omega)]
      · rw [if_neg h8, if_neg (by omega)]

/-- Where the power goes in the step behind n words. -/
theorem tears_first (n m t : Nat) (l : List Nat) (hl : l.length = 4 * m) (hm : m ≤ 64) (hb : ∀ x ∈ l, x < 256) (hn : n < m) :
    ((Fl.armedAt n t).program 0 l).1 = 5 ∧ ((Fl.armedAt n t).program 0 l).2.off = true ∧ ((Fl.armedAt n t).program 0 l).2.lo = 0 ∧ ((Fl.armedAt n t).program 0 l).2.hi = 0 ∧ ((Fl.armedAt n t).program 0 l).2.b.length = 256 ∧
      ∀ i, i < 256 → if i < 4 * n then ((Fl.armedAt n t).program 0 l).2.b.getD i 0 = l.getD i 0 else if i < 4 * n + 4 then ((Fl.armedAt n t).program 0 l).2.b.getD i 0 ||| l.getD i 0 = ((Fl.armedAt n t).program 0 l).2.b.getD i 0 else ((Fl.armedAt n t).program 0 l).2.b.getD i 0 = 255 := by
  have hp : (Fl.armedAt n t).program 0 l = (Fl.armedAt n t).words 0 l m := by
    unfold Fl.program
    rw [if_neg (by show ¬ (false = true); simp), if_neg (by omega), if_neg (by rw [armed_len]; omega)]
    unfold Fl.progGo
    rw [if_neg (by unfold Fl.lockHit; rintro ⟨_, h, _⟩; exact absurd h (Nat.not_lt_zero _)), hl, show 4 * m / 4 = m from by omega]; rfl
  obtain ⟨h1, h2, h3, h4, h5, h6, h7⟩ := tears_words n m t l hl hm hb hn n (Nat.le_refl _)
  have hlh := ok_locked_lo (F := Fl.armedAt n t) 0 l n
  have hs := words_succ (F := Fl.armedAt n t) 0 l n h1
  generalize hG : ((Fl.armedAt n t).words 0 l n).2 = G at *
  have hst : G.step = (false, { G with off := true, armed := false }) := by unfold Fl.step; rw [if_pos ⟨h2, by omega⟩]
  have hfull : getw G.b (4 * n) = 4294967295 := by
    unfold getw
    rw [h7 _ (by omega), h7 _ (by omega), h7 _ (by omega), h7 _ (by omega), if_neg (by omega), if_neg (by omega), if_neg (by omega), if_neg (by omega)]
  have hw := word_torn G (0 + 4 * n) (getw l (4 * n)) (by rw [hst])
  rw [hw] at hs
  have he : (Fl.armedAt n t).words 0 l m = (Fl.armedAt n t).words 0 l (n + 1) := words_at 0 l (n + 1) m (by rw [hs]; simp) (by omega)
  rw [hp, he, hs, hst]
  simp only [Nat.zero_add, hfull, h4]
  refine ⟨trivial, trivial, by rw [hlh.1]; rfl, by rw [hlh.2]; rfl, by rw [putw_len]; exact h6, fun i hi => ?_⟩
  rw [putw_get _ _ _ _ (by omega)]
  by_cases h8 : i < 4 * n
  · rw [if_pos h8, if_neg (by omega), h7 i hi, if_pos h8]
  · rw [if_neg h8]
    by_cases h9 : i < 4 * n + 4
    · rw [if_pos h9, if_pos ⟨by omega, h9⟩]
      have := torn_byte hb (4 * n) (i - 4 * n) t (by omega)
      rw [show 4 * n + (i - 4 * n) = i from by omega] at this
      exact this
    · rw [if_neg h9, if_neg (by omega), h7 i hi, if_neg h8]

/-- The bytes of a flash hold, bit by bit, those that are to be programmed: then it goes through. -/
theorem again_words (G : Fl) (m : Nat) (l : List Nat) (hl : l.length = 4 * m) (hm : 4 * m ≤ G.b.length) (hb : ∀ x ∈ l, x < 256) (hgb : ∀ x ∈ G.b, x < 256) (ha : G.armed = false) (hc : ∀ i, i < 4 * m → G.b.getD i 0 ||| l.getD i 0 = G.b.getD i 0) : ∀ k, k ≤ m →
    (G.words 0 l k).1 = 0 ∧ (G.words 0 l k).2.armed = false ∧ (G.words 0 l k).2.off = G.off ∧ (G.words 0 l k).2.b.length = G.b.length ∧ ∀ i, (G.words 0 l k).2.b.getD i 0 = if i < 4 * k then l.getD i 0 else G.b.getD i 0
  | 0, _ => ⟨rfl, ha, rfl, rfl, fun i => by rw [if_neg (by omega)]; rfl⟩
  | k + 1, hk => by
    obtain ⟨h1, h2, h3, h4, h5⟩ := again_words G m l hl hm hb hgb ha hc k (by omega)
    rw [words_succ _ _ _ h1]
    generalize (G.words 0 l k).2 = H at *
    have hst : H.step = (true, { H with ops := H.ops + 1 }) := by unfold Fl.step; rw [if_neg (by simp [h2]), if_neg (by simp [h2])]
    have hgw : getw H.b (4 * k) = getw G.b (4 * k) := by
      unfold getw; rw [h5, h5, h5, h5, if_neg (by omega), if_neg (by omega), if_neg (by omega), if_neg (by omega)]
    have hand : getw G.b (4 * k) &&& getw l (4 * k) = getw l (4 * k) := by
      apply Nat.eq_of_testBit_eq
      intro j
      rw [Nat.testBit_and]
      by_cases hj : j < 32
      · have hq : ∀ {q : List Nat}, (∀ x ∈ q, x < 256) → (getw q (4 * k)).testBit j = (q.getD (4 * k + j / 8) 0).testBit (j % 8) := fun {q} hq => by
          rw [← byte_getw hq (4 * k) (j / 8) (by omega), byte_bit, show 8 * (j / 8) + j % 8 = j from by omega]
          simp [Nat.mod_lt]
        rw [hq hgb, hq hb]
        have := congrArg (fun x => x.testBit (j % 8)) (hc (4 * k + j / 8) (by omega))
        simp only [Nat.testBit_or] at this
        cases h6 : (l.getD (4 * k + j / 8) 0).testBit (j % 8)
        · simp
        · rw [h6, Bool.or_true] at this; rw [← this]; rfl
      · have : (getw l (4 * k)).testBit j = false := Nat.testBit_lt_two_pow (Nat.lt_of_lt_of_le (getw_lt hb _) (Nat.pow_le_pow_right (n := 2) (by decide) (by omega : 32 ≤ j)))
        simp [this]
    have hw := word_full H (0 + 4 * k) (getw l (4 * k)) (by rw [hst]) (by rw [Nat.zero_add, hgw]; exact hand)
    rw [hw, hst]
    simp only [Nat.zero_add]
    refine ⟨trivial, h2, h3, by rw [putw_len]; exact h4, fun i => ?_⟩
    rw [putw_get _ _ _ _ (by omega)]
    by_cases hcc : 4 * k ≤ i ∧ i < 4 * k + 4
    · rw [if_pos hcc, if_pos (by omega), byte_getw hb _ _ (by omega)]
      congr 1; omega
    · rw [if_neg hcc, h5 i]
      by_cases h8 : i < 4 * k
      · rw [if_pos h8, if_pos (by omega)]
      · rw [if_neg h8, if_neg (by omega)]

theorem tears_again (G : Fl) (m : Nat) (l : List Nat) (hl : l.length = 4 * m) (hm : 4 * m ≤ G.b.length) (hb : ∀ x ∈ l, x < 256) (hgb : ∀ x ∈ G.b, x < 256) (ha : G.armed = false) (ho : G.off = false) (h0 : G.hi = 0) (hc : ∀ i, i < 4 * m → G.b.getD i 0 ||| l.getD i 0 = G.b.getD i 0) :
    (G.program 0 l).1 = 0 ∧ (G.program 0 l).2.off = false ∧ (G.program 0 l).2.b.length = G.b.length ∧ (G.program 0 l).2.b.take (4 * m) = l := by
  have hp : G.program 0 l = G.words 0 l m := by
    unfold Fl.program
    rw [if_neg (by simp [ho]), if_neg (by omega), if_neg (by omega)]
    unfold Fl.progGo
    rw [if_neg (by unfold Fl.lockHit; omega), hl, show 4 * m / 4 = m from by omega]; rfl
  obtain ⟨h1, h2, h3, h4, h5⟩ := again_words G m l hl hm hb hgb ha hc m (Nat.le_refl _)
  rw [hp]
  refine ⟨h1, h3.trans ho, h4, ?_⟩
  apply List.ext_getElem (by simp; omega)
  intro i hi1 hi2
  have h6 := h5 i
  rw [if_pos (by omega)] at h6
  have hlt : i < (G.words 0 l m).2.b.length := by rw [h4]; omega
  simp only [List.getD_eq_getElem?_getD, List.getElem?_eq_getElem hlt, List.getElem?_eq_getElem hi2, Option.getD_some] at h6
  rw [List.getElem_take]
  exact h6

/-- What an owned slice that isn't nil is. -/
theorem own_open {base : Nat} {w : World} {e : TypeId} {v : Value} {xs : List Value} (h : Own base w e v xs) (hv : v ≠ .slice none 0 0) :
    ∃ g cap, v = .slice (some ⟨g, 0, none⟩) xs.length cap ∧ base ≤ g ∧ g < w.heap.size ∧ xs.length ≤ cap ∧ cap ≤ maxLen ∧ ∀ j u, xs[j]? = some u → w.cell? ⟨g, j, none⟩ = some u := by
  have hc := fun g hg => World.ownsRow.cells h (g := g) hg
  rcases h.2 with ⟨h1, _⟩ | ⟨g, cap, cur, h1, h2, h3, h4, h5, h6, h7⟩
  · exact absurd h1 hv
  · refine ⟨g, cap, h1, h2, (Array.getElem?_eq_some_iff.1 h3).1, h4, h5, fun j u hu => ?_⟩
    have := hc g (by rw [h1]; rfl) j u hu
    rwa [add_some, Nat.zero_add] at this
def strB (l : List Nat) : ByteArray := strOfNums (l.map fun n : Nat => (n : Int))
theorem conv_bytes (w : World) (b off len cap : Nat) (l : List Nat) (hlen : l.length = len) (hcell : ∀ i, i < len → w.cell? ⟨b, off + i, none⟩ = some (.int .u8 ((l.getD i 0 : Nat) : Int))) :
    (convert 22 9 (.slice (some ⟨b, off, none⟩) len cap)).run Try.prog w = .ok (.string (strB l)) w :=
  run_convert_bytes_arg (P := Try.prog) w 22 5 Try.underlying22 Try.underlying5 b off len cap (l.map fun n : Nat => (n : Int)) (by simpa using hlen) (fun i hi => by
    rw [hcell i hi]; simp [List.getD, List.getElem?_eq_getElem (show i < l.length by omega)]) 9 Try.underlying9
end Go.Proofs.Ytmlahbmaomoiaaa
