/-
  The same walk of a region that draws its order, where ONE operation (numbered s) turns memory that operations ahead of it read:
  until it has run, the smaller relation E0 holds.
-/
import Derived.Test.YtmlahbmaomoiaaaBase
namespace Go.Proofs.Ytmlahbmaomoiaaa.Late
open Go.RowKit

def opFree (P : Program) (ops : Array Oper) (E E0 : World → World → Prop) (s : Nat) (o : Oper) (k : Nat) (r : Rel) (V : Nat → Value) (a : Act) (w : World) : Prop :=
  if Region.wanted o (yielded ops a.tmps) then
    o.wp P a w (fun a' w' => ∃ v, a' = a.put o.dst v ∧ E w w' ∧ (k ≠ s → E0 w w') ∧ r (upd V k v) w') (fun _ _ _ => False)
  else r (upd V k undef) w

def wpFree (P : Program) (ops : Array Oper) (E E0 : World → World → Prop) (s q : Nat) (w0 : World) (T : Act → World → Prop) :
    Nat → List Oper → List Nat → List Rel → ((Nat → Value) → Act) → Prop
  | _, [], _, Rs, fr => ∀ V w, E w0 w → allR V w Rs → T (fr V) w
  | k, o :: l, ps, Rs, fr => ∃ r : Rel, Loc (ps.headD 0) k r ∧ Stab E r ∧
      (∀ V w, E w0 w → (q.testBit k = true → E0 w0 w) → facts V w (ps.headD 0) Rs → opFree P ops E E0 s o k r V (fr V) w) ∧
      wpFree P ops E E0 s q w0 T (k + 1) l ps.tail (Rs ++ [r]) (fun V => (fr V).put o.dst (V k))

section
variable {P : Program} {ops : Array Oper}
/-- The obligation of the operation numbered i, out of the walk. -/
def Duty (P : Program) (ops : Array Oper) (E E0 : World → World → Prop) (s q : Nat) (w0 : World) (a : Act) (ps : List Nat) (Rs : List Rel) (i : Nat) : Prop :=
  ∃ (r : Rel) (o : Oper), Rs[i]? = some r ∧ ops[i]? = some o ∧ Loc (ps.getD i 0) i r ∧ Stab E r ∧
    ∀ V w, E w0 w → (q.testBit i = true → E0 w0 w) → facts V w (ps.getD i 0) (Rs.take i) → opFree P ops E E0 s o i r V (frameL ops V (fun _ => true) a i) w

theorem duties {E E0 : World → World → Prop} {s q : Nat} {w0 : World} {T : Act → World → Prop} {a : Act} {qs : List Nat} {m : Nat} :
    ∀ (l : List Oper) (k : Nat) (ps : List Nat) (Rs : List Rel), (∀ j, j < l.length → l[j]? = ops[k + j]?) → Rs.length = k → k + l.length = m → (∀ j, ps.getD j 0 = qs.getD (k + j) 0) →
      wpFree P ops E E0 s q w0 T k l ps Rs (fun V => frameL ops V (fun _ => true) a k) →
      ∃ Rt : List Rel, Rt.length = m ∧ Rt.take k = Rs ∧ (∀ i, k ≤ i → i < m → Duty P ops E E0 s q w0 a qs Rt i) ∧
        (∀ V w, E w0 w → allR V w Rt → T (frameL ops V (fun _ => true) a m) w)
  | [], k, ps, Rs, _, hk, hm, _, h => by
    simp at hm; subst hm; subst hk
    exact ⟨Rs, rfl, List.take_length, fun i h1 h2 => by omega, h⟩
  | o :: l, k, ps, Rs, hl, hk, hm, hq, h => by
    obtain ⟨r, hloc, hst, hop, hrest⟩ := h
    have h0 : ops[k]? = some o := by simpa using (hl 0 (by simp)).symm
    have hd : dstOf ops k = o.dst := by simp [dstOf, h0]
    have hfr : (fun V : Nat → Value => (frameL ops V (fun _ => true) a k).put o.dst (V k)) = fun V => frameL ops V (fun _ => true) a (k + 1) := by
      funext V; simp [frameL, hd]
    rw [hfr] at hrest
    obtain ⟨Rt, h1, h2, h3, h4⟩ := duties (m := m) l (k + 1) ps.tail (Rs ++ [r]) (fun j hj => by have := hl (j + 1) (by simpa using hj); simpa [Nat.add_assoc, Nat.add_comm 1 j] using this) (by simp [hk]) (by simp at hm; omega)
      (fun j => by
        have := hq (j + 1)
        rw [← Nat.add_assoc, Nat.add_right_comm] at this
        rw [← this]; cases ps <;> simp [List.getD]) hrest
    have hrk : Rt[k]? = some r := by
      have : (Rt.take (k + 1))[k]? = some r := by rw [h2]; simp [← hk]
      simpa [List.getElem?_take] using this
    have htk : Rt.take k = Rs := by
      have : (Rt.take (k + 1)).take k = Rs := by rw [h2]; simp [← hk]
      simpa [List.take_take] using this
    refine ⟨Rt, h1, htk, fun i hi1 hi2 => ?_, h4⟩
    by_cases hik : i = k
    · subst hik
      have e0 : ps.headD 0 = qs.getD i 0 := by have := hq 0; simp only [Nat.add_zero] at this; rw [← this]; cases ps <;> simp
      refine ⟨r, o, hrk, h0, e0 ▸ hloc, hst, fun V w hE hE0 hf => ?_⟩
      rw [htk, ← e0] at hf
      exact hop V w hE hE0 hf
    · exact h3 i (by omega) hi2
theorem any_free {Q : Exit → Act → World → Prop} {E E0 : World → World → Prop} {s : Nat} (hrf : ∀ a, E a a) (htr : ∀ a b c, E a b → E b c → E a c) (hrf0 : ∀ a, E0 a a) (htr0 : ∀ a b c, E0 a b → E0 b c → E0 a c) {w0 : World} {a : Act} {ps : List Nat} {Rt : List Rel} {m : Nat}
    (hok : freeOK ops m ps = true) (hlen : Rt.length = m) (hduty : ∀ i, i < m → Duty P ops E E0 s (ps.getD s 0) w0 a ps Rt i)
    (hfin : ∀ V w, E w0 w → allR V w Rt → wpList P ops Q (ops.toList.drop m) (frameL ops V (fun _ => true) a m) w) :
    ∀ (d : Nat) (listed : Array Bool) (V : Nat → Value) (w : World), listed.size = ops.size → (List.range ops.size).countP (fun j => !listed.getD j true) = d →
      (∀ i, m ≤ i → i < ops.size → listed.getD i true = false) → Down ops (fun i => listed.getD i false) → E w0 w → (listed.getD s false = false → E0 w0 w) →
      (∀ (i : Nat) (r : Rel), Rt[i]? = some r → listed.getD i false = true → r V w) → wpAny P .any ops Q d listed (frameL ops V (fun i => listed.getD i false) a m) w := by
  simp only [freeOK, Bool.and_eq_true, beq_iff_eq, decide_eq_true_eq, List.all_eq_true, List.mem_range] at hok
  obtain ⟨⟨⟨⟨⟨⟨hmask, hsel⟩, hm⟩, hlex⟩, hdist⟩, hlook⟩, htail⟩ := hok
  have hlex' : ∀ i o, ops[i]? = some o → ∀ e ∈ o.after, Region.binds .any e = true → e.on < i := fun i o ho e he hb => by
    have h1 := hlex i (Array.getElem?_eq_some_iff.1 ho).1
    rw [ho] at h1
    have h2 := Array.all_eq_true_iff_forall_mem.1 (show o.after.all _ = true from h1) e he
    simpa [hb] using h2
  have hgetD : ∀ (listed : Array Bool) (i : Nat), listed.size = ops.size → i < ops.size → listed.getD i true = listed.getD i false := fun listed i hs hi => by
    have : i < listed.size := by omega
    simp [this]
  have hbits : ∀ (listed : Array Bool) (i : Nat), listed.size = ops.size → Down ops (fun i => listed.getD i false) → i ∈ Region.ready .any ops listed → ∀ j, (ps.getD i 0).testBit j = true → listed.getD j false = true := by
    intro listed i hs hdn hi j hj
    obtain ⟨_, o, ho, hall⟩ := mem_ready.1 hi
    rw [← hmask] at hj
    exact masks_at (fun i => listed.getD i false) hdn ops.toList [] (by simp) (fun k hk => by simp at hk) i (by simpa using (Array.getElem?_eq_some_iff.1 ho).1) o ho hall j hj
  have hpre : ∀ (listed : Array Bool) (k i : Nat), (∀ j, j < k → listed.getD j true = true) → (∀ j, k ≤ j → j < ops.size → listed.getD j true = false) → listed.size = ops.size →
      i ∈ Region.ready .any ops listed → m ≤ k → i = k := by
    intro listed k i h1 h2 hs hi hmk
    have hdn : Down ops (fun i => listed.getD i false) := fun i' o' ho' hl' e he hb => by
      have hi' := (Array.getElem?_eq_some_iff.1 ho').1
      have hlt := hlex' i' o' ho' e he hb
      have hik : i' < k := by
        apply Nat.lt_of_not_le; intro hle
        have h3 := h2 i' hle hi'
        rw [hgetD listed i' hs hi'] at h3
        simp only at hl'
        rw [hl'] at h3; cases h3
      simp only
      rw [← hgetD listed e.on hs (by omega)]
      exact h1 _ (by omega)
    obtain ⟨hi0, o, ho, _⟩ := mem_ready.1 hi
    have hilt := (Array.getElem?_eq_some_iff.1 ho).1
    have hki : k ≤ i := by
      apply Nat.le_of_not_lt; intro hlt
      rw [h1 i hlt] at hi0; cases hi0
    apply Nat.le_antisymm _ hki
    apply Nat.le_of_not_lt; intro hlt
    have ht := htail i hilt
    have him : ¬ i < m := by omega
    simp only [him, decide_false, Bool.false_or, List.all_eq_true, List.mem_range] at ht
    have hb := hbits listed i hs hdn hi k (ht k hlt)
    rw [← hgetD listed k hs (by omega), h2 k (Nat.le_refl _) (by omega)] at hb
    cases hb
  intro d
  induction d with
  | zero =>
    intro listed V w hs hc hfront hdn hE hE0 hR
    have hall : ∀ j, j < ops.size → listed.getD j true = true := fun j hj => by
      have := List.countP_eq_zero.1 hc j (List.mem_range.2 hj)
      simpa using this
    have hmn : m = ops.size := by
      apply Nat.le_antisymm hm
      apply Nat.le_of_not_lt; intro hlt
      have h1 := hfront m (Nat.le_refl _) hlt
      rw [hall m hlt] at h1; cases h1
    have hfr : frameL ops V (fun i => listed.getD i false) a m = frameL ops V (fun _ => true) a m :=
      frameL_congr _ _ _ _ _ m fun j hj => ⟨by rw [← hgetD listed j hs (by omega)]; exact hall j (by omega), fun _ => rfl⟩
    rw [hfr]
    exact any_tail hpre hlex' 0 m listed _ w (by omega) (Nat.le_refl _) hs (fun j hj => hall j (by omega)) (fun j hj hj2 => by omega)
      (hfin V w hE (allR_of V w Rt fun j r hr => hR j r hr (by
        have : j < Rt.length := (List.getElem?_eq_some_iff.1 hr).1
        rw [← hgetD listed j hs (by omega)]; exact hall j (by omega))))
  | succ d ih =>
    intro listed V w hs hc hfront hdn hE hE0 hR
    by_cases hdone : ∀ j, j < m → listed.getD j true = true
    · have hfr : frameL ops V (fun i => listed.getD i false) a m = frameL ops V (fun _ => true) a m :=
        frameL_congr _ _ _ _ _ m fun j hj => ⟨by rw [← hgetD listed j hs (by omega)]; exact hdone j (by omega), fun _ => rfl⟩
      rw [hfr]
      have hcount : m + (d + 1) = ops.size := by
        have e1 : (List.range ops.size).countP (fun j => !listed.getD j true) = (List.range ops.size).countP (fun j => decide (m ≤ j)) :=
          List.countP_congr fun x hx => by
            have hx' := List.mem_range.1 hx
            by_cases hxm : x < m
            · rw [hdone x hxm]; simp; omega
            · rw [hfront x (by omega) hx']; simp; omega
        have e2 : ∀ n, m ≤ n → m + (List.range n).countP (fun j => decide (m ≤ j)) = n := by
          intro n
          induction n with
          | zero => intro h; simp; omega
          | succ n ihn =>
            intro h
            rw [List.range_succ, List.countP_append, List.countP_singleton]
            by_cases hmn : m ≤ n
            · have := ihn hmn; simp only [hmn, decide_true, if_true]; omega
            · have e : (List.range n).countP (fun j => decide (m ≤ j)) = 0 := List.countP_eq_zero.2 fun x hx => by have := List.mem_range.1 hx; simp; omega
              simp only [hmn, decide_false, e]; simp; omega
        have := e2 ops.size hm
        rw [e1] at hc
        omega
      exact any_tail hpre hlex' (d + 1) m listed _ w hcount (Nat.le_refl _) hs hdone hfront
        (hfin V w hE (allR_of V w Rt fun j r hr => hR j r hr (by
          have : j < Rt.length := (List.getElem?_eq_some_iff.1 hr).1
          rw [← hgetD listed j hs (by omega)]; exact hdone j (by omega))))
    · refine ⟨fun hnil => ?_, fun i hi => ?_⟩
      · exfalso
        have hex : ∃ j, j < m ∧ listed.getD j true = false := by
          apply Classical.byContradiction; intro hno
          exact hdone fun j hj => by
            cases hj2 : listed.getD j true
            · exact absurd ⟨j, hj, hj2⟩ hno
            · rfl
        have hmin : ∀ n, (∃ j, j < n ∧ j < m ∧ listed.getD j true = false) → ∃ j, j < m ∧ listed.getD j true = false ∧ ∀ k, k < j → listed.getD k true = true := by
          intro n
          induction n with
          | zero => rintro ⟨j, h, _⟩; omega
          | succ n ihn =>
            rintro ⟨j, h1, h2, h3⟩
            by_cases hk : ∃ k, k < j ∧ listed.getD k true = false
            · obtain ⟨k, hk1, hk2⟩ := hk
              exact ihn ⟨k, by omega, by omega, hk2⟩
            · exact ⟨j, h2, h3, fun k hk' => by
                cases hk2 : listed.getD k true
                · exact absurd ⟨k, hk', hk2⟩ hk
                · rfl⟩
        obtain ⟨j, hj⟩ := hex
        obtain ⟨j, hj1, hj2, hj3⟩ := hmin m ⟨j, hj.1, hj⟩
        have hjo : ops[j]? = some (ops[j]'(by omega)) := Array.getElem?_eq_getElem _
        have : j ∈ Region.ready .any ops listed := mem_ready.2 ⟨hj2, _, hjo, fun e he hb => by
          have h1 := hlex' j _ hjo e he hb
          rw [← hgetD listed e.on hs (by omega)]; exact hj3 e.on h1⟩
        rw [hnil] at this; cases this
      · obtain ⟨hi0, o, ho, hall⟩ := mem_ready.1 hi
        have hilt := (Array.getElem?_eq_some_iff.1 ho).1
        have hbit := hbits listed i hs hdn hi
        have him : i < m := by
          apply Nat.lt_of_not_le; intro hle
          have ht := htail i hilt
          have hn : ¬ i < m := by omega
          simp only [hn, decide_false, Bool.false_or, List.all_eq_true, List.mem_range] at ht
          exact hdone fun j hj => by rw [hgetD listed j hs (by omega)]; exact hbit j (ht j (by omega))
        obtain ⟨r, o', hr, ho', hloc, hst, hduty'⟩ := hduty i him
        rw [ho] at ho'; cases ho'
        have hd := hduty' V w hE (fun hq => hE0 (by
          cases hls : listed.getD s false
          · rfl
          · have hss : s < ops.size := by
              apply Nat.lt_of_not_le; intro hle
              rw [Array.getD_eq_getD_getElem?, Array.getElem?_eq_none (by omega)] at hls
              cases hls
            have hso : ops[s]? = some (ops[s]'hss) := Array.getElem?_eq_getElem _
            rw [← hmask] at hq
            have := masks_at (fun i => listed.getD i false) hdn ops.toList [] (by simp) (fun k hk => by simp at hk) s (by simpa using hss) _ hso (fun e he hb => hdn s _ hso (by simpa using hls) e he hb) i hq
            have h8 : listed.getD i true = listed.getD i false := hgetD listed i hs hilt
            rw [hi0] at h8
            rw [← h8] at this
            cases this)) (facts_of V w _ _ fun j r' hr' hj => by
          have hji : (Rt.take i)[j]? = some r' := hr'
          rw [List.getElem?_take] at hji
          split at hji
          · exact hR j r' hji (hbit j hj)
          · cases hji)
        have hagree : ∀ t, t ∈ o.looksAt ops → (frameL ops V (fun i => listed.getD i false) a m).tmps[t]? = (frameL ops V (fun _ => true) a i).tmps[t]? := by
          intro t ht
          have e1 : (frameL ops V (fun _ => true) a i).tmps[t]? = (frameL ops V (fun j => decide (j < i)) a m).tmps[t]? := by
            have h2 : ∀ n, i ≤ n → (frameL ops V (fun j => decide (j < i)) a n) = frameL ops V (fun _ => true) a i := by
              intro n
              induction n with
              | zero => intro h; have : i = 0 := by omega
                        subst this; rfl
              | succ n ihn =>
                intro h
                by_cases hin : i ≤ n
                · have : ¬ n < i := by omega
                  simp only [frameL, this, decide_false, Bool.false_eq_true, if_false]; exact ihn hin
                · have : i = n + 1 := by omega
                  subst this
                  exact frameL_congr _ _ _ _ _ _ fun j hj => ⟨by simp; omega, fun _ => rfl⟩
            rw [h2 m (by omega)]
          rw [e1]
          refine frameL_get V V _ _ a t m fun j hj hdj => ⟨?_, fun _ => rfl⟩
          have h3 := hlook i him
          rw [ho] at h3
          have h4 := (List.all_eq_true.1 (by simpa using h3)) j (List.mem_range.2 hj)
          rw [hdj] at h4
          have h5 : (ps.getD i 0).testBit j = true := by
            rcases Bool.or_eq_true _ _ ▸ h4 with h | h
            · simp [ht] at h
            · exact h
          have h6 := hbit j h5
          have h7 : j < i := by
            rw [← hmask] at h5
            exact of_decide_eq_true (masks_at (fun k => decide (k < i)) (fun i' o' ho' hl' e he hb => by
              have := hlex' i' o' ho' e he hb
              simp only [decide_eq_true_eq] at hl' ⊢; omega) ops.toList [] (by simp) (fun k hk => by simp at hk) i (by simpa using hilt) o ho (fun e he hb => by simpa using hlex' i o ho e he hb) j h5)
          simp only [h6, h7, decide_true]
        have hex := execOp_of_get (ops := ops) o (fun cs b => Region.noSelect_spec hsel i o cs b ho) _ _ hagree
        have hwt := wanted_of_get (ops := ops) o _ _ hagree
        have hnext : ∀ v w', E w w' → (i ≠ s → E0 w w') → r (upd V i v) w' → wpAny P .any ops Q d (listed.setIfInBounds i true) ((frameL ops V (fun i => listed.getD i false) a m).put o.dst v) w' := by
          intro v w' hE' hE0' hr'
          have hli : listed.getD i false = false := by rw [← hgetD listed i hs hilt]; exact hi0
          have hset : ∀ j, (listed.setIfInBounds i true).getD j false = (listed.getD j false || j == i) := fun j => by
            by_cases hji : j = i
            · subst hji; simp [hs, hilt]
            · rw [getD_set_ne false (Ne.symm hji)]; simp [hji]
          have hdo : dstOf ops i = o.dst := by simp [dstOf, ho]
          have hf : (frameL ops V (fun i => listed.getD i false) a m).put o.dst v = frameL ops (upd V i v) (fun j => (listed.setIfInBounds i true).getD j false) a m := by
            have e1 : frameL ops V (fun i => listed.getD i false) a m = frameL ops (upd V i v) (fun i => listed.getD i false) a m :=
              frameL_congr _ _ _ _ _ m fun j hj => ⟨rfl, fun hl => by
                have : j ≠ i := fun h => by subst h; rw [hli] at hl; cases hl
                simp [upd, this]⟩
            have e2 : (fun j => (listed.setIfInBounds i true).getD j false) = fun j => (fun i => listed.getD i false) j || j == i := funext hset
            rw [e1, e2, frameL_put (upd V i v) (fun i => listed.getD i false) a i hli m (fun j hj hne t hdi hdj => by
              have h1 := hdist i him j hj
              have h2 : (i == j) = false := by simp; omega
              rw [hdi, hdj, h2] at h1
              simp at h1) him, hdo]
            simp [upd]
          rw [hf]
          refine ih _ (upd V i v) w' (by simpa using hs) ?_ (fun j hj hj2 => by rw [getD_set_ne true (by omega)]; exact hfront j hj hj2) ?_ (htr _ _ _ hE hE') (fun hl => by
            rw [hset] at hl
            simp only [Bool.or_eq_false_iff, beq_eq_false_iff_ne] at hl
            exact htr0 _ _ _ (hE0 hl.1) (hE0' (Ne.symm hl.2))) ?_
          · have h1 := cnt_set (fun j => !listed.getD j true) i (by simp [hi0]) ops.size hilt
            rw [hc] at h1
            have h2 : (List.range ops.size).countP (fun j => !(listed.setIfInBounds i true).getD j true) = (List.range ops.size).countP (fun j => (fun j => !listed.getD j true) j && !(j == i)) :=
              List.countP_congr fun x hx => by
                by_cases hxi : x = i
                · subst hxi; simp [hs, hilt]
                · rw [getD_set_ne true (Ne.symm hxi)]; simp [hxi]
            rw [h2]
            simp only at h1 ⊢
            omega
          · intro i' o' ho' hl' e he hb
            simp only [hset, Bool.or_eq_true, beq_iff_eq] at hl' ⊢
            rcases hl' with hl' | hl'
            · exact .inl (hdn i' o' ho' hl' e he hb)
            · subst hl'; rw [ho] at ho'; cases ho'; exact .inl (hall e he hb)
          · intro j r' hr2 hl'
            rw [hset] at hl'
            by_cases hji : j = i
            · subst hji; rw [hr] at hr2; cases hr2; exact hr'
            · simp [hji] at hl'
              obtain ⟨r3, o3, hr3, ho3, hloc3, hst3, _⟩ := hduty j (by have := (List.getElem?_eq_some_iff.1 hr2).1; omega)
              rw [hr2] at hr3; cases hr3
              refine hloc3 V _ w' (fun x hx => ?_) (hst3 V w w' hE' (hR j r' hr2 (by simpa using hl')))
              have hxi : x ≠ i := by
                intro hxi; subst hxi
                rcases hx with hx | hx
                · exact hji hx.symm
                · rw [← hmask] at hx
                  have := masks_at (fun i => listed.getD i false) hdn ops.toList [] (by simp) (fun k hk => by simp at hk) j (by simpa using (Array.getElem?_eq_some_iff.1 ho3).1) o3 ho3 (fun e he hb => hdn j o3 ho3 (by simpa using hl') e he hb) x hx
                  rw [hli] at this; cases this
              simp [upd, hxi]
        unfold wpOp
        rw [ho]
        simp only
        unfold opFree at hd
        rw [hwt]
        by_cases hw : Region.wanted o (yielded ops (frameL ops V (fun _ => true) a i).tmps) = true
        · rw [if_pos hw] at hd ⊢
          exact .inl (upon_free (K := fun w' v => E w w' ∧ (i ≠ s → E0 w w') ∧ r (upd V i v) w') hex (by rw [frameL_size, frameL_size]) (fun v w' h => hnext v w' h.1 h.2.1 h.2.2) hd)
        · rw [if_neg hw] at hd ⊢
          exact hnext undef w (hrf w) (fun _ => hrf0 w) hd
end

section
variable {P : Program}
theorem region_late {Q : Exit → Act → World → Prop} {l : List Oper} {id : Nat} {a : Act} {w : World} (hm : P.follows .mixedOrders = true) (m : Nat) (ps : List Nat) (hok : freeOK l.toArray m ps = true)
    (E E0 : World → World → Prop) (s q : Nat) (hq : q = ps.getD s 0) (hrf : ∀ a, E a a) (htr : ∀ a b c, E a b → E b c → E a c) (hrf0 : ∀ a, E0 a a) (htr0 : ∀ a b c, E0 a b → E0 b c → E0 a c)
    (h : wpFree P l.toArray E E0 s q w.drew (fun a w => wpList P l.toArray Q (l.drop m) a w) 0 (l.take m) ps [] (fun _ => a)) : (Code.region id l.toArray true).wp P Q a w := by
  subst hq
  have hsz : m ≤ l.length := by
    simp only [freeOK, Bool.and_eq_true, decide_eq_true_eq] at hok
    have := hok.1.1.1.1.2
    simpa using this
  obtain ⟨Rt, h1, _, h3, h4⟩ := duties (ops := l.toArray) (a := a) (qs := ps) (m := m) (l.take m) 0 ps [] (fun j hj => by
    simp only [List.length_take] at hj
    rw [List.getElem?_take_of_lt (by omega)]; simp) rfl (by simp; omega) (fun j => by simp) h
  refine wp_region_any hm ?_
  have hg : ∀ j d, (Array.replicate l.toArray.size false).getD j d = if j < l.toArray.size then false else d := fun j d => by
    rw [Array.getD_eq_getD_getElem?, Array.getElem?_replicate]; split <;> rfl
  have hf : ∀ j, (Array.replicate l.toArray.size false).getD j false = false := fun j => by rw [hg]; split <;> rfl
  have hsize : (Array.replicate l.toArray.size false).size = l.toArray.size := by simp
  generalize Array.replicate l.toArray.size false = L at hg hf hsize
  have hall := any_free (P := P) (Q := Q) (s := s) (E0 := E0) hrf htr hrf0 htr0 (w0 := w.drew) (a := a) (ps := ps) (Rt := Rt) (m := m) hok h1 (fun i hi => h3 i (Nat.zero_le _) hi) (by simpa using h4)
    l.toArray.size L (fun _ => undef) w.drew hsize
    (by rw [List.countP_eq_length.2 (fun x hx => by have := List.mem_range.1 hx; rw [hg, if_pos this]; rfl), List.length_range])
    (fun i _ hi => by rw [hg, if_pos hi]) (fun i o ho hl => by have h0 := hf i; simp only at hl; rw [h0] at hl; cases hl) (hrf _) (fun _ => hrf0 _) (fun i r _ hl => by rw [hf] at hl; cases hl)
  have he : ∀ m, frameL l.toArray (fun _ => undef) (fun i => L.getD i false) a m = a := by
    intro m
    induction m with
    | zero => rfl
    | succ m ih => unfold frameL; rw [ih]; simp only [hf m, Bool.false_eq_true, if_false]
  rw [he m] at hall
  exact hall
variable {ops : Array Oper} {E E0 : World → World → Prop} {s q : Nat} {w0 : World} {T : Act → World → Prop} {k : Nat} {o : Oper} {l : List Oper} {p : Nat} {ps : List Nat} {Rs : List Rel} {fr : (Nat → Value) → Act}
theorem wpFree_nil (h : ∀ V w, E w0 w → allR V w Rs → T (fr V) w) : wpFree P ops E E0 s q w0 T k [] ps Rs fr := h
/-- The operation numbered s. -/
theorem wpFree_root (R : Value → World → Prop) (hst : ∀ v w w', E w w' → R v w → R v w') (hks : k = s) (hw : ∀ V w, facts V w p Rs → Region.wanted o (yielded ops (fr V).tmps) = true)
    (h : ∀ V w, E w0 w → facts V w p Rs → ∀ K : Act → World → Prop, (∀ v w', E w w' → R v w' → K ((fr V).put o.dst v) w') → o.wp P (fr V) w K (fun _ _ _ => False))
    (hrest : wpFree P ops E E0 s q w0 T (k + 1) l ps (Rs ++ [fun V w => R (V k) w]) (fun V => (fr V).put o.dst (V k))) : wpFree P ops E E0 s q w0 T k (o :: l) (p :: ps) Rs fr :=
  ⟨fun V w => R (V k) w, fun V V' w hV h => by have e := hV k (.inl rfl); simp only [← e]; exact h, fun V w w' hE h => hst _ w w' hE h, fun V w hE _ hF => by
    unfold opFree
    rw [if_pos (hw V w hF)]
    exact h V w hE hF _ (fun v w' h1 h2 => ⟨v, rfl, h1, fun hk => absurd hks hk, by simpa [upd] using h2⟩), hrest⟩
/-- An operation that only computes or reads, met by the walk's own step. -/
theorem wpFree_op (hrf : ∀ a, E a a) (hrf0 : ∀ a, E0 a a) (c : Value) (hw : ∀ V w, facts V w p Rs → Region.wanted o (yielded ops (fr V).tmps) = true)
    (h : ∀ V w, E w0 w → (q.testBit k = true → E0 w0 w) → facts V w p Rs → ∀ K : Act → World → Prop, K ((fr V).put o.dst c) w → o.wp P (fr V) w K (fun _ _ _ => False))
    (hrest : wpFree P ops E E0 s q w0 T (k + 1) l ps (Rs ++ [fun V _ => V k = c]) (fun V => (fr V).put o.dst (V k))) : wpFree P ops E E0 s q w0 T k (o :: l) (p :: ps) Rs fr :=
  ⟨fun V _ => V k = c, fun V V' w hV h => (hV k (.inl rfl)).symm.trans h, fun _ _ _ _ h => h, fun V w hE hE0 hF => by
    unfold opFree
    rw [if_pos (hw V w hF)]
    exact h V w hE hE0 hF _ ⟨c, rfl, hrf w, fun _ => hrf0 w, by simp [upd]⟩, hrest⟩
end
end Go.Proofs.Ytmlahbmaomoiaaa.Late
