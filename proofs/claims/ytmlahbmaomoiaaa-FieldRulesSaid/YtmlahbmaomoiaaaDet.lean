/-
  A region that draws its order, walked once, where most operations' values are known ahead: the frame bears them as they are
  (an operation that makes something bears its own value's name; what is told of it is at hand to those behind it).
-/
import Derived.Test.YtmlahbmaomoiaaaBase
namespace Go.Proofs.Ytmlahbmaomoiaaa
open Go.RowKit
section
variable {P : Program} {ops : Array Oper}

theorem facts_get (V : Nat → Value) (w : World) : ∀ (rs : List Rel) (p : Nat), facts V w p rs → ∀ (j : Nat) (r : Rel), rs[j]? = some r → p.testBit j = true → r V w
  | [], _, _, j, r, h, _ => by simp at h
  | r :: rs, p, h, 0, r', hr, hp => by
    simp only [List.getElem?_cons_zero, Option.some.injEq] at hr
    subst hr; exact h.1 (by simpa [Nat.testBit_zero] using hp)
  | r :: rs, p, h, j + 1, r', hr, hp => facts_get V w rs (p / 2) h.2 j r' (by simpa using hr) (by rw [Nat.testBit_succ] at hp; exact hp)
theorem allR_get (V : Nat → Value) (w : World) : ∀ (rs : List Rel), allR V w rs → ∀ (j : Nat) (r : Rel), rs[j]? = some r → r V w
  | [], _, j, r, h => by simp at h
  | r :: rs, h, 0, r', hr => by
    simp only [List.getElem?_cons_zero, Option.some.injEq] at hr
    subst hr; exact h.1
  | r :: rs, h, j + 1, r', hr => allR_get V w rs h.2 j r' (by simpa using hr)

def opM (P : Program) (o : Oper) (K : World → Value → Prop) (a : Act) (w : World) : Prop :=
  o.wp P a w (fun a' w' => ∃ v, a' = a.put o.dst v ∧ K w' v) (fun _ _ _ => False)

def wpMix (P : Program) (ops : Array Oper) (E : World → World → Prop) (w0 : World) (T : Act → World → Prop) :
    Nat → List Oper → List Nat → List Rel → ((Nat → Value) → Act) → Prop
  | _, [], _, Rs, fr => ∀ V w, E w0 w → allR V w Rs → T (fr V) w
  | k, o :: l, ps, Rs, fr =>
    (∃ c : Value, (∀ V w, E w0 w → facts V w (ps.headD 0) Rs → if Region.wanted o (yielded ops (fr V).tmps) then opM P o (fun w' v => v = c ∧ E w w') (fr V) w else c = undef) ∧
      wpMix P ops E w0 T (k + 1) l ps.tail (Rs ++ [fun _ _ => True]) (fun V => (fr V).put o.dst c)) ∨
    (∃ R : Value → World → Prop, (∀ v w w', E w w' → R v w → R v w') ∧
      (∀ V w, E w0 w → facts V w (ps.headD 0) Rs → Region.wanted o (yielded ops (fr V).tmps) = true ∧ opM P o (fun w' v => E w w' ∧ R v w') (fr V) w) ∧
      wpMix P ops E w0 T (k + 1) l ps.tail (Rs ++ [fun V w => R (V k) w]) (fun V => (fr V).put o.dst (V k)))

def known (D : Nat → Option Value) (V : Nat → Value) : Nat → Value := fun j => (D j).getD (V j)
def setD (D : Nat → Option Value) (k : Nat) (v : Option Value) : Nat → Option Value := fun j => if j = k then v else D j

theorem mix_free {E : World → World → Prop} (hrf : ∀ a, E a a) {w0 : World} {T : Act → World → Prop} {a : Act} {qs : List Nat} {m : Nat}
    (hlook : ∀ (i : Nat) (o : Oper), i < m → ops[i]? = some o → ∀ j t, j < m → dstOf ops j = some t → t ∈ o.looksAt ops → (qs.getD i 0).testBit j = true)
    (hsel : ∀ (i : Nat) (o : Oper), ops[i]? = some o → ∀ cs b, o.op ≠ .select cs b) :
    ∀ (l : List Oper) (k : Nat) (ps : List Nat) (Rs Fs : List Rel) (D : Nat → Option Value), (∀ j, j < l.length → l[j]? = ops[k + j]?) → Rs.length = k → Fs.length = k → k + l.length = m →
      (∀ j, ps.getD j 0 = qs.getD (k + j) 0) →
      (∀ j, j < k → (∃ c, D j = some c ∧ Rs[j]? = some (fun _ _ => True) ∧ Fs[j]? = some (fun V _ => V j = c)) ∨ (D j = none ∧ Rs[j]? = Fs[j]?)) →
      wpMix P ops E w0 T k l ps Rs (fun V => frameL ops (known D V) (fun _ => true) a k) →
      wpFree P ops E w0 T k l ps Fs (fun V => frameL ops V (fun _ => true) a k)
  | [], k, ps, Rs, Fs, D, _, hR, hF, _, _, hD, h => fun V w hE hA => by
    have h1 := h V w hE (allR_of V w Rs fun j r hr => by
      have hjk : j < k := by have := (List.getElem?_eq_some_iff.1 hr).1; omega
      rcases hD j hjk with ⟨c, _, h2, _⟩ | ⟨_, h2⟩
      · rw [hr] at h2; cases h2; trivial
      · exact allR_get V w Fs hA j r (h2 ▸ hr))
    have e : frameL ops (known D V) (fun _ => true) a k = frameL ops V (fun _ => true) a k := frameL_congr _ _ _ _ _ _ fun j hj => ⟨rfl, fun _ => by
      unfold known
      rcases hD j hj with ⟨c, h2, _, h3⟩ | ⟨h2, _⟩
      · rw [h2]; exact (allR_get V w Fs hA j _ h3).symm
      · rw [h2]; rfl⟩
    show T (frameL ops V (fun _ => true) a k) w
    rw [← e]; exact h1
  | o :: l, k, ps, Rs, Fs, D, hl, hR, hF, hm, hq, hD, h => by
    have h0 : ops[k]? = some o := by simpa using (hl 0 (by simp)).symm
    have hd : dstOf ops k = o.dst := by simp [dstOf, h0]
    have hkm : k < m := by simp at hm; omega
    have ep : ps.headD 0 = qs.getD k 0 := by have := hq 0; simp only [Nat.add_zero] at this; rw [← this]; cases ps <;> simp
    have hag : ∀ V w, facts V w (ps.headD 0) Fs → facts V w (ps.headD 0) Rs ∧ ∀ t, t ∈ o.looksAt ops → (frameL ops V (fun _ => true) a k).tmps[t]? = (frameL ops (known D V) (fun _ => true) a k).tmps[t]? := fun V w hf => by
      refine ⟨facts_of V w Rs _ fun j r hr hp => ?_, fun t ht => frameL_get _ _ _ _ _ _ _ fun j hj hdj => ⟨rfl, fun _ => ?_⟩⟩
      · have hjk : j < k := by have := (List.getElem?_eq_some_iff.1 hr).1; omega
        rcases hD j hjk with ⟨c, _, h2, _⟩ | ⟨_, h2⟩
        · rw [hr] at h2; cases h2; trivial
        · exact facts_get V w Fs _ hf j r (h2 ▸ hr) hp
      · unfold known
        rcases hD j hj with ⟨c, h2, _, h3⟩ | ⟨h2, _⟩
        · rw [h2]
          exact facts_get V w Fs _ hf j _ h3 (ep ▸ hlook k o hkm h0 j t (by omega) hdj ht)
        · rw [h2]; rfl
    have hl' : ∀ j, j < l.length → l[j]? = ops[k + 1 + j]? := fun j hj => by have := hl (j + 1) (by simpa using hj); simpa [Nat.add_assoc, Nat.add_comm 1 j] using this
    have hq' : ∀ j, ps.tail.getD j 0 = qs.getD (k + 1 + j) 0 := fun j => by
      have := hq (j + 1)
      rw [← Nat.add_assoc, Nat.add_right_comm] at this
      rw [← this]; cases ps <;> simp [List.getD]
    have hm' : k + 1 + l.length = m := by simp at hm; omega
    have hfr : ∀ (u : Option Value) (V : Nat → Value), (frameL ops (known D V) (fun _ => true) a k).put o.dst (u.getD (V k)) = frameL ops (known (setD D k u) V) (fun _ => true) a (k + 1) := fun u V => by
      have e : frameL ops (known D V) (fun _ => true) a k = frameL ops (known (setD D k u) V) (fun _ => true) a k := frameL_congr _ _ _ _ _ _ fun j hj => ⟨rfl, fun _ => by
        unfold known setD; rw [if_neg (by omega)]⟩
      rw [e]
      simp [frameL, hd, known, setD]
    have hfr1 : (fun V : Nat → Value => (frameL ops V (fun _ => true) a k).put o.dst (V k)) = fun V => frameL ops V (fun _ => true) a (k + 1) := by
      funext V; simp [frameL, hd]
    have hDn : ∀ (u : Option Value) (rr rf : Rel), ((∃ c, u = some c ∧ rr = (fun _ _ => True) ∧ rf = (fun V _ => V k = c)) ∨ (u = none ∧ rr = rf)) →
        ∀ j, j < k + 1 → (∃ c, setD D k u j = some c ∧ (Rs ++ [rr])[j]? = some (fun _ _ => True) ∧ (Fs ++ [rf])[j]? = some (fun V _ => V j = c)) ∨ (setD D k u j = none ∧ (Rs ++ [rr])[j]? = (Fs ++ [rf])[j]?) := fun u rr rf hu j hj => by
      by_cases hjk : j = k
      · subst hjk
        have e1 : (Rs ++ [rr])[j]? = some rr := by simp [← hR]
        have e2 : (Fs ++ [rf])[j]? = some rf := by simp [← hF]
        rw [e1, e2]
        unfold setD; rw [if_pos rfl]
        rcases hu with ⟨c, h1, h2, h3⟩ | ⟨h1, h2⟩
        · exact .inl ⟨c, h1, by rw [h2], by rw [h3]⟩
        · exact .inr ⟨h1, by rw [h2]⟩
      · have e1 : (Rs ++ [rr])[j]? = Rs[j]? := List.getElem?_append_left (by omega)
        have e2 : (Fs ++ [rf])[j]? = Fs[j]? := List.getElem?_append_left (by omega)
        rw [e1, e2]
        unfold setD; rw [if_neg hjk]
        exact hD j (by omega)
    rcases h with ⟨c, hop, hrest⟩ | ⟨R, hst, hop, hrest⟩
    · have hrest' := mix_free hrf hlook hsel l (k + 1) ps.tail (Rs ++ [fun _ _ => True]) (Fs ++ [fun V _ => V k = c]) (setD D k (some c)) hl' (by simp [hR]) (by simp [hF]) hm' hq' (hDn (some c) _ _ (.inl ⟨c, rfl, rfl, rfl⟩))
        (by have e : (fun V : Nat → Value => (frameL ops (known D V) (fun _ => true) a k).put o.dst c) = fun V => frameL ops (known (setD D k (some c)) V) (fun _ => true) a (k + 1) := funext fun V => hfr (some c) V
            rw [← e]; exact hrest)
      rw [← hfr1] at hrest'
      refine ⟨fun V _ => V k = c, fun V V' w hV h => (hV k (.inl rfl)).symm.trans h, fun _ _ _ _ h => h, fun V w hE hf => ?_, hrest'⟩
      obtain ⟨hf', hg⟩ := hag V w hf
      have h1 := hop V w hE hf'
      unfold opFree
      rw [wanted_of_get o _ _ hg]
      simp only at h1
      split at h1
      · next hw =>
        rw [if_pos hw]
        refine upon_free (K := fun w' v => v = c ∧ E w w') (execOp_of_get o (hsel k o h0) _ _ hg) (by rw [frameL_size, frameL_size]) (fun v w' h => ⟨v, rfl, h.2, by simp only [upd, if_true]; exact h.1⟩) h1
      · next hw =>
        rw [if_neg hw]
        simp only [upd, if_true]; exact h1.symm
    · have hrest' := mix_free hrf hlook hsel l (k + 1) ps.tail (Rs ++ [fun V w => R (V k) w]) (Fs ++ [fun V w => R (V k) w]) (setD D k none) hl' (by simp [hR]) (by simp [hF]) hm' hq' (hDn none _ _ (.inr ⟨rfl, rfl⟩))
        (by have e : (fun V : Nat → Value => (frameL ops (known D V) (fun _ => true) a k).put o.dst (V k)) = fun V => frameL ops (known (setD D k none) V) (fun _ => true) a (k + 1) := funext fun V => hfr none V
            rw [← e]; exact hrest)
      rw [← hfr1] at hrest'
      refine ⟨fun V w => R (V k) w, fun V V' w hV h => by have e := hV k (.inl rfl); simp only [← e]; exact h, fun V w w' hE h => hst _ w w' hE h, fun V w hE hf => ?_, hrest'⟩
      obtain ⟨hf', hg⟩ := hag V w hf
      have h1 := hop V w hE hf'
      unfold opFree
      rw [wanted_of_get o _ _ hg, if_pos h1.1]
      refine upon_free (K := fun w' v => E w w' ∧ R v w') (execOp_of_get o (hsel k o h0) _ _ hg) (by rw [frameL_size, frameL_size]) (fun v w' h => ⟨v, rfl, h.1, by simp only [upd, if_true]; exact h.2⟩) h1.2

/-- THE REGION, WALKED ONCE IN THE ORDER OF THE TEXT; known values stand in the frame. -/
theorem region_mix {Q : Exit → Act → World → Prop} {l : List Oper} {id : Nat} {a : Act} {w : World} (hm : P.follows .mixedOrders = true) (m : Nat) (ps : List Nat) (hok : freeOK l.toArray m ps = true)
    (E : World → World → Prop) (hrf : ∀ a, E a a) (htr : ∀ a b c, E a b → E b c → E a c)
    (h : wpMix P l.toArray E w.drew (fun a w => wpList P l.toArray Q (l.drop m) a w) 0 (l.take m) ps [] (fun _ => a)) : (Code.region id l.toArray true).wp P Q a w := by
  have hok' := hok
  simp only [freeOK, Bool.and_eq_true, beq_iff_eq, decide_eq_true_eq, List.all_eq_true, List.mem_range] at hok'
  obtain ⟨⟨⟨⟨⟨⟨_, hsel⟩, hsz⟩, _⟩, _⟩, hlook⟩, _⟩ := hok'
  have hsz' : m ≤ l.length := by simpa using hsz
  refine region_free hm m ps hok E hrf htr ?_
  refine mix_free (m := m) (qs := ps) hrf ?_ (fun i o ho cs b => Region.noSelect_spec hsel i o cs b ho) (l.take m) 0 ps [] [] (fun _ => none) (fun j hj => ?_) rfl rfl (by simp; omega) (fun j => by simp) (fun j hj => by omega) h
  · intro i o hi ho j t hj hd ht
    have h1 := hlook i hi
    rw [ho] at h1
    simp only [Option.all_some, List.all_eq_true, List.mem_range] at h1
    have h2 := h1 j hj
    rw [hd] at h2
    simp only [Bool.or_eq_true, Bool.not_eq_true', ] at h2
    rcases h2 with h2 | h2
    · simp [ht] at h2
    · exact h2
  · simp only [List.length_take] at hj
    rw [List.getElem?_take_of_lt (by omega)]; simp

variable {E : World → World → Prop} {w0 : World} {T : Act → World → Prop} {k : Nat} {o : Oper} {l : List Oper} {p : Nat} {ps : List Nat} {Rs : List Rel} {fr : (Nat → Value) → Act}
theorem mix_nil (h : ∀ V w, E w0 w → allR V w Rs → T (fr V) w) : wpMix P ops E w0 T k [] ps Rs fr := h
/-- An operation that only computes or reads: met by the walk's own step. -/
theorem mix_op (hrf : ∀ a, E a a) (c : Value) (hw : ∀ V, Region.wanted o (yielded ops (fr V).tmps) = true)
    (h : ∀ V w, E w0 w → facts V w p Rs → ∀ K : Act → World → Prop, K ((fr V).put o.dst c) w → o.wp P (fr V) w K (fun _ _ _ => False))
    (hrest : wpMix P ops E w0 T (k + 1) l ps (Rs ++ [fun _ _ => True]) (fun V => (fr V).put o.dst c)) : wpMix P ops E w0 T k (o :: l) (p :: ps) Rs fr :=
  .inl ⟨c, fun V w hE hF => by
    rw [if_pos (hw V)]
    exact h V w hE hF _ ⟨c, rfl, rfl, hrf w⟩, hrest⟩
/-- A guarded operation that is passed over. -/
theorem mix_skip (hw : ∀ V, Region.wanted o (yielded ops (fr V).tmps) = false)
    (hrest : wpMix P ops E w0 T (k + 1) l ps (Rs ++ [fun _ _ => True]) (fun V => (fr V).put o.dst undef)) : wpMix P ops E w0 T k (o :: l) (p :: ps) Rs fr :=
  .inl ⟨undef, fun V w hE hF => by rw [if_neg (by rw [hw V]; simp)], hrest⟩
/-- A call of a Go function that hands back one known value. -/
theorem mix_call (c : Value) (f : FuncId) (args : (Nat → Value) → Array Value) (hw : ∀ V, Region.wanted o (yielded ops (fr V).tmps) = true)
    (hrun : ∀ V w, (execOp (fr V).eval o).run P w = .ok (.enter f (args V)) w)
    (h : ∀ V w, E w0 w → facts V w p Rs → Calls P f (args V) w fun e w' => e = .returned c ∧ E w w')
    (hrest : wpMix P ops E w0 T (k + 1) l ps (Rs ++ [fun _ _ => True]) (fun V => (fr V).put o.dst c)) : wpMix P ops E w0 T k (o :: l) (p :: ps) Rs fr :=
  .inl ⟨c, fun V w hE hF => by
    rw [if_pos (hw V)]
    unfold opM Oper.wp
    rw [hrun V w]
    exact (h V w hE hF).mono fun e w' ⟨he, hw'⟩ => by subst he; exact ⟨c, rfl, rfl, hw'⟩, hrest⟩
/-- An operation that makes something. -/
theorem mix_root (R : Value → World → Prop) (hst : ∀ v w w', E w w' → R v w → R v w') (hw : ∀ V, Region.wanted o (yielded ops (fr V).tmps) = true)
    (h : ∀ V w, E w0 w → facts V w p Rs → ∀ K : Act → World → Prop, (∀ v w', E w w' → R v w' → K ((fr V).put o.dst v) w') → o.wp P (fr V) w K (fun _ _ _ => False))
    (hrest : wpMix P ops E w0 T (k + 1) l ps (Rs ++ [fun V w => R (V k) w]) (fun V => (fr V).put o.dst (V k))) : wpMix P ops E w0 T k (o :: l) (p :: ps) Rs fr :=
  .inr ⟨R, hst, fun V w hE hF => ⟨hw V, h V w hE hF _ fun v _w' h1 h2 => ⟨v, rfl, h1, h2⟩⟩, hrest⟩
end
end Go.Proofs.Ytmlahbmaomoiaaa
