/-
  A REGION THAT DRAWS ITS ORDER, WALKED ONCE: the operations of a region are taken in the order of the text; of each it is told, by a relation
  between the values of the region's operations and the world, what it leaves; each relation leans only on operations that the edges put ahead.
  Then whatever order is drawn, what stands behind the region holds. Its operations may make memory and call functions that make memory.
-/
import Derived.Test.YtmlahbmaomoiaaaProg
import Derived.WalkKit
import Derived.WalkSpells
import Derived.WalkLawsBesides
import Derived.Lib.Hide
import Derived.Deep.DeepMust
namespace Go.Proofs.Ytmlahbmaomoiaaa
open Go.RowKit

/-- What is told of the values of a region's operations, in a world. -/
abbrev Rel := (Nat → Value) → World → Prop

def facts (V : Nat → Value) (w : World) : Nat → List Rel → Prop
  | _, [] => True
  | p, r :: rs => (p % 2 = 1 → r V w) ∧ facts V w (p / 2) rs

def allR (V : Nat → Value) (w : World) : List Rel → Prop
  | [] => True
  | r :: rs => r V w ∧ allR V w rs

def upd (V : Nat → Value) (k : Nat) (v : Value) : Nat → Value := fun j => if j = k then v else V j

def maskOf (acc : List Nat) (o : Oper) : Nat :=
  o.after.toList.foldl (fun s e => if Region.binds .any e then s ||| 2 ^ e.on ||| acc.getD e.on 0 else s) 0

def masks : List Oper → List Nat → List Nat
  | [], acc => acc
  | o :: l, acc => masks l (acc ++ [maskOf acc o])

def Loc (p k : Nat) (r : Rel) : Prop := ∀ V V' w, (∀ j, (j = k ∨ p.testBit j = true) → V j = V' j) → r V w → r V' w
def Stab (E : World → World → Prop) (r : Rel) : Prop := ∀ V w w', E w w' → r V w → r V w'

def opFree (P : Program) (ops : Array Oper) (E : World → World → Prop) (o : Oper) (k : Nat) (r : Rel) (V : Nat → Value) (a : Act) (w : World) : Prop :=
  if Region.wanted o (yielded ops a.tmps) then
    o.wp P a w (fun a' w' => ∃ v, a' = a.put o.dst v ∧ E w w' ∧ r (upd V k v) w') (fun _ _ _ => False)
  else r (upd V k undef) w

def wpFree (P : Program) (ops : Array Oper) (E : World → World → Prop) (w0 : World) (T : Act → World → Prop) :
    Nat → List Oper → List Nat → List Rel → ((Nat → Value) → Act) → Prop
  | _, [], _, Rs, fr => ∀ V w, E w0 w → allR V w Rs → T (fr V) w
  | k, o :: l, ps, Rs, fr => ∃ r : Rel, Loc (ps.headD 0) k r ∧ Stab E r ∧
      (∀ V w, E w0 w → facts V w (ps.headD 0) Rs → opFree P ops E o k r V (fr V) w) ∧
      wpFree P ops E w0 T (k + 1) l ps.tail (Rs ++ [r]) (fun V => (fr V).put o.dst (V k))

def dstOf (ops : Array Oper) (j : Nat) : Option Tmp := (ops[j]?).bind (·.dst)

def frameL (ops : Array Oper) (V : Nat → Value) (S : Nat → Bool) (a : Act) : Nat → Act
  | 0 => a
  | j + 1 => if S j then (frameL ops V S a j).put (dstOf ops j) (V j) else frameL ops V S a j

def freeOK (ops : Array Oper) (m : Nat) (ps : List Nat) : Bool :=
  (masks ops.toList [] == ps) && Region.noSelect ops && decide (m ≤ ops.size) &&
  (List.range ops.size).all (fun i => (ops[i]?).all fun o => o.after.all fun e => !Region.binds .any e || decide (e.on < i)) &&
  (List.range m).all (fun i => (List.range m).all fun j => i == j || (match dstOf ops i with | some t => dstOf ops j != some t | none => true)) &&
  (List.range m).all (fun i => (ops[i]?).all fun o => (List.range m).all fun j => match dstOf ops j with | some t => !(o.looksAt ops).contains t || (ps.getD i 0).testBit j | none => true) &&
  (List.range ops.size).all (fun i => decide (i < m) || (List.range i).all fun j => (ps.getD i 0).testBit j)

section
variable {P : Program} {ops : Array Oper}

theorem put_size (a : Act) (d : Option Tmp) (v : Value) : (a.put d v).tmps.size = a.tmps.size := by
  cases d <;> simp [Act.put]
theorem put_defs (a : Act) (d : Option Tmp) (v : Value) : (a.put d v).defers = a.defers := by
  cases d <;> rfl
theorem put_get_ne (a : Act) (d : Option Tmp) (v : Value) (t : Nat) (h : d ≠ some t) : (a.put d v).tmps[t]? = a.tmps[t]? := by
  cases d with
  | none => rfl
  | some e => exact Array.getElem?_setIfInBounds_ne (fun h' => h (by rw [h']))
theorem put_get_eq (a : Act) (v : Value) (t : Nat) : (a.put (some t) v).tmps[t]? = if t < a.tmps.size then some v else none := by
  simp only [Act.put, Array.getElem?_setIfInBounds, if_true]

theorem frameL_size (V : Nat → Value) (S : Nat → Bool) (a : Act) : ∀ m, (frameL ops V S a m).tmps.size = a.tmps.size
  | 0 => rfl
  | m + 1 => by
    simp only [frameL]
    split
    · rw [put_size]; exact frameL_size V S a m
    · exact frameL_size V S a m
theorem frameL_get (V V' : Nat → Value) (S S' : Nat → Bool) (a : Act) (t : Nat) : ∀ m,
    (∀ j, j < m → dstOf ops j = some t → S j = S' j ∧ (S j = true → V j = V' j)) →
    (frameL ops V S a m).tmps[t]? = (frameL ops V' S' a m).tmps[t]?
  | 0, _ => rfl
  | m + 1, h => by
    have ih := frameL_get V V' S S' a t m (fun j hj => h j (by omega))
    simp only [frameL]
    by_cases hd : dstOf ops m = some t
    · obtain ⟨h1, h2⟩ := h m (by omega) hd
      rw [← h1]
      by_cases hs : S m = true
      · rw [if_pos hs, if_pos hs, hd, put_get_eq, put_get_eq, frameL_size, frameL_size, h2 hs]
      · rw [if_neg hs, if_neg hs]; exact ih
    · have e1 : (if S m = true then (frameL ops V S a m).put (dstOf ops m) (V m) else frameL ops V S a m).tmps[t]? = (frameL ops V S a m).tmps[t]? := by
        split
        · exact put_get_ne _ _ _ _ hd
        · rfl
      have e2 : (if S' m = true then (frameL ops V' S' a m).put (dstOf ops m) (V' m) else frameL ops V' S' a m).tmps[t]? = (frameL ops V' S' a m).tmps[t]? := by
        split
        · exact put_get_ne _ _ _ _ hd
        · rfl
      rw [e1, e2]; exact ih
theorem frameL_congr (V V' : Nat → Value) (S S' : Nat → Bool) (a : Act) : ∀ m,
    (∀ j, j < m → S j = S' j ∧ (S j = true → V j = V' j)) → frameL ops V S a m = frameL ops V' S' a m
  | 0, _ => rfl
  | m + 1, h => by
    have ih := frameL_congr V V' S S' a m (fun j hj => h j (by omega))
    obtain ⟨h1, h2⟩ := h m (by omega)
    simp only [frameL]
    rw [← h1, ih]
    by_cases hs : S m = true
    · rw [if_pos hs, if_pos hs, h2 hs]
    · rw [if_neg hs, if_neg hs]
theorem frameL_put (V : Nat → Value) (S : Nat → Bool) (a : Act) (i : Nat) (hS : S i = false) : ∀ m,
    (∀ j, j < m → j ≠ i → ∀ t, dstOf ops i = some t → dstOf ops j ≠ some t) → i < m →
    frameL ops V (fun j => S j || j == i) a m = (frameL ops V S a m).put (dstOf ops i) (V i)
  | 0, _, hi => by omega
  | m + 1, h, hi => by
    simp only [frameL]
    by_cases hm : m = i
    · subst hm
      have e := frameL_congr (ops := ops) V V (fun j => S j || j == m) S a m (fun j hj => ⟨by simp; omega, fun _ => rfl⟩)
      rw [e]
      simp [hS]
    · have ih := frameL_put V S a i hS m (fun j hj => h j (by omega)) (by omega)
      rw [ih]
      have hb : (m == i) = false := by simp [hm]
      simp only [hb, Bool.or_false]
      split
      · exact Act.put_comm _ _ _ (fun d hd => h m (by omega) hm d hd)
      · rfl

theorem eval_of_get {a a' : Act} (x : Operand) (h : ∀ t, x = .tmp t → a.tmps[t]? = a'.tmps[t]?) : a.eval x = a'.eval x := by
  cases x with
  | tmp t => simp only [Act.eval, Array.getD_eq_getD_getElem?, h t rfl]
  | _ => rfl
theorem execOp_of_get (o : Oper) (hs : ∀ cs b, o.op ≠ .select cs b) (a a' : Act) (h : ∀ t, t ∈ o.looksAt ops → a.tmps[t]? = a'.tmps[t]?) :
    execOp a.eval o = execOp a'.eval o :=
  execOp_congr o hs fun x hx => eval_of_get x fun t ht => h t (by
    subst ht
    exact List.mem_append_left _ (List.mem_filterMap.2 ⟨.tmp t, by simpa using hx, rfl⟩))
theorem wanted_of_get (o : Oper) (a a' : Act) (h : ∀ t, t ∈ o.looksAt ops → a.tmps[t]? = a'.tmps[t]?) :
    Region.wanted o (yielded ops a.tmps) = Region.wanted o (yielded ops a'.tmps) := by
  unfold Region.wanted
  cases hg : o.guard with
  | none => rfl
  | some gw =>
    obtain ⟨g, want⟩ := gw
    have hy : yielded ops a.tmps g = yielded ops a'.tmps g := by
      unfold yielded
      cases ht : (ops[g]?).bind (·.dst) with
      | none => rfl
      | some t =>
        simp only [Option.bind_some]
        rw [h t (by simp [Oper.looksAt, hg, ht])]
    simp only [hy]

theorem facts_of (V : Nat → Value) (w : World) : ∀ (rs : List Rel) (p : Nat), (∀ (j : Nat) (r : Rel), rs[j]? = some r → p.testBit j = true → r V w) → facts V w p rs
  | [], _, _ => trivial
  | r :: rs, p, h => ⟨fun hp => h 0 r rfl (by simpa [Nat.testBit_zero] using hp), facts_of V w rs (p / 2) fun j r' hr hp => h (j + 1) r' (by simpa using hr) (by rw [Nat.testBit_succ]; exact hp)⟩
theorem allR_of (V : Nat → Value) (w : World) : ∀ (rs : List Rel), (∀ (j : Nat) (r : Rel), rs[j]? = some r → r V w) → allR V w rs
  | [], _ => trivial
  | r :: rs, h => ⟨h 0 r rfl, allR_of V w rs fun j r' hr => h (j + 1) r' (by simpa using hr)⟩

/-- A set of operations that holds, with each, all that stand ahead of it. -/
def Down (ops : Array Oper) (S : Nat → Bool) : Prop := ∀ i o, ops[i]? = some o → S i = true → ∀ e ∈ o.after, Region.binds .any e = true → S e.on = true

theorem maskOf_sub (S : Nat → Bool) (acc : List Nat) (hacc : ∀ k, S k = true → ∀ j, (acc.getD k 0).testBit j = true → S j = true) (o : Oper)
    (ho : ∀ e ∈ o.after, Region.binds .any e = true → S e.on = true) : ∀ j, (maskOf acc o).testBit j = true → S j = true := by
  unfold maskOf
  have key : ∀ (l : List Edge), (∀ e ∈ l, Region.binds .any e = true → S e.on = true) → ∀ s0 : Nat, (∀ j, s0.testBit j = true → S j = true) →
      ∀ j, (l.foldl (fun s e => if Region.binds .any e then s ||| 2 ^ e.on ||| acc.getD e.on 0 else s) s0).testBit j = true → S j = true := by
    intro l
    induction l with
    | nil => intro _ s0 h0 j hj; exact h0 j hj
    | cons e l ih =>
      intro hl s0 h0
      simp only [List.foldl_cons]
      apply ih (fun e' he' => hl e' (List.mem_cons_of_mem _ he'))
      intro j hj
      by_cases hb : Region.binds .any e = true
      · rw [if_pos hb] at hj
        simp only [Nat.testBit_or, Bool.or_eq_true, Nat.testBit_two_pow, decide_eq_true_eq] at hj
        have hS := hl e List.mem_cons_self hb
        rcases hj with (hj | hj) | hj
        · exact h0 j hj
        · subst hj; exact hS
        · exact hacc _ hS j hj
      · rw [if_neg hb] at hj; exact h0 j hj
  exact key o.after.toList (fun e he => ho e (by simpa using he)) 0 (fun j hj => by simp at hj)

theorem masks_len : ∀ (l : List Oper) (acc : List Nat), (masks l acc).length = acc.length + l.length
  | [], _ => by simp [masks]
  | o :: l, acc => by rw [masks, masks_len l]; simp; omega
theorem masks_pre : ∀ (l : List Oper) (acc : List Nat) (k : Nat), k < acc.length → (masks l acc).getD k 0 = acc.getD k 0
  | [], _, _, _ => rfl
  | o :: l, acc, k, h => by
    rw [masks, masks_pre l _ k (by simp; omega)]
    simp [List.getD, List.getElem?_append_left h]
theorem masks_at (S : Nat → Bool) (hS : Down ops S) : ∀ (l : List Oper) (acc : List Nat), (∀ j, l[j]? = ops[acc.length + j]?) →
    (∀ k, k < acc.length → ∀ o, ops[k]? = some o → (∀ e ∈ o.after, Region.binds .any e = true → S e.on = true) → ∀ j, (acc.getD k 0).testBit j = true → S j = true) →
    ∀ k, k < acc.length + l.length → ∀ o, ops[k]? = some o → (∀ e ∈ o.after, Region.binds .any e = true → S e.on = true) → ∀ j, ((masks l acc).getD k 0).testBit j = true → S j = true
  | [], acc, _, hacc, k, hk, o, ho, he, j, hj => hacc k (by simpa using hk) o ho he j (by simpa [masks] using hj)
  | o' :: l, acc, hl, hacc, k, hk, o, ho, he, j, hj => by
    rw [masks] at hj
    refine masks_at S hS l (acc ++ [maskOf acc o']) (fun j => by have := hl (j + 1); simp only [List.getElem?_cons_succ] at this; rw [this, List.length_append, List.length_singleton, Nat.add_assoc, Nat.add_comm 1 j]) ?_ k (by simp at hk ⊢; omega) o ho he j hj
    intro k' hk' o'' ho'' he'' j' hj'
    by_cases hlt : k' < acc.length
    · refine hacc k' hlt o'' ho'' he'' j' ?_
      simpa [List.getD, List.getElem?_append_left hlt] using hj'
    · have hk2 : k' = acc.length := by simp at hk'; omega
      subst hk2
      have h0 : ops[acc.length]? = some o' := by have := hl 0; simpa using this.symm
      rw [h0] at ho''
      cases ho''
      have hj2 : (maskOf acc o').testBit j' = true := by simpa [List.getD] using hj'
      refine maskOf_sub S acc (fun k hk j hj => ?_) o' he'' j' hj2
      by_cases hk3 : k < acc.length
      · have hlt : acc.length < ops.size := (Array.getElem?_eq_some_iff.1 h0).1
        have hok : ∃ o, ops[k]? = some o := ⟨ops[k]'(by omega), Array.getElem?_eq_getElem _⟩
        obtain ⟨ok, hok⟩ := hok
        exact hacc k hk3 ok hok (hS k ok hok hk) j hj
      · have : acc.getD k 0 = 0 := by simp [List.getD, List.getElem?_eq_none (by omega : acc.length ≤ k)]
        rw [this] at hj; simp at hj

/-- The obligation of the operation numbered i, out of the walk. -/
def Duty (P : Program) (ops : Array Oper) (E : World → World → Prop) (w0 : World) (a : Act) (ps : List Nat) (Rs : List Rel) (i : Nat) : Prop :=
  ∃ (r : Rel) (o : Oper), Rs[i]? = some r ∧ ops[i]? = some o ∧ Loc (ps.getD i 0) i r ∧ Stab E r ∧
    ∀ V w, E w0 w → facts V w (ps.getD i 0) (Rs.take i) → opFree P ops E o i r V (frameL ops V (fun _ => true) a i) w

theorem duties {E : World → World → Prop} {w0 : World} {T : Act → World → Prop} {a : Act} {qs : List Nat} {m : Nat} :
    ∀ (l : List Oper) (k : Nat) (ps : List Nat) (Rs : List Rel), (∀ j, j < l.length → l[j]? = ops[k + j]?) → Rs.length = k → k + l.length = m → (∀ j, ps.getD j 0 = qs.getD (k + j) 0) →
      wpFree P ops E w0 T k l ps Rs (fun V => frameL ops V (fun _ => true) a k) →
      ∃ Rt : List Rel, Rt.length = m ∧ Rt.take k = Rs ∧ (∀ i, k ≤ i → i < m → Duty P ops E w0 a qs Rt i) ∧
        (∀ V w, E w0 w → allR V w Rt → T (frameL ops V (fun _ => true) a m) w)
  | [], k, ps, Rs, _, hk, hm, _, h => by
    simp at hm; subst hm; subst hk
    exact ⟨Rs, rfl, List.take_length, fun i h1 h2 => by omega, h⟩
  | o :: l, k, ps, Rs, hl, hk, hm, hq, h => by
    obtain ⟨r, hloc, hst, hop, hrest⟩ := h
    have h0 : ops[k]? = some o := by simpa using (hl 0 (by simp)).symm
    have hd : dstOf ops k = o.dst := by simp [dstOf, h0]
    have hfr : (fun V : Nat → Value => (frameL ops V (fun _ => true) a k).put o.dst (V k)) = fun V => frameL ops V (fun _ => true) a (k + 1) := by
      funext V; simp [frameL, hd]
    rw [hfr] at hrest
    obtain ⟨Rt, h1, h2, h3, h4⟩ := duties (m := m) l (k + 1) ps.tail (Rs ++ [r]) (fun j hj => by have := hl (j + 1) (by simpa using hj); simpa [Nat.add_assoc, Nat.add_comm 1 j] using this) (by simp [hk]) (by simp at hm; omega)
      (fun j => by
        have := hq (j + 1)
        rw [← Nat.add_assoc, Nat.add_right_comm] at this
        rw [← this]; cases ps <;> simp [List.getD]) hrest
    have hrk : Rt[k]? = some r := by
      have : (Rt.take (k + 1))[k]? = some r := by rw [h2]; simp [← hk]
      simpa [List.getElem?_take] using this
    have htk : Rt.take k = Rs := by
      have : (Rt.take (k + 1)).take k = Rs := by rw [h2]; simp [← hk]
      simpa [List.take_take] using this
    refine ⟨Rt, h1, htk, fun i hi1 hi2 => ?_, h4⟩
    by_cases hik : i = k
    · subst hik
      have e0 : ps.headD 0 = qs.getD i 0 := by have := hq 0; simp only [Nat.add_zero] at this; rw [← this]; cases ps <;> simp
      refine ⟨r, o, hrk, h0, e0 ▸ hloc, hst, fun V w hE hf => ?_⟩
      rw [htk, ← e0] at hf
      exact hop V w hE hf
    · exact h3 i (by omega) hi2

theorem cnt_set (f : Nat → Bool) (i : Nat) (hf : f i = true) : ∀ n, i < n →
    (List.range n).countP (fun j => f j && !(j == i)) + 1 = (List.range n).countP f
  | 0, h => by omega
  | n + 1, h => by
    rw [List.range_succ, List.countP_append, List.countP_append]
    by_cases hn : n = i
    · subst hn
      have e : (List.range n).countP (fun j => f j && !(j == n)) = (List.range n).countP f :=
        List.countP_congr fun x hx => by have := List.mem_range.1 hx; have hne : (x == n) = false := by simp; omega
                                         simp [hne]
      rw [e]; simp [hf]
    · have ih := cnt_set f i hf n (by omega)
      have hne : (n == i) = false := by simp [hn]
      simp only [List.countP_singleton, hne, Bool.not_false, Bool.and_true]
      omega

/-- The tail: each operation waits for all that stand ahead of it. -/
theorem any_tail {Q : Exit → Act → World → Prop} {m : Nat} (hpre : ∀ (listed : Array Bool) (k i : Nat), (∀ j, j < k → listed.getD j true = true) → (∀ j, k ≤ j → j < ops.size → listed.getD j true = false) → listed.size = ops.size →
      i ∈ Region.ready .any ops listed → m ≤ k → i = k) (hlex : ∀ i o, ops[i]? = some o → ∀ e ∈ o.after, Region.binds .any e = true → e.on < i) :
    ∀ (d k : Nat) (listed : Array Bool) (a : Act) (w : World), k + d = ops.size → m ≤ k → listed.size = ops.size → (∀ j, j < k → listed.getD j true = true) → (∀ j, k ≤ j → j < ops.size → listed.getD j true = false) →
      wpList P ops Q (ops.toList.drop k) a w → wpAny P .any ops Q d listed a w
  | 0, k, listed, a, w, hk, hm, hs, h1, h2, h => by
    have hk' : k = ops.size := by omega
    have hr : Region.ready .any ops listed = [] := by
      rw [List.eq_nil_iff_forall_not_mem]
      intro i hi
      have hi' := mem_ready.1 hi
      obtain ⟨hi0, o, ho, _⟩ := hi'
      have hlt := (Array.getElem?_eq_some_iff.1 ho).1
      rw [h1 i (by omega)] at hi0; cases hi0
    refine ⟨hr, ?_⟩
    rw [List.drop_eq_nil_of_le (by simp; omega)] at h
    exact h
  | d + 1, k, listed, a, w, hk, hm, hs, h1, h2, h => by
    have hlt : k < ops.size := by omega
    have hok : ops[k]? = some ops[k] := by simp [hlt]
    have hrk : k ∈ Region.ready .any ops listed := mem_ready.2 ⟨h2 k (Nat.le_refl _) hlt, ops[k], hok, fun e he hb => by
      have hlt2 := hlex k _ hok e he hb
      have h4 := h1 e.on hlt2
      have h3 : e.on < listed.size := by omega
      simp only [Array.getD_eq_getD_getElem?, Array.getElem?_eq_getElem h3, Option.getD_some] at h4 ⊢
      exact h4⟩
    refine ⟨fun h0 => (by rw [h0] at hrk; cases hrk), fun i hi => ?_⟩
    have hik := hpre listed k i h1 h2 hs hi hm
    subst hik
    have hdrop : ops.toList.drop i = ops[i] :: ops.toList.drop (i + 1) := by
      rw [List.drop_eq_getElem_cons (by simpa using hlt)]; simp
    rw [hdrop] at h
    have hnext : ∀ a w, wpList P ops Q (ops.toList.drop (i + 1)) a w → wpAny P .any ops Q d (listed.setIfInBounds i true) a w := fun a w hh =>
      any_tail hpre hlex d (i + 1) _ a w (by omega) (by omega) (by simpa using hs)
        (fun j hj => by
          by_cases hji : j = i
          · subst hji; simp [hs, hlt]
          · rw [getD_set_ne true (Ne.symm hji)]; exact h1 j (by omega))
        (fun j hj hj2 => by rw [getD_set_ne true (by omega)]; exact h2 j (by omega) hj2) hh
    unfold wpOp
    rw [hok]
    simp only [wpList] at h
    by_cases hw : Region.wanted ops[i] (yielded ops a.tmps) = true
    · rw [if_pos hw] at h
      simp only [hw, if_true]
      exact h.imp (Oper.wp_mono hnext) id
    · rw [if_neg hw] at h
      simp only [hw]
      exact hnext _ _ h

theorem put_same {a a1 : Act} {d : Option Tmp} {u v : Value} (hs : a.tmps.size = a1.tmps.size) (h : a1.put d u = a1.put d v) : a.put d u = a.put d v := by
  cases d with
  | none => rfl
  | some t =>
    have e := congrArg (fun x : Act => x.tmps[t]?) h
    simp only [put_get_eq] at e
    by_cases ht : t < a1.tmps.size
    · rw [if_pos ht, if_pos ht] at e
      cases e; rfl
    · have h1 : ∀ x : Value, a.tmps.setIfInBounds t x = a.tmps := fun x => Array.setIfInBounds_eq_of_size_le (hs ▸ Nat.le_of_not_lt ht)
      simp only [Act.put, h1]

theorem upon_free {o : Oper} {a a1 : Act} {w : World} {K : World → Value → Prop} {K' : Act → World → Prop} {Q' : Exit → Act → World → Prop}
    (he : execOp a.eval o = execOp a1.eval o) (hs : a.tmps.size = a1.tmps.size) (hK : ∀ v w', K w' v → K' (a.put o.dst v) w')
    (h : o.wp P a1 w (fun a' w' => ∃ v, a' = a1.put o.dst v ∧ K w' v) (fun _ _ _ => False)) : o.wp P a w K' Q' := by
  have hinj : ∀ u v w', a1.put o.dst u = a1.put o.dst v → K w' v → K' (a.put o.dst u) w' := fun u v w' h1 h2 => by
    rw [put_same hs h1]; exact hK v w' h2
  unfold Oper.wp at *
  rw [he]
  generalize (execOp a1.eval o).run P w = r at *
  cases r with
  | ok n w' =>
    cases n <;> simp only [Oper.upon] at h ⊢
    case value u => obtain ⟨v, h1, h2⟩ := h; exact hinj u v _ h1 h2
    case skip => obtain ⟨v, h1, h2⟩ := h; exact hinj _ v _ h1 h2
    case defer d =>
      obtain ⟨v, h1, _⟩ := h
      have e := congrArg Act.defers h1
      rw [put_defs, put_defs] at e
      have := congrArg List.length e
      simp at this
    case enter f args =>
      refine Calls.mono h fun e w'' he => ?_
      cases e with
      | returned u => obtain ⟨v, h1, h2⟩ := he; exact hinj u v _ h1 h2
      | panicked c => exact he.elim
      | outgrown => obtain ⟨_, _, hf⟩ := he; exact hf.elim
    case row row args => exact Rows.mono h fun u w'' he => by obtain ⟨v, h1, h2⟩ := he; exact hinj u v _ h1 h2
  | halt x w' => cases x <;> simp only [Oper.upon] at h ⊢

theorem any_free {Q : Exit → Act → World → Prop} {E : World → World → Prop} (hrf : ∀ a, E a a) (htr : ∀ a b c, E a b → E b c → E a c) {w0 : World} {a : Act} {ps : List Nat} {Rt : List Rel} {m : Nat}
    (hok : freeOK ops m ps = true) (hlen : Rt.length = m) (hduty : ∀ i, i < m → Duty P ops E w0 a ps Rt i)
    (hfin : ∀ V w, E w0 w → allR V w Rt → wpList P ops Q (ops.toList.drop m) (frameL ops V (fun _ => true) a m) w) :
    ∀ (d : Nat) (listed : Array Bool) (V : Nat → Value) (w : World), listed.size = ops.size → (List.range ops.size).countP (fun j => !listed.getD j true) = d →
      (∀ i, m ≤ i → i < ops.size → listed.getD i true = false) → Down ops (fun i => listed.getD i false) → E w0 w →
      (∀ (i : Nat) (r : Rel), Rt[i]? = some r → listed.getD i false = true → r V w) → wpAny P .any ops Q d listed (frameL ops V (fun i => listed.getD i false) a m) w := by
  simp only [freeOK, Bool.and_eq_true, beq_iff_eq, decide_eq_true_eq, List.all_eq_true, List.mem_range] at hok
  obtain ⟨⟨⟨⟨⟨⟨hmask, hsel⟩, hm⟩, hlex⟩, hdist⟩, hlook⟩, htail⟩ := hok
  have hlex' : ∀ i o, ops[i]? = some o → ∀ e ∈ o.after, Region.binds .any e = true → e.on < i := fun i o ho e he hb => by
    have h1 := hlex i (Array.getElem?_eq_some_iff.1 ho).1
    rw [ho] at h1
    have h2 := Array.all_eq_true_iff_forall_mem.1 (show o.after.all _ = true from h1) e he
    simpa [hb] using h2
  have hgetD : ∀ (listed : Array Bool) (i : Nat), listed.size = ops.size → i < ops.size → listed.getD i true = listed.getD i false := fun listed i hs hi => by
    have : i < listed.size := by omega
    simp [this]
  have hbits : ∀ (listed : Array Bool) (i : Nat), listed.size = ops.size → Down ops (fun i => listed.getD i false) → i ∈ Region.ready .any ops listed → ∀ j, (ps.getD i 0).testBit j = true → listed.getD j false = true := by
    intro listed i hs hdn hi j hj
    obtain ⟨_, o, ho, hall⟩ := mem_ready.1 hi
    rw [← hmask] at hj
    exact masks_at (fun i => listed.getD i false) hdn ops.toList [] (by simp) (fun k hk => by simp at hk) i (by simpa using (Array.getElem?_eq_some_iff.1 ho).1) o ho hall j hj
  have hpre : ∀ (listed : Array Bool) (k i : Nat), (∀ j, j < k → listed.getD j true = true) → (∀ j, k ≤ j → j < ops.size → listed.getD j true = false) → listed.size = ops.size →
      i ∈ Region.ready .any ops listed → m ≤ k → i = k := by
    intro listed k i h1 h2 hs hi hmk
    have hdn : Down ops (fun i => listed.getD i false) := fun i' o' ho' hl' e he hb => by
      have hi' := (Array.getElem?_eq_some_iff.1 ho').1
      have hlt := hlex' i' o' ho' e he hb
      have hik : i' < k := by
        apply Nat.lt_of_not_le; intro hle
        have h3 := h2 i' hle hi'
        rw [hgetD listed i' hs hi'] at h3
        simp only at hl'
        rw [hl'] at h3; cases h3
      simp only
      rw [← hgetD listed e.on hs (by omega)]
      exact h1 _ (by omega)
    obtain ⟨hi0, o, ho, _⟩ := mem_ready.1 hi
    have hilt := (Array.getElem?_eq_some_iff.1 ho).1
    have hki : k ≤ i := by
      apply Nat.le_of_not_lt; intro hlt
      rw [h1 i hlt] at hi0; cases hi0
    apply Nat.le_antisymm _ hki
    apply Nat.le_of_not_lt; intro hlt
    have ht := htail i hilt
    have him : ¬ i < m := by omega
    simp only [him, decide_false, Bool.false_or, List.all_eq_true, List.mem_range] at ht
    have hb := hbits listed i hs hdn hi k (ht k hlt)
    rw [← hgetD listed k hs (by omega), h2 k (Nat.le_refl _) (by omega)] at hb
    cases hb
  intro d
  induction d with
  | zero =>
    intro listed V w hs hc hfront hdn hE hR
    have hall : ∀ j, j < ops.size → listed.getD j true = true := fun j hj => by
      have := List.countP_eq_zero.1 hc j (List.mem_range.2 hj)
      simpa using this
    have hmn : m = ops.size := by
      apply Nat.le_antisymm hm
      apply Nat.le_of_not_lt; intro hlt
      have h1 := hfront m (Nat.le_refl _) hlt
      rw [hall m hlt] at h1; cases h1
    have hfr : frameL ops V (fun i => listed.getD i false) a m = frameL ops V (fun _ => true) a m :=
      frameL_congr _ _ _ _ _ m fun j hj => ⟨by rw [← hgetD listed j hs (by omega)]; exact hall j (by omega), fun _ => rfl⟩
    rw [hfr]
    exact any_tail hpre hlex' 0 m listed _ w (by omega) (Nat.le_refl _) hs (fun j hj => hall j (by omega)) (fun j hj hj2 => by omega)
      (hfin V w hE (allR_of V w Rt fun j r hr => hR j r hr (by
        have : j < Rt.length := (List.getElem?_eq_some_iff.1 hr).1
        rw [← hgetD listed j hs (by omega)]; exact hall j (by omega))))
  | succ d ih =>
    intro listed V w hs hc hfront hdn hE hR
    by_cases hdone : ∀ j, j < m → listed.getD j true = true
    · have hfr : frameL ops V (fun i => listed.getD i false) a m = frameL ops V (fun _ => true) a m :=
        frameL_congr _ _ _ _ _ m fun j hj => ⟨by rw [← hgetD listed j hs (by omega)]; exact hdone j (by omega), fun _ => rfl⟩
      rw [hfr]
      have hcount : m + (d + 1) = ops.size := by
        have e1 : (List.range ops.size).countP (fun j => !listed.getD j true) = (List.range ops.size).countP (fun j => decide (m ≤ j)) :=
          List.countP_congr fun x hx => by
            have hx' := List.mem_range.1 hx
            by_cases hxm : x < m
            · rw [hdone x hxm]; simp; omega
            · rw [hfront x (by omega) hx']; simp; omega
        have e2 : ∀ n, m ≤ n → m + (List.range n).countP (fun j => decide (m ≤ j)) = n := by
          intro n
          induction n with
          | zero => intro h; simp; omega
          | succ n ihn =>
            intro h
            rw [List.range_succ, List.countP_append, List.countP_singleton]
            by_cases hmn : m ≤ n
            · have := ihn hmn; simp only [hmn, decide_true, if_true]; omega
            · have e : (List.range n).countP (fun j => decide (m ≤ j)) = 0 := List.countP_eq_zero.2 fun x hx => by have := List.mem_range.1 hx; simp; omega
              simp only [hmn, decide_false, e]; simp; omega
        have := e2 ops.size hm
        rw [e1] at hc
        omega
      exact any_tail hpre hlex' (d + 1) m listed _ w hcount (Nat.le_refl _) hs hdone hfront
        (hfin V w hE (allR_of V w Rt fun j r hr => hR j r hr (by
          have : j < Rt.length := (List.getElem?_eq_some_iff.1 hr).1
          rw [← hgetD listed j hs (by omega)]; exact hdone j (by omega))))
    · refine ⟨fun hnil => ?_, fun i hi => ?_⟩
      · exfalso
        have hex : ∃ j, j < m ∧ listed.getD j true = false := by
          apply Classical.byContradiction; intro hno
          exact hdone fun j hj => by
            cases hj2 : listed.getD j true
            · exact absurd ⟨j, hj, hj2⟩ hno
            · rfl
        have hmin : ∀ n, (∃ j, j < n ∧ j < m ∧ listed.getD j true = false) → ∃ j, j < m ∧ listed.getD j true = false ∧ ∀ k, k < j → listed.getD k true = true := by
          intro n
          induction n with
          | zero => rintro ⟨j, h, _⟩; omega
          | succ n ihn =>
            rintro ⟨j, h1, h2, h3⟩
            by_cases hk : ∃ k, k < j ∧ listed.getD k true = false
            · obtain ⟨k, hk1, hk2⟩ := hk
              exact ihn ⟨k, by omega, by omega, hk2⟩
            · exact ⟨j, h2, h3, fun k hk' => by
                cases hk2 : listed.getD k true
                · exact absurd ⟨k, hk', hk2⟩ hk
                · rfl⟩
        obtain ⟨j, hj⟩ := hex
        obtain ⟨j, hj1, hj2, hj3⟩ := hmin m ⟨j, hj.1, hj⟩
        have hjo : ops[j]? = some (ops[j]'(by omega)) := Array.getElem?_eq_getElem _
        have : j ∈ Region.ready .any ops listed := mem_ready.2 ⟨hj2, _, hjo, fun e he hb => by
          have h1 := hlex' j _ hjo e he hb
          rw [← hgetD listed e.on hs (by omega)]; exact hj3 e.on h1⟩
        rw [hnil] at this; cases this
      · obtain ⟨hi0, o, ho, hall⟩ := mem_ready.1 hi
        have hilt := (Array.getElem?_eq_some_iff.1 ho).1
        have hbit := hbits listed i hs hdn hi
        have him : i < m := by
          apply Nat.lt_of_not_le; intro hle
          have ht := htail i hilt
          have hn : ¬ i < m := by omega
          simp only [hn, decide_false, Bool.false_or, List.all_eq_true, List.mem_range] at ht
          exact hdone fun j hj => by rw [hgetD listed j hs (by omega)]; exact hbit j (ht j (by omega))
        obtain ⟨r, o', hr, ho', hloc, hst, hduty'⟩ := hduty i him
        rw [ho] at ho'; cases ho'
        have hd := hduty' V w hE (facts_of V w _ _ fun j r' hr' hj => by
          have hji : (Rt.take i)[j]? = some r' := hr'
          rw [List.getElem?_take] at hji
          split at hji
          · exact hR j r' hji (hbit j hj)
          · cases hji)
        have hagree : ∀ t, t ∈ o.looksAt ops → (frameL ops V (fun i => listed.getD i false) a m).tmps[t]? = (frameL ops V (fun _ => true) a i).tmps[t]? := by
          intro t ht
          have e1 : (frameL ops V (fun _ => true) a i).tmps[t]? = (frameL ops V (fun j => decide (j < i)) a m).tmps[t]? := by
            have h2 : ∀ n, i ≤ n → (frameL ops V (fun j => decide (j < i)) a n) = frameL ops V (fun _ => true) a i := by
              intro n
              induction n with
              | zero => intro h; have : i = 0 := by omega
                        subst this; rfl
              | succ n ihn =>
                intro h
                by_cases hin : i ≤ n
                · have : ¬ n < i := by omega
                  simp only [frameL, this, decide_false, Bool.false_eq_true, if_false]; exact ihn hin
                · have : i = n + 1 := by omega
                  subst this
                  exact frameL_congr _ _ _ _ _ _ fun j hj => ⟨by simp; omega, fun _ => rfl⟩
            rw [h2 m (by omega)]
          rw [e1]
          refine frameL_get V V _ _ a t m fun j hj hdj => ⟨?_, fun _ => rfl⟩
          have h3 := hlook i him
          rw [ho] at h3
          have h4 := (List.all_eq_true.1 (by simpa using h3)) j (List.mem_range.2 hj)
          rw [hdj] at h4
          have h5 : (ps.getD i 0).testBit j = true := by
            rcases Bool.or_eq_true _ _ ▸ h4 with h | h
            · simp [ht] at h
            · exact h
          have h6 := hbit j h5
          have h7 : j < i := by
            rw [← hmask] at h5
            exact of_decide_eq_true (masks_at (fun k => decide (k < i)) (fun i' o' ho' hl' e he hb => by
              have := hlex' i' o' ho' e he hb
              simp only [decide_eq_true_eq] at hl' ⊢; omega) ops.toList [] (by simp) (fun k hk => by simp at hk) i (by simpa using hilt) o ho (fun e he hb => by simpa using hlex' i o ho e he hb) j h5)
          simp only [h6, h7, decide_true]
        have hex := execOp_of_get (ops := ops) o (fun cs b => Region.noSelect_spec hsel i o cs b ho) _ _ hagree
        have hwt := wanted_of_get (ops := ops) o _ _ hagree
        have hnext : ∀ v w', E w w' → r (upd V i v) w' → wpAny P .any ops Q d (listed.setIfInBounds i true) ((frameL ops V (fun i => listed.getD i false) a m).put o.dst v) w' := by
          intro v w' hE' hr'
          have hli : listed.getD i false = false := by rw [← hgetD listed i hs hilt]; exact hi0
          have hset : ∀ j, (listed.setIfInBounds i true).getD j false = (listed.getD j false || j == i) := fun j => by
            by_cases hji : j = i
            · subst hji; simp [hs, hilt]
            · rw [getD_set_ne false (Ne.symm hji)]; simp [hji]
          have hdo : dstOf ops i = o.dst := by simp [dstOf, ho]
          have hf : (frameL ops V (fun i => listed.getD i false) a m).put o.dst v = frameL ops (upd V i v) (fun j => (listed.setIfInBounds i true).getD j false) a m := by
            have e1 : frameL ops V (fun i => listed.getD i false) a m = frameL ops (upd V i v) (fun i => listed.getD i false) a m :=
              frameL_congr _ _ _ _ _ m fun j hj => ⟨rfl, fun hl => by
                have : j ≠ i := fun h => by subst h; rw [hli] at hl; cases hl
                simp [upd, this]⟩
            have e2 : (fun j => (listed.setIfInBounds i true).getD j false) = fun j => (fun i => listed.getD i false) j || j == i := funext hset
            rw [e1, e2, frameL_put (upd V i v) (fun i => listed.getD i false) a i hli m (fun j hj hne t hdi hdj => by
              have h1 := hdist i him j hj
              have h2 : (i == j) = false := by simp; omega
              rw [hdi, hdj, h2] at h1
              simp at h1) him, hdo]
            simp [upd]
          rw [hf]
          refine ih _ (upd V i v) w' (by simpa using hs) ?_ (fun j hj hj2 => by rw [getD_set_ne true (by omega)]; exact hfront j hj hj2) ?_ (htr _ _ _ hE hE') ?_
          · have h1 := cnt_set (fun j => !listed.getD j true) i (by simp [hi0]) ops.size hilt
            rw [hc] at h1
            have h2 : (List.range ops.size).countP (fun j => !(listed.setIfInBounds i true).getD j true) = (List.range ops.size).countP (fun j => (fun j => !listed.getD j true) j && !(j == i)) :=
              List.countP_congr fun x hx => by
                by_cases hxi : x = i
                · subst hxi; simp [hs, hilt]
                · rw [getD_set_ne true (Ne.symm hxi)]; simp [hxi]
            rw [h2]
            simp only at h1 ⊢
            omega
          · intro i' o' ho' hl' e he hb
            simp only [hset, Bool.or_eq_true, beq_iff_eq] at hl' ⊢
            rcases hl' with hl' | hl'
            · exact .inl (hdn i' o' ho' hl' e he hb)
            · subst hl'; rw [ho] at ho'; cases ho'; exact .inl (hall e he hb)
          · intro j r' hr2 hl'
            rw [hset] at hl'
            by_cases hji : j = i
            · subst hji; rw [hr] at hr2; cases hr2; exact hr'
            · simp [hji] at hl'
              obtain ⟨r3, o3, hr3, ho3, hloc3, hst3, _⟩ := hduty j (by have := (List.getElem?_eq_some_iff.1 hr2).1; omega)
              rw [hr2] at hr3; cases hr3
              refine hloc3 V _ w' (fun x hx => ?_) (hst3 V w w' hE' (hR j r' hr2 (by simpa using hl')))
              have hxi : x ≠ i := by
                intro hxi; subst hxi
                rcases hx with hx | hx
                · exact hji hx.symm
                · rw [← hmask] at hx
                  have := masks_at (fun i => listed.getD i false) hdn ops.toList [] (by simp) (fun k hk => by simp at hk) j (by simpa using (Array.getElem?_eq_some_iff.1 ho3).1) o3 ho3 (fun e he hb => hdn j o3 ho3 (by simpa using hl') e he hb) x hx
                  rw [hli] at this; cases this
              simp [upd, hxi]
        unfold wpOp
        rw [ho]
        simp only
        unfold opFree at hd
        rw [hwt]
        by_cases hw : Region.wanted o (yielded ops (frameL ops V (fun _ => true) a i).tmps) = true
        · rw [if_pos hw] at hd ⊢
          exact .inl (upon_free (K := fun w' v => E w w' ∧ r (upd V i v) w') hex (by rw [frameL_size, frameL_size]) (fun v w' h => hnext v w' h.1 h.2) hd)
        · rw [if_neg hw] at hd ⊢
          exact hnext undef w (hrf w) hd
end


section
variable {P : Program}
/-- THE REGION, WALKED ONCE IN THE ORDER OF THE TEXT, whatever order is drawn. -/
theorem region_free {Q : Exit → Act → World → Prop} {l : List Oper} {id : Nat} {a : Act} {w : World} (hm : P.follows .mixedOrders = true) (m : Nat) (ps : List Nat) (hok : freeOK l.toArray m ps = true)
    (E : World → World → Prop) (hrf : ∀ a, E a a) (htr : ∀ a b c, E a b → E b c → E a c)
    (h : wpFree P l.toArray E w.drew (fun a w => wpList P l.toArray Q (l.drop m) a w) 0 (l.take m) ps [] (fun _ => a)) : (Code.region id l.toArray true).wp P Q a w := by
  have hsz : m ≤ l.length := by
    simp only [freeOK, Bool.and_eq_true, decide_eq_true_eq] at hok
    have := hok.1.1.1.1.2
    simpa using this
  obtain ⟨Rt, h1, _, h3, h4⟩ := duties (ops := l.toArray) (a := a) (qs := ps) (m := m) (l.take m) 0 ps [] (fun j hj => by
    simp only [List.length_take] at hj
    rw [List.getElem?_take_of_lt (by omega)]; simp) rfl (by simp; omega) (fun j => by simp) h
  refine wp_region_any hm ?_
  have hg : ∀ j d, (Array.replicate l.toArray.size false).getD j d = if j < l.toArray.size then false else d := fun j d => by
    rw [Array.getD_eq_getD_getElem?, Array.getElem?_replicate]; split <;> rfl
  have hf : ∀ j, (Array.replicate l.toArray.size false).getD j false = false := fun j => by rw [hg]; split <;> rfl
  have hsize : (Array.replicate l.toArray.size false).size = l.toArray.size := by simp
  generalize Array.replicate l.toArray.size false = L at hg hf hsize
  have hall := any_free (P := P) (Q := Q) hrf htr (w0 := w.drew) (a := a) (ps := ps) (Rt := Rt) (m := m) hok h1 (fun i hi => h3 i (Nat.zero_le _) hi) (by simpa using h4)
    l.toArray.size L (fun _ => undef) w.drew hsize
    (by rw [List.countP_eq_length.2 (fun x hx => by have := List.mem_range.1 hx; rw [hg, if_pos this]; rfl), List.length_range])
    (fun i _ hi => by rw [hg, if_pos hi]) (fun i o ho hl => by have h0 := hf i; simp only at hl; rw [h0] at hl; cases hl) (hrf _) (fun i r _ hl => by rw [hf] at hl; cases hl)
  have he : ∀ m, frameL l.toArray (fun _ => undef) (fun i => L.getD i false) a m = a := by
    intro m
    induction m with
    | zero => rfl
    | succ m ih => unfold frameL; rw [ih]; simp only [hf m, Bool.false_eq_true, if_false]
  rw [he m] at hall
  exact hall

/-- Memory has grown, and nothing that was there has turned. -/
def Grow (w w' : World) : Prop := Below w.heap.size w w'
theorem Grow.refl (w : World) : Grow w w := Below.refl _ _
theorem Grow.trans {a b c : World} (h : Grow a b) (k : Grow b c) : Grow a c := Below.trans h (Below.mono k (Below.size h))

variable {ops : Array Oper} {E : World → World → Prop} {w0 : World} {T : Act → World → Prop} {k : Nat} {o : Oper} {l : List Oper} {p : Nat} {ps : List Nat} {Rs : List Rel} {fr : (Nat → Value) → Act}
theorem wpFree_nil (h : ∀ V w, E w0 w → allR V w Rs → T (fr V) w) : wpFree P ops E w0 T k [] ps Rs fr := h
/-- An operation of which a relation is told. -/
theorem wpFree_rel (r : Rel) (hloc : Loc p k r) (hst : Stab E r) (hw : ∀ V, Region.wanted o (yielded ops (fr V).tmps) = true)
    (h : ∀ V w, E w0 w → facts V w p Rs → ∀ K : Act → World → Prop, (∀ v w', E w w' → r (upd V k v) w' → K ((fr V).put o.dst v) w') → o.wp P (fr V) w K (fun _ _ _ => False))
    (hrest : wpFree P ops E w0 T (k + 1) l ps (Rs ++ [r]) (fun V => (fr V).put o.dst (V k))) : wpFree P ops E w0 T k (o :: l) (p :: ps) Rs fr :=
  ⟨r, hloc, hst, fun V w hE hF => by
    unfold opFree
    rw [if_pos (hw V)]
    exact h V w hE hF _ (fun v w' h1 h2 => ⟨v, rfl, h1, h2⟩), hrest⟩
/-- An operation that makes something: what is told of its value hangs on that value and the world alone. -/
theorem wpFree_root (R : Value → World → Prop) (hst : ∀ v w w', E w w' → R v w → R v w') (hw : ∀ V w, facts V w p Rs → Region.wanted o (yielded ops (fr V).tmps) = true)
    (h : ∀ V w, E w0 w → facts V w p Rs → ∀ K : Act → World → Prop, (∀ v w', E w w' → R v w' → K ((fr V).put o.dst v) w') → o.wp P (fr V) w K (fun _ _ _ => False))
    (hrest : wpFree P ops E w0 T (k + 1) l ps (Rs ++ [fun V w => R (V k) w]) (fun V => (fr V).put o.dst (V k))) : wpFree P ops E w0 T k (o :: l) (p :: ps) Rs fr :=
  ⟨fun V w => R (V k) w, fun V V' w hV h => by have e := hV k (.inl rfl); simp only [← e]; exact h, fun V w w' hE h => hst _ w w' hE h, fun V w hE hF => by
    unfold opFree
    rw [if_pos (hw V w hF)]
    exact h V w hE hF _ (fun v w' h1 h2 => ⟨v, rfl, h1, by simpa [upd] using h2⟩), hrest⟩
/-- An operation that only computes or reads: its value does not hang on the others' places in memory. -/
theorem wpFree_pure (hrf : ∀ a, E a a) (c : Value) (hw : ∀ V w, facts V w p Rs → Region.wanted o (yielded ops (fr V).tmps) = true)
    (h : ∀ V w, E w0 w → facts V w p Rs → (execOp (fr V).eval o).run P w = .ok (.value c) w)
    (hrest : wpFree P ops E w0 T (k + 1) l ps (Rs ++ [fun V _ => V k = c]) (fun V => (fr V).put o.dst (V k))) : wpFree P ops E w0 T k (o :: l) (p :: ps) Rs fr :=
  ⟨fun V _ => V k = c, fun V V' w hV h => (hV k (.inl rfl)).symm.trans h, fun _ _ _ _ h => h, fun V w hE hF => by
    unfold opFree
    rw [if_pos (hw V w hF)]
    unfold Oper.wp
    rw [h V w hE hF]
    exact ⟨c, rfl, hrf w, by simp [upd]⟩, hrest⟩
/-- An operation that only computes or reads, met by the walk's own step. -/
theorem wpFree_op (hrf : ∀ a, E a a) (c : Value) (hw : ∀ V w, facts V w p Rs → Region.wanted o (yielded ops (fr V).tmps) = true)
    (h : ∀ V w, E w0 w → facts V w p Rs → ∀ K : Act → World → Prop, K ((fr V).put o.dst c) w → o.wp P (fr V) w K (fun _ _ _ => False))
    (hrest : wpFree P ops E w0 T (k + 1) l ps (Rs ++ [fun V _ => V k = c]) (fun V => (fr V).put o.dst (V k))) : wpFree P ops E w0 T k (o :: l) (p :: ps) Rs fr :=
  ⟨fun V _ => V k = c, fun V V' w hV h => (hV k (.inl rfl)).symm.trans h, fun _ _ _ _ h => h, fun V w hE hF => by
    unfold opFree
    rw [if_pos (hw V w hF)]
    exact h V w hE hF _ ⟨c, rfl, hrf w, by simp [upd]⟩, hrest⟩
/-- The same, the value a function of the values ahead. -/
theorem wpFree_fn (hrf : ∀ a, E a a) (c : (Nat → Value) → Value) (hc : ∀ V V', (∀ j, p.testBit j = true → V j = V' j) → c V = c V') (hk : p.testBit k = false) (hw : ∀ V w, facts V w p Rs → Region.wanted o (yielded ops (fr V).tmps) = true)
    (h : ∀ V w, E w0 w → facts V w p Rs → (execOp (fr V).eval o).run P w = .ok (.value (c V)) w)
    (hrest : wpFree P ops E w0 T (k + 1) l ps (Rs ++ [fun V _ => V k = c V]) (fun V => (fr V).put o.dst (V k))) : wpFree P ops E w0 T k (o :: l) (p :: ps) Rs fr :=
  ⟨fun V _ => V k = c V, fun V V' w hV h => ((hV k (.inl rfl)).symm.trans h).trans (hc V V' fun j hj => hV j (.inr hj)), fun _ _ _ _ h => h, fun V w hE hF => by
    unfold opFree
    rw [if_pos (hw V w hF)]
    unfold Oper.wp
    rw [h V w hE hF]
    refine ⟨c V, rfl, hrf w, ?_⟩
    have := hc V (upd V k (c V)) fun j hj => by
      have : j ≠ k := fun e => by subst e; rw [hk] at hj; cases hj
      simp [upd, this]
    simp only [upd, if_true]; exact this, hrest⟩
/-- A guarded operation that is passed over. -/
theorem wpFree_skip (hw : ∀ V w, facts V w p Rs → Region.wanted o (yielded ops (fr V).tmps) = false)
    (hrest : wpFree P ops E w0 T (k + 1) l ps (Rs ++ [fun V _ => V k = undef]) (fun V => (fr V).put o.dst (V k))) : wpFree P ops E w0 T k (o :: l) (p :: ps) Rs fr :=
  ⟨fun V _ => V k = undef, fun V V' w hV h => (hV k (.inl rfl)).symm.trans h, fun _ _ _ _ h => h, fun V w hE hF => by
    unfold opFree
    rw [if_neg (by rw [hw V w hF]; simp)]
    simp [upd], hrest⟩
/-- A call of a Go function that hands back one value, and makes memory at most. -/
theorem wpFree_call (c : Value) (f : FuncId) (args : (Nat → Value) → Array Value) (hw : ∀ V w, facts V w p Rs → Region.wanted o (yielded ops (fr V).tmps) = true)
    (hrun : ∀ V w, E w0 w → facts V w p Rs → (execOp (fr V).eval o).run P w = .ok (.enter f (args V)) w)
    (h : ∀ V w, E w0 w → facts V w p Rs → Calls P f (args V) w fun e w' => e = .returned c ∧ E w w')
    (hrest : wpFree P ops E w0 T (k + 1) l ps (Rs ++ [fun V _ => V k = c]) (fun V => (fr V).put o.dst (V k))) : wpFree P ops E w0 T k (o :: l) (p :: ps) Rs fr :=
  ⟨fun V _ => V k = c, fun V V' w hV h => (hV k (.inl rfl)).symm.trans h, fun _ _ _ _ h => h, fun V w hE hF => by
    unfold opFree
    rw [if_pos (hw V w hF)]
    unfold Oper.wp
    rw [hrun V w hE hF]
    exact (h V w hE hF).mono fun e w' ⟨he, hw'⟩ => by subst he; exact ⟨c, rfl, hw', by simp [upd]⟩, hrest⟩
end
#print axioms region_free
end Go.Proofs.Ytmlahbmaomoiaaa
