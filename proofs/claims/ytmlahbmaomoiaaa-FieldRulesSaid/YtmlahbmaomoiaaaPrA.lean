/-
  Plain: primes; Fermat's little theorem; Pocklington's step; powers by squaring; trial division.
-/
import Derived.Test.YtmlahbmaomoiaaaMem
namespace Go.Proofs.Ytmlahbmaomoiaaa

/-- Only 1 and itself divide it. -/
def Irr (p : Nat) : Prop := 1 < p ∧ ∀ d, d ∣ p → d = 1 ∨ d = p

theorem Irr.euclid {p a b : Nat} (h : Irr p) (hd : p ∣ a * b) : p ∣ a ∨ p ∣ b := by
  rcases h.2 (Nat.gcd p a) (Nat.gcd_dvd_left p a) with hg | hg
  · exact .inr (Nat.Coprime.dvd_of_dvd_mul_left hg hd)
  · exact .inl (hg ▸ Nat.gcd_dvd_right p a)

def prodL : List Nat → Nat
  | [] => 1
  | x :: l => x * prodL l
theorem prodL_perm {l m : List Nat} (h : l.Perm m) : prodL l = prodL m := by
  induction h with
  | nil => rfl
  | cons x _ ih => simp only [prodL, ih]
  | swap x y l => simp only [prodL, Nat.mul_left_comm]
  | trans _ _ h1 h2 => exact h1.trans h2
theorem perm_of_nodup : ∀ (l m : List Nat), l.Nodup → (∀ x ∈ l, x ∈ m) → m.length ≤ l.length → l.Perm m
  | [], m, _, _, h => by
    have : m = [] := List.eq_nil_of_length_eq_zero (by simpa using h)
    subst this; exact .refl _
  | x :: t, m, hn, hs, h => by
    have hx : x ∈ m := hs x (by simp)
    have hp := List.perm_cons_erase hx
    have hn' := List.nodup_cons.1 hn
    refine List.Perm.trans (List.Perm.cons x ?_) hp.symm
    refine perm_of_nodup t (m.erase x) hn'.2 (fun y hy => ?_) ?_
    · exact (List.mem_erase_of_ne (fun e => by subst e; exact hn'.1 hy)).2 (hs y (by simp [hy]))
    · rw [List.length_erase_of_mem hx]; simp at h; omega

theorem prod_map_mod (a p : Nat) : ∀ l : List Nat, prodL (l.map fun x => a * x % p) % p = a ^ l.length * prodL l % p
  | [] => by simp [prodL]
  | x :: l => by
    have ih := prod_map_mod a p l
    simp only [List.map_cons, prodL, List.length_cons]
    rw [Nat.mul_mod, ih, Nat.mod_mod, ← Nat.mul_mod, Nat.pow_succ]
    congr 1
    ac_rfl

theorem Irr.not_dvd_prod {p : Nat} (h : Irr p) : ∀ l : List Nat, (∀ x ∈ l, ¬ p ∣ x) → ¬ p ∣ prodL l
  | [], _ => fun hd => by
    have h1 := Nat.le_of_dvd (by simp [prodL]) hd
    have h2 := h.1
    simp only [prodL] at h1; omega
  | x :: l, hx => fun hd => (h.euclid hd).elim (hx x (by simp)) (h.not_dvd_prod l (fun y hy => hx y (by simp [hy])))

theorem mul_inj_mod {p a x y : Nat} (h : Irr p) (ha : ¬ p ∣ a) (hy : y < p) (hxy : x < y) : a * x % p ≠ a * y % p := by
  intro he
  have h1 := Nat.sub_mod_eq_zero_of_mod_eq he.symm
  rw [← Nat.mul_sub] at h1
  rcases h.euclid (Nat.dvd_of_mod_eq_zero h1) with h2 | h2
  · exact ha h2
  · have := Nat.le_of_dvd (by omega) h2; omega

theorem Irr.fermat {p a : Nat} (h : Irr p) (ha : ¬ p ∣ a) : a ^ (p - 1) % p = 1 := by
  have hp := h.1
  have hmem : ∀ x, x ∈ List.range' 1 (p - 1) ↔ 1 ≤ x ∧ x < p := fun x => by rw [List.mem_range'_1]; omega
  have hnd : ∀ x ∈ List.range' 1 (p - 1), ¬ p ∣ x := fun x hx hd => by
    have h1 := (hmem x).1 hx
    have := Nat.le_of_dvd (by omega) hd; omega
  have hperm : ((List.range' 1 (p - 1)).map fun x => a * x % p).Perm (List.range' 1 (p - 1)) := by
    refine perm_of_nodup _ _ ?_ ?_ (by simp)
    · rw [List.Nodup, List.pairwise_map]
      refine List.Pairwise.imp_of_mem ?_ (List.nodup_range' (s := 1) (n := p - 1))
      intro x y hx hy hne
      have h1 := (hmem x).1 hx
      have h2 := (hmem y).1 hy
      rcases Nat.lt_or_gt_of_ne hne with hlt | hlt
      · exact mul_inj_mod h ha h2.2 hlt
      · exact (mul_inj_mod h ha h1.2 hlt).symm
    · intro y hy
      obtain ⟨x, hx, rfl⟩ := List.mem_map.1 hy
      refine (hmem _).2 ⟨?_, Nat.mod_lt _ (by omega)⟩
      have : a * x % p ≠ 0 := fun e => (h.euclid (Nat.dvd_of_mod_eq_zero e)).elim ha (hnd x hx)
      omega
  have h1 := prod_map_mod a p (List.range' 1 (p - 1))
  rw [prodL_perm hperm, List.length_range'] at h1
  have h2 := Nat.sub_mod_eq_zero_of_mod_eq h1.symm
  have h3 : a ^ (p - 1) * prodL (List.range' 1 (p - 1)) - prodL (List.range' 1 (p - 1)) = (a ^ (p - 1) - 1) * prodL (List.range' 1 (p - 1)) := by
    rw [Nat.sub_mul, Nat.one_mul]
  rw [h3] at h2
  rcases h.euclid (Nat.dvd_of_mod_eq_zero h2) with h4 | h4
  · obtain ⟨c, hc⟩ := h4
    have hpos : 0 < a ^ (p - 1) := Nat.pow_pos (Nat.pos_of_ne_zero fun e => ha (e ▸ Nat.dvd_zero p))
    have : a ^ (p - 1) = 1 + p * c := by omega
    rw [this, Nat.add_mul_mod_self_left, Nat.mod_eq_of_lt hp]
  · exact absurd h4 (h.not_dvd_prod _ hnd)

theorem pow_gcd_one {r b : Nat} (hr : 1 < r) : ∀ m n, b ^ m % r = 1 → b ^ n % r = 1 → b ^ Nat.gcd m n % r = 1 := by
  intro m n
  refine Nat.gcd.induction (P := fun m n => b ^ m % r = 1 → b ^ n % r = 1 → b ^ Nat.gcd m n % r = 1) m n ?_ ?_
  · intro n _ h; rwa [Nat.gcd_zero_left]
  · intro m n _ ih hm hn
    rw [Nat.gcd_rec]
    refine ih ?_ hm
    have h1 : b ^ n = (b ^ m) ^ (n / m) * b ^ (n % m) := by rw [← Nat.pow_mul, ← Nat.pow_add, Nat.div_add_mod]
    rw [h1, Nat.mul_mod, Nat.pow_mod, hm, Nat.one_pow, Nat.mod_eq_of_lt hr, Nat.one_mul, Nat.mod_mod] at hn
    exact hn

theorem Irr.order {r q b : Nat} (hr : Irr r) (hq : Irr q) (hb : b ^ q % r = 1) (hb1 : b % r ≠ 1) : q ∣ r - 1 := by
  have hrb : ¬ r ∣ b := fun hd => by
    have h1 : r ∣ b ^ q := by
      obtain ⟨m, rfl⟩ : ∃ m, q = m + 1 := ⟨q - 1, by have := hq.1; omega⟩
      rw [Nat.pow_succ]; exact Nat.dvd_mul_left_of_dvd hd _
    rw [Nat.mod_eq_zero_of_dvd h1] at hb; omega
  have hf := hr.fermat hrb
  have hg := pow_gcd_one hr.1 q (r - 1) hb hf
  rcases hq.2 (Nat.gcd q (r - 1)) (Nat.gcd_dvd_left _ _) with h1 | h1
  · rw [h1, Nat.pow_one] at hg; exact absurd hg hb1
  · exact h1 ▸ Nat.gcd_dvd_right q (r - 1)

theorem exists_irr : ∀ n : Nat, 1 < n → ∃ r, Irr r ∧ r ∣ n := by
  intro n
  induction n using Nat.strongRecOn with
  | _ n ih =>
    intro hn
    by_cases h : ∀ d, d ∣ n → d = 1 ∨ d = n
    · exact ⟨n, ⟨hn, h⟩, Nat.dvd_refl n⟩
    · obtain ⟨d, hd⟩ := Classical.not_forall.1 h
      have h1 : d ∣ n := Classical.byContradiction fun e => hd fun k => absurd k e
      have h2 : d ≠ 1 := fun e => hd fun _ => .inl e
      have h3 : d ≠ n := fun e => hd fun _ => .inr e
      have h4 := Nat.le_of_dvd (by omega) h1
      have h5 : d ≠ 0 := fun e => by subst e; have := Nat.eq_zero_of_zero_dvd h1; omega
      obtain ⟨r, hr, hrd⟩ := ih d (by omega) (by omega)
      exact ⟨r, hr, Nat.dvd_trans hrd h1⟩

theorem irr_of_small {N : Nat} (hN : 1 < N) (h : ∀ r, Irr r → r ∣ N → N < r * r) : Irr N := by
  refine ⟨hN, fun d hd => ?_⟩
  apply Classical.byContradiction
  intro hne
  have h2 : d ≠ 1 := fun e => hne (.inl e)
  have h3 : d ≠ N := fun e => hne (.inr e)
  obtain ⟨c, hc⟩ := hd
  have h5 : d ≠ 0 := fun e => by subst e; omega
  have h6 : c ≠ 0 := fun e => by subst e; omega
  have h7 : c ≠ 1 := fun e => by subst e; omega
  have key : ∀ x y : Nat, 1 < x → x ≤ y → N = x * y → False := by
    intro x y hx hxy he
    obtain ⟨r, hr, hrx⟩ := exists_irr x hx
    have h8 := h r hr (Nat.dvd_trans hrx ⟨y, he⟩)
    have h9 := Nat.le_of_dvd (by omega) hrx
    have : r * r ≤ x * y := Nat.mul_le_mul h9 (Nat.le_trans h9 hxy)
    omega
  rcases Nat.le_total d c with hle | hle
  · exact key d c (by omega) hle hc
  · exact key c d (by omega) hle (by rw [hc, Nat.mul_comm])

theorem irr_of_pock {N F : Nat} (hN : 1 < N) (hF : N < F * F) (h : ∀ r, Irr r → r ∣ N → F ∣ r - 1) : Irr N := by
  refine irr_of_small hN fun r hr hd => ?_
  have h1 := Nat.le_of_dvd (by have := hr.1; omega) (h r hr hd)
  have : F * F ≤ r * r := Nat.mul_le_mul (by omega) (by omega)
  omega

/-- a to the power e, modulo N, by squaring. -/
def pm (N : Nat) : Nat → Nat → Nat → Nat
  | 0, _, _ => 1 % N
  | f + 1, a, e => if e % 2 = 1 then a * pm N f (a * a % N) (e / 2) % N else pm N f (a * a % N) (e / 2)
theorem pm_eq (N : Nat) : ∀ f a e, e < 2 ^ f → pm N f a e = a ^ e % N
  | 0, a, e, h => by
    have : e = 0 := by simpa using h
    subst this; rfl
  | f + 1, a, e, h => by
    have ih := pm_eq N f (a * a % N) (e / 2) (by rw [Nat.pow_succ] at h; omega)
    have h1 : (a * a) ^ (e / 2) = a ^ (2 * (e / 2)) := by rw [← Nat.pow_two, ← Nat.pow_mul]
    rw [← Nat.pow_mod, h1] at ih
    unfold pm
    rw [ih]
    split
    · rename_i ho
      rw [Nat.mul_mod_mod, Nat.mul_comm a, ← Nat.pow_succ]
      congr 2; omega
    · congr 2; omega

theorem pock_q {N q k a r f : Nat} (hN : 1 < N) (hk : N - 1 = k * q) (hq : Irr q) (hf : N - 1 < 2 ^ f) (h1 : pm N f a (N - 1) = 1) (hg : Nat.gcd (pm N f a k + (N - 1)) N = 1) (hr : Irr r) (hd : r ∣ N) : q ∣ r - 1 := by
  have hkf : k < 2 ^ f := by
    have : k * 1 ≤ k * q := Nat.mul_le_mul_left k (by have := hq.1; omega)
    omega
  rw [pm_eq N f a _ hf] at h1
  rw [pm_eq N f a _ hkf] at hg
  refine hr.order (b := a ^ k) hq ?_ ?_
  · rw [← Nat.pow_mul, ← hk, ← Nat.mod_mod_of_dvd _ hd, h1, Nat.mod_eq_of_lt hr.1]
  · intro hb
    have h2 : (a ^ k % N) % r = 1 := by rw [Nat.mod_mod_of_dvd _ hd]; exact hb
    have h3 : r ∣ a ^ k % N + (N - 1) := by
      obtain ⟨c, hc⟩ := hd
      have h4 := Nat.div_add_mod (a ^ k % N) r
      rw [h2] at h4
      refine ⟨a ^ k % N / r + c, ?_⟩
      rw [Nat.mul_add, ← hc]; omega
    have h5 := Nat.dvd_gcd h3 hd
    rw [hg] at h5
    have := Nat.le_of_dvd (by omega) h5
    have := hr.1
    omega

/-- None of 2 .. f + 1 divides n. -/
def tdiv (n : Nat) : Nat → Bool
  | 0 => true
  | f + 1 => (n % (f + 2) != 0) && tdiv n f
theorem tdiv_no (n : Nat) : ∀ f, tdiv n f = true → ∀ d, 2 ≤ d → d < f + 2 → ¬ d ∣ n
  | 0, _, d, h1, h2 => by omega
  | f + 1, h, d, h1, h2 => by
    unfold tdiv at h
    rw [Bool.and_eq_true, bne_iff_ne] at h
    by_cases he : d = f + 2
    · subst he; exact fun hd => h.1 (Nat.mod_eq_zero_of_dvd hd)
    · exact tdiv_no n f h.2 d h1 (by omega)
theorem irr_of_tdiv {n f : Nat} (hn : 1 < n) (hf : n < (f + 2) * (f + 2)) (h : tdiv n f = true) : Irr n := by
  refine irr_of_small hn fun r hr hd => ?_
  have h1 : ¬ r < f + 2 := fun hlt => tdiv_no n f h r hr.1 hlt hd
  have : (f + 2) * (f + 2) ≤ r * r := Nat.mul_le_mul (by omega) (by omega)
  omega
end Go.Proofs.Ytmlahbmaomoiaaa
