/-
  Layer 3 in plain words: a round parts unlike states. No program is named here.
-/
import Derived.Test.YtepebebkndfefaaKMath
namespace Go.Proofs.Ytepebebkndfefaa
set_option linter.unusedVariables false
set_option linter.unusedSimpArgs false

theorem rot_bit (x : W64) {k i : Nat} (hk : k < 64) (hi : i < 64) : (rot x k).getLsbD i = x.getLsbD ((i + (64 - k)) % 64) := by
  unfold rot
  rw [BitVec.getLsbD_or, BitVec.getLsbD_shiftLeft, BitVec.getLsbD_ushiftRight]
  by_cases h : i < k
  · have e : (i + (64 - k)) % 64 = 64 - k + i := by omega
    simp [h, hi, e]
  · have e : (i + (64 - k)) % 64 = i - k := by omega
    have e2 : x.getLsbD (64 - k + i) = false := BitVec.getLsbD_of_ge _ _ (by omega)
    simp [h, hi, e, e2]
theorem rot_inj {x y : W64} {k : Nat} (hk : k < 64) (h : rot x k = rot y k) : x = y := by
  apply BitVec.eq_of_getLsbD_eq
  intro i hi
  have e : ((i + k) % 64 + (64 - k)) % 64 = i := by omega
  have h1 := rot_bit x hk (i := (i + k) % 64) (by omega)
  have h2 := rot_bit y hk (i := (i + k) % 64) (by omega)
  rw [e] at h1 h2
  rw [← h1, ← h2, h]

/-! ### iota, chi, the turning -/
theorem iota_inj {f g : St} {m : W64} (h : ∀ i, i < 25 → iota m f i = iota m g i) : ∀ i, i < 25 → f i = g i := by
  intro i hi
  have h1 := h i hi
  unfold iota at h1
  by_cases e : i = 0
  · subst e
    simp only [if_true] at h1
    have := congrArg (· ^^^ m) h1
    simpa [BitVec.xor_assoc] using this
  · rwa [if_neg e, if_neg e] at h1
theorem chi_bool : ∀ a b c d e a' b' c' d' e' : Bool, (a ^^ (!b && c)) = (a' ^^ (!b' && c')) → (b ^^ (!c && d)) = (b' ^^ (!c' && d')) → (c ^^ (!d && e)) = (c' ^^ (!d' && e')) → (d ^^ (!e && a)) = (d' ^^ (!e' && a')) → (e ^^ (!a && b)) = (e' ^^ (!a' && b')) → a = a' ∧ b = b' ∧ c = c' ∧ d = d' ∧ e = e' := by decide +kernel
theorem chi_inj {f g : St} (h : ∀ i, i < 25 → chi f i = chi g i) : ∀ i, i < 25 → f i = g i := by
  have row : ∀ y, y < 5 → ∀ b, b < 64 → (f (5 * y)).getLsbD b = (g (5 * y)).getLsbD b ∧ (f (5 * y + 1)).getLsbD b = (g (5 * y + 1)).getLsbD b ∧ (f (5 * y + 2)).getLsbD b = (g (5 * y + 2)).getLsbD b ∧ (f (5 * y + 3)).getLsbD b = (g (5 * y + 3)).getLsbD b ∧ (f (5 * y + 4)).getLsbD b = (g (5 * y + 4)).getLsbD b := by
    intro y hy b hb
    have bit : ∀ x, x < 5 → ((f (5 * y + x)).getLsbD b ^^ (!(f (5 * y + (x + 1) % 5)).getLsbD b && (f (5 * y + (x + 2) % 5)).getLsbD b)) = ((g (5 * y + x)).getLsbD b ^^ (!(g (5 * y + (x + 1) % 5)).getLsbD b && (g (5 * y + (x + 2) % 5)).getLsbD b)) := by
      intro x hx
      have h1 := congrArg (fun v : W64 => v.getLsbD b) (h (5 * y + x) (by omega))
      have e1 : 5 * y + x - (5 * y + x) % 5 + (5 * y + x + 1) % 5 = 5 * y + (x + 1) % 5 := by omega
      have e2 : 5 * y + x - (5 * y + x) % 5 + (5 * y + x + 2) % 5 = 5 * y + (x + 2) % 5 := by omega
      simp only [chi, e1, e2, BitVec.getLsbD_xor, BitVec.getLsbD_and, BitVec.getLsbD_not, hb, decide_true, Bool.true_and] at h1
      exact h1
    exact chi_bool _ _ _ _ _ _ _ _ _ _ (bit 0 (by omega)) (bit 1 (by omega)) (bit 2 (by omega)) (bit 3 (by omega)) (bit 4 (by omega))
  intro i hi
  apply BitVec.eq_of_getLsbD_eq
  intro b hb
  obtain ⟨r0, r1, r2, r3, r4⟩ := row (i / 5) (by omega) b hb
  have e : i = 5 * (i / 5) ∨ i = 5 * (i / 5) + 1 ∨ i = 5 * (i / 5) + 2 ∨ i = 5 * (i / 5) + 3 ∨ i = 5 * (i / 5) + 4 := by omega
  rcases e with e | e | e | e | e <;> rw [e] <;> assumption
theorem whence_pl : ∀ i, i < 25 → whence (pl i) = i := by decide
theorem turned_inj {f g : St} (h : ∀ i, i < 25 → turned f i = turned g i) : ∀ i, i < 25 → f i = g i := by
  intro i hi
  have h1 := h (pl i) (pl_lt i hi)
  unfold turned at h1
  rw [whence_pl i hi] at h1
  exact rot_inj (tn_lt i) h1

/-! ### the mixing -/
/-- Five bits in a ring, each the sum of its neighbours: all are 0. -/
theorem ring5 : ∀ a b c d e : Bool, a = (b ^^ e) → b = (c ^^ a) → c = (d ^^ b) → d = (e ^^ c) → e = (a ^^ d) → a = false ∧ b = false ∧ c = false ∧ d = false ∧ e = false := by decide +kernel
theorem ring_zero (C : Nat → Nat → Bool) (h5 : ∀ x i, C (x + 5) i = C x i) (h64 : ∀ x i, C x (i + 64) = C x i) (h : ∀ x i, C x i = (C (x + 4) i ^^ C (x + 1) (i + 63))) : ∀ x, x < 5 → ∀ i, C x i = false := by
  have m5 : ∀ n x i, C (x + 5 * n) i = C x i := by
    intro n
    induction n with
    | zero => intro x i; rfl
    | succ n ih => intro x i; rw [show x + 5 * (n + 1) = x + 5 * n + 5 by omega, h5, ih]
  have m64 : ∀ n x i, C x (i + 64 * n) = C x i := by
    intro n
    induction n with
    | zero => intro x i; rfl
    | succ n ih => intro x i; rw [show i + 64 * (n + 1) = i + 64 * n + 64 by omega, h64, ih]
  have dbl : ∀ a, (∀ x i, C x i = (C (x + 4 * a) i ^^ C (x + a) (i + 63 * a))) → ∀ x i, C x i = (C (x + 4 * (2 * a)) i ^^ C (x + 2 * a) (i + 63 * (2 * a))) := by
    intro a ha x i
    have e1 := ha (x + 4 * a) i
    have e2 := ha (x + a) (i + 63 * a)
    rw [show x + 4 * a + a = x + 5 * a by omega, m5] at e1
    rw [show x + a + 4 * a = x + 5 * a by omega, m5, show x + a + a = x + 2 * a by omega, show i + 63 * a + 63 * a = i + 63 * (2 * a) by omega] at e2
    rw [show x + 4 * a + 4 * a = x + 4 * (2 * a) by omega] at e1
    rw [ha x i, e1, e2]
    cases C (x + 4 * (2 * a)) i <;> cases C x (i + 63 * a) <;> cases C (x + 2 * a) (i + 63 * (2 * a)) <;> rfl
  have h1 : ∀ x i, C x i = (C (x + 4 * 1) i ^^ C (x + 1) (i + 63 * 1)) := h
  have h64' := dbl _ (dbl _ (dbl _ (dbl _ (dbl _ (dbl _ h1)))))
  have fib : ∀ x i, C x i = (C (x + 1) i ^^ C (x + 4) i) := by
    intro x i
    have e := h64' x i
    rw [show x + 4 * (2 * (2 * (2 * (2 * (2 * (2 * 1)))))) = x + 1 + 5 * 51 by omega, m5, show x + 2 * (2 * (2 * (2 * (2 * (2 * 1))))) = x + 4 + 5 * 12 by omega, m5, show i + 63 * (2 * (2 * (2 * (2 * (2 * (2 * 1)))))) = i + 64 * 63 by omega, m64] at e
    exact e
  intro x hx i
  have a0 := fib 0 i
  have a1 := fib 1 i
  have a2 := fib 2 i
  have a3 := fib 3 i
  have a4 := fib 4 i
  have p0 : C 5 i = C 0 i := h5 0 i
  have p1 : C 6 i = C 1 i := h5 1 i
  have p2 : C 7 i = C 2 i := h5 2 i
  have p3 : C 8 i = C 3 i := h5 3 i
  simp only [Nat.reduceAdd, p0, p1, p2, p3] at a0 a1 a2 a3 a4
  obtain ⟨r0, r1, r2, r3, r4⟩ := ring5 _ _ _ _ _ a0 a1 a2 a3 a4
  have e : x = 0 ∨ x = 1 ∨ x = 2 ∨ x = 3 ∨ x = 4 := by omega
  rcases e with rfl | rfl | rfl | rfl | rfl <;> assumption
theorem mixd_inj {f g : St} (h : ∀ i, i < 25 → mixd f i = mixd g i) : ∀ i, i < 25 → f i = g i := by
  -- unlikeness, bit by bit: of the words, of the columns
  obtain ⟨H, hH⟩ : ∃ H : Nat → Nat → Bool, H = fun p i => (f p).getLsbD i ^^ (g p).getLsbD i := ⟨_, rfl⟩
  obtain ⟨D, hD⟩ : ∃ D : Nat → Nat → Bool, D = fun x i => (col f x).getLsbD i ^^ (col g x).getLsbD i := ⟨_, rfl⟩
  have bcol : ∀ x i, D x i = (H x i ^^ H (x + 5) i ^^ H (x + 10) i ^^ H (x + 15) i ^^ H (x + 20) i) := by
    intro x i
    simp only [hD, hH, col, BitVec.getLsbD_xor]
    cases (f x).getLsbD i <;> cases (f (x + 5)).getLsbD i <;> cases (f (x + 10)).getLsbD i <;> cases (f (x + 15)).getLsbD i <;> cases (f (x + 20)).getLsbD i <;> cases (g x).getLsbD i <;> cases (g (x + 5)).getLsbD i <;> cases (g (x + 10)).getLsbD i <;> cases (g (x + 15)).getLsbD i <;> cases (g (x + 20)).getLsbD i <;> rfl
  have bmix : ∀ p, p < 25 → ∀ i, i < 64 → H p i = (D ((p + 4) % 5) i ^^ D ((p + 1) % 5) ((i + 63) % 64)) := by
    intro p hp i hi
    have h1 := congrArg (fun v : W64 => v.getLsbD i) (h p hp)
    simp only [mixd, BitVec.getLsbD_xor, rot_bit _ (show 1 < 64 by decide) hi, Nat.reduceSub] at h1
    simp only [hD, hH]
    revert h1
    cases (f p).getLsbD i <;> cases (g p).getLsbD i <;> cases (col f ((p + 4) % 5)).getLsbD i <;> cases (col g ((p + 4) % 5)).getLsbD i <;> cases (col f ((p + 1) % 5)).getLsbD ((i + 63) % 64) <;> cases (col g ((p + 1) % 5)).getLsbD ((i + 63) % 64) <;> simp
  have bring : ∀ x, x < 5 → ∀ i, i < 64 → D x i = (D ((x + 4) % 5) i ^^ D ((x + 1) % 5) ((i + 63) % 64)) := by
    intro x hx i hi
    rw [bcol, bmix x (by omega) i hi, bmix (x + 5) (by omega) i hi, bmix (x + 10) (by omega) i hi, bmix (x + 15) (by omega) i hi, bmix (x + 20) (by omega) i hi]
    rw [show (x + 5 + 4) % 5 = (x + 4) % 5 by omega, show (x + 10 + 4) % 5 = (x + 4) % 5 by omega, show (x + 15 + 4) % 5 = (x + 4) % 5 by omega, show (x + 20 + 4) % 5 = (x + 4) % 5 by omega]
    rw [show (x + 5 + 1) % 5 = (x + 1) % 5 by omega, show (x + 10 + 1) % 5 = (x + 1) % 5 by omega, show (x + 15 + 1) % 5 = (x + 1) % 5 by omega, show (x + 20 + 1) % 5 = (x + 1) % 5 by omega]
    cases D ((x + 4) % 5) i <;> cases D ((x + 1) % 5) ((i + 63) % 64) <;> rfl
  have zero := ring_zero (fun x i => D (x % 5) (i % 64)) (fun x i => by simp) (fun x i => by simp) (fun x i => by
    have e := bring (x % 5) (Nat.mod_lt _ (by decide)) (i % 64) (Nat.mod_lt _ (by decide))
    rw [show (x % 5 + 4) % 5 = (x + 4) % 5 by omega, show (x % 5 + 1) % 5 = (x + 1) % 5 by omega, show (i % 64 + 63) % 64 = (i + 63) % 64 by omega] at e
    exact e)
  have zero' : ∀ x, x < 5 → ∀ i, i < 64 → D x i = false := fun x hx i hi => by
    have e := zero x hx i
    rwa [Nat.mod_eq_of_lt hx, Nat.mod_eq_of_lt hi] at e
  intro p hp
  apply BitVec.eq_of_getLsbD_eq
  intro i hi
  have e := bmix p hp i hi
  rw [zero' _ (Nat.mod_lt _ (by decide)) i hi, zero' _ (Nat.mod_lt _ (by decide)) _ (Nat.mod_lt _ (by decide)), hH] at e
  revert e
  show ((f p).getLsbD i ^^ (g p).getLsbD i) = (false ^^ false) → _
  cases (f p).getLsbD i <;> cases (g p).getLsbD i <;> simp

/-! ### rounds -/
theorem rnd_inj {f g : St} {m : W64} (h : ∀ i, i < 25 → rnd f m i = rnd g m i) : ∀ i, i < 25 → f i = g i :=
  mixd_inj (turned_inj (chi_inj (iota_inj h)))
theorem perm_inj {f g : St} : ∀ k, (∀ i, i < 25 → perm f k i = perm g k i) → ∀ i, i < 25 → f i = g i
  | 0, h => h
  | k + 1, h => perm_inj k (rnd_inj h)
theorem perm_congr {f g : St} (h : ∀ i, i < 25 → f i = g i) : ∀ k i, i < 25 → perm f k i = perm g k i
  | 0, i, hi => h i hi
  | k + 1, i, hi => rnd_congr _ (fun j hj => perm_congr h k j hj) hi
theorem rnd_apart (f g : St) (m : W64) : decide (ns 25 (rnd f m) = ns 25 (rnd g m)) = decide (ns 25 f = ns 25 g) := by
  rw [decide_eq_decide, ns_inj, ns_inj]
  exact ⟨rnd_inj, fun h i hi => rnd_congr m h hi⟩
theorem perm_apart (f g : St) (k : Nat) : decide (ns 25 (perm f k) = ns 25 (perm g k)) = decide (ns 25 f = ns 25 g) := by
  rw [decide_eq_decide, ns_inj, ns_inj]
  exact ⟨perm_inj k, fun h i hi => perm_congr h k i hi⟩
end Go.Proofs.Ytepebebkndfefaa
