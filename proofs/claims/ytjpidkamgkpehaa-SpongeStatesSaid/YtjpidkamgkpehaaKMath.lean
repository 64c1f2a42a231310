/-
  Layer 3 in plain words: turns, marks, rounds of a state of 25 words. No program is named here.
-/
import Derived.Test.YtjpidkamgkpehaaWord
namespace Go.Proofs.Ytjpidkamgkpehaa
set_option linter.unusedVariables false
set_option linter.unusedSimpArgs false

/-- Modulo 5. -/
def fv (n : Int) : Nat := (n % 5).toNat
theorem fv_cast (n : Int) : (fv n : Int) = n % 5 := by unfold fv; omega
theorem fv_lt (n : Int) : fv n < 5 := by unfold fv; omega
theorem fv_nat (n : Nat) : fv n = n % 5 := by unfold fv; omega

def tnl : List Nat := [0, 1, 62, 28, 27, 36, 44, 6, 55, 20, 3, 10, 43, 25, 39, 41, 45, 15, 21, 8, 18, 2, 61, 56, 14]
def tn (i : Nat) : Nat := tnl.getD i 0
theorem tn_lt (i : Nat) : tn i < 64 := by
  by_cases h : i < 25
  · exact (by decide : ∀ i, i < 25 → tn i < 64) i h
  · unfold tn tnl; simp only [List.getD]; rw [List.getElem?_eq_none (by simp; omega)]; decide

/-! ### the walk of the document through the places -/
/-- The places that the document's answer visits. -/
def seqA : Nat → Nat × Nat
  | 0 => (1, 0)
  | t + 1 => ((seqA t).2, (2 * (seqA t).1 + 3 * (seqA t).2) % 5)
theorem seq_lt : ∀ t, t ≤ 24 → (seqA t).1 < 5 ∧ (seqA t).2 < 5 := by decide
theorem seq_hit : ∀ t, t < 24 → (t + 1) * (t + 2) / 2 % 64 = tn ((seqA t).1 + 5 * (seqA t).2) := by decide
theorem seq_all : ∀ x, x < 5 → ∀ y, y < 5 → (∀ t, t < 24 → ¬ ((seqA t).1 = x ∧ (seqA t).2 = y)) → tn (x + 5 * y) = 0 := by decide

/-! ### the register -/
/-- One step. -/
def stp (r : Nat) : Nat := if r * 2 ≥ 256 then (r * 2) ^^^ 369 else r * 2
def rg : Nat → Nat
  | 0 => 1
  | k + 1 => stp (rg k)
theorem stp_lt : ∀ r, r < 256 → stp r < 256 := by decide +kernel
theorem rg_lt : ∀ k, rg k < 256
  | 0 => by decide
  | k + 1 => stp_lt _ (rg_lt k)
theorem rg_255 : rg 255 = 1 := by decide +kernel
theorem rg_add (k : Nat) : rg (255 + k) = rg k := by
  induction k with
  | zero => exact rg_255
  | succ k ih => show stp (rg (255 + k)) = stp (rg k); rw [ih]
theorem rg_mod (k : Nat) : rg (k % 255) = rg k := by
  have : ∀ q k, rg (255 * q + k) = rg k := by
    intro q
    induction q with
    | zero => intro k; simp
    | succ q ih => intro k; rw [show 255 * (q + 1) + k = 255 + (255 * q + k) by omega, rg_add, ih]
  have h := this (k / 255) (k % 255)
  rw [Nat.div_add_mod] at h
  exact h.symm
/-- The impl's step on a word: shifted, then what stands above 255 is folded back. -/
theorem stp_word : ∀ r, r < 256 → (r * 2) ^^^ (r * 2 / 256 * 369) = stp r := by decide +kernel

/-! ### marks -/
/-- The mark's first j bits. -/
def mk (q : Nat) : Nat → Nat
  | 0 => 0
  | j + 1 => mk q j + rg (7 * q + j) % 2 * 2 ^ (2 ^ j - 1)
theorem mk_lt (q : Nat) : ∀ j, mk q j * 2 < 2 ^ (2 ^ j)
  | 0 => by simp [mk]
  | j + 1 => by
    have ih := mk_lt q j
    have hp : 1 ≤ 2 ^ j := Nat.one_le_two_pow
    have h1 : 2 ^ (2 ^ (j + 1)) = 2 ^ (2 ^ j) * 2 ^ (2 ^ j) := by rw [← Nat.pow_add, Nat.pow_succ]; congr 1; omega
    have h2 : 2 ^ (2 ^ j) = 2 * 2 ^ (2 ^ j - 1) := by rw [← Nat.pow_succ']; congr 1; omega
    have h3 : 2 ≤ 2 ^ (2 ^ j) := by
      calc 2 = 2 ^ 1 := rfl
        _ ≤ 2 ^ (2 ^ j) := Nat.pow_le_pow_right (by decide) hp
    have h4 : rg (7 * q + j) % 2 * 2 ^ (2 ^ j - 1) ≤ 2 ^ (2 ^ j - 1) := by
      calc _ ≤ 1 * 2 ^ (2 ^ j - 1) := Nat.mul_le_mul_right _ (by omega)
        _ = _ := Nat.one_mul _
    have h5 : mk q (j + 1) = mk q j + rg (7 * q + j) % 2 * 2 ^ (2 ^ j - 1) := rfl
    have h6 : 2 * 2 ^ (2 ^ j) ≤ 2 ^ (2 ^ j) * 2 ^ (2 ^ j) := Nat.mul_le_mul_right _ h3
    rw [h1, h5]
    omega
/-- A round's mark, out of the round's number modulo 255. -/
def mark (round : Int) : W64 := if round < 0 then 0 else BitVec.ofNat 64 (mk (round % 255).toNat 7)
theorem mk_or (q j : Nat) : mk q j ||| rg (7 * q + j) % 2 * 2 ^ (2 ^ j - 1) = mk q (j + 1) := by
  have h1 := mk_lt q j
  have hp : 1 ≤ 2 ^ j := Nat.one_le_two_pow
  have h2 : 2 ^ (2 ^ j) = 2 * 2 ^ (2 ^ j - 1) := by rw [← Nat.pow_succ']; congr 1; omega
  have hlt : mk q j < 2 ^ (2 ^ j - 1) := by omega
  rw [Nat.or_comm, Nat.mul_comm (rg (7 * q + j) % 2), ← Nat.two_pow_add_eq_or_of_lt hlt]
  show _ = mk q j + _
  rw [Nat.mul_comm, Nat.add_comm]
theorem mk_64 (q : Nat) {j : Nat} (h : j ≤ 7) : mk q j < 18446744073709551616 := by
  have h1 := mk_lt q j
  have h2 : 2 ^ (2 ^ j) ≤ 2 ^ (2 ^ 7) := Nat.pow_le_pow_right (by decide) (Nat.pow_le_pow_right (by decide) h)
  rcases Nat.lt_or_ge j 7 with h3 | h3
  · have h4 : 2 ^ (2 ^ j) ≤ 2 ^ (2 ^ 6) := Nat.pow_le_pow_right (by decide) (Nat.pow_le_pow_right (by decide) (by omega))
    have h5 : (2 : Nat) ^ (2 ^ 6) = 18446744073709551616 := by decide
    omega
  · obtain rfl : j = 7 := by omega
    have h4 := mk_lt q 6
    have h5 : (2 : Nat) ^ (2 ^ 6) = 18446744073709551616 := by decide
    have h6 : mk q 7 = mk q 6 + rg (7 * q + 6) % 2 * 2 ^ (2 ^ 6 - 1) := rfl
    have h7 : (2 : Nat) ^ (2 ^ 6 - 1) = 9223372036854775808 := by decide
    have h8 : rg (7 * q + 6) % 2 = 0 ∨ rg (7 * q + 6) % 2 = 1 := by omega
    rw [h7] at h6
    rcases h8 with h8 | h8 <;> rw [h8] at h6 <;> omega

theorem mark_step (q : Nat) {j : Nat} (hj : j < 7) :
    bits .or .u64 (mk q j : Int) (IntKind.u64.wrap (bits .and .u64 (rg (7 * q + j) : Int) 1 * 2 ^ min (IntKind.u64.wrap (IntKind.u64.wrap (2 ^ j) - 1)).toNat 64)) = (mk q (j + 1) : Int) := by
  have e1 : min (IntKind.u64.wrap (IntKind.u64.wrap (2 ^ j) - 1)).toNat 64 = 2 ^ j - 1 := by
    rcases (by omega : j = 0 ∨ j = 1 ∨ j = 2 ∨ j = 3 ∨ j = 4 ∨ j = 5 ∨ j = 6) with rfl | rfl | rfl | rfl | rfl | rfl | rfl <;> decide +kernel
  have hr := rg_lt (7 * q + j)
  have e2 : bits .and .u64 (rg (7 * q + j) : Int) 1 = ((rg (7 * q + j) % 2 : Nat) : Int) := by
    have h := u64_and_nat (rg (7 * q + j)) 1 (by omega) (by omega)
    rw [nat_mask1] at h
    exact h
  have h6 := mk_64 q (show j + 1 ≤ 7 by omega)
  have h7 : mk q (j + 1) = mk q j + rg (7 * q + j) % 2 * 2 ^ (2 ^ j - 1) := rfl
  have e3 : IntKind.u64.wrap (((rg (7 * q + j) % 2 : Nat) : Int) * 2 ^ (2 ^ j - 1)) = ((rg (7 * q + j) % 2 * 2 ^ (2 ^ j - 1) : Nat) : Int) := by
    have h8 : (((rg (7 * q + j) % 2 : Nat) : Int) * 2 ^ (2 ^ j - 1)) = ((rg (7 * q + j) % 2 * 2 ^ (2 ^ j - 1) : Nat) : Int) := by
      rw [Int.natCast_mul, Int.natCast_pow]; rfl
    rw [h8, u64_wrap]
    omega
  rw [e1, e2, e3, u64_or_nat _ _ (by omega) (by omega), mk_or]
theorem reg_step {r : Nat} (hr : r < 256) :
    bits .xor .u64 (IntKind.u64.wrap ((r : Int) * 2)) (IntKind.u64.wrap (IntKind.u64.wrap ((r : Int) * 2) / 256 * 369)) = (stp r : Int) := by
  have e1 : IntKind.u64.wrap ((r : Int) * 2) = ((r * 2 : Nat) : Int) := by rw [u64_wrap]; omega
  have e2 : IntKind.u64.wrap (((r * 2 : Nat) : Int) / 256 * 369) = ((r * 2 / 256 * 369 : Nat) : Int) := by rw [u64_wrap]; omega
  rw [e1, e2, u64_xor_nat _ _ (by omega) (by omega), stp_word r hr]

/-! ### a round -/
abbrev St := Nat → W64
/-- A column's sum. -/
def col (f : St) (x : Nat) : W64 := f x ^^^ f (x + 5) ^^^ f (x + 10) ^^^ f (x + 15) ^^^ f (x + 20)
def mixd (f : St) (i : Nat) : W64 := f i ^^^ (col f ((i + 4) % 5) ^^^ rot (col f ((i + 1) % 5)) 1)
/-- Where the word of a place goes, and whence the word of a place comes. -/
def pl (i : Nat) : Nat := i / 5 + 5 * ((2 * (i % 5) + 3 * (i / 5)) % 5)
def whence (j : Nat) : Nat := (3 * (j / 5) + j % 5) % 5 + 5 * (j % 5)
theorem pl_whence : ∀ i, i < 25 → ∀ j, j < 25 → (whence j = i ↔ j = pl i) := by decide
theorem whence_lt : ∀ j, j < 25 → whence j < 25 := by decide
theorem pl_lt : ∀ j, j < 25 → pl j < 25 := by decide
def turned (f : St) (j : Nat) : W64 := rot (f (whence j)) (tn (whence j))
def chi (a : St) (i : Nat) : W64 := a i ^^^ (~~~ a (i - i % 5 + (i + 1) % 5) &&& a (i - i % 5 + (i + 2) % 5))
def iota (m : W64) (b : St) (i : Nat) : W64 := if i = 0 then b 0 ^^^ m else b i
def rnd (f : St) (m : W64) : St := iota m (chi (turned (mixd f)))
def perm (f : St) : Nat → St
  | 0 => f
  | k + 1 => rnd (perm f k) (mark k)

theorem col_congr {f g : St} (h : ∀ i, i < 25 → f i = g i) {x : Nat} (hx : x < 5) : col f x = col g x := by
  simp only [col, h x (by omega), h (x + 5) (by omega), h (x + 10) (by omega), h (x + 15) (by omega), h (x + 20) (by omega)]
theorem mixd_congr {f g : St} (h : ∀ i, i < 25 → f i = g i) {i : Nat} (hi : i < 25) : mixd f i = mixd g i := by
  simp only [mixd, h i hi, col_congr h (show (i + 4) % 5 < 5 by omega), col_congr h (show (i + 1) % 5 < 5 by omega)]
theorem turned_congr {f g : St} (h : ∀ i, i < 25 → f i = g i) {i : Nat} (hi : i < 25) : turned f i = turned g i := by
  simp only [turned, h _ (whence_lt i hi)]
theorem chi_congr {f g : St} (h : ∀ i, i < 25 → f i = g i) {i : Nat} (hi : i < 25) : chi f i = chi g i := by
  simp only [chi, h i hi, h (i - i % 5 + (i + 1) % 5) (by omega), h (i - i % 5 + (i + 2) % 5) (by omega)]
theorem rnd_congr {f g : St} (m : W64) (h : ∀ i, i < 25 → f i = g i) {i : Nat} (hi : i < 25) : rnd f m i = rnd g m i := by
  have hc : ∀ i, i < 25 → chi (turned (mixd f)) i = chi (turned (mixd g)) i := fun i hi =>
    chi_congr (fun j hj => turned_congr (fun l hl => mixd_congr h hl) hj) hi
  simp only [rnd, iota, hc i hi, hc 0 (by omega)]

theorem iota_twice (m : W64) (c : St) (i : Nat) : (if i = 0 then iota m c 0 ^^^ m else iota m c i) = c i := by
  by_cases h : i = 0
  · subst h
    rw [if_pos rfl, iota, if_pos rfl, BitVec.xor_assoc, BitVec.xor_self, BitVec.xor_zero]
  · rw [if_neg h, iota, if_neg h]

/-! ### columns, summed word by word -/
/-- What stands in column x behind the first k words. -/
def acc (f : St) : Nat → Nat → W64
  | 0, _ => 0
  | k + 1, x => if x = k % 5 then acc f k x ^^^ f k else acc f k x
theorem acc_all (f : St) {x : Nat} (hx : x < 5) : acc f 25 x = col f x := by
  have h : x = 0 ∨ x = 1 ∨ x = 2 ∨ x = 3 ∨ x = 4 := by omega
  rcases h with rfl | rfl | rfl | rfl | rfl <;> simp [acc, col]
end Go.Proofs.Ytjpidkamgkpehaa
