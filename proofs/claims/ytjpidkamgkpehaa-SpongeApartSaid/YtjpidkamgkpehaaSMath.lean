/-
  Layer 4 in plain words: bytes xored into a state one by one, the fingerprint, the document's padding. No program is named here.
-/
import Derived.Test.YtjpidkamgkpehaaKMath
namespace Go.Proofs.Ytjpidkamgkpehaa
set_option linter.unusedVariables false
set_option linter.unusedSimpArgs false

/-- A byte as a word, k bits up. -/
def bw (c : UInt8) (k : Nat) : W64 := BitVec.ofNat 64 c.toNat <<< k
/-- A byte, xored into a state. -/
def mixw (f : St) (t : Nat) (c : UInt8) : St := fun j => if j = t / 8 then f (t / 8) ^^^ bw c (8 * (t % 8)) else f j
/-- One byte more. -/
def eat (s : St × Nat) (c : UInt8) : St × Nat := if s.2 + 1 = 136 then (perm (mixw s.1 s.2 c) 24, 0) else (mixw s.1 s.2 c, s.2 + 1)
def feed (s : St × Nat) (bs : List UInt8) : St × Nat := bs.foldl eat s
def st0 : St × Nat := (fun _ => 0, 0)
/-- The state behind the padding. -/
def fin (s : St × Nat) : St := perm (mixw (mixw s.1 s.2 6) 135 128) 24
/-- The fingerprint's bytes. -/
def dg (f : St) (i : Nat) : Nat := (f (i / 8) >>> (8 * (i % 8))).toNat % 256
def dgl (f : St) : List Int := (List.range 32).map fun i => (dg f i : Int)
/-- The fingerprint of bytes. -/
def sumOf (bs : List UInt8) : List Int := dgl (fin (feed st0 bs))

theorem feed_append (s : St × Nat) (a b : List UInt8) : feed s (a ++ b) = feed (feed s a) b := by unfold feed; rw [List.foldl_append]
theorem feed_cons (s : St × Nat) (c : UInt8) (b : List UInt8) : feed s (c :: b) = feed (eat s c) b := rfl
theorem feed_nil (s : St × Nat) : feed s [] = s := rfl
theorem eat_at (s : St × Nat) (c : UInt8) (h : s.2 < 136) : (eat s c).2 = (s.2 + 1) % 136 := by
  unfold eat
  split
  · rename_i e; rw [e]
  · show s.2 + 1 = _; omega
theorem feed_at (s : St × Nat) (bs : List UInt8) (h : s.2 < 136) : (feed s bs).2 = (s.2 + bs.length) % 136 := by
  induction bs generalizing s with
  | nil => simp [feed]; omega
  | cons c bs ih =>
    rw [feed_cons, ih _ (by rw [eat_at s c h]; omega), eat_at s c h, List.length_cons]
    omega
theorem feed_lt (s : St × Nat) (bs : List UInt8) (h : s.2 < 136) : (feed s bs).2 < 136 := by rw [feed_at s bs h]; omega

theorem bw_zero (k : Nat) : bw 0 k = 0#64 := by unfold bw; simp
theorem bw_xor (a b : UInt8) (k : Nat) : bw a k ^^^ bw b k = bw (a ^^^ b) k := by
  unfold bw
  rw [← BitVec.shiftLeft_xor_distrib, UInt8.toNat_xor]
  congr 1
  apply BitVec.eq_of_toNat_eq
  rw [BitVec.toNat_xor, BitVec.toNat_ofNat, BitVec.toNat_ofNat, BitVec.toNat_ofNat]
  have h1 := a.toNat_lt
  have h2 := b.toNat_lt
  have h3 : a.toNat ^^^ b.toNat < 2 ^ 8 := Nat.xor_lt_two_pow h1 h2
  rw [Nat.mod_eq_of_lt (by omega), Nat.mod_eq_of_lt (by omega), Nat.mod_eq_of_lt (by omega)]
theorem mixw_zero (f : St) (t : Nat) : mixw f t 0 = f := by
  funext j
  unfold mixw
  rw [bw_zero, BitVec.xor_zero]
  split
  · rename_i e; rw [e]
  · rfl
theorem mixw_twice (f : St) (t : Nat) (a b : UInt8) : mixw (mixw f t a) t b = mixw f t (a ^^^ b) := by
  funext j
  unfold mixw
  rw [if_pos rfl, BitVec.xor_assoc, bw_xor]
  split <;> rfl

/-! ### the document's padding -/
/-- How many bytes 0 the document lays. -/
def zs (n : Nat) : Nat := 135 - n % 136
theorem zs_len (n : Nat) : (n + 1 + zs n) % 136 = 0 := by unfold zs; omega
theorem zs_less (n k : Nat) (h : k < zs n) : (n + 1 + k) % 136 ≠ 0 := by unfold zs at h; omega
/-- Bytes, padded, but for the last bit. -/
def pad0 (bs : List UInt8) (k : Nat) : List UInt8 := bs ++ 6 :: List.replicate k 0
theorem pad0_len (bs : List UInt8) (k : Nat) : (pad0 bs k).length = bs.length + 1 + k := by unfold pad0; simp; omega
theorem pad0_succ (bs : List UInt8) (k : Nat) : pad0 bs k ++ [0] = pad0 bs (k + 1) := by unfold pad0; simp [List.replicate_succ']
def padded (bs : List UInt8) : List UInt8 := (pad0 bs (zs bs.length)).set (bs.length + zs bs.length) ((pad0 bs (zs bs.length)).getD (bs.length + zs bs.length) 0 ^^^ 128)
theorem padded_len (bs : List UInt8) : (padded bs).length = bs.length + 1 + zs bs.length := by unfold padded; rw [List.length_set, pad0_len]
theorem feed_zeros (f : St) (t k : Nat) (h : t + k < 136) : feed (f, t) (List.replicate k 0) = (f, t + k) := by
  induction k generalizing t with
  | zero => rfl
  | succ k ih =>
    rw [List.replicate_succ, feed_cons]
    have e : eat (f, t) 0 = (f, t + 1) := by unfold eat; rw [if_neg (by show t + 1 ≠ 136; omega)]; show (mixw f t 0, t + 1) = _; rw [mixw_zero]
    rw [e, ih (t + 1) (by omega)]
    congr 1
    omega
theorem feed_padded (bs : List UInt8) : (feed st0 (padded bs)).1 = fin (feed st0 bs) := by
  have hlt := feed_lt st0 bs (by decide)
  have hat := feed_at st0 bs (by decide)
  rw [show st0.2 = 0 from rfl, Nat.zero_add] at hat
  by_cases h : zs bs.length = 0
  · have e : padded bs = bs ++ [134] := by
      unfold padded pad0
      rw [h]
      simp [List.set_append]
      decide
    have ht : (feed st0 bs).2 = 135 := by rw [hat]; unfold zs at h; omega
    rw [e, feed_append, feed_cons, feed_nil]
    unfold eat fin
    rw [if_pos (by omega), ht, mixw_twice]
    rfl
  · obtain ⟨k, hk⟩ : ∃ k, zs bs.length = k + 1 := ⟨zs bs.length - 1, by omega⟩
    have e : padded bs = bs ++ 6 :: (List.replicate k 0 ++ [128]) := by
      unfold padded pad0
      rw [hk, List.replicate_succ']
      rw [List.set_append_right _ _ (by omega), Nat.add_sub_cancel_left, List.set_cons_succ, List.set_append_right _ _ (by simp)]
      have : (bs ++ 6 :: (List.replicate k (0 : UInt8) ++ [0])).getD (bs.length + (k + 1)) 0 = 0 := by
        rw [List.getD_eq_getElem?_getD, List.getElem?_append_right (by omega), Nat.add_sub_cancel_left, List.getElem?_cons_succ, List.getElem?_append_right (by simp)]
        simp
      rw [this]
      simp
    have ht : (feed st0 bs).2 = 135 - (k + 1) := by rw [hat]; unfold zs at hk; omega
    have hk' : k + 1 ≤ 135 := by unfold zs at hk; omega
    rw [e, feed_append, feed_cons, feed_append, feed_cons, feed_nil]
    have e1 : eat (feed st0 bs) 6 = (mixw (feed st0 bs).1 (feed st0 bs).2 6, (feed st0 bs).2 + 1) := by unfold eat; rw [if_neg (by omega)]
    rw [e1, ht, feed_zeros _ _ _ (by omega)]
    unfold eat fin
    have e2 : 135 - (k + 1) + 1 + k = 135 := by omega
    simp only [e2, ht]
    rfl

/-! ### the document's blocks -/
/-- The first k bytes of a block, xored into a state. -/
def mixk (f : St) (xs : List UInt8) : Nat → St
  | 0 => f
  | k + 1 => mixw (mixk f xs k) k (xs.getD k 0)
theorem feed_some (f : St) (xs : List UInt8) : ∀ k, k < 136 → k ≤ xs.length → feed (f, 0) (xs.take k) = (mixk f xs k, k)
  | 0, _, _ => rfl
  | k + 1, h, hl => by
    have hk : k < xs.length := by omega
    rw [List.take_succ_eq_append_getElem hk, feed_append, feed_some f xs k (by omega) (by omega), feed_cons, feed_nil]
    unfold eat
    rw [if_neg (by show k + 1 ≠ 136; omega)]
    show (mixw (mixk f xs k) k xs[k], k + 1) = (mixw (mixk f xs k) k (xs.getD k 0), k + 1)
    simp [List.getD, hk]
theorem feed_block (f : St) (xs : List UInt8) (h : 136 ≤ xs.length) : feed (f, 0) (xs.take 136) = (perm (mixk f xs 136) 24, 0) := by
  have hk : 135 < xs.length := by omega
  rw [show 136 = 135 + 1 from rfl, List.take_succ_eq_append_getElem hk, feed_append, feed_some f xs 135 (by omega) (by omega), feed_cons, feed_nil]
  unfold eat
  rw [if_pos rfl]
  show (perm (mixw (mixk f xs 135) 135 xs[135]) 24, 0) = (perm (mixw (mixk f xs 135) 135 (xs.getD 135 0)) 24, 0)
  simp [List.getD, hk]
/-- What the document has behind the first n blocks. -/
def blk (xs : List UInt8) (n : Nat) : St := (feed st0 (xs.take (136 * n))).1
theorem blk_zero (xs : List UInt8) : blk xs 0 = fun _ => 0 := rfl
theorem blk_succ (xs : List UInt8) (n : Nat) (h : 136 * (n + 1) ≤ xs.length) : blk xs (n + 1) = perm (mixk (blk xs n) (xs.drop (136 * n)) 136) 24 := by
  have hat := feed_at st0 (xs.take (136 * n)) (by decide)
  rw [List.length_take, show st0.2 = 0 from rfl] at hat
  have hz : (feed st0 (xs.take (136 * n))).2 = 0 := by omega
  have hs : feed st0 (xs.take (136 * n)) = (blk xs n, 0) := by rw [← hz]; rfl
  have ht : xs.take (136 * (n + 1)) = xs.take (136 * n) ++ (xs.drop (136 * n)).take 136 := by
    rw [Nat.mul_succ, List.take_add]
  unfold blk
  rw [ht, feed_append, hs, feed_block _ _ (by rw [List.length_drop]; omega)]
theorem blk_all (xs : List UInt8) (n : Nat) (h : xs.length = 136 * n) : blk xs n = (feed st0 xs).1 := by
  unfold blk; rw [← h, List.take_length]
theorem mixk_step (f : St) (xs : List UInt8) (k : Nat) : mixk f xs (k + 1) = mixw (mixk f xs k) k (xs.getD k 0) := rfl
/-- The document's fingerprint. -/
theorem sum_ref (bs : List UInt8) (n : Nat) (h : (padded bs).length = 136 * n) : dgl (blk (padded bs) n) = sumOf bs := by
  rw [blk_all _ _ h, feed_padded]; rfl
theorem dg_lt (f : St) (i : Nat) : dg f i < 256 := by unfold dg; omega
theorem dgl_len (f : St) : (dgl f).length = 32 := by simp [dgl]
theorem sumOf_len (bs : List UInt8) : (sumOf bs).length = 32 := dgl_len _
end Go.Proofs.Ytjpidkamgkpehaa
