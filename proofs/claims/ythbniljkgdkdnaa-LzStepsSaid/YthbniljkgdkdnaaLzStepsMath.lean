/-
  Layer 6 in plain words: plain bytes and a match, laid by hand. No program is named here.
-/
import Derived.Test.YthbniljkgdkdnaaLzAgain
namespace Go.Proofs.Ythbniljkgdkdnaa
set_option linter.unusedVariables false
set_option linter.unusedSimpArgs false

theorem rpb_back {out : List UInt8} {d j : Nat} (hd : 1 ≤ d) (hdl : d ≤ out.length) (hj : out.length ≤ j) : rpb out d j = rpb out d (j - d) := by
  unfold rpb
  congr 1
  rw [if_neg (by omega)]
  by_cases h : j - d < out.length
  · rw [if_pos h, Nat.mod_eq_of_lt (by omega)]
    omega
  · rw [if_neg h, show j - d - out.length = j - out.length - d by omega, ← Nat.mod_eq_sub_mod (by omega)]
theorem rep_take (out : List UInt8) (d m : Nat) (hd : 1 ≤ d) (hdl : d ≤ out.length) : (rep out d m).take out.length = out := by
  induction m with
  | zero => exact List.take_length
  | succ m ih => rw [rep, List.take_append_of_le_length (by rw [rep_len]; omega), ih]
theorem plainE_short (xs : List UInt8) (h0 : 0 < xs.length) (h : xs.length ≤ 128) : plainE xs = UInt8.ofNat (xs.length - 1) :: xs := by
  rw [plainE_step xs h0, Nat.min_eq_left h, List.take_length, List.drop_length, plainE_nil, List.append_nil]
theorem unp_steps (xs : List UInt8) (d n : Nat) (most : Nat) (h0 : 0 < xs.length) (h : xs.length ≤ 128) (hd : 1 ≤ d) (hdl : d ≤ xs.length) (hn : 3 ≤ n) (hn2 : n ≤ 130) (hm : xs.length + n ≤ most) :
    unpB (1 :: UInt8.ofNat (xs.length - 1) :: (xs ++ laidM d n)) (most : Int) = (rep xs d n, 0) := by
  have hu : unpB (1 :: UInt8.ofNat (xs.length - 1) :: (xs ++ laidM d n)) (most : Int) = decF (max (most : Int) 0).toNat (UInt8.ofNat (xs.length - 1) :: (xs ++ laidM d n)).length [] (UInt8.ofNat (xs.length - 1) :: (xs ++ laidM d n)) := rfl
  have hm' : (max (most : Int) 0).toNat = most := by omega
  have hr : UInt8.ofNat (xs.length - 1) :: (xs ++ laidM d n) = plainE xs ++ laidM d n := by rw [plainE_short xs h0 h]; rfl
  rw [hu, hm', hr]
  obtain ⟨f', p1, p2⟩ := dec_plain most 0 _ xs (Nat.le_refl _) [] (laidM d n) _ (Nat.le_refl _) (by simp; omega)
  rw [p2, List.nil_append]
  have hl : (laidM d n).length = 2 := rfl
  rw [hl] at p1
  obtain ⟨f, rfl⟩ : ∃ f, f' = f + 1 := ⟨f' - 1, by omega⟩
  unfold laidM
  have hc : (UInt8.ofNat (128 + n - 3)).toNat = 128 + n - 3 := by rw [UInt8.toNat_ofNat']; omega
  have he : (UInt8.ofNat (d - 1)).toNat = d - 1 := by rw [UInt8.toNat_ofNat']; omega
  rw [decF_far _ _ _ _ _ _ (by omega), hc, he, if_neg (by omega), if_neg (by omega), show 128 + n - 3 - 128 + 3 = n by omega, show d - 1 + 1 = d by omega]
  cases f <;> rfl
theorem unp_short (xs : List UInt8) (n : Nat) (h0 : 0 < xs.length) (h : xs.length ≤ 128) (hn : 3 ≤ n) (hn2 : n ≤ 130) :
    unpB (1 :: UInt8.ofNat (xs.length - 1) :: (xs ++ [UInt8.ofNat (128 + n - 3)])) 1000 = ([], 60) := by
  have hu : unpB (1 :: UInt8.ofNat (xs.length - 1) :: (xs ++ [UInt8.ofNat (128 + n - 3)])) 1000 = decF 1000 (UInt8.ofNat (xs.length - 1) :: (xs ++ [UInt8.ofNat (128 + n - 3)])).length [] (UInt8.ofNat (xs.length - 1) :: (xs ++ [UInt8.ofNat (128 + n - 3)])) := rfl
  have hr : UInt8.ofNat (xs.length - 1) :: (xs ++ [UInt8.ofNat (128 + n - 3)]) = plainE xs ++ [UInt8.ofNat (128 + n - 3)] := by rw [plainE_short xs h0 h]; rfl
  rw [hu, hr]
  obtain ⟨f', p1, p2⟩ := dec_plain 1000 0 _ xs (Nat.le_refl _) [] [UInt8.ofNat (128 + n - 3)] _ (Nat.le_refl _) (by simp; omega)
  rw [p2, List.nil_append]
  simp only [List.length_singleton] at p1
  obtain ⟨f, rfl⟩ : ∃ f, f' = f + 1 := ⟨f' - 1, by omega⟩
  have hc : (UInt8.ofNat (128 + n - 3)).toNat = 128 + n - 3 := by rw [UInt8.toNat_ofNat']; omega
  rw [decF_end _ _ _ _ (by omega)]
end Go.Proofs.Ythbniljkgdkdnaa
