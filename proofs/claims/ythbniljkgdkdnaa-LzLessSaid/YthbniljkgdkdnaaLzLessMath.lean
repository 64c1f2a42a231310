/-
  Layer 6 in plain words: bytes of one kind, and such as come again, are packed shorter. No program is named here.
-/
import Derived.Test.YthbniljkgdkdnaaLzMath
namespace Go.Proofs.Ythbniljkgdkdnaa
set_option linter.unusedVariables false
set_option linter.unusedSimpArgs false

/-- Nowhere longer than the bytes, but for the heads of what is laid as such. -/
theorem enc_le (bs : List UInt8) : ∀ (g i from_ : Nat), from_ ≤ i → i ≤ bs.length → (encF bs g i from_).length ≤ (bs.length - from_) + 1 + (bs.length - from_) / 128
  | 0, i, from_, h1, h2 => by
    rw [encF, plainE_len _ _ (Nat.le_refl _), List.length_drop]
    omega
  | g + 1, i, from_, h1, h2 => by
    by_cases hi : i < bs.length
    · by_cases hs : (best bs i).2 = 0 ∨ (best bs i).2 < (best bs (i + 1)).2
      · rw [encF_skip bs g i from_ hi hs]
        exact enc_le bs g (i + 1) from_ (by omega) (by omega)
      · rw [encF_match bs g i from_ hi hs]
        obtain ⟨b1, _⟩ := best_zero_or bs i (fun e => hs (.inl e))
        obtain ⟨_, b6, b7, _⟩ := best_le bs i
        have ih := enc_le bs g (i + (best bs i).2) (i + (best bs i).2) (Nat.le_refl _) (by omega)
        have hsl := seg_len bs h1 h2
        rw [List.length_append, List.length_append, plainE_len _ _ (Nat.le_refl _), hsl]
        have hm : (laidM (best bs i).1 (best bs i).2).length = 2 := rfl
        rw [hm]
        omega
    · rw [encF_end bs _ i from_ (by omega), plainE_len _ _ (Nat.le_refl _), List.length_drop]
      omega

/-! ### bytes that come again -/
/-- A match as long as can be. -/
theorem best_full {bs : List UInt8} {i d : Nat} (h1 : 1 ≤ d) (h2 : d ≤ 256) (h3 : d ≤ i) (h4 : 3 ≤ bs.length - i) (h5 : bs.length - i ≤ 130) (hc : com bs (i - d) i = bs.length - i) : (best bs i).2 = bs.length - i := by
  obtain ⟨_, _, b7, _⟩ := best_le bs i
  rcases best_spec bs i with ⟨_, _, h0⟩ | ⟨_, _, _, _, _, ha⟩
  · have := h0 d h1 h2 h3
    omega
  · have := (ha d h1 h2 h3).1
    omega
theorem twice_com (xs : List UInt8) (i : Nat) (h1 : xs.length ≤ i) (h2 : i ≤ 2 * xs.length) (h3 : xs.length ≤ 100) : com (xs ++ xs) (i - xs.length) i = (xs ++ xs).length - i := by
  refine com_eq (by rw [List.length_append]; omega) (fun j hj => ?_) (fun _ c e1 e2 => ?_)
  · rw [List.length_append] at hj
    have hl : i - xs.length + j < xs.length := by omega
    refine ⟨xs[i - xs.length + j], ?_, ?_⟩
    · rw [List.getElem?_append_left hl, List.getElem?_eq_getElem hl]
    · rw [List.getElem?_append_right (by omega), show i + j - xs.length = i - xs.length + j by omega, List.getElem?_eq_getElem hl]
  · have := (List.getElem?_eq_some_iff.1 e2).1
    omega
theorem enc_twice (xs : List UInt8) (h20 : 20 ≤ xs.length) (h100 : xs.length ≤ 100) : ∀ (g i from_ : Nat), 2 * xs.length ≤ i + g → from_ ≤ i → i ≤ xs.length →
    (encF (xs ++ xs) g i from_).length + 4 ≤ (2 * xs.length - from_) + 1 + (2 * xs.length - from_) / 128
  | 0, i, from_, hg, h1, h2 => by omega
  | g + 1, i, from_, hg, h1, h2 => by
    have hl : (xs ++ xs).length = 2 * xs.length := by rw [List.length_append]; omega
    have hi : i < (xs ++ xs).length := by omega
    have hb : ∀ k, xs.length ≤ k → k + 3 ≤ 2 * xs.length → (best (xs ++ xs) k).2 = 2 * xs.length - k := fun k hk1 hk2 => by
      rw [← hl]
      exact best_full (d := xs.length) (by omega) (by omega) hk1 (by omega) (by omega) (twice_com xs k hk1 (by omega) h100)
    have take : ∀ k f fr, xs.length ≤ k → k + 3 ≤ 2 * xs.length → fr ≤ k → encF (xs ++ xs) (f + 1) k fr = plainE (seg (xs ++ xs) fr k) ++ laidM (best (xs ++ xs) k).1 (best (xs ++ xs) k).2 ++ encF (xs ++ xs) f (k + (best (xs ++ xs) k).2) (k + (best (xs ++ xs) k).2) := fun k f fr hk1 hk2 hk3 => by
      refine encF_match _ f k fr (by omega) fun e => ?_
      rw [hb k hk1 hk2] at e
      obtain ⟨_, _, b7, _⟩ := best_le (xs ++ xs) (k + 1)
      omega
    by_cases hs : (best (xs ++ xs) i).2 = 0 ∨ (best (xs ++ xs) i).2 < (best (xs ++ xs) (i + 1)).2
    · by_cases he : i = xs.length
      · subst he
        rw [hb _ (Nat.le_refl _) (by omega)] at hs
        obtain ⟨_, _, b7, _⟩ := best_le (xs ++ xs) (xs.length + 1)
        omega
      · rw [encF_skip _ g i from_ hi hs]
        exact enc_twice xs h20 h100 g (i + 1) from_ (by omega) (by omega) (by omega)
    · rw [encF_match _ g i from_ hi hs]
      obtain ⟨b1, _⟩ := best_zero_or _ i (fun e => hs (.inl e))
      obtain ⟨_, b6, b7, _⟩ := best_le (xs ++ xs) i
      have hsl := seg_len (xs ++ xs) h1 (by omega)
      have hm : ∀ d n, (laidM d n).length = 2 := fun _ _ => rfl
      rw [List.length_append, List.length_append, plainE_len _ _ (Nat.le_refl _), hsl, hm]
      by_cases hin : i + (best (xs ++ xs) i).2 ≤ xs.length
      · have ih := enc_twice xs h20 h100 g (i + (best (xs ++ xs) i).2) (i + (best (xs ++ xs) i).2) (by omega) (Nat.le_refl _) hin
        generalize (best (xs ++ xs) i).2 = n at *
        omega
      · by_cases h7 : 7 ≤ (best (xs ++ xs) i).2
        · have ih := enc_le (xs ++ xs) g (i + (best (xs ++ xs) i).2) (i + (best (xs ++ xs) i).2) (Nat.le_refl _) (by omega)
          rw [hl] at ih
          generalize (best (xs ++ xs) i).2 = n at *
          omega
        · -- the next match goes on to the end
          obtain ⟨k, hk⟩ : ∃ k, i + (best (xs ++ xs) i).2 = k := ⟨_, rfl⟩
          obtain ⟨f, rfl⟩ : ∃ f, g = f + 1 := ⟨g - 1, by omega⟩
          rw [hk, take k f k (by omega) (by omega) (Nat.le_refl _), List.length_append, List.length_append, hm, hb k (by omega) (by omega)]
          have hz : (plainE (seg (xs ++ xs) k k)).length = 0 := by rw [plainE_len _ _ (Nat.le_refl _), seg_len _ (Nat.le_refl _) (by omega)]; omega
          have ih := enc_le (xs ++ xs) f (k + (2 * xs.length - k)) (k + (2 * xs.length - k)) (Nat.le_refl _) (by omega)
          rw [hl] at ih
          generalize (best (xs ++ xs) i).2 = n at *
          omega
/-- P6.4. -/
theorem pack_twice (xs : List UInt8) (h20 : 20 ≤ xs.length) (h100 : xs.length ≤ 100) : (packB (xs ++ xs)).length < 2 * xs.length := by
  have hl : (xs ++ xs).length = 2 * xs.length := by rw [List.length_append]; omega
  have h := enc_twice xs h20 h100 (xs ++ xs).length 0 0 (by omega) (by omega) (by omega)
  have he : (enc (xs ++ xs)).length + 4 ≤ 2 * xs.length + 1 + 2 * xs.length / 128 := h
  unfold packB
  rw [if_pos (by omega), List.length_cons]
  omega

/-! ### bytes of one kind -/
theorem run_com (c : UInt8) (n i : Nat) (h1 : 1 ≤ i) (h2 : i ≤ n) : com (List.replicate n c) (i - 1) i = min 130 (n - i) := by
  refine com_eq (by omega) (fun j hj => ⟨c, ?_, ?_⟩) (fun _ x e1 e2 => ?_)
  · rw [List.getElem?_replicate, if_pos (by omega)]
  · rw [List.getElem?_replicate, if_pos (by omega)]
  · have := (List.getElem?_eq_some_iff.1 e2).1
    rw [List.length_replicate] at this
    omega
theorem run_best (c : UInt8) (n i : Nat) (h1 : 1 ≤ i) (h2 : i ≤ n) : (best (List.replicate n c) i).2 = if min 130 (n - i) < 3 then 0 else min 130 (n - i) := by
  have hc := run_com c n i h1 h2
  obtain ⟨_, b6, b7, _⟩ := best_le (List.replicate n c) i
  rw [List.length_replicate] at b7
  rcases best_spec (List.replicate n c) i with ⟨e1, e2, h0⟩ | ⟨e1, _, _, _, _, ha⟩
  · have := h0 1 (by omega) (by omega) h1
    rw [e1, if_pos (by omega)]
  · have := (ha 1 (by omega) (by omega) h1).1
    rw [if_neg (by omega)]
    omega
/-- Behind the first byte: matches of 130, one more, or two bytes at most. -/
theorem enc_run (c : UInt8) (n : Nat) : ∀ (g i : Nat), n ≤ i + g → 1 ≤ i → i ≤ n → (encF (List.replicate n c) g i i).length ≤ 3 + 2 * ((n - i) / 130)
  | 0, i, hg, h1, h2 => by
    rw [encF, plainE_len _ _ (Nat.le_refl _), List.length_drop, List.length_replicate]
    omega
  | g + 1, i, hg, h1, h2 => by
    have hl : (List.replicate n c).length = n := List.length_replicate
    by_cases hi : i < n
    · have hb := run_best c n i h1 h2
      have hb1 := run_best c n (i + 1) (by omega) (by omega)
      by_cases h3 : min 130 (n - i) < 3
      · -- one or two bytes are left
        rw [if_pos h3] at hb
        rw [if_pos (by omega)] at hb1
        have s1 : ∀ f, encF (List.replicate n c) (f + 1) i i = encF (List.replicate n c) f (i + 1) i := fun f => encF_skip _ f i i (by omega) (.inl hb)
        rw [s1]
        have s2 : (encF (List.replicate n c) g (i + 1) i).length = n - i + (n - i + 127) / 128 := by
          cases g with
          | zero => rw [encF, plainE_len _ _ (Nat.le_refl _), List.length_drop, hl]
          | succ g =>
            by_cases he : i + 1 < n
            · rw [encF_skip _ g (i + 1) i (by omega) (.inl hb1), encF_end _ _ _ _ (by omega), plainE_len _ _ (Nat.le_refl _), List.length_drop, hl]
            · rw [encF_end _ _ _ _ (by omega), plainE_len _ _ (Nat.le_refl _), List.length_drop, hl]
        rw [s2]
        omega
      · rw [if_neg h3] at hb
        have hs : ¬ ((best (List.replicate n c) i).2 = 0 ∨ (best (List.replicate n c) i).2 < (best (List.replicate n c) (i + 1)).2) := by
          rw [hb, hb1]
          split <;> omega
        rw [encF_match _ g i i (by omega) hs, hb]
        have ih := enc_run c n g (i + min 130 (n - i)) (by omega) (by omega) (by omega)
        have hz : (plainE (seg (List.replicate n c) i i)).length = 0 := by rw [plainE_len _ _ (Nat.le_refl _), seg_len _ (Nat.le_refl _) (by omega)]; omega
        have hm : ∀ d k, (laidM d k).length = 2 := fun _ _ => rfl
        rw [List.length_append, List.length_append, hz, hm]
        by_cases hq : n - i ≤ 130
        · have e : n - (i + min 130 (n - i)) = 0 := by omega
          have hend := encF_end (List.replicate n c) g (i + min 130 (n - i)) (i + min 130 (n - i)) (by omega)
          rw [hend, plainE_len _ _ (Nat.le_refl _), List.length_drop, hl, e]
          omega
        · omega
    · rw [encF_end _ _ _ _ (by omega), plainE_len _ _ (Nat.le_refl _), List.length_drop, hl]
      omega
theorem pack_run (c : UInt8) (n : Nat) (h5 : 5 ≤ n) : (packB (List.replicate n c)).length ≤ 4 + 2 * (n / 130 + 1) := by
  have hl : (List.replicate n c).length = n := List.length_replicate
  have h0 : (best (List.replicate n c) 0).2 = 0 := by
    rcases best_spec (List.replicate n c) 0 with ⟨e, _⟩ | ⟨_, h, _, h', _⟩
    · exact e
    · omega
  have hb1 := run_best c n 1 (by omega) (by omega)
  rw [if_neg (by omega)] at hb1
  obtain ⟨g, hg⟩ : ∃ g, n = g + 2 := ⟨n - 2, by omega⟩
  have e1 : enc (List.replicate n c) = encF (List.replicate n c) (g + 1) 1 0 := by
    unfold enc
    rw [hl]
    have h := encF_skip (List.replicate n c) (g + 1) 0 0 (by omega) (.inl h0)
    rw [show g + 1 + 1 = n by omega] at h
    exact h
  have hb2 := run_best c n 2 (by omega) (by omega)
  have hs : ¬ ((best (List.replicate n c) 1).2 = 0 ∨ (best (List.replicate n c) 1).2 < (best (List.replicate n c) (1 + 1)).2) := by
    rw [hb1, hb2]
    split <;> omega
  have e2 := encF_match (List.replicate n c) g 1 0 (by omega) hs
  have hm : ∀ d k, (laidM d k).length = 2 := fun _ _ => rfl
  have hp : (plainE (seg (List.replicate n c) 0 1)).length = 2 := by rw [plainE_len _ _ (Nat.le_refl _), seg_len _ (by omega) (by omega)]
  have hlen : (enc (List.replicate n c)).length ≤ 4 + (encF (List.replicate n c) g (1 + min 130 (n - 1)) (1 + min 130 (n - 1))).length := by
    rw [e1, e2, List.length_append, List.length_append, hp, hm, hb1]
    exact Nat.le_refl _
  have hle : (enc (List.replicate n c)).length ≤ 5 + 2 * ((n - 1) / 130) ∧ (n ≤ 131 → (enc (List.replicate n c)).length ≤ 4) := by
    by_cases hq : n - 1 ≤ 130
    · have hend := encF_end (List.replicate n c) g (1 + min 130 (n - 1)) (1 + min 130 (n - 1)) (by omega)
      rw [hend, plainE_len _ _ (Nat.le_refl _), List.length_drop, hl] at hlen
      omega
    · have ih := enc_run c n g (1 + min 130 (n - 1)) (by omega) (by omega) (by omega)
      omega
  unfold packB
  rw [if_pos (by omega), List.length_cons]
  omega
end Go.Proofs.Ythbniljkgdkdnaa
