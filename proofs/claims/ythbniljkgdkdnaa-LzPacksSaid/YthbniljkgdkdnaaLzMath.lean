/-
  Layer 6 in plain words: what bytes are packed into, what is unpacked. No program is named here.
-/
import Derived.Test.YthbniljkgdkdnaaMatchMath
namespace Go.Proofs.Ythbniljkgdkdnaa
set_option linter.unusedVariables false
set_option linter.unusedSimpArgs false

/-! ### packing -/
/-- Bytes laid as such, at most 128 at a time. -/
def plainF : Nat → List UInt8 → List UInt8
  | 0, _ => []
  | f + 1, b => if b.length = 0 then [] else UInt8.ofNat (min b.length 128 - 1) :: (b.take (min b.length 128) ++ plainF f (b.drop (min b.length 128)))
def plainE (b : List UInt8) : List UInt8 := plainF b.length b
theorem plainF_more : ∀ (f g : Nat) (b : List UInt8), b.length ≤ f → b.length ≤ g → plainF f b = plainF g b
  | 0, 0, _, _, _ => rfl
  | 0, g + 1, b, h, _ => by unfold plainF; rw [if_pos (by omega)]
  | f + 1, 0, b, _, h => by unfold plainF; rw [if_pos (by omega)]
  | f + 1, g + 1, b, h1, h2 => by
    unfold plainF
    by_cases h0 : b.length = 0
    · rw [if_pos h0, if_pos h0]
    · rw [if_neg h0, if_neg h0, plainF_more f g _ (by simp; omega) (by simp; omega)]
theorem plainE_nil : plainE [] = [] := rfl
theorem plainE_step (b : List UInt8) (h : 0 < b.length) : plainE b = UInt8.ofNat (min b.length 128 - 1) :: (b.take (min b.length 128) ++ plainE (b.drop (min b.length 128))) := by
  unfold plainE
  obtain ⟨f, hf⟩ : ∃ f, b.length = f + 1 := ⟨b.length - 1, by omega⟩
  rw [hf, plainF, if_neg (by omega), hf]
  congr 2
  rw [plainF_more f _ _ (by simp; omega) (Nat.le_refl _)]
theorem plainE_len : ∀ (f : Nat) (b : List UInt8), b.length ≤ f → (plainE b).length = b.length + (b.length + 127) / 128
  | 0, b, h => by
    obtain rfl : b = [] := List.eq_nil_of_length_eq_zero (by omega)
    rfl
  | f + 1, b, h => by
    by_cases h0 : b.length = 0
    · obtain rfl : b = [] := List.eq_nil_of_length_eq_zero h0
      rfl
    · rw [plainE_step b (by omega), List.length_cons, List.length_append, plainE_len f _ (by simp; omega), List.length_take, List.length_drop]
      omega

/-- The part of bytes from a place up to another. -/
def seg (bs : List UInt8) (i k : Nat) : List UInt8 := (bs.drop i).take (k - i)
theorem seg_len (bs : List UInt8) {i k : Nat} (h : i ≤ k) (hk : k ≤ bs.length) : (seg bs i k).length = k - i := by unfold seg; simp; omega
/-- A match, laid. -/
def laidM (d n : Nat) : List UInt8 := [UInt8.ofNat (128 + n - 3), UInt8.ofNat (d - 1)]
/-- The encoding from place i on, the bytes from 'from_' on still to be laid. -/
def encF (bs : List UInt8) : Nat → Nat → Nat → List UInt8
  | 0, _, from_ => plainE (bs.drop from_)
  | f + 1, i, from_ =>
    if i < bs.length then
      if (best bs i).2 = 0 ∨ (best bs i).2 < (best bs (i + 1)).2 then encF bs f (i + 1) from_
      else plainE (seg bs from_ i) ++ laidM (best bs i).1 (best bs i).2 ++ encF bs f (i + (best bs i).2) (i + (best bs i).2)
    else plainE (bs.drop from_)
def enc (bs : List UInt8) : List UInt8 := encF bs bs.length 0 0
theorem encF_end (bs : List UInt8) (f i from_ : Nat) (h : bs.length ≤ i) : encF bs f i from_ = plainE (bs.drop from_) := by
  cases f with
  | zero => rfl
  | succ f => unfold encF; rw [if_neg (by omega)]
theorem encF_skip (bs : List UInt8) (f i from_ : Nat) (h : i < bs.length) (hs : (best bs i).2 = 0 ∨ (best bs i).2 < (best bs (i + 1)).2) : encF bs (f + 1) i from_ = encF bs f (i + 1) from_ := by
  rw [encF, if_pos h, if_pos hs]
theorem encF_match (bs : List UInt8) (f i from_ : Nat) (h : i < bs.length) (hs : ¬ ((best bs i).2 = 0 ∨ (best bs i).2 < (best bs (i + 1)).2)) :
    encF bs (f + 1) i from_ = plainE (seg bs from_ i) ++ laidM (best bs i).1 (best bs i).2 ++ encF bs f (i + (best bs i).2) (i + (best bs i).2) := by
  rw [encF, if_pos h, if_neg hs]
/-- P6.1. -/
def packB (bs : List UInt8) : List UInt8 := if (enc bs).length < bs.length then 1 :: enc bs else 0 :: bs

theorem best_zero_or (bs : List UInt8) (i : Nat) (h : ¬ (best bs i).2 = 0) : 3 ≤ (best bs i).2 ∧ 1 ≤ (best bs i).1 ∧ (best bs i).1 ≤ 256 ∧ (best bs i).1 ≤ i ∧ com bs (i - (best bs i).1) i = (best bs i).2 := by
  rcases best_spec bs i with ⟨h1, _⟩ | ⟨h1, h2, h3, h4, h5, _⟩
  · exact absurd h1 h
  · exact ⟨h1, h2, h3, h4, h5⟩

/-! ### unpacking -/
/-- n bytes more, each that which stands d ahead. -/
def rep (out : List UInt8) (d : Nat) : Nat → List UInt8
  | 0 => out
  | n + 1 => rep out d n ++ [(rep out d n).getD ((rep out d n).length - d) 0]
theorem rep_len (out : List UInt8) (d n : Nat) : (rep out d n).length = out.length + n := by
  induction n with
  | zero => rfl
  | succ n ih => rw [rep, List.length_append, ih]; rfl
/-- The items one by one; the error's number. -/
def decF (most : Nat) : Nat → List UInt8 → List UInt8 → List UInt8 × Int
  | 0, out, _ => (out, 0)
  | f + 1, out, [] => (out, 0)
  | f + 1, out, c :: rest =>
    if c.toNat < 128 then
      if rest.length < c.toNat + 1 then ([], 60)
      else if most - out.length < c.toNat + 1 then ([], 4)
      else decF most f (out ++ rest.take (c.toNat + 1)) (rest.drop (c.toNat + 1))
    else match rest with
      | [] => ([], 60)
      | e :: rest =>
        if out.length < e.toNat + 1 then ([], 60)
        else if most - out.length < c.toNat - 128 + 3 then ([], 4)
        else decF most f (rep out (e.toNat + 1) (c.toNat - 128 + 3)) rest
theorem decF_lit (most f : Nat) (out rest : List UInt8) (c : UInt8) (h : c.toNat < 128) : decF most (f + 1) out (c :: rest) = if rest.length < c.toNat + 1 then ([], 60) else if most - out.length < c.toNat + 1 then ([], 4) else decF most f (out ++ rest.take (c.toNat + 1)) (rest.drop (c.toNat + 1)) := by
  rw [decF.eq_def]; simp only [if_pos h]
theorem decF_end (most f : Nat) (out : List UInt8) (c : UInt8) (h : ¬ c.toNat < 128) : decF most (f + 1) out [c] = ([], 60) := by
  rw [decF.eq_def]; simp only [if_neg h]
theorem decF_far (most f : Nat) (out rest : List UInt8) (c e : UInt8) (h : ¬ c.toNat < 128) : decF most (f + 1) out (c :: e :: rest) = if out.length < e.toNat + 1 then ([], 60) else if most - out.length < c.toNat - 128 + 3 then ([], 4) else decF most f (rep out (e.toNat + 1) (c.toNat - 128 + 3)) rest := by
  rw [decF.eq_def]; simp only [if_neg h]
/-- P6.2. -/
def unpB (p : List UInt8) (most : Int) : List UInt8 × Int :=
  match p with
  | [] => ([], 60)
  | c :: rest =>
    if 1 < c.toNat then ([], 60)
    else if c.toNat = 0 then (if max most 0 < rest.length then ([], 4) else (rest, 0))
    else decF (max most 0).toNat rest.length [] rest

theorem dec_plain (most f : Nat) : ∀ (g : Nat) (b : List UInt8), b.length ≤ g → ∀ (out rest : List UInt8) (f : Nat), (plainE b ++ rest).length ≤ f → out.length + b.length ≤ most →
    ∃ f', rest.length ≤ f' ∧ decF most f out (plainE b ++ rest) = decF most f' (out ++ b) rest
  | 0, b, h, out, rest, f, hf, hm => by
    obtain rfl : b = [] := List.eq_nil_of_length_eq_zero (by omega)
    exact ⟨f, by simpa [plainE_nil] using hf, by simp [plainE_nil]⟩
  | g + 1, b, h, out, rest, f, hf, hm => by
    by_cases h0 : b.length = 0
    · obtain rfl : b = [] := List.eq_nil_of_length_eq_zero h0
      exact ⟨f, by simpa [plainE_nil] using hf, by simp [plainE_nil]⟩
    · have hp := plainE_step b (by omega)
      obtain ⟨n, hn⟩ : ∃ n, min b.length 128 = n + 1 := ⟨min b.length 128 - 1, by omega⟩
      rw [hn] at hp
      rw [hp] at hf ⊢
      simp only [List.cons_append, List.append_assoc, List.length_cons, List.length_append, List.length_take, Nat.add_sub_cancel] at hf ⊢
      obtain ⟨f, rfl⟩ : ∃ f', f = f' + 1 := ⟨f - 1, by omega⟩
      have hc : (UInt8.ofNat n).toNat = n := by rw [UInt8.toNat_ofNat']; omega
      have hlen : (b.take (n + 1)).length = n + 1 := by simp; omega
      have ht : (b.take (n + 1) ++ (plainE (b.drop (n + 1)) ++ rest)).take (n + 1) = b.take (n + 1) := by
        rw [List.take_append_of_le_length (by omega), List.take_of_length_le (by omega)]
      have hd : (b.take (n + 1) ++ (plainE (b.drop (n + 1)) ++ rest)).drop (n + 1) = plainE (b.drop (n + 1)) ++ rest := by
        rw [List.drop_append_of_le_length (by omega), List.drop_of_length_le (by omega), List.nil_append]
      have e : decF most (f + 1) out (UInt8.ofNat n :: (b.take (n + 1) ++ (plainE (b.drop (n + 1)) ++ rest))) = decF most f (out ++ b.take (n + 1)) (plainE (b.drop (n + 1)) ++ rest) := by
        rw [decF_lit _ _ _ _ _ (by omega), hc, if_neg (by simp only [List.length_append, List.length_take]; omega), if_neg (by omega), ht, hd]
      rw [e]
      obtain ⟨f', h1, h2⟩ := dec_plain most f g (b.drop (n + 1)) (by simp; omega) (out ++ b.take (n + 1)) rest f (by simp only [List.length_append] at hf ⊢; omega) (by simp; omega)
      refine ⟨f', h1, ?_⟩
      rw [h2, List.append_assoc, List.take_append_drop]
/-- There is no room for them all. -/
theorem dec_plain_long (most : Nat) : ∀ (g : Nat) (b : List UInt8), b.length ≤ g → ∀ (out rest : List UInt8) (f : Nat), (plainE b ++ rest).length ≤ f → out.length ≤ most → most < out.length + b.length →
    decF most f out (plainE b ++ rest) = ([], 4)
  | 0, b, h, out, rest, f, hf, hm, hl => by omega
  | g + 1, b, h, out, rest, f, hf, hm, hl => by
    have hp := plainE_step b (by omega)
    obtain ⟨n, hn⟩ : ∃ n, min b.length 128 = n + 1 := ⟨min b.length 128 - 1, by omega⟩
    rw [hn] at hp
    rw [hp] at hf ⊢
    simp only [List.cons_append, List.append_assoc, List.length_cons, List.length_append, List.length_take, Nat.add_sub_cancel] at hf ⊢
    obtain ⟨f, rfl⟩ : ∃ f', f = f' + 1 := ⟨f - 1, by omega⟩
    have hc : (UInt8.ofNat n).toNat = n := by rw [UInt8.toNat_ofNat']; omega
    have hlen : (b.take (n + 1)).length = n + 1 := by simp; omega
    have ht : (b.take (n + 1) ++ (plainE (b.drop (n + 1)) ++ rest)).take (n + 1) = b.take (n + 1) := by
      rw [List.take_append_of_le_length (by omega), List.take_of_length_le (by omega)]
    have hd : (b.take (n + 1) ++ (plainE (b.drop (n + 1)) ++ rest)).drop (n + 1) = plainE (b.drop (n + 1)) ++ rest := by
      rw [List.drop_append_of_le_length (by omega), List.drop_of_length_le (by omega), List.nil_append]
    rw [decF_lit _ _ _ _ _ (by omega), hc, if_neg (by simp only [List.length_append, List.length_take]; omega)]
    by_cases hlong : most - out.length < n + 1
    · rw [if_pos hlong]
    · rw [if_neg hlong, ht, hd]
      exact dec_plain_long most g (b.drop (n + 1)) (by simp; omega) (out ++ b.take (n + 1)) rest f (by simp only [List.length_append] at hf ⊢; omega) (by simp; omega) (by simp; omega)

theorem rep_match (bs : List UInt8) (i d : Nat) (hd : 1 ≤ d) (hdi : d ≤ i) : ∀ n, n ≤ com bs (i - d) i → rep (bs.take i) d n = bs.take (i + n)
  | 0, _ => rfl
  | n + 1, h => by
    obtain ⟨c, h1, h2⟩ := com_lt (bs := bs) (i := i - d) (k := i) (j := n) (by omega)
    have hl : i + n < bs.length := (List.getElem?_eq_some_iff.1 h2).1
    rw [rep, rep_match bs i d hd hdi n (by omega), ← Nat.add_assoc, List.take_add_one, h2]
    congr 1
    have e : (bs.take (i + n)).length - d = i - d + n := by simp; omega
    rw [e, List.getD_eq_getElem?_getD, List.getElem?_take, if_pos (by omega), h1]
    rfl
theorem dec_match (bs : List UInt8) (most i : Nat) (hi : i < bs.length) (hn : ¬ (best bs i).2 = 0) (rest : List UInt8) (f : Nat) (hf : (laidM (best bs i).1 (best bs i).2 ++ rest).length ≤ f) :
    ∃ f', rest.length ≤ f' ∧ decF most f (bs.take i) (laidM (best bs i).1 (best bs i).2 ++ rest) = if most - i < (best bs i).2 then ([], 4) else decF most f' (bs.take (i + (best bs i).2)) rest := by
  obtain ⟨h1, h2, h3, h4, h5⟩ := best_zero_or bs i hn
  obtain ⟨_, h6, h7, _⟩ := best_le bs i
  have hr := rep_match bs i (best bs i).1 h2 h4 (best bs i).2 (by omega)
  generalize (best bs i).1 = d at *
  generalize (best bs i).2 = n at *
  unfold laidM at hf ⊢
  simp only [List.cons_append, List.nil_append, List.length_cons] at hf ⊢
  obtain ⟨f, rfl⟩ : ∃ f', f = f' + 1 := ⟨f - 1, by omega⟩
  have hc : (UInt8.ofNat (128 + n - 3)).toNat = 128 + n - 3 := by rw [UInt8.toNat_ofNat']; omega
  have he : (UInt8.ofNat (d - 1)).toNat = d - 1 := by rw [UInt8.toNat_ofNat']; omega
  have hlt : (bs.take i).length = i := by simp; omega
  refine ⟨f, by omega, ?_⟩
  rw [decF_far _ _ _ _ _ _ (by omega), hc, he, if_neg (by omega), hlt, show 128 + n - 3 - 128 + 3 = n by omega, show d - 1 + 1 = d by omega, hr]
theorem take_seg (bs : List UInt8) {i k : Nat} (h : i ≤ k) : bs.take i ++ seg bs i k = bs.take k := by
  unfold seg
  rw [← List.take_append_drop i (bs.take k), List.take_take, Nat.min_eq_left h, List.drop_take]
theorem dec_enc (bs : List UInt8) (most : Nat) : ∀ (g i from_ : Nat), bs.length ≤ i + g → from_ ≤ i → i ≤ bs.length → from_ ≤ most → ∀ f, (encF bs g i from_).length ≤ f →
    decF most f (bs.take from_) (encF bs g i from_) = if most < bs.length then ([], 4) else (bs, 0)
  | 0, i, from_, hg, h1, h2, hm, f, hf => dec_tail bs most from_ (by omega) hm f hf
  | g + 1, i, from_, hg, h1, h2, hm, f, hf => by
    by_cases hi : i < bs.length
    · by_cases hs : (best bs i).2 = 0 ∨ (best bs i).2 < (best bs (i + 1)).2
      · rw [encF_skip bs g i from_ hi hs] at hf ⊢
        exact dec_enc bs most g (i + 1) from_ (by omega) (by omega) (by omega) hm f hf
      · rw [encF_match bs g i from_ hi hs, List.append_assoc] at hf ⊢
        have hn : ¬ (best bs i).2 = 0 := fun e => hs (.inl e)
        obtain ⟨b1, b2, b3, b4, b5⟩ := best_zero_or bs i hn
        obtain ⟨_, b6, b7, _⟩ := best_le bs i
        have hsl := seg_len bs h1 h2
        have hft : (bs.take from_).length = from_ := by simp; omega
        by_cases hr : from_ + (i - from_) ≤ most
        · obtain ⟨f', p1, p2⟩ := dec_plain most 0 _ (seg bs from_ i) (Nat.le_refl _) (bs.take from_) _ f hf (by rw [hft, hsl]; exact hr)
          rw [p2, take_seg bs h1]
          obtain ⟨f'', q1, q2⟩ := dec_match bs most i hi hn _ f' p1
          rw [q2]
          by_cases hl : most - i < (best bs i).2
          · rw [if_pos hl, if_pos (by omega)]
          · rw [if_neg hl]
            exact dec_enc bs most g _ _ (by omega) (Nat.le_refl _) (by omega) (by omega) f'' q1
        · rw [dec_plain_long most _ (seg bs from_ i) (Nat.le_refl _) (bs.take from_) _ f hf (by rw [hft]; omega) (by rw [hft, hsl]; omega), if_pos (by omega)]
    · rw [encF_end bs _ i from_ (by omega)] at hf ⊢
      exact dec_tail bs most from_ (by omega) hm f hf
where
  dec_tail (bs : List UInt8) (most from_ : Nat) (h : from_ ≤ bs.length) (hm : from_ ≤ most) (f : Nat) (hf : (plainE (bs.drop from_)).length ≤ f) :
      decF most f (bs.take from_) (plainE (bs.drop from_)) = if most < bs.length then ([], 4) else (bs, 0) := by
    have hft : (bs.take from_).length = from_ := by simp; omega
    have hdl : (bs.drop from_).length = bs.length - from_ := by simp
    by_cases hl : most < bs.length
    · rw [if_pos hl]
      have := dec_plain_long most _ (bs.drop from_) (Nat.le_refl _) (bs.take from_) [] f (by simpa using hf) (by rw [hft]; exact hm) (by rw [hft, hdl]; omega)
      rwa [List.append_nil] at this
    · rw [if_neg hl]
      obtain ⟨f', p1, p2⟩ := dec_plain most 0 _ (bs.drop from_) (Nat.le_refl _) (bs.take from_) [] f (by simpa using hf) (by rw [hft, hdl]; omega)
      rw [List.append_nil, List.take_append_drop] at p2
      rw [p2]
      cases f' <;> rfl
/-- P6.3. -/
theorem unp_pack (bs : List UInt8) (most : Int) : unpB (packB bs) most = if max most 0 < bs.length then ([], 4) else (bs, 0) := by
  unfold packB
  by_cases h : (enc bs).length < bs.length
  · rw [if_pos h]
    unfold unpB
    simp only [show ¬ 1 < (1 : UInt8).toNat by decide, show ¬ (1 : UInt8).toNat = 0 by decide, if_false]
    have := dec_enc bs (max most 0).toNat bs.length 0 0 (by omega) (by omega) (by omega) (by omega) (enc bs).length (Nat.le_refl _)
    rw [List.take_zero] at this
    unfold enc at *
    rw [this]
    by_cases h2 : max most 0 < bs.length
    · rw [if_pos h2, if_pos (by omega)]
    · rw [if_neg h2, if_neg (by omega)]
  · rw [if_neg h]
    unfold unpB
    simp only [show ¬ 1 < (0 : UInt8).toNat by decide, show (0 : UInt8).toNat = 0 by decide, if_false, if_true]
    rw [if_neg (by decide)]
theorem pack_len (bs : List UInt8) : (packB bs).length ≤ bs.length + 1 := by
  unfold packB
  split
  · rw [List.length_cons]; omega
  · rw [List.length_cons]; omega
theorem pack_kinds (bs : List UInt8) : packB bs = 0 :: bs ∨ (∃ e, packB bs = 1 :: e ∧ e.length < bs.length) := by
  unfold packB
  split
  · exact .inr ⟨_, rfl, by assumption⟩
  · exact .inl rfl
end Go.Proofs.Ythbniljkgdkdnaa
