/-
  Plain facts on the places at which three bytes stand, asked from the last one back. No program.
-/
import Derived.Test.YthbniljkgdkdnaaGroups
namespace Go.Proofs.Ythbniljkgdkdnaa
set_option linter.unusedVariables false
set_option linter.unusedSimpArgs false

/-- The distances of the places from number j on. -/
def SetJ (l : List Nat) (k j : Nat) (e : Nat) : Prop := ∃ i p, j ≤ i ∧ l[i]? = some p ∧ e = k - p
theorem posT_mem {bs : List UInt8} {k : Nat} {a b c : UInt8} {p : Nat} : p ∈ posT bs k a b c ↔ p < k ∧ bs[p]? = some a ∧ bs[p + 1]? = some b ∧ bs[p + 2]? = some c := by
  unfold posT
  simp
theorem posT_sorted (bs : List UInt8) (k : Nat) (a b c : UInt8) : (posT bs k a b c).Pairwise (· < ·) := by
  unfold posT
  exact List.Pairwise.filter _ List.pairwise_lt_range
theorem posT_le {bs : List UInt8} {k : Nat} {a b c : UInt8} {i j p q : Nat} (hi : (posT bs k a b c)[i]? = some p) (hj : (posT bs k a b c)[j]? = some q) (hij : i ≤ j) : p ≤ q := by
  rcases Nat.lt_or_ge i j with h | h
  · obtain ⟨h1, e1⟩ := List.getElem?_eq_some_iff.1 hi
    obtain ⟨h2, e2⟩ := List.getElem?_eq_some_iff.1 hj
    have := List.pairwise_iff_getElem.1 (posT_sorted bs k a b c) i j h1 h2 h
    omega
  · obtain rfl : i = j := by omega
    rw [hi] at hj
    injection hj with hj
    omega
theorem chain_start (bs : List UInt8) (l : List Nat) (k : Nat) : Best bs k (SetJ l k l.length) 0 0 := Best.none_ fun e ⟨i, p, h1, h2, _⟩ => by
  have := (List.getElem?_eq_some_iff.1 h2).1
  omega
theorem chain_step {bs : List UInt8} {l : List Nat} {k j p d n : Nat} (h : Best bs k (SetJ l k (j + 1)) d n) (hp : l[j]? = some p) (hpk : p < k) :
    Best bs k (SetJ l k j) (better d n (k - p) (com bs p k)).1 (better d n (k - p) (com bs p k)).2 := by
  have := h.step (e := k - p) (S' := SetJ l k j) fun x => by
    constructor
    · rintro ⟨i, q, h1, h2, rfl⟩
      by_cases hij : i = j
      · subst hij
        rw [hp] at h2
        injection h2 with h2
        exact .inr (by rw [h2])
      · exact .inl ⟨i, q, by omega, h2, rfl⟩
    · rintro (⟨i, q, h1, h2, rfl⟩ | rfl)
      · exact ⟨i, q, by omega, h2, rfl⟩
      · exact ⟨j, p, Nat.le_refl _, hp, rfl⟩
  rwa [show k - (k - p) = p by omega] at this
theorem chain_end {bs : List UInt8} {k j d n : Nat} {a b c : UInt8} (ha : bs[k]? = some a) (hb : bs[k + 1]? = some b) (hc : bs[k + 2]? = some c)
    (hwin : ∀ i p, j ≤ i → (posT bs k a b c)[i]? = some p → k ≤ p + 256) (hout : ∀ i p, i < j → (posT bs k a b c)[i]? = some p → p + 256 < k)
    (h : Best bs k (SetJ (posT bs k a b c) k j) d n) : clean (d, n) = best bs k := by
  refine best_of_three (h.iff fun e => ⟨?_, ?_⟩)
  · rintro ⟨i, p, h1, h2, rfl⟩
    have hm := posT_mem.1 (List.mem_of_getElem? h2)
    have hw := hwin i p h1 h2
    refine ⟨by omega, ?_⟩
    rw [show k - (k - p) = p by omega]
    refine com_ge (by omega) fun x hx => ?_
    match x, hx with
    | 0, _ => exact ⟨a, hm.2.1, ha⟩
    | 1, _ => exact ⟨b, hm.2.2.1, hb⟩
    | 2, _ => exact ⟨c, hm.2.2.2, hc⟩
  · rintro ⟨h1, h2⟩
    have hm : k - e ∈ posT bs k a b c := by
      refine posT_mem.2 ⟨by omega, ?_, ?_, ?_⟩
      · obtain ⟨x, e1, e2⟩ := com_lt (show 0 < com bs (k - e) k by omega)
        rw [show k + 0 = k from rfl, ha] at e2
        rw [← e2] at e1
        exact e1
      · obtain ⟨x, e1, e2⟩ := com_lt (show 1 < com bs (k - e) k by omega)
        rw [hb] at e2
        rw [← e2] at e1
        exact e1
      · obtain ⟨x, e1, e2⟩ := com_lt (show 2 < com bs (k - e) k by omega)
        rw [hc] at e2
        rw [← e2] at e1
        exact e1
    obtain ⟨i, hi⟩ := List.mem_iff_getElem?.1 hm
    refine ⟨i, k - e, ?_, hi, by omega⟩
    rcases Nat.lt_or_ge i j with hlt | hge
    · have := hout i _ hlt hi
      omega
    · exact hge
/-- Where three bytes are not left there is no match. -/
theorem best_short {bs : List UInt8} {k : Nat} (h : bs.length < k + 3) : best bs k = (0, 0) := by
  rcases best_spec bs k with ⟨h1, h2, _⟩ | ⟨h1, _, _, _, hc, _⟩
  · rw [← Prod.eta (best bs k), h1, h2]
  · have := (com_len bs (k - (best bs k).1) k).2
    omega

end Go.Proofs.Ythbniljkgdkdnaa
