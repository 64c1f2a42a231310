/-
  Plain facts on the matches of neighbouring places, and of bytes that are the same up to a place. No program.
-/
import Derived.Test.YtfdlillaoadpkaaMatchMath
namespace Go.Proofs.Ytfdlillaoadpkaa

/-- P5.5. -/
theorem best_shrinks (bs : List UInt8) (k : Nat) (h3 : 3 < (best bs k).2) (h130 : (best bs k).2 < 130) : (best bs k).2 ≤ (best bs (k + 1)).2 + 1 := by
  rcases best_spec bs k with ⟨h1, _, _⟩ | ⟨_, hd1, hd2, hd3, hc, _⟩
  · omega
  · have hcom : (best bs k).2 - 1 ≤ com bs (k + 1 - (best bs k).1) (k + 1) := com_ge (by omega) fun j hj => by
      obtain ⟨c, e1, e2⟩ := com_lt (bs := bs) (i := k - (best bs k).1) (k := k) (j := j + 1) (by omega)
      refine ⟨c, ?_, ?_⟩
      · rw [← e1]; congr 1; omega
      · rw [← e2]; congr 1; omega
    rcases best_spec bs (k + 1) with ⟨_, _, h0⟩ | ⟨_, _, _, _, _, ha⟩
    · have := h0 (best bs k).1 hd1 hd2 (by omega)
      omega
    · have := (ha (best bs k).1 hd1 hd2 (by omega)).1
      omega

/-- More bytes behind: no match gets shorter. -/
theorem com_more (bs cs : List UInt8) (i k : Nat) : com bs i k ≤ com (bs ++ cs) i k := com_ge (com_le _ _ _) fun j hj => by
  obtain ⟨c, e1, e2⟩ := com_lt hj
  refine ⟨c, ?_, ?_⟩
  · rw [List.getElem?_append_left (List.getElem?_eq_some_iff.1 e1).1]; exact e1
  · rw [List.getElem?_append_left (List.getElem?_eq_some_iff.1 e2).1]; exact e2
theorem com_same (bs cs : List UInt8) (i k : Nat) (hik : i < k) (h : k + com bs i k < bs.length) : com (bs ++ cs) i k = com bs i k := by
  refine com_eq (com_le _ _ _) (fun j hj => ?_) (fun h130 c e1 e2 => ?_)
  · obtain ⟨c, e1, e2⟩ := com_lt hj
    exact ⟨c, by rw [List.getElem?_append_left (List.getElem?_eq_some_iff.1 e1).1]; exact e1, by rw [List.getElem?_append_left (List.getElem?_eq_some_iff.1 e2).1]; exact e2⟩
  · rw [List.getElem?_append_left (by omega)] at e1 e2
    exact com_stop h130 c e1 e2
theorem best_more (bs cs : List UInt8) (k : Nat) : (best bs k).2 ≤ (best (bs ++ cs) k).2 := by
  rcases best_spec bs k with ⟨h1, _, _⟩ | ⟨h3, hd1, hd2, hd3, hc, _⟩
  · omega
  · have hm := com_more bs cs (k - (best bs k).1) k
    rcases best_spec (bs ++ cs) k with ⟨_, _, h0⟩ | ⟨_, _, _, _, _, ha⟩
    · have := h0 (best bs k).1 hd1 hd2 hd3
      omega
    · have := (ha (best bs k).1 hd1 hd2 hd3).1
      omega
theorem best_same (bs cs : List UInt8) (k : Nat) (h : k + max (best bs k).2 2 < bs.length) : best (bs ++ cs) k = best bs k := by
  have key : ∀ e, 1 ≤ e → e ≤ 256 → e ≤ k → com bs (k - e) k ≤ max (best bs k).2 2 := fun e h1 h2 h3 => by
    rcases best_spec bs k with ⟨_, _, h0⟩ | ⟨_, _, _, _, _, ha⟩
    · have := h0 e h1 h2 h3; omega
    · have := (ha e h1 h2 h3).1; omega
  have eqv : ∀ e, 1 ≤ e → e ≤ 256 → e ≤ k → com (bs ++ cs) (k - e) k = com bs (k - e) k := fun e h1 h2 h3 => com_same bs cs _ _ (by omega) (by have := key e h1 h2 h3; omega)
  have hb := bestTo_best (bs ++ cs) k (min 256 k)
  have hb' : Best bs k (fun x => 1 ≤ x ∧ x ≤ min 256 k) (bestTo (bs ++ cs) k (min 256 k)).1 (bestTo (bs ++ cs) k (min 256 k)).2 := by
    rcases hb with ⟨h1, h2, h0⟩ | ⟨hn, hs, hc, ha⟩
    · exact .inl ⟨h1, h2, fun e he => by rw [← eqv e he.1 (by omega) (by omega)]; exact h0 e he⟩
    · refine .inr ⟨hn, hs, by rw [← eqv _ hs.1 (by omega) (by omega)]; exact hc, fun e he => ?_⟩
      rw [← eqv e he.1 (by omega) (by omega)]
      exact ha e he
  rw [← best_of hb']
  rfl
end Go.Proofs.Ytfdlillaoadpkaa
