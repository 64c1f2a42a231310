/-
  Plain facts on the matches in a run of one byte. No program.
-/
import Derived.Test.YtfdlillaoadpkaaMatchMath
namespace Go.Proofs.Ytfdlillaoadpkaa

/-! ### a run of one byte -/
theorem com_run (c : UInt8) (m i k : Nat) (hi : i < k) : com (List.replicate m c) i k = min 130 (m - k) := by
  refine com_eq (by omega) (fun j hj => ⟨c, ?_, ?_⟩) (fun h x h1 h2 => ?_)
  · rw [List.getElem?_replicate, if_pos (by omega)]
  · rw [List.getElem?_replicate, if_pos (by omega)]
  · rw [List.getElem?_replicate] at h2
    split at h2
    · omega
    · cases h2
theorem best_run (c : UInt8) (m k : Nat) (hk : k < m) :
    best (List.replicate m c) k = if k = 0 ∨ min 130 (m - k) < 3 then (0, 0) else (1, min 130 (m - k)) := by
  by_cases h0 : k = 0
  · subst h0
    rw [if_pos (.inl rfl), ← best_of (d := 0) (n := 0) (.inl ⟨rfl, rfl, fun e he => by omega⟩)]
    rfl
  · have hb : Best (List.replicate m c) k (fun x => 1 ≤ x ∧ x ≤ min 256 k) 1 (min 130 (m - k)) :=
      .inr ⟨by omega, by omega, com_run c m _ _ (by omega), fun e he => by rw [com_run c m _ _ (by omega)]; omega⟩
    rw [← best_of hb]
    unfold clean
    by_cases h3 : min 130 (m - k) < 3
    · rw [if_pos h3, if_pos (.inr h3)]
    · rw [if_neg h3, if_neg (by omega)]
end Go.Proofs.Ytfdlillaoadpkaa
