/-
  The list that All makes, as it is read.
-/
import Derived.Test.YthbniljkgdkdnaaMatchAll
import Derived.Test.YthbniljkgdkdnaaOwn
namespace Go.Proofs.Ythbniljkgdkdnaa
open Go.RowKit
set_option linter.unusedVariables false
set_option linter.unusedSimpArgs false

theorem flat_len (bs : List UInt8) (n : Nat) : (flat bs n).length = n * 2 := by
  induction n with
  | zero => rfl
  | succ n ih => rw [flat_succ, List.length_append, ih]; simp; omega
theorem flat_get (bs : List UInt8) (n k : Nat) (hk : k < n) : (flat bs n)[k * 2]? = some (.int .i64 (best bs k).1) ∧ (flat bs n)[k * 2 + 1]? = some (.int .i64 (best bs k).2) := by
  induction n with
  | zero => omega
  | succ n ih =>
    rw [flat_succ]
    by_cases h : k < n
    · have h1 := flat_len bs n
      rw [List.getElem?_append_left (by omega), List.getElem?_append_left (by omega)]
      exact ih h
    · obtain rfl : k = n := by omega
      have h1 := flat_len bs k
      rw [List.getElem?_append_right (by omega), List.getElem?_append_right (by omega), h1]
      simp
theorem own_pair {w : World} {base : Nat} {e : TypeId} {g c n k : Nat} {bs : List UInt8} (h : w.ownsRow base e 2 (.slice (some ⟨g, 0, none⟩) n c) n (flat bs n)) (hk : k < n) :
    w.cell? ⟨g, k * 2, none⟩ = some (.int .i64 (best bs k).1) ∧ w.cell? ⟨g, k * 2 + 1, none⟩ = some (.int .i64 (best bs k).2) := by
  obtain ⟨h1, h2⟩ := flat_get bs n k hk
  have c1 := h.cells (g := g) rfl _ _ h1
  have c2 := h.cells (g := g) rfl _ _ h2
  rw [add_at, Nat.zero_add] at c1 c2
  exact ⟨c1, c2⟩
end Go.Proofs.Ythbniljkgdkdnaa
