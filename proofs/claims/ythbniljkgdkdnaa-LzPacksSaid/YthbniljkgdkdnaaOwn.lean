/-
  Slices of the call's own, opened. No program is named here.
-/
import Derived.Test.YthbniljkgdkdnaaBase
import Derived.Laws.AppendOwn
namespace Go.Proofs.Ythbniljkgdkdnaa
open Go.RowKit
set_option linter.unusedVariables false
set_option linter.unusedSimpArgs false

theorem own_slice {w : World} {base : Nat} {e : TypeId} {size n : Nat} {v : Value} {xs : List Value} (h : w.ownsRow base e size v n xs) : ∃ A c, v = .slice A n c ∧ n ≤ c ∧ c ≤ maxLen ∧ Rd w A xs := by
  rcases h.2 with ⟨rfl, rfl⟩ | ⟨g, cap, cur, rfl, _, _, h1, h2, _⟩
  · exact ⟨none, 0, rfl, by omega, by unfold maxLen; omega, Rd.of_own h⟩
  · exact ⟨_, _, rfl, h1, h2, Rd.of_own h⟩
theorem own_addr {w : World} {base : Nat} {e : TypeId} {size n c : Nat} {A : Option Addr} {xs : List Value} (h : w.ownsRow base e size (.slice A n c) n xs) (hn : 0 < n) : ∃ g, A = some ⟨g, 0, none⟩ := by
  obtain ⟨g, cap, hv, _⟩ := h.form hn
  injection hv with h1
  exact ⟨g, h1⟩
/-- Its block, whole. -/
theorem own_row {w : World} {base : Nat} {e : TypeId} {n : Nat} {v : Value} {xs : List Value} (h : w.ownsRow base e 1 v n xs) (hn : 0 < n) : ∃ g c cur, v = .slice (some ⟨g, 0, none⟩) n c ∧ base ≤ g ∧ g < w.heap.size ∧ Row w g e cur ∧ n ≤ c ∧ c ≤ maxLen ∧ cur.size = c ∧ ∀ i, i < n → cur[i]? = xs[i]? := by
  rcases h.2 with ⟨_, h0⟩ | ⟨g, c, cur, hv, hb, hg, h1, h2, h3, h4⟩
  · omega
  · refine ⟨g, c, cur, hv, hb, (Array.getElem?_eq_some_iff.1 hg).1, hg, h1, h2, by omega, fun i hi => ?_⟩
    rw [← h4, List.getElem?_take, if_pos (by omega), Array.getElem?_toList]
end Go.Proofs.Ythbniljkgdkdnaa
