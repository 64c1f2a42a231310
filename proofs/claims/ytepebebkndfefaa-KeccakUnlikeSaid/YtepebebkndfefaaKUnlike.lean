/-
  Layer 3: the turns of all places are unlike.
-/
import Derived.Test.YtepebebkndfefaaKImpl
namespace Go.Proofs.Ytepebebkndfefaa
open Go.RowKit
set_option linter.unusedVariables false
theorem tn_inj : ∀ i, i < 25 → ∀ k, k < 25 → (tn i = tn k ↔ i = k) := by decide +kernel
theorem turn_place (i : Nat) (hi : i < 25) (w : World) :
    Calls Try.prog 12 #[.int .i64 ((i : Int) % 5), .int .i64 ((i : Int) / 5)] w fun e w' => e = .returned (.int .i64 (tn i)) ∧ Below w.heap.size w w' := by
  have hw : ∀ n : Int, 0 ≤ n → n < 25 → (Lit.int .i64 n).wf = true := fun n h1 h2 => by
    have e1 : IntKind.i64.min = -9223372036854775808 := by rfl
    have e2 : IntKind.i64.max = 9223372036854775807 := by rfl
    simp [Lit.wf, e1, e2]; omega
  have h := turn_any ((i : Int) % 5) ((i : Int) / 5) (hw _ (by omega) (by omega)) (hw _ (by omega) (by omega)) w
  have e : fv ((i : Int) % 5) + 5 * fv ((i : Int) / 5) = i := by unfold fv; omega
  rwa [e] at h
end Go.Proofs.Ytepebebkndfefaa
