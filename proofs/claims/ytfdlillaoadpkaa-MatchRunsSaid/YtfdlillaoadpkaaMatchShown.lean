/-
  What stands at the head of the laws of layer 5: the document's examples; the first bytes.
-/
import Derived.Test.YtfdlillaoadpkaaMatchImpl
namespace Go.Proofs.Ytfdlillaoadpkaa
open Go.RowKit
set_option linter.unusedVariables false
set_option linter.unusedSimpArgs false

set_option maxHeartbeats 1000000 in
theorem shown_any (w : World) :
    Calls Try.prog 10 #[] w fun e w' => e = .returned (.bool true) ∧ Below w.heap.size w w' := by
  have kc := fun (w : World) (C : Array Value) (n c : Nat) => Lib.run_convert_bytes_const (P := Try.prog) w 22 5 C n c Try.underlying22 Try.underlying5
  have e1 := Lib.hid (show best [97, 98, 99, 97, 98, 99, 97, 98] 3 = (3, 5) by decide +kernel)
  have e2 := Lib.hid (show best [97, 98, 99, 97, 98, 99, 97, 98] 1 = (0, 0) by decide +kernel)
  have e3 := Lib.hid (show best [97, 97, 97, 97, 97] 1 = (1, 4) by decide +kernel)
  go_enter Try.func10, Try.ntmps10
  go_wp2_with fail
  refine (longest_in _ _ 3 [97, 98, 99, 97, 98, 99, 97, 98] _ (by simp) (by unfold maxLen; simp) (Bs.new _ _ _ _ _ rfl) (by simp)).mono ?_
  rintro e w1 ⟨rfl, hb1⟩
  rw [e1.out]
  clear e1
  go_wp2_with fail
  refine (longest_in _ _ 1 [97, 98, 99, 97, 98, 99, 97, 98] _ (by simp) (by unfold maxLen; simp) (Bs.new _ _ _ _ _ rfl) (by simp)).mono ?_
  rintro e w2 ⟨rfl, hb2⟩
  rw [e2.out]
  clear e2
  go_wp2_with fail
  refine (longest_in _ _ 1 [97, 97, 97, 97, 97] _ (by simp) (by unfold maxLen; simp) (Bs.new _ _ _ _ _ rfl) (by simp)).mono ?_
  rintro e w3 ⟨rfl, hb3⟩
  rw [e3.out]
  clear e3
  go_wp2
  go_ret
  have s1 := hb1.size
  have s2 := hb2.size
  simp only [World.size_alloc] at s1 s2
  refine ⟨rfl, ?_⟩
  exact ((((((Below.refl _ _).alloc (Nat.le_refl _) _).trans (hb1.mono (by simp))).alloc (by omega) _).trans (hb2.mono (by simp; omega))).alloc (by omega) _).trans (hb3.mono (by simp; omega))

set_option maxHeartbeats 400000 in
theorem few_any (A : Option Addr) (len cap : Nat) (w : World) (hc : len ≤ cap) (hm : cap ≤ maxLen) :
    Calls Try.prog 12 #[.slice A len cap] w fun e w' => e = .returned (.slice A (min len 1000) cap) ∧ w = w' := by
  unfold maxLen at hm
  have r1 := fun w => run_slice_hi (P := Try.prog) (T := 22) (E := 5) Try.underlying22 (by kernel_rfl) w A len cap (min len 1000) (by omega)
  have hmin : ((min len 1000 : Nat) : Int) = min (len : Int) 1000 := by omega
  rw [hmin] at r1
  go_enter Try.func12, Try.ntmps12
  go_wp2
  go_ret
  exact ⟨rfl, rfl⟩
end Go.Proofs.Ytfdlillaoadpkaa
