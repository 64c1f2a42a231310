/-
  What stands at the head of the laws of layer 6: the document's examples; the first bytes.
-/
import Derived.Test.YthbniljkgdkdnaaLzRd
namespace Go.Proofs.Ythbniljkgdkdnaa
open Go.RowKit
set_option linter.unusedVariables false
set_option linter.unusedSimpArgs false

theorem ex1 : packB [97, 97, 97, 97, 97, 97, 97, 97] = [1, 0, 97, 132, 0] := by decide +kernel
theorem ex2 : unpB [1, 0, 97, 132, 0] 8 = ([97, 97, 97, 97, 97, 97, 97, 97], 0) := by decide +kernel
theorem ex3 : unpB [1, 0, 97, 132, 0] 7 = ([], 4) := by decide +kernel
theorem ex4 : unpB [1, 128, 0] 99 = ([], 60) := by decide +kernel
theorem ex5 : packB [] = [0] := by decide +kernel

set_option maxHeartbeats 2000000 in
theorem shown_any (w : World) :
    Calls Try.prog 9 #[] w fun e w' => e = .returned (.bool true) ∧ Below w.heap.size w w' := by
  have kc := fun (w : World) (C : Array Value) (n c : Nat) => Lib.run_convert_bytes_const (P := Try.prog) w 22 5 C n c Try.underlying22 Try.underlying5
  have p1 := fun (w : World) h => pack_rd (some ⟨w.heap.size, 0, none⟩) 8 8 [97, 97, 97, 97, 97, 97, 97, 97] (w.alloc (.cells #[.int .u8 97, .int .u8 97, .int .u8 97, .int .u8 97, .int .u8 97, .int .u8 97, .int .u8 97, .int .u8 97] 5 (8, 9))) rfl (by omega) (by unfold maxLen; omega) h (by omega)
  have u1 := fun (w : World) h => unpack_rd (some ⟨w.heap.size, 0, none⟩) 5 5 [1, 0, 97, 132, 0] 8 (w.alloc (.cells #[.int .u8 1, .int .u8 0, .int .u8 97, .int .u8 132, .int .u8 0] 5)) rfl (by omega) (by unfold maxLen; omega) h (by omega) (by omega) (by omega)
  have u2 := fun (w : World) h => unpack_rd (some ⟨w.heap.size, 0, none⟩) 5 5 [1, 0, 97, 132, 0] 7 (w.alloc (.cells #[.int .u8 1, .int .u8 0, .int .u8 97, .int .u8 132, .int .u8 0] 5)) rfl (by omega) (by unfold maxLen; omega) h (by omega) (by omega) (by omega)
  have u3 := fun (w : World) h => unpack_rd (some ⟨w.heap.size, 0, none⟩) 3 3 [1, 128, 0] 99 (w.alloc (.cells #[.int .u8 1, .int .u8 128, .int .u8 0] 5)) rfl (by omega) (by unfold maxLen; omega) h (by omega) (by omega) (by omega)
  have p2 := fun w => pack_rd none 0 0 [] w rfl (by omega) (by unfold maxLen; omega) Bs.nil (by omega)
  rw [ex1] at p1
  rw [ex2] at u1
  rw [ex3] at u2
  rw [ex4] at u3
  rw [ex5] at p2
  replace p1 := Lib.hid p1
  replace u1 := Lib.hid u1
  replace u2 := Lib.hid u2
  replace u3 := Lib.hid u3
  replace p2 := Lib.hid p2
  have s1 : ((strB [0]).toList == ([0] : List UInt8)) = true := by decide +kernel
  have s2 : ((strB [1, 0, 97, 132, 0]).toList == ([1, 0, 97, 132, 0] : List UInt8)) = true := by decide +kernel
  have s3 : ((strB [97, 97, 97, 97, 97, 97, 97, 97]).toList == ([97, 97, 97, 97, 97, 97, 97, 97] : List UInt8)) = true := by decide +kernel
  go_enter Try.func9, Try.ntmps9
  go_wp2_with fail
  refine (p1.out _ (Bs.new _ _ _ _ _ rfl)).mono ?_
  rintro e w1 ⟨A1, c1, rfl, _, _, hA, hb1⟩
  have hb2 := ((Below.refl w.heap.size w).alloc (Nat.le_refl _) _).trans (hb1.mono (by simp))
  clear hb1
  go_wp2_with fail
  refine (u1.out _ (Bs.new _ _ _ _ _ rfl)).mono ?_
  rintro e w2 ⟨A2, c2, rfl, _, _, hB, hb3⟩
  have hA2 := (Bs.alloc hA _).below hb3
  have hb4 := (hb2.alloc hb2.size _).trans (hb3.mono (by have := hb2.size; simp; omega))
  clear hb2 hb3 hA
  go_wp2_with fail
  refine (u2.out _ (Bs.new _ _ _ _ _ rfl)).mono ?_
  rintro e w3 ⟨A3, c3, rfl, _, _, _, hb5⟩
  have hA3 := (Bs.alloc hA2 _).below hb5
  have hB3 := (Bs.alloc hB _).below hb5
  have hb6 := (hb4.alloc hb4.size _).trans (hb5.mono (by have := hb4.size; simp; omega))
  clear hb4 hb5 hA2 hB
  go_wp2_with fail
  refine (u3.out _ (Bs.new _ _ _ _ _ rfl)).mono ?_
  rintro e w4 ⟨A4, c4, rfl, _, _, _, hb7⟩
  have hA4 := (Bs.alloc hA3 _).below hb7
  have hB4 := (Bs.alloc hB3 _).below hb7
  have hb8 := (hb6.alloc hb6.size _).trans (hb7.mono (by have := hb6.size; simp; omega))
  clear hb6 hb7 hA3 hB3
  go_wp2_with fail
  refine (p2.out _).mono ?_
  rintro e w5 ⟨A5, c5, rfl, _, _, hC, hb9⟩
  have v1 := run_str w5 A5 1 c5 [0] rfl hC
  have v2 := run_str w5 A1 5 c1 [1, 0, 97, 132, 0] rfl (hA4.below hb9)
  have v3 := run_str w5 A2 8 c2 [97, 97, 97, 97, 97, 97, 97, 97] rfl (hB4.below hb9)
  have hb10 := hb8.trans (hb9.mono hb8.size)
  clear hb8 hb9 hA4 hB4 hC
  go_wp2
  go_ret
  exact ⟨rfl, hb10⟩

set_option maxHeartbeats 400000 in
theorem few_any (A : Option Addr) (len cap : Nat) (w : World) (hc : len ≤ cap) (hm : cap ≤ maxLen) :
    Calls Try.prog 11 #[.slice A len cap] w fun e w' => e = .returned (.slice A (min len 700) cap) ∧ w = w' := by
  unfold maxLen at hm
  have r1 := fun w => run_slice_hi (P := Try.prog) (T := 22) (E := 5) Try.underlying22 (by kernel_rfl) w A len cap (min len 700) (by omega)
  have hmin : ((min len 700 : Nat) : Int) = min (len : Int) 700 := by omega
  rw [hmin] at r1
  go_enter Try.func11, Try.ntmps11
  go_wp2
  go_ret
  exact ⟨rfl, rfl⟩
end Go.Proofs.Ythbniljkgdkdnaa
