/-
  What stands at the head of the laws of layer 4: the document's examples; the first bytes.
-/
import Derived.Test.YtjpidkamgkpehaaSSum
import Derived.Test.YtjpidkamgkpehaaSZero
import Derived.Test.YtjpidkamgkpehaaStr
namespace Go.Proofs.Ytjpidkamgkpehaa
open Go.RowKit
set_option linter.unusedVariables false
set_option linter.unusedSimpArgs false

/-- The first cells of a fingerprint, as bytes. -/
theorem bsr_bytes {w : World} {g : Nat} {t : TypeId} {F : St} (h : Row w g t (bsr F 32)) (bs : List UInt8) (hb : ∀ i, i < 32 → i < bs.length → dg F i = (bs.getD i 0).toNat) (hl : bs.length ≤ 32) : Bs w (some ⟨g, 0, none⟩) bs := by
  refine .inr ⟨_, rfl, fun j u hu => ?_⟩
  have hj : j < bs.length := by simpa using (List.getElem?_eq_some_iff.1 hu).1
  rw [add_at, Nat.zero_add, h.cell, bsr_get F 32 (by omega), if_pos (by omega), hb j (by omega) hj, ← hu]
  simp [List.getD, hj]

theorem dgl_get {F : St} {L : List Int} (h : dgl F = L) {i : Nat} (hi : i < 32) : (dg F i : Int) = L.getD i 0 := by
  rw [← h]
  simp [dgl, List.getD, hi]
set_option maxHeartbeats 2000000 in
theorem shown_any (w : World) :
    Calls Try.prog 8 #[] w fun e w' => e = .returned (.bool true) ∧ Below w.heap.size w w' := by
  have kc := fun (w : World) (C : Array Value) (n c : Nat) => Lib.run_convert_bytes_const (P := Try.prog) w 22 5 C n c Try.underlying22 Try.underlying5
  obtain ⟨F, hF⟩ : ∃ F, fin (feed st0 []) = F := ⟨_, rfl⟩
  obtain ⟨G, hG⟩ : ∃ G, fin (feed st0 [97, 98, 99]) = G := ⟨_, rfl⟩
  have kA : ∀ w, Calls Try.prog 9 #[.slice none 0 0] w fun e w' => e = .returned (.agg (bsr F 32)) ∧ Below w.heap.size w w' := fun w => by
    have h := sum_any none 0 [] w (by simp) Rd.nil (fun p h => by cases h)
    rw [show sumOf (whole []) = dgl F by rw [← hF]; rfl, ← bsr_all] at h
    exact h
  have kB : ∀ w : World, Calls Try.prog 9 #[.slice (some ⟨w.heap.size + 1, 0, none⟩) 1 1] ((w.alloc (.cells #[.int .u8 97, .int .u8 98, .int .u8 99] 5 (3, 4))).alloc (.cells #[.slice (some ⟨w.heap.size, 0, none⟩) 3 3] 22)) fun e w' => e = .returned (.agg (bsr G 32)) ∧ Below ((w.alloc (.cells #[.int .u8 97, .int .u8 98, .int .u8 99] 5 (3, 4))).alloc (.cells #[.slice (some ⟨w.heap.size, 0, none⟩) 3 3] 22)).heap.size ((w.alloc (.cells #[.int .u8 97, .int .u8 98, .int .u8 99] 5 (3, 4))).alloc (.cells #[.slice (some ⟨w.heap.size, 0, none⟩) 3 3] 22)) w' := fun w => by
    have hrow : Row ((w.alloc (.cells #[.int .u8 97, .int .u8 98, .int .u8 99] 5 (3, 4))).alloc (.cells #[.slice (some ⟨w.heap.size, 0, none⟩) 3 3] 22)) (w.heap.size + 1) 22 #[.slice (some ⟨w.heap.size, 0, none⟩) 3 3] := Row.made _ _ _ (by simp)
    have h := sum_any (some ⟨w.heap.size + 1, 0, none⟩) 1 [⟨some ⟨w.heap.size, 0, none⟩, 3, [97, 98, 99]⟩] _ (by simp) hrow.rd (fun p hp => by
      rw [List.mem_singleton] at hp
      subst hp
      exact ⟨(Bs.new w #[.int .u8 97, .int .u8 98, .int .u8 99] 5 (3, 4) [97, 98, 99] rfl).alloc _, by simp⟩)
    rw [show sumOf (whole [⟨some ⟨w.heap.size, 0, none⟩, 3, [97, 98, 99]⟩]) = dgl G by rw [← hG]; rfl, ← bsr_all] at h
    exact h
  have dA : ∀ i, i < 32 → i < 4 → dg F i = (([167, 255, 198, 248] : List UInt8).getD i 0).toNat := fun i hi h4 => by
    have h := dgl_get (sum_a : dgl (fin (feed st0 [])) = _) hi
    rw [hF] at h
    revert h
    have e : i = 0 ∨ i = 1 ∨ i = 2 ∨ i = 3 := by omega
    rcases e with rfl | rfl | rfl | rfl <;> (intro h; simp at h; simp; omega)
  have dB : ∀ i, i < 32 → i < 4 → dg G i = (([58, 152, 93, 167] : List UInt8).getD i 0).toNat := fun i hi h4 => by
    have h := dgl_get (sum_b : dgl (fin (feed st0 [97, 98, 99])) = _) hi
    rw [hG] at h
    revert h
    have e : i = 0 ∨ i = 1 ∨ i = 2 ∨ i = 3 := by omega
    rcases e with rfl | rfl | rfl | rfl <;> (intro h; simp at h; simp; omega)
  clear hF hG
  replace dA := Lib.hid dA
  replace dB := Lib.hid dB
  replace kA := Lib.hid kA
  replace kB := Lib.hid kB
  go_enter Try.func8, Try.ntmps8
  go_wp2_with fail
  refine (kA.out _).mono ?_
  rintro e w1 ⟨rfl, hb1⟩
  go_wp2_with fail
  refine (kB.out w1).mono ?_
  rintro e w2 ⟨rfl, hb2⟩
  have hb3 := ((hb1.alloc hb1.size (.cells #[.int .u8 97, .int .u8 98, .int .u8 99] 5 (3, 4))).alloc (by have := hb1.size; simp; omega) (.cells #[.slice (some ⟨w1.heap.size, 0, none⟩) 3 3] 22)).trans (hb2.mono (by have := hb1.size; simp; omega))
  clear hb1 hb2
  have r1 := (Row.new w2 25 (bsr F 0)).alloc (.cells (bsr F 0) 25)
  have r2 : Row ((w2.alloc (.cells (bsr F 0) 25)).alloc (.cells (bsr F 0) 25)) (w2.heap.size + 1) 25 (bsr F 0) := Row.made _ _ _ (by simp)
  have r3 := r2.farRow (k := w2.heap.size) (by omega) (bsr F 32)
  have r4 := (r1.whole (bsr F 32)).farRow (k := w2.heap.size + 1) (by omega) (bsr G 32)
  have r5 := r3.whole (bsr G 32)
  have v1 := run_bytes_string (P := Try.prog) (src := 22) (dst := 9) (e := 5) Try.underlying22 Try.underlying5 Try.underlying9 _ _ 4 32 _ rfl (bsr_bytes r4 [167, 255, 198, 248] dA.out (by simp))
  have v2 := run_bytes_string (P := Try.prog) (src := 22) (dst := 9) (e := 5) Try.underlying22 Try.underlying5 Try.underlying9 _ _ 4 32 _ rfl (bsr_bytes r5 [58, 152, 93, 167] dB.out (by simp))
  have hb4 := below_row (g := w2.heap.size + 1) (below_row (g := w2.heap.size) ((hb3.alloc hb3.size (.cells (bsr F 0) 25)).alloc (by have := hb3.size; simp; omega) (.cells (bsr F 0) 25)) hb3.size (bsr F 32)) (by have := hb3.size; omega) (bsr G 32)
  rw [bsr_zero] at r1 r3 v1 v2 hb4
  rw [← bsr_zero F] at r1 r3
  clear r2 r4 r5 hb3
  have s1 : ((strB [167, 255, 198, 248]).toList == ([167, 255, 198, 248] : List UInt8)) = true := by decide +kernel
  have s2 : ((strB [58, 152, 93, 167]).toList == ([58, 152, 93, 167] : List UInt8)) = true := by decide +kernel
  go_wp2_with (first
    | (refine wpList_store_row rfl 25 _ _ rfl w2.heap.size (bsr F 32) rfl rfl 25 _ r1 (by rw [bsr_size]; exact i32) (by rw [bsr_size, bsr_size]) (bsr_one _ _) ?_)
    | (refine wpList_store_row rfl 25 _ _ rfl (w2.heap.size + 1) (bsr G 32) rfl rfl 25 _ r3 (by rw [bsr_size]; exact i32) (by rw [bsr_size, bsr_size]) (bsr_one _ _) ?_))
  go_ret
  exact ⟨rfl, hb4⟩

set_option maxHeartbeats 400000 in
theorem few_any (A : Option Addr) (len cap : Nat) (w : World) (hc : len ≤ cap) (hm : cap ≤ maxLen) :
    Calls Try.prog 10 #[.slice A len cap] w fun e w' => e = .returned (.slice A (min len 20000) cap) ∧ w = w' := by
  unfold maxLen at hm
  have r1 := fun w => run_slice_hi (P := Try.prog) (T := 22) (E := 5) Try.underlying22 (by kernel_rfl) w A len cap (min len 20000) (by omega)
  have hmin : ((min len 20000 : Nat) : Int) = min (len : Int) 20000 := by omega
  rw [hmin] at r1
  go_enter Try.func10, Try.ntmps10
  go_wp2
  go_ret
  exact ⟨rfl, rfl⟩
end Go.Proofs.Ytjpidkamgkpehaa
