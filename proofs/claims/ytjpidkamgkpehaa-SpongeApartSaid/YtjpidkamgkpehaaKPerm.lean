/-
  Layer 3, the program's Round and Permute.
-/
import Derived.Test.YtjpidkamgkpehaaKRound
namespace Go.Proofs.Ytjpidkamgkpehaa
open Go.RowKit
set_option linter.unusedVariables false
set_option linter.unusedSimpArgs false

theorem turnsT : Try.prog.underlying 48 = some (.array 25 3) := Try.underlying48
theorem tcells_size : tcells.size = 25 := rfl
theorem tcells_one : tcells.all (·.oneCell') = true := by decide +kernel

/-- The marks of the rounds, as a value. -/
def markL : List Nat := [1, 32898, 9223372036854808714, 9223372039002292224, 32907, 2147483649, 9223372039002292353, 9223372036854808585, 138, 136, 2147516425, 2147483658, 2147516555, 9223372036854775947, 9223372036854808713, 9223372036854808579, 9223372036854808578, 9223372036854775936, 32778, 9223372039002259466, 9223372039002292353, 9223372036854808704, 2147483649, 9223372039002292232]
theorem markL_mark : ∀ k : Nat, k < 24 → mark (k : Int) = BitVec.ofNat 64 (markL.getD k 0) := by decide +kernel
theorem markL_lt : ∀ k : Nat, k < 24 → markL.getD k 0 < 18446744073709551616 := by decide +kernel
def mcells : Array Value := (markL.map fun (n : Nat) => Value.int .u64 (n : Int)).toArray
theorem mcells_get {k : Nat} (h : k < 24) : mcells[k]? = some (wv (mark (k : Int))) := by
  have h1 : k < markL.length := h
  rw [markL_mark k h, wv, nw_nat _ (markL_lt k h)]
  simp [mcells, h1]
theorem mcells_one : mcells.all (·.oneCell') = true := by decide +kernel

set_option maxHeartbeats 2000000 in
theorem kperm_any (f : St) (w : World) :
    Calls Try.prog 17 #[.agg (ws 25 f)] w fun e w' => e = .returned (.agg (ws 25 (perm f 24))) ∧ Below w.heap.size w w' := by
  have hm0 : Row (((w.alloc (.cells (ws 25 f) 41)).alloc (.cells (ws 25 fun _ => 0) 41)).alloc (.cells (ws 24 fun _ => 0) 47)) (w.heap.size + 1 + 1) 47 (ws 24 fun _ => 0) := Row.made _ _ _ (by simp)
  go_enter Try.func17, Try.ntmps17
  go_wp2_with (first
    | (refine wpList_built rfl 47 _ rfl mcells (by kernel_rfl) ?_)
    | (refine wpList_store_row rfl 47 _ _ rfl (w.heap.size + 1 + 1) mcells rfl rfl 47 _ hm0 (by kernel_rfl) (by kernel_rfl) mcells_one ?_))
  refine (turns_any _).mono ?_
  rintro e w1 ⟨rfl, hb1⟩
  have hA := (((Row.new w 41 (ws 25 f)).alloc (.cells (ws 25 fun _ => 0) 41)).alloc (.cells (ws 24 fun _ => 0) 47)).farRow (k := w.heap.size + 1 + 1) (by omega) mcells
  have hB := ((Row.made (g' := w.heap.size + 1) (w.alloc (.cells (ws 25 f) 41)) 41 (ws 25 fun _ => 0) (by simp)).alloc (.cells (ws 24 fun _ => 0) 47)).farRow (k := w.heap.size + 1 + 1) (by omega) mcells
  have hC := hm0.whole mcells
  have hD : Below w.heap.size w _ := below_row (g := w.heap.size + 1 + 1) ((((Below.refl w.heap.size w).alloc (Nat.le_refl _) (.cells (ws 25 f) 41)).alloc (by simp) (.cells (ws 25 fun _ => 0) 41)).alloc (by simp; omega) (.cells (ws 24 fun _ => 0) 47)) (by omega) mcells
  replace hb1 : Below _ _ w1 := hb1
  have hs0 := Row.below hA hb1
  have hz0 := Row.below hB hb1
  have hm1 := Row.below hC hb1
  have hb0 := hD.trans (hb1.mono (by simp; omega))
  have hsz1 := hb1.size
  simp only [World.size_alloc, setRow_size] at hsz1
  clear hb1 hA hB hC hD hm0
  have hn0 : Row (w1.alloc (.cells (Array.replicate 25 (.int .i64 0)) 48)) w1.heap.size 48 (Array.replicate 25 (.int .i64 0)) := Row.new _ _ _
  have hm2 := Row.farRow (hm1.alloc (.cells (Array.replicate 25 (.int .i64 0)) 48)) (k := w1.heap.size) (by omega) tcells
  go_wp2_with (first
    | (refine wpList_store_row rfl 48 _ _ rfl w1.heap.size tcells rfl rfl 48 _ hn0 (by kernel_rfl) (by kernel_rfl) (by kernel_rfl) ?_)
    | (refine wpList_load_row rfl 47 _ rfl (w.heap.size + 1 + 1) rfl 47 mcells (0, 0) _ hm2 Try.underlying47 rfl (by kernel_rfl) ?_))
  have ht2 := Row.whole hn0 tcells
  have hs2 := Row.farRow (hs0.alloc (.cells (Array.replicate 25 (.int .i64 0)) 48)) (k := w1.heap.size) (by omega) tcells
  have hz2 := Row.farRow (hz0.alloc (.cells (Array.replicate 25 (.int .i64 0)) 48)) (k := w1.heap.size) (by omega) tcells
  have hb2 := below_row (g := w1.heap.size) (hb0.alloc (by omega) (.cells (Array.replicate 25 (.int .i64 0)) 48)) (by omega) tcells
  clear hm2 hn0 hm1 hb0 hs0 hz0
  go_loopw [10] (fun v wr => ∃ k : Nat, v = .int .i64 k ∧ k ≤ 24 ∧ Row wr w.heap.size 41 (ws 25 (perm f k)) ∧ Row wr (w.heap.size + 1) 41 (ws 25 fun _ => 0) ∧ Row wr w1.heap.size 48 tcells ∧ Below w.heap.size w wr) (fun v _ => 24 - (intOf v).toNat)
  case atStart => exact ⟨0, rfl, by omega, hs2, hz2, ht2, hb2⟩
  case round =>
    clear hs2 hz2 ht2 hb2
    obtain ⟨k, rfl, hk, hs, hz, ht, hb⟩ := hrel
    have hsz := hb.size
    have htl := ht.lt
    by_cases hlt : k < 24
    · have hi := fun w => run_index_any (P := Try.prog) (T := 47) Try.underlying47 Try.underlying39 iu w (cs := mcells) (i := k) hlt (mcells_get hlt)
      go_wp2_with (first
        | (refine wpList_load_row rfl 41 _ rfl w.heap.size rfl 41 (ws 25 (perm f k)) (0, 0) _ hs lanesT rfl (by rw [ws_size]; exact i5) ?_))
      refine (round_any _ _ _ _ ht).mono ?_
      rintro e w2 ⟨rfl, hb2⟩
      have hs2 := hs.below hb2
      go_wp2_with (first
        | (refine wpList_store_row rfl 41 _ _ rfl w.heap.size (ws 25 (rnd (perm f k) (mark k))) rfl rfl 41 _ hs2 (by rw [ws_size]; exact i5) (by rw [ws_size, ws_size]) (ws_one _ _) ?_))
      go_roundw
      case rel =>
        refine ⟨k + 1, by go_num, by omega, hs2.whole _, (hz.below hb2).farRow (by omega) _, (ht.below hb2).farRow (by omega) _, below_row (hb.trans (hb2.mono hsz)) (Nat.le_refl _) _⟩
      case measure => simp [intOf]; omega
    · have hk24 : k = 24 := by omega
      rw [hk24] at hs
      clear hk24
      go_wp2_with (first
        | (refine wpList_load_row rfl 41 _ rfl w.heap.size rfl 41 (ws 25 (perm f 24)) (0, 0) _ hs lanesT rfl (by rw [ws_size]; exact i5) ?_)
        | (refine wpList_store_row rfl 41 _ _ rfl (w.heap.size + 1) (ws 25 (perm f 24)) rfl rfl 41 _ hz (by rw [ws_size]; exact i5) (by rw [ws_size, ws_size]) (ws_one _ _) ?_))
      refine bodyPost_row (t := 41) (g := w.heap.size + 1) Try.results17 (by kernel_rfl) (Row.whole hz _) lanesT (by rw [ws_size]; exact i5) rfl ⟨rfl, ?_⟩
      exact below_row hb (by omega) _
end Go.Proofs.Ytjpidkamgkpehaa
