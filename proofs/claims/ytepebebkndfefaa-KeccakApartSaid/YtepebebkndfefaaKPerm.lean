/-
  Layer 3, the program's Round and Permute.
-/
import Derived.Test.YtepebebkndfefaaKRound
namespace Go.Proofs.Ytepebebkndfefaa
open Go.RowKit
set_option linter.unusedVariables false
set_option linter.unusedSimpArgs false

theorem turnsT : Try.prog.underlying 37 = some (.array 25 3) := Try.underlying37
theorem tcells_size : tcells.size = 25 := rfl
theorem tcells_one : tcells.all (·.oneCell') = true := by decide +kernel

/-- The marks of the rounds, as a value. -/
def markL : List Nat := [1, 32898, 9223372036854808714, 9223372039002292224, 32907, 2147483649, 9223372039002292353, 9223372036854808585, 138, 136, 2147516425, 2147483658, 2147516555, 9223372036854775947, 9223372036854808713, 9223372036854808579, 9223372036854808578, 9223372036854775936, 32778, 9223372039002259466, 9223372039002292353, 9223372036854808704, 2147483649, 9223372039002292232]
theorem markL_mark : ∀ k : Nat, k < 24 → mark (k : Int) = BitVec.ofNat 64 (markL.getD k 0) := by decide +kernel
theorem markL_lt : ∀ k : Nat, k < 24 → markL.getD k 0 < 18446744073709551616 := by decide +kernel
def mcells : Array Value := (markL.map fun (n : Nat) => Value.int .u64 (n : Int)).toArray
theorem mcells_get {k : Nat} (h : k < 24) : mcells[k]? = some (wv (mark (k : Int))) := by
  have h1 : k < markL.length := h
  rw [markL_mark k h, wv, nw_nat _ (markL_lt k h)]
  simp [mcells, h1]
theorem mcells_one : mcells.all (·.oneCell') = true := by decide +kernel

set_option maxHeartbeats 1000000 in
theorem kround_any (f : St) (n : Int) (hn : (Lit.int .i64 n).wf = true) (w : World) :
    Calls Try.prog 18 #[.agg (ws 25 f), .int .i64 n] w fun e w' => e = .returned (.agg (ws 25 (rnd f (mark n)))) ∧ Below w.heap.size w w' := by
  go_enter Try.func18, Try.ntmps18
  go_wp2_with fail
  refine (turns_any _).mono ?_
  rintro e w1 ⟨rfl, hb1⟩
  have hb0 : Below w.heap.size w w1 := (((Below.refl _ _).alloc (Nat.le_refl _) _).alloc (by simp) _).trans (hb1.mono (by simp; omega))
  have hs0 : Row w1 w.heap.size 29 (ws 25 f) := ((Row.new w 29 (ws 25 f)).alloc _).below hb1
  have hz0 : Row w1 (w.heap.size + 1) 29 (ws 25 fun _ => 0) := by
    refine Row.below ?_ hb1
    rw [zero25]
    exact Row.made (w.alloc _) _ _ (by simp)
  have hsz1 := hb1.size
  simp only [World.size_alloc] at hsz1
  clear hb1
  have hn0 : Row (w1.alloc (.cells (Array.replicate 25 (.int .i64 0)) 37)) w1.heap.size 37 (Array.replicate 25 (.int .i64 0)) := Row.new _ _ _
  go_wp2_with (first
    | (refine wpList_store_row rfl 37 _ _ rfl w1.heap.size tcells rfl rfl 37 _ hn0 (by kernel_rfl) (by kernel_rfl) (by kernel_rfl) ?_))
  have ht2 := Row.whole hn0 tcells
  have hs2 := Row.farRow (hs0.alloc (.cells (Array.replicate 25 (.int .i64 0)) 37)) (k := w1.heap.size) (by omega) tcells
  have hz2 := Row.farRow (hz0.alloc (.cells (Array.replicate 25 (.int .i64 0)) 37)) (k := w1.heap.size) (by omega) tcells
  have hb2 := below_row (g := w1.heap.size) (hb0.alloc (by omega) (.cells (Array.replicate 25 (.int .i64 0)) 37)) (by omega) tcells
  have hsz2 : ((w1.alloc (.cells (Array.replicate 25 (.int .i64 0)) 37)).setRow w1.heap.size tcells).heap.size = w1.heap.size + 1 := by simp
  change Code.wp _ _ _ _ ((w1.alloc (.cells (Array.replicate 25 (.int .i64 0)) 37)).setRow w1.heap.size tcells)
  generalize ((w1.alloc (.cells (Array.replicate 25 (.int .i64 0)) 37)).setRow w1.heap.size tcells) = w2 at *
  refine wp_region_still_tail 3 (by kernel_rfl) (by kernel_rfl) ?_
  simp only [List.take_succ_cons, List.take_zero, List.drop_succ_cons, List.drop_zero]
  refine wpStill_load_row rfl 29 _ rfl w.heap.size rfl 29 (ws 25 f) _ hs2 lanesT rfl (by rw [ws_size]; exact i5) ?_
  repeat (first | still_step | still_call ((mark_any _ hn _).mono fun _ _ h => ⟨h.1, h.2.symm⟩))
  refine wpStill_nil ?_
  change wpList _ _ _ _ _ w2.drew
  have ht3 : Row w2.drew w1.heap.size 37 tcells := ht2
  have hz3 : Row w2.drew (w.heap.size + 1) 29 (ws 25 fun _ => 0) := hz2
  have hb3 : Below w.heap.size w w2.drew := hb2.drew
  have hsz3 : w2.drew.heap.size = w1.heap.size + 1 := hsz2
  generalize w2.drew = w3 at *
  clear ht2 hs2 hz2 hb2 hsz2 hn0 hs0 hz0 hb0
  go_wp2_with fail
  refine (round_any f _ _ _ ht3).mono ?_
  rintro e w4 ⟨rfl, hb4⟩
  have hz4 := hz3.belowB hb4 (by omega)
  go_wp2_with (first
    | (refine wpList_store_row rfl 29 _ _ rfl (w.heap.size + 1) (ws 25 (rnd f (mark n))) rfl rfl 29 _ hz4 (by rw [ws_size]; exact i5) (by rw [ws_size, ws_size]) (ws_one _ _) ?_))
  refine bodyPost_row (t := 29) (g := w.heap.size + 1) Try.results18 (by kernel_rfl) (Row.whole hz4 _) lanesT (by rw [ws_size]; exact i5) rfl ⟨rfl, ?_⟩
  exact below_row (hb3.trans (hb4.mono (by omega))) (by omega) _

set_option maxHeartbeats 2000000 in
theorem kperm_any (f : St) (w : World) :
    Calls Try.prog 16 #[.agg (ws 25 f)] w fun e w' => e = .returned (.agg (ws 25 (perm f 24))) ∧ Below w.heap.size w w' := by
  have hm0 : Row (((w.alloc (.cells (ws 25 f) 29)).alloc (.cells (ws 25 fun _ => 0) 29)).alloc (.cells (ws 24 fun _ => 0) 42)) (w.heap.size + 1 + 1) 42 (ws 24 fun _ => 0) := Row.made _ _ _ (by simp)
  go_enter Try.func16, Try.ntmps16
  go_wp2_with (first
    | (refine wpList_built rfl 42 _ rfl mcells (by kernel_rfl) ?_)
    | (refine wpList_store_row rfl 42 _ _ rfl (w.heap.size + 1 + 1) mcells rfl rfl 42 _ hm0 (by kernel_rfl) (by kernel_rfl) mcells_one ?_))
  refine (turns_any _).mono ?_
  rintro e w1 ⟨rfl, hb1⟩
  have hA := (((Row.new w 29 (ws 25 f)).alloc (.cells (ws 25 fun _ => 0) 29)).alloc (.cells (ws 24 fun _ => 0) 42)).farRow (k := w.heap.size + 1 + 1) (by omega) mcells
  have hB := ((Row.made (g' := w.heap.size + 1) (w.alloc (.cells (ws 25 f) 29)) 29 (ws 25 fun _ => 0) (by simp)).alloc (.cells (ws 24 fun _ => 0) 42)).farRow (k := w.heap.size + 1 + 1) (by omega) mcells
  have hC := hm0.whole mcells
  have hD : Below w.heap.size w _ := below_row (g := w.heap.size + 1 + 1) ((((Below.refl w.heap.size w).alloc (Nat.le_refl _) (.cells (ws 25 f) 29)).alloc (by simp) (.cells (ws 25 fun _ => 0) 29)).alloc (by simp; omega) (.cells (ws 24 fun _ => 0) 42)) (by omega) mcells
  replace hb1 : Below _ _ w1 := hb1
  have hs0 := Row.below hA hb1
  have hz0 := Row.below hB hb1
  have hm1 := Row.below hC hb1
  have hb0 := hD.trans (hb1.mono (by simp; omega))
  have hsz1 := hb1.size
  simp only [World.size_alloc, setRow_size] at hsz1
  clear hb1 hA hB hC hD hm0
  have hn0 : Row (w1.alloc (.cells (Array.replicate 25 (.int .i64 0)) 37)) w1.heap.size 37 (Array.replicate 25 (.int .i64 0)) := Row.new _ _ _
  have hm2 := Row.farRow (hm1.alloc (.cells (Array.replicate 25 (.int .i64 0)) 37)) (k := w1.heap.size) (by omega) tcells
  go_wp2_with (first
    | (refine wpList_store_row rfl 37 _ _ rfl w1.heap.size tcells rfl rfl 37 _ hn0 (by kernel_rfl) (by kernel_rfl) (by kernel_rfl) ?_)
    | (refine wpList_load_row rfl 42 _ rfl (w.heap.size + 1 + 1) rfl 42 mcells (0, 0) _ hm2 Try.underlying42 rfl (by kernel_rfl) ?_))
  have ht2 := Row.whole hn0 tcells
  have hs2 := Row.farRow (hs0.alloc (.cells (Array.replicate 25 (.int .i64 0)) 37)) (k := w1.heap.size) (by omega) tcells
  have hz2 := Row.farRow (hz0.alloc (.cells (Array.replicate 25 (.int .i64 0)) 37)) (k := w1.heap.size) (by omega) tcells
  have hb2 := below_row (g := w1.heap.size) (hb0.alloc (by omega) (.cells (Array.replicate 25 (.int .i64 0)) 37)) (by omega) tcells
  clear hm2 hn0 hm1 hb0 hs0 hz0
  go_loopw [10] (fun v wr => ∃ k : Nat, v = .int .i64 k ∧ k ≤ 24 ∧ Row wr w.heap.size 29 (ws 25 (perm f k)) ∧ Row wr (w.heap.size + 1) 29 (ws 25 fun _ => 0) ∧ Row wr w1.heap.size 37 tcells ∧ Below w.heap.size w wr) (fun v _ => 24 - (intOf v).toNat)
  case atStart => exact ⟨0, rfl, by omega, hs2, hz2, ht2, hb2⟩
  case round =>
    clear hs2 hz2 ht2 hb2
    obtain ⟨k, rfl, hk, hs, hz, ht, hb⟩ := hrel
    have hsz := hb.size
    have htl := ht.lt
    by_cases hlt : k < 24
    · have hi := fun w => run_index_any (P := Try.prog) (T := 42) Try.underlying42 Try.underlying25 iu w (cs := mcells) (i := k) hlt (mcells_get hlt)
      go_wp2_with (first
        | (refine wpList_load_row rfl 29 _ rfl w.heap.size rfl 29 (ws 25 (perm f k)) (0, 0) _ hs lanesT rfl (by rw [ws_size]; exact i5) ?_))
      refine (round_any _ _ _ _ ht).mono ?_
      rintro e w2 ⟨rfl, hb2⟩
      have hs2 := hs.below hb2
      go_wp2_with (first
        | (refine wpList_store_row rfl 29 _ _ rfl w.heap.size (ws 25 (rnd (perm f k) (mark k))) rfl rfl 29 _ hs2 (by rw [ws_size]; exact i5) (by rw [ws_size, ws_size]) (ws_one _ _) ?_))
      go_roundw
      case rel =>
        refine ⟨k + 1, by go_num, by omega, hs2.whole _, (hz.below hb2).farRow (by omega) _, (ht.below hb2).farRow (by omega) _, below_row (hb.trans (hb2.mono hsz)) (Nat.le_refl _) _⟩
      case measure => simp [intOf]; omega
    · have hk24 : k = 24 := by omega
      rw [hk24] at hs
      clear hk24
      go_wp2_with (first
        | (refine wpList_load_row rfl 29 _ rfl w.heap.size rfl 29 (ws 25 (perm f 24)) (0, 0) _ hs lanesT rfl (by rw [ws_size]; exact i5) ?_)
        | (refine wpList_store_row rfl 29 _ _ rfl (w.heap.size + 1) (ws 25 (perm f 24)) rfl rfl 29 _ hz (by rw [ws_size]; exact i5) (by rw [ws_size, ws_size]) (ws_one _ _) ?_))
      refine bodyPost_row (t := 29) (g := w.heap.size + 1) Try.results16 (by kernel_rfl) (Row.whole hz _) lanesT (by rw [ws_size]; exact i5) rfl ⟨rfl, ?_⟩
      exact below_row hb (by omega) _
end Go.Proofs.Ytepebebkndfefaa
