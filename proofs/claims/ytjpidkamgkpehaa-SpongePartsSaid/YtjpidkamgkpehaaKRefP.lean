/-
  Layer 3, the document's Permute.
-/
import Derived.Test.YtjpidkamgkpehaaKRefC
namespace Go.Proofs.Ytjpidkamgkpehaa
open Go.RowKit
set_option linter.unusedVariables false
set_option linter.unusedSimpArgs false

set_option maxHeartbeats 1000000 in
theorem rperm_any (f : St) (w : World) :
    Calls Try.prog 15 #[.agg (ws 25 f)] w fun e w' => e = .returned (.agg (ws 25 (perm f 24))) ∧ Below w.heap.size w w' := by
  have hz1 : Row ((w.alloc (.cells (ws 25 f) 41)).alloc (.cells (ws 25 fun _ => 0) 41)) (w.heap.size + 1) 41 (ws 25 fun _ => 0) := Row.made _ _ _ (by simp)
  have hs1 := (Row.new w 41 (ws 25 f)).alloc (.cells (ws 25 fun _ => 0) 41)
  have hb1 := ((Below.refl w.heap.size w).alloc (Nat.le_refl _) (.cells (ws 25 f) 41)).alloc (by simp) (.cells (ws 25 fun _ => 0) 41)
  go_enter Try.func15, Try.ntmps15
  go_wp2_with fail
  go_loopw [3] (fun v wr => ∃ k : Nat, v = .int .i64 k ∧ k ≤ 24 ∧ Row wr w.heap.size 41 (ws 25 (perm f k)) ∧ Row wr (w.heap.size + 1) 41 (ws 25 fun _ => 0) ∧ Below w.heap.size w wr) (fun v _ => 24 - (intOf v).toNat)
  case atStart => exact ⟨0, rfl, by omega, hs1, hz1, hb1⟩
  case round =>
    clear hs1 hz1 hb1
    obtain ⟨k, rfl, hk, hs, hz, hb⟩ := hrel
    have hsz := hb.size
    by_cases hlt : k < 24
    · have dk : decide ((k : Int) < 24) = true := by simp; omega
      go_wp2_with (first
        | (refine wpList_load_row rfl 41 _ rfl w.heap.size rfl 41 (ws 25 (perm f k)) (0, 0) _ hs lanesT rfl (by rw [ws_size]; exact i5) ?_))
      refine (rround_any _ _ (i64_wf _ (by omega) (by omega)) _).mono ?_
      rintro e w2 ⟨rfl, hb2⟩
      have hs2 := hs.below hb2
      go_wp2_with (first
        | (refine wpList_store_row rfl 41 _ _ rfl w.heap.size (ws 25 (rnd (perm f k) (mark k))) rfl rfl 41 _ hs2 (by rw [ws_size]; exact i5) (by rw [ws_size, ws_size]) (ws_one _ _) ?_))
      go_roundw
      case rel =>
        refine ⟨k + 1, by go_num, by omega, hs2.whole _, (hz.below hb2).farRow (by omega) _, below_row (hb.trans (hb2.mono hsz)) (by omega) _⟩
      case measure => simp [intOf]; omega
    · have hk24 : k = 24 := by omega
      rw [hk24] at hs
      clear hk24
      have dk : decide ((k : Int) < 24) = false := by simp; omega
      go_wp2_with (first
        | (refine wpList_load_row rfl 41 _ rfl w.heap.size rfl 41 (ws 25 (perm f 24)) (0, 0) _ hs lanesT rfl (by rw [ws_size]; exact i5) ?_)
        | (refine wpList_store_row rfl 41 _ _ rfl (w.heap.size + 1) (ws 25 (perm f 24)) rfl rfl 41 _ hz (by rw [ws_size]; exact i5) (by rw [ws_size, ws_size]) (ws_one _ _) ?_))
      refine bodyPost_row (t := 41) (g := w.heap.size + 1) Try.results15 (by kernel_rfl) (Row.whole hz _) lanesT (by rw [ws_size]; exact i5) rfl ⟨rfl, ?_⟩
      exact below_row hb (by omega) _
end Go.Proofs.Ytjpidkamgkpehaa
