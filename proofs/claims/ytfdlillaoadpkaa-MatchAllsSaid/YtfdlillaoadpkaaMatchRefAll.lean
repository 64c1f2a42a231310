/-
  The walk of the document's answer for the matches of all places.
-/
import Derived.Test.YtfdlillaoadpkaaMatchRef
import Derived.Test.YtfdlillaoadpkaaMatchAll
namespace Go.Proofs.Ytfdlillaoadpkaa
open Go.RowKit
set_option linter.unusedVariables false
set_option linter.unusedSimpArgs false

set_option maxRecDepth 100000 in
set_option maxHeartbeats 2000000 in
theorem rall_any (A : Option Addr) (cap : Nat) (bs : List UInt8) (w : World) (hc : bs.length ≤ cap) (hm : cap ≤ maxLen) (h : Bs w A bs) (hlen : bs.length ≤ 100000) :
    Calls Try.prog 17 #[.slice A bs.length cap] w fun e w' =>
      ∃ v, e = .returned v ∧ w'.ownsRow w.heap.size 34 2 v bs.length (flat bs bs.length) ∧ Below w.heap.size w w' := by
  have hm' := hm
  unfold maxLen at hm
  go_enter Try.func17, Try.ntmps17
  go_wp2_with fail
  go_loopw [3, 4] (fun v x wr => ∃ k : Nat, x = .int .i64 k ∧ k ≤ bs.length ∧ wr.ownsRow w.heap.size 34 2 v k (flat bs k) ∧ Below w.heap.size w wr) (fun _ x _ => bs.length - (intOf x).toNat)
  case atStart => exact ⟨0, rfl, by omega, World.ownsRow_nil _ _ _ _, Below.refl _ _⟩
  case round =>
    obtain ⟨k, rfl, hk, hout, hbel⟩ := hrel
    have hbw := hbel.size
    by_cases hlt : k < bs.length
    · obtain ⟨i0, hi, hz0, hz1, hz2⟩ := info_parts infoPair
      have hbs := h.below hbel
      go_wp2_with fail
      refine (rlongest_in A cap k bs wr hc hm' hbs hlt).mono ?_
      rintro e w1 ⟨rfl, n1, rfl⟩
      have hout1 : (wr.drewN n1).ownsRow w.heap.size 34 2 u3 k (flat bs k) := hout
      go_wp2_with (at_builtin; refine wpList_append_own _ rfl _ _ 32 rfl w.heap.size 34 i0 (.agg #[.int .i64 0, .int .i64 0]) 2 16 Try.underlying32 hi hz0 hz1 hz2 rfl (by decide) _ _ _ rfl (hout1.alloc _) ⟨wr.heap.size, 0, none⟩ 1 1 [.int .i64 (best bs k).1, .int .i64 (best bs k).2] rfl rfl (World.news_of_block (cs := #[.int .i64 (best bs k).1, .int .i64 (best bs k).2]) (t := 34) (fr := (0, 0)) (heap_alloc_new (wr.drewN n1) _)) (by simp [Value.oneCell']) (by unfold maxLen; omega) (by omega) (by simp; omega) ?_; intro v' w2 hout2 hg2 hnil2)
      go_roundw
      case rel =>
        refine ⟨k + 1, by go_num, by omega, ?_, ?_⟩
        · rw [flat_succ]; exact hout2
        · exact ((hbel.drewN n1).alloc (by simp; omega) _).grown hg2 (by simp; omega) (fun q e => (hout.lt q e).1)
      case measure => simp [intOf]; omega
    · obtain rfl : k = bs.length := by omega
      go_wp2
      go_ret
      exact ⟨_, rfl, hout, hbel⟩
end Go.Proofs.Ytfdlillaoadpkaa
