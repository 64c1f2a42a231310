/-
  What stands at the head of the laws of layer 3: the document's examples.
-/
import Derived.Test.YtepebebkndfefaaKPerm
import Derived.Test.YtepebebkndfefaaKZero
namespace Go.Proofs.Ytepebebkndfefaa
open Go.RowKit
set_option linter.unusedVariables false
set_option linter.unusedSimpArgs false

set_option maxHeartbeats 1000000 in
theorem shown_any (w : World) :
    Calls Try.prog 11 #[] w fun e w' => e = .returned (.bool true) ∧ Below w.heap.size w w' := by
  have t1 : ∀ w, Calls Try.prog 12 #[.int .i64 1, .int .i64 0] w fun e w' => e = .returned (.int .i64 1) ∧ Below w.heap.size w w' := fun w => turn_any 1 0 (by decide) (by decide) w
  have t2 : ∀ w, Calls Try.prog 12 #[.int .i64 0, .int .i64 2] w fun e w' => e = .returned (.int .i64 3) ∧ Below w.heap.size w w' := fun w => turn_any 0 2 (by decide) (by decide) w
  have m1 : ∀ w, Calls Try.prog 14 #[.int .i64 0] w fun e w' => e = .returned (.int .u64 1) ∧ w = w' := fun w => by
    have h := mark_any 0 (by decide) w
    rwa [show wv (mark 0) = .int .u64 1 from congrArg (Value.int .u64) (by decide +kernel)] at h
  have m2 : ∀ w, Calls Try.prog 14 #[.int .i64 1] w fun e w' => e = .returned (.int .u64 32898) ∧ w = w' := fun w => by
    have h := mark_any 1 (by decide) w
    rwa [show wv (mark 1) = .int .u64 32898 from congrArg (Value.int .u64) (by decide +kernel)] at h
  obtain ⟨f, hf, hz⟩ : ∃ f, perm (fun _ => 0) 24 = f ∧ nw (f 0) = 17376452488221285863 := ⟨_, rfl, perm_zero⟩
  have kp : ∀ w, Calls Try.prog 16 #[.agg (ws 25 fun _ => 0)] w fun e w' => e = .returned (.agg (ws 25 f)) ∧ Below w.heap.size w w' := fun w => by rw [← hf]; exact kperm_any _ _
  clear hf
  go_enter Try.func11, Try.ntmps11
  go_wp2_with (first
    | (refine wpList_built rfl 29 _ rfl (ws 25 fun _ => 0) (by kernel_rfl) ?_))
  refine (kp _).mono ?_
  rintro e w1 ⟨rfl, hb1⟩
  have hn0 : Row (w1.alloc (.cells (ws 25 fun _ => 0) 29)) w1.heap.size 29 (ws 25 fun _ => 0) := Row.new _ _ _
  go_wp2_with (first
    | (refine wpList_store_row rfl 29 _ _ rfl w1.heap.size (ws 25 f) rfl rfl 29 _ hn0 (by kernel_rfl) (by kernel_rfl) (ws_one _ _) ?_))
  have hb2 := below_row (g := w1.heap.size) (hb1.alloc hb1.size (.cells (ws 25 fun _ => 0) 29)) hb1.size (ws 25 f)
  have hs2 := hn0.whole (ws 25 f)
  refine (t1 _).mono ?_
  rintro e w2 ⟨rfl, hb3⟩
  replace hb3 : Below _ _ w2 := hb3
  have hs3 := hs2.below hb3
  have hb4 := hb2.trans (hb3.mono hb2.size)
  clear hb3 hs2 hb2 hn0
  go_wp2_with fail
  refine (t2 _).mono ?_
  rintro e w3 ⟨rfl, hb3⟩
  have hs4 := hs3.below hb3
  have hb5 := hb4.trans (hb3.mono hb4.size)
  clear hb3 hs3 hb4
  go_wp2_with fail
  refine (m1 _).mono ?_
  rintro e w' ⟨rfl, rfl⟩
  go_wp2_with fail
  refine (m2 _).mono ?_
  rintro e w' ⟨rfl, rfl⟩
  have c0 := (hs4.cell 0).trans (ws_get f (by decide))
  rw [wv, hz] at c0
  go_wp2
  go_ret
  exact ⟨rfl, hb5⟩
end Go.Proofs.Ytepebebkndfefaa
