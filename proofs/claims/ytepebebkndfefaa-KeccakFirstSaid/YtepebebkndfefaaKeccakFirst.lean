/-
  The law KeccakFirst of the given program: for every input the call returns true, and each argument reads behind the call as it read before. No condition on the input. (The frame is after the proof skeleton of the kit, the walk by hand.)
-/
import Derived.Test.YtepebebkndfefaaRows
import Derived.Test.YtepebebkndfefaaKLaws
import Derived.Deep.DeepCutAuto
import Derived.Deep.CutBlock
import Derived.Test.YtepebebkndfefaaKOpen
import Derived.WalkKit
import Derived.ProofKit
import Derived.OpenShut
import Derived.ShutString
import Derived.ChangeOld
import Derived.Below
namespace Go.Proofs.Ytepebebkndfefaa.keccakFirst
open Go.ChangeShapes Go.WideShapes Go.ChangeAt Go.RowKit
open Go.ChangeMaps (open_string shut_string)
set_option linter.unusedVariables false
set_option linter.unusedSimpArgs false

theorem own : ownKnob Try.prog.godebug = none := by kernel_rfl
theorem laidOut : laidOutB Try.prog = true := by kernel_rfl

set_option maxHeartbeats 2000000 in
set_option maxRecDepth 100000 in
/-- The walk. -/
theorem walk (f0 : Nat → W64) (a1 : Int) (a2 : Int) (w : World) (w1 : (Lit.int .i64 a1).wf = true) (w2 : (Lit.int .i64 a2).wf = true) :
    Calls Try.prog 10 #[.agg (ws 25 f0), .int .i64 a1, .int .i64 a2] w fun e w' => e = .returned (.bool true) ∧ Below w.heap.size w w' := by
  go_enter Try.func10, Try.ntmps10
  go_wp2_with fail
  refine (shown_any _).mono ?_
  rintro e w3 ⟨rfl, hb1⟩
  have hs1 := (Row.new w 29 (ws 25 f0)).below hb1
  have hb2 := ((Below.refl w.heap.size w).alloc (Nat.le_refl _) (.cells (ws 25 f0) 29)).trans (hb1.mono (by simp))
  have hz1 := hb1.size
  simp only [World.size_alloc] at hz1
  clear hb1
  have k1 := Lib.hid (kround_l f0 a1 w1)
  have k2 := Lib.hid (kround_l f0 a2 w2)
  have hsize1 := i5' f0
  go_upto_region 2 with (fail)
  go_cut [8, 9, 11, 12, 13, 14, 15, 16] (fun p q _ _ _ _ _ _ wc => ∃ A B : Nat, p = .pointer (some ⟨A, 0, none⟩) ∧ q = .pointer (some ⟨B, 0, none⟩) ∧ A ≠ B ∧ w.heap.size ≤ A ∧ w.heap.size ≤ B ∧ Row wc A 29 (ws 25 (rnd f0 (mark a1))) ∧ Row wc B 29 (ws 25 (rnd f0 (mark a2))) ∧ Below w.heap.size w wc)
  case first =>
    refine wp_region_held_drew (S := fun w' => w'.rangeAt w.heap.size 0 (wsl 25 f0) ∧ Below w.heap.size w w' ∧ w.heap.size + 1 ≤ w'.heap.size) (by kernel_rfl) ⟨hs1.range, Below.drew hb2, hz1⟩ (fun hHeld => ?_)
    obtain ⟨x0, hx0⟩ : ∃ x, w3.drew = x := ⟨_, rfl⟩
    rw [hx0] at hHeld ⊢
    clear hx0 hs1 hb2 hz1
    refine wpAnyH_take (i := 0) rfl (by kernel_rfl) (by kernel_rfl) (by kernel_rfl) (fun _ _ _ h => h) (yieldsIf_load_mid (by rfl) _ _ rfl _ _ rfl (wsl 25 f0) _ (fun _ h => h.1) lanesT rfl hsize1) hHeld ?_
    try simp only [List.getElem_toArray, List.getElem_cons_succ, List.getElem_cons_zero, Act.put, List.setIfInBounds_toArray, List.set_cons_zero, List.set_cons_succ]
    refine wpAnyH_take (i := 1) (v := ?_) rfl (by kernel_rfl) (by kernel_rfl) (by kernel_rfl) (fun _ _ _ h => h) (Or.inl ⟨by rfl, ?_⟩) hHeld ?_
    rotate_left
    · intro w hSw
      go_simp
      try rfl
    try simp only [List.getElem_toArray, List.getElem_cons_succ, List.getElem_cons_zero, Act.put, List.setIfInBounds_toArray, List.set_cons_zero, List.set_cons_succ]
    refine wpAnyH_take (i := 3) rfl (by kernel_rfl) (by kernel_rfl) (by kernel_rfl) (fun _ _ _ h => h) (yieldsIf_load_mid (by rfl) _ _ rfl _ _ rfl (wsl 25 f0) _ (fun _ h => h.1) lanesT rfl hsize1) hHeld ?_
    try simp only [List.getElem_toArray, List.getElem_cons_succ, List.getElem_cons_zero, Act.put, List.setIfInBounds_toArray, List.set_cons_zero, List.set_cons_succ]
    refine wpAnyH_take (i := 4) (v := ?_) rfl (by kernel_rfl) (by kernel_rfl) (by kernel_rfl) (fun _ _ _ h => h) (Or.inl ⟨by rfl, ?_⟩) hHeld ?_
    rotate_left
    · intro w hSw
      go_simp
      try rfl
    try simp only [List.getElem_toArray, List.getElem_cons_succ, List.getElem_cons_zero, Act.put, List.setIfInBounds_toArray, List.set_cons_zero, List.set_cons_succ]
    refine wpAnyH_ready (rs := [2, 6, 7]) (by kernel_rfl) (by simp) ?_
    refine AllReadyH.cons rfl (fun K hK => ?_) ?_
    · skip
      go_simp
      refine (k1.out _).mono ?_
      rintro e x1 ⟨rfl, hb'⟩
      replace hb' : Below (x0).heap.size (x0) x1 := hb'
      refine hK.out _ _ ⟨range_keep hb' hHeld.1, below_keep hb' hHeld.2.1, by have := hb'.size; (try simp only [World.size_alloc] at this); have := hHeld.2.2; (try simp only [World.size_alloc] at this); omega⟩ (fun hHeld => ?_)
      clear hK K
      try simp only [List.getElem_toArray, List.getElem_cons_succ, List.getElem_cons_zero, Act.put, List.setIfInBounds_toArray, List.set_cons_zero, List.set_cons_succ]
      refine wpAnyH_ready (rs := [5, 6, 7]) (by kernel_rfl) (by simp) ?_
      refine AllReadyH.cons rfl (fun K hK => ?_) ?_
      · skip
        go_simp
        refine (k2.out _).mono ?_
        rintro e x2 ⟨rfl, hb'⟩
        replace hb' : Below (x1).heap.size (x1) x2 := hb'
        refine hK.out _ _ ⟨range_keep hb' hHeld.1, below_keep hb' hHeld.2.1, by have := hb'.size; (try simp only [World.size_alloc] at this); have := hHeld.2.2; (try simp only [World.size_alloc] at this); omega⟩ (fun hHeld => ?_)
        clear hK K
        try simp only [List.getElem_toArray, List.getElem_cons_succ, List.getElem_cons_zero, Act.put, List.setIfInBounds_toArray, List.set_cons_zero, List.set_cons_succ]
        refine wpAnyH_ready (rs := [6, 7]) (by kernel_rfl) (by simp) ?_
        refine AllReadyH.cons rfl (fun K hK => ?_) ?_
        · skip
          go_simp
          refine hK.out _ ((x2).alloc (.cells (ws 25 fun _ => 0) 29)) ⟨World.rangeAt_alloc hHeld.1 _, hHeld.2.1.alloc hHeld.2.1.size _, by simp; have := hHeld.2.2; (try simp only [World.size_alloc] at this); omega⟩ (fun hHeld => ?_)
          clear hK K
          try simp only [List.getElem_toArray, List.getElem_cons_succ, List.getElem_cons_zero, Act.put, List.setIfInBounds_toArray, List.set_cons_zero, List.set_cons_succ]
          have rA : Row ((x2).alloc (.cells (ws 25 fun _ => 0) 29)) x2.heap.size 29 (ws 25 fun _ => 0) := Row.made _ _ _ (by simp)
          have sA : w.heap.size + 1 ≤ x2.heap.size := by have := hHeld.2.2; (try simp only [World.size_alloc] at this); omega
          refine wpAnyH_ready (rs := [7]) (by kernel_rfl) (by simp) ?_
          refine AllReadyH.cons rfl (fun K hK => ?_) AllReadyH.nil
          go_simp
          refine hK.out _ ((((x2).alloc (.cells (ws 25 fun _ => 0) 29))).alloc (.cells (ws 25 fun _ => 0) 29)) ⟨World.rangeAt_alloc hHeld.1 _, hHeld.2.1.alloc hHeld.2.1.size _, by simp; have := hHeld.2.2; (try simp only [World.size_alloc] at this); omega⟩ (fun hHeld => ?_)
          clear hK K
          try simp only [List.getElem_toArray, List.getElem_cons_succ, List.getElem_cons_zero, Act.put, List.setIfInBounds_toArray, List.set_cons_zero, List.set_cons_succ]
          have rB : Row ((((x2).alloc (.cells (ws 25 fun _ => 0) 29))).alloc (.cells (ws 25 fun _ => 0) 29)) (x2.heap.size + 1) 29 (ws 25 fun _ => 0) := Row.made _ _ _ (by simp)
          have sB : w.heap.size + 1 ≤ (x2.heap.size + 1) := by have := hHeld.2.2; (try simp only [World.size_alloc] at this); omega
          have nAB : x2.heap.size ≠ (x2.heap.size + 1) := by have hlt := rA.lt; first | omega | (simp only [World.size_alloc] at hlt; omega)
          replace rA := rA.alloc (.cells (ws 25 fun _ => 0) 29)
          refine wpAnyH_ready (rs := [8]) (by kernel_rfl) (by simp) ?_
          refine AllReadyH.cons rfl (fun K hK => ?_) AllReadyH.nil
          rw [if_pos (by rfl)]
          refine wp_store_row 29 _ _ rfl x2.heap.size (ws 25 (rnd f0 (mark a1))) rfl rfl 29 _ rA (by rw [ws_size]; exact i5) (by rw [ws_size, ws_size]) (ws_one _ _) ?_
          have rA2 := rA.whole (ws 25 (rnd f0 (mark a1)))
          have rB2 := rB.farRow (k := x2.heap.size) (Ne.symm nAB) (ws 25 (rnd f0 (mark a1)))
          refine hK.out _ _ ⟨range_row hHeld.1 (by omega) _, below_row hHeld.2.1 (by omega) _, by simpa using hHeld.2.2⟩ (fun hHeld => ?_)
          clear hK K
          try simp only [List.getElem_toArray, List.getElem_cons_succ, List.getElem_cons_zero, Act.put, List.setIfInBounds_toArray, List.set_cons_zero, List.set_cons_succ]
          refine wpAnyH_ready (rs := [9]) (by kernel_rfl) (by simp) ?_
          refine AllReadyH.cons rfl (fun K hK => ?_) AllReadyH.nil
          rw [if_pos (by rfl)]
          refine wp_store_row 29 _ _ rfl (x2.heap.size + 1) (ws 25 (rnd f0 (mark a2))) rfl rfl 29 _ rB2 (by rw [ws_size]; exact i5) (by rw [ws_size, ws_size]) (ws_one _ _) ?_
          refine hK.out _ _ ⟨range_row hHeld.1 (by omega) _, below_row hHeld.2.1 (by omega) _, by simpa using hHeld.2.2⟩ (fun hHeld => ?_)
          clear hK K
          try simp only [List.getElem_toArray, List.getElem_cons_succ, List.getElem_cons_zero, Act.put, List.setIfInBounds_toArray, List.set_cons_zero, List.set_cons_succ]
          refine wpAnyH_done (by kernel_rfl) ?_ _
          go_wp2_with fail
          go_meet
          exact ⟨x2.heap.size, (x2.heap.size + 1), rfl, rfl, nAB, by omega, by omega, rA2.farRow nAB _, rB2.whole _, hHeld.2.1⟩
        refine AllReadyH.cons rfl (fun K hK => ?_) AllReadyH.nil
        go_simp
        refine hK.out _ ((x2).alloc (.cells (ws 25 fun _ => 0) 29)) ⟨World.rangeAt_alloc hHeld.1 _, hHeld.2.1.alloc hHeld.2.1.size _, by simp; have := hHeld.2.2; (try simp only [World.size_alloc] at this); omega⟩ (fun hHeld => ?_)
        clear hK K
        try simp only [List.getElem_toArray, List.getElem_cons_succ, List.getElem_cons_zero, Act.put, List.setIfInBounds_toArray, List.set_cons_zero, List.set_cons_succ]
        have rB : Row ((x2).alloc (.cells (ws 25 fun _ => 0) 29)) x2.heap.size 29 (ws 25 fun _ => 0) := Row.made _ _ _ (by simp)
        have sB : w.heap.size + 1 ≤ x2.heap.size := by have := hHeld.2.2; (try simp only [World.size_alloc] at this); omega
        refine wpAnyH_ready (rs := [6]) (by kernel_rfl) (by simp) ?_
        refine AllReadyH.cons rfl (fun K hK => ?_) AllReadyH.nil
        go_simp
        refine hK.out _ ((((x2).alloc (.cells (ws 25 fun _ => 0) 29))).alloc (.cells (ws 25 fun _ => 0) 29)) ⟨World.rangeAt_alloc hHeld.1 _, hHeld.2.1.alloc hHeld.2.1.size _, by simp; have := hHeld.2.2; (try simp only [World.size_alloc] at this); omega⟩ (fun hHeld => ?_)
        clear hK K
        try simp only [List.getElem_toArray, List.getElem_cons_succ, List.getElem_cons_zero, Act.put, List.setIfInBounds_toArray, List.set_cons_zero, List.set_cons_succ]
        have rA : Row ((((x2).alloc (.cells (ws 25 fun _ => 0) 29))).alloc (.cells (ws 25 fun _ => 0) 29)) (x2.heap.size + 1) 29 (ws 25 fun _ => 0) := Row.made _ _ _ (by simp)
        have sA : w.heap.size + 1 ≤ (x2.heap.size + 1) := by have := hHeld.2.2; (try simp only [World.size_alloc] at this); omega
        have nAB : (x2.heap.size + 1) ≠ x2.heap.size := by have hlt := rB.lt; first | omega | (simp only [World.size_alloc] at hlt; omega)
        replace rB := rB.alloc (.cells (ws 25 fun _ => 0) 29)
        refine wpAnyH_ready (rs := [8]) (by kernel_rfl) (by simp) ?_
        refine AllReadyH.cons rfl (fun K hK => ?_) AllReadyH.nil
        rw [if_pos (by rfl)]
        refine wp_store_row 29 _ _ rfl (x2.heap.size + 1) (ws 25 (rnd f0 (mark a1))) rfl rfl 29 _ rA (by rw [ws_size]; exact i5) (by rw [ws_size, ws_size]) (ws_one _ _) ?_
        have rA2 := rA.whole (ws 25 (rnd f0 (mark a1)))
        have rB2 := rB.farRow (k := (x2.heap.size + 1)) (Ne.symm nAB) (ws 25 (rnd f0 (mark a1)))
        refine hK.out _ _ ⟨range_row hHeld.1 (by omega) _, below_row hHeld.2.1 (by omega) _, by simpa using hHeld.2.2⟩ (fun hHeld => ?_)
        clear hK K
        try simp only [List.getElem_toArray, List.getElem_cons_succ, List.getElem_cons_zero, Act.put, List.setIfInBounds_toArray, List.set_cons_zero, List.set_cons_succ]
        refine wpAnyH_ready (rs := [9]) (by kernel_rfl) (by simp) ?_
        refine AllReadyH.cons rfl (fun K hK => ?_) AllReadyH.nil
        rw [if_pos (by rfl)]
        refine wp_store_row 29 _ _ rfl x2.heap.size (ws 25 (rnd f0 (mark a2))) rfl rfl 29 _ rB2 (by rw [ws_size]; exact i5) (by rw [ws_size, ws_size]) (ws_one _ _) ?_
        refine hK.out _ _ ⟨range_row hHeld.1 (by omega) _, below_row hHeld.2.1 (by omega) _, by simpa using hHeld.2.2⟩ (fun hHeld => ?_)
        clear hK K
        try simp only [List.getElem_toArray, List.getElem_cons_succ, List.getElem_cons_zero, Act.put, List.setIfInBounds_toArray, List.set_cons_zero, List.set_cons_succ]
        refine wpAnyH_done (by kernel_rfl) ?_ _
        go_wp2_with fail
        go_meet
        exact ⟨(x2.heap.size + 1), x2.heap.size, rfl, rfl, nAB, by omega, by omega, rA2.farRow nAB _, rB2.whole _, hHeld.2.1⟩
      refine AllReadyH.cons rfl (fun K hK => ?_) ?_
      · skip
        go_simp
        refine hK.out _ ((x1).alloc (.cells (ws 25 fun _ => 0) 29)) ⟨World.rangeAt_alloc hHeld.1 _, hHeld.2.1.alloc hHeld.2.1.size _, by simp; have := hHeld.2.2; (try simp only [World.size_alloc] at this); omega⟩ (fun hHeld => ?_)
        clear hK K
        try simp only [List.getElem_toArray, List.getElem_cons_succ, List.getElem_cons_zero, Act.put, List.setIfInBounds_toArray, List.set_cons_zero, List.set_cons_succ]
        have rA : Row ((x1).alloc (.cells (ws 25 fun _ => 0) 29)) x1.heap.size 29 (ws 25 fun _ => 0) := Row.made _ _ _ (by simp)
        have sA : w.heap.size + 1 ≤ x1.heap.size := by have := hHeld.2.2; (try simp only [World.size_alloc] at this); omega
        refine wpAnyH_ready (rs := [5, 7]) (by kernel_rfl) (by simp) ?_
        refine AllReadyH.cons rfl (fun K hK => ?_) ?_
        · skip
          go_simp
          refine (k2.out _).mono ?_
          rintro e x3 ⟨rfl, hb'⟩
          replace hb' : Below (((x1).alloc (.cells (ws 25 fun _ => 0) 29))).heap.size (((x1).alloc (.cells (ws 25 fun _ => 0) 29))) x3 := hb'
          refine hK.out _ _ ⟨range_keep hb' hHeld.1, below_keep hb' hHeld.2.1, by have := hb'.size; (try simp only [World.size_alloc] at this); have := hHeld.2.2; (try simp only [World.size_alloc] at this); omega⟩ (fun hHeld => ?_)
          clear hK K
          try simp only [List.getElem_toArray, List.getElem_cons_succ, List.getElem_cons_zero, Act.put, List.setIfInBounds_toArray, List.set_cons_zero, List.set_cons_succ]
          replace rA := rA.below hb'
          refine wpAnyH_ready (rs := [7]) (by kernel_rfl) (by simp) ?_
          refine AllReadyH.cons rfl (fun K hK => ?_) AllReadyH.nil
          go_simp
          refine hK.out _ ((x3).alloc (.cells (ws 25 fun _ => 0) 29)) ⟨World.rangeAt_alloc hHeld.1 _, hHeld.2.1.alloc hHeld.2.1.size _, by simp; have := hHeld.2.2; (try simp only [World.size_alloc] at this); omega⟩ (fun hHeld => ?_)
          clear hK K
          try simp only [List.getElem_toArray, List.getElem_cons_succ, List.getElem_cons_zero, Act.put, List.setIfInBounds_toArray, List.set_cons_zero, List.set_cons_succ]
          have rB : Row ((x3).alloc (.cells (ws 25 fun _ => 0) 29)) x3.heap.size 29 (ws 25 fun _ => 0) := Row.made _ _ _ (by simp)
          have sB : w.heap.size + 1 ≤ x3.heap.size := by have := hHeld.2.2; (try simp only [World.size_alloc] at this); omega
          have nAB : x1.heap.size ≠ x3.heap.size := by have hlt := rA.lt; first | omega | (simp only [World.size_alloc] at hlt; omega)
          replace rA := rA.alloc (.cells (ws 25 fun _ => 0) 29)
          refine wpAnyH_ready (rs := [8]) (by kernel_rfl) (by simp) ?_
          refine AllReadyH.cons rfl (fun K hK => ?_) AllReadyH.nil
          rw [if_pos (by rfl)]
          refine wp_store_row 29 _ _ rfl x1.heap.size (ws 25 (rnd f0 (mark a1))) rfl rfl 29 _ rA (by rw [ws_size]; exact i5) (by rw [ws_size, ws_size]) (ws_one _ _) ?_
          have rA2 := rA.whole (ws 25 (rnd f0 (mark a1)))
          have rB2 := rB.farRow (k := x1.heap.size) (Ne.symm nAB) (ws 25 (rnd f0 (mark a1)))
          refine hK.out _ _ ⟨range_row hHeld.1 (by omega) _, below_row hHeld.2.1 (by omega) _, by simpa using hHeld.2.2⟩ (fun hHeld => ?_)
          clear hK K
          try simp only [List.getElem_toArray, List.getElem_cons_succ, List.getElem_cons_zero, Act.put, List.setIfInBounds_toArray, List.set_cons_zero, List.set_cons_succ]
          refine wpAnyH_ready (rs := [9]) (by kernel_rfl) (by simp) ?_
          refine AllReadyH.cons rfl (fun K hK => ?_) AllReadyH.nil
          rw [if_pos (by rfl)]
          refine wp_store_row 29 _ _ rfl x3.heap.size (ws 25 (rnd f0 (mark a2))) rfl rfl 29 _ rB2 (by rw [ws_size]; exact i5) (by rw [ws_size, ws_size]) (ws_one _ _) ?_
          refine hK.out _ _ ⟨range_row hHeld.1 (by omega) _, below_row hHeld.2.1 (by omega) _, by simpa using hHeld.2.2⟩ (fun hHeld => ?_)
          clear hK K
          try simp only [List.getElem_toArray, List.getElem_cons_succ, List.getElem_cons_zero, Act.put, List.setIfInBounds_toArray, List.set_cons_zero, List.set_cons_succ]
          refine wpAnyH_done (by kernel_rfl) ?_ _
          go_wp2_with fail
          go_meet
          exact ⟨x1.heap.size, x3.heap.size, rfl, rfl, nAB, by omega, by omega, rA2.farRow nAB _, rB2.whole _, hHeld.2.1⟩
        refine AllReadyH.cons rfl (fun K hK => ?_) AllReadyH.nil
        go_simp
        refine hK.out _ ((((x1).alloc (.cells (ws 25 fun _ => 0) 29))).alloc (.cells (ws 25 fun _ => 0) 29)) ⟨World.rangeAt_alloc hHeld.1 _, hHeld.2.1.alloc hHeld.2.1.size _, by simp; have := hHeld.2.2; (try simp only [World.size_alloc] at this); omega⟩ (fun hHeld => ?_)
        clear hK K
        try simp only [List.getElem_toArray, List.getElem_cons_succ, List.getElem_cons_zero, Act.put, List.setIfInBounds_toArray, List.set_cons_zero, List.set_cons_succ]
        have rB : Row ((((x1).alloc (.cells (ws 25 fun _ => 0) 29))).alloc (.cells (ws 25 fun _ => 0) 29)) (x1.heap.size + 1) 29 (ws 25 fun _ => 0) := Row.made _ _ _ (by simp)
        have sB : w.heap.size + 1 ≤ (x1.heap.size + 1) := by have := hHeld.2.2; (try simp only [World.size_alloc] at this); omega
        have nAB : x1.heap.size ≠ (x1.heap.size + 1) := by have hlt := rA.lt; first | omega | (simp only [World.size_alloc] at hlt; omega)
        replace rA := rA.alloc (.cells (ws 25 fun _ => 0) 29)
        refine wpAnyH_ready (rs := [5]) (by kernel_rfl) (by simp) ?_
        refine AllReadyH.cons rfl (fun K hK => ?_) AllReadyH.nil
        go_simp
        refine (k2.out _).mono ?_
        rintro e x4 ⟨rfl, hb'⟩
        replace hb' : Below (((((x1).alloc (.cells (ws 25 fun _ => 0) 29))).alloc (.cells (ws 25 fun _ => 0) 29))).heap.size (((((x1).alloc (.cells (ws 25 fun _ => 0) 29))).alloc (.cells (ws 25 fun _ => 0) 29))) x4 := hb'
        refine hK.out _ _ ⟨range_keep hb' hHeld.1, below_keep hb' hHeld.2.1, by have := hb'.size; (try simp only [World.size_alloc] at this); have := hHeld.2.2; (try simp only [World.size_alloc] at this); omega⟩ (fun hHeld => ?_)
        clear hK K
        try simp only [List.getElem_toArray, List.getElem_cons_succ, List.getElem_cons_zero, Act.put, List.setIfInBounds_toArray, List.set_cons_zero, List.set_cons_succ]
        replace rA := rA.below hb'
        replace rB := rB.below hb'
        refine wpAnyH_ready (rs := [8]) (by kernel_rfl) (by simp) ?_
        refine AllReadyH.cons rfl (fun K hK => ?_) AllReadyH.nil
        rw [if_pos (by rfl)]
        refine wp_store_row 29 _ _ rfl x1.heap.size (ws 25 (rnd f0 (mark a1))) rfl rfl 29 _ rA (by rw [ws_size]; exact i5) (by rw [ws_size, ws_size]) (ws_one _ _) ?_
        have rA2 := rA.whole (ws 25 (rnd f0 (mark a1)))
        have rB2 := rB.farRow (k := x1.heap.size) (Ne.symm nAB) (ws 25 (rnd f0 (mark a1)))
        refine hK.out _ _ ⟨range_row hHeld.1 (by omega) _, below_row hHeld.2.1 (by omega) _, by simpa using hHeld.2.2⟩ (fun hHeld => ?_)
        clear hK K
        try simp only [List.getElem_toArray, List.getElem_cons_succ, List.getElem_cons_zero, Act.put, List.setIfInBounds_toArray, List.set_cons_zero, List.set_cons_succ]
        refine wpAnyH_ready (rs := [9]) (by kernel_rfl) (by simp) ?_
        refine AllReadyH.cons rfl (fun K hK => ?_) AllReadyH.nil
        rw [if_pos (by rfl)]
        refine wp_store_row 29 _ _ rfl (x1.heap.size + 1) (ws 25 (rnd f0 (mark a2))) rfl rfl 29 _ rB2 (by rw [ws_size]; exact i5) (by rw [ws_size, ws_size]) (ws_one _ _) ?_
        refine hK.out _ _ ⟨range_row hHeld.1 (by omega) _, below_row hHeld.2.1 (by omega) _, by simpa using hHeld.2.2⟩ (fun hHeld => ?_)
        clear hK K
        try simp only [List.getElem_toArray, List.getElem_cons_succ, List.getElem_cons_zero, Act.put, List.setIfInBounds_toArray, List.set_cons_zero, List.set_cons_succ]
        refine wpAnyH_done (by kernel_rfl) ?_ _
        go_wp2_with fail
        go_meet
        exact ⟨x1.heap.size, (x1.heap.size + 1), rfl, rfl, nAB, by omega, by omega, rA2.farRow nAB _, rB2.whole _, hHeld.2.1⟩
      refine AllReadyH.cons rfl (fun K hK => ?_) AllReadyH.nil
      go_simp
      refine hK.out _ ((x1).alloc (.cells (ws 25 fun _ => 0) 29)) ⟨World.rangeAt_alloc hHeld.1 _, hHeld.2.1.alloc hHeld.2.1.size _, by simp; have := hHeld.2.2; (try simp only [World.size_alloc] at this); omega⟩ (fun hHeld => ?_)
      clear hK K
      try simp only [List.getElem_toArray, List.getElem_cons_succ, List.getElem_cons_zero, Act.put, List.setIfInBounds_toArray, List.set_cons_zero, List.set_cons_succ]
      have rB : Row ((x1).alloc (.cells (ws 25 fun _ => 0) 29)) x1.heap.size 29 (ws 25 fun _ => 0) := Row.made _ _ _ (by simp)
      have sB : w.heap.size + 1 ≤ x1.heap.size := by have := hHeld.2.2; (try simp only [World.size_alloc] at this); omega
      refine wpAnyH_ready (rs := [5, 6]) (by kernel_rfl) (by simp) ?_
      refine AllReadyH.cons rfl (fun K hK => ?_) ?_
      · skip
        go_simp
        refine (k2.out _).mono ?_
        rintro e x5 ⟨rfl, hb'⟩
        replace hb' : Below (((x1).alloc (.cells (ws 25 fun _ => 0) 29))).heap.size (((x1).alloc (.cells (ws 25 fun _ => 0) 29))) x5 := hb'
        refine hK.out _ _ ⟨range_keep hb' hHeld.1, below_keep hb' hHeld.2.1, by have := hb'.size; (try simp only [World.size_alloc] at this); have := hHeld.2.2; (try simp only [World.size_alloc] at this); omega⟩ (fun hHeld => ?_)
        clear hK K
        try simp only [List.getElem_toArray, List.getElem_cons_succ, List.getElem_cons_zero, Act.put, List.setIfInBounds_toArray, List.set_cons_zero, List.set_cons_succ]
        replace rB := rB.below hb'
        refine wpAnyH_ready (rs := [6]) (by kernel_rfl) (by simp) ?_
        refine AllReadyH.cons rfl (fun K hK => ?_) AllReadyH.nil
        go_simp
        refine hK.out _ ((x5).alloc (.cells (ws 25 fun _ => 0) 29)) ⟨World.rangeAt_alloc hHeld.1 _, hHeld.2.1.alloc hHeld.2.1.size _, by simp; have := hHeld.2.2; (try simp only [World.size_alloc] at this); omega⟩ (fun hHeld => ?_)
        clear hK K
        try simp only [List.getElem_toArray, List.getElem_cons_succ, List.getElem_cons_zero, Act.put, List.setIfInBounds_toArray, List.set_cons_zero, List.set_cons_succ]
        have rA : Row ((x5).alloc (.cells (ws 25 fun _ => 0) 29)) x5.heap.size 29 (ws 25 fun _ => 0) := Row.made _ _ _ (by simp)
        have sA : w.heap.size + 1 ≤ x5.heap.size := by have := hHeld.2.2; (try simp only [World.size_alloc] at this); omega
        have nAB : x5.heap.size ≠ x1.heap.size := by have hlt := rB.lt; first | omega | (simp only [World.size_alloc] at hlt; omega)
        replace rB := rB.alloc (.cells (ws 25 fun _ => 0) 29)
        refine wpAnyH_ready (rs := [8]) (by kernel_rfl) (by simp) ?_
        refine AllReadyH.cons rfl (fun K hK => ?_) AllReadyH.nil
        rw [if_pos (by rfl)]
        refine wp_store_row 29 _ _ rfl x5.heap.size (ws 25 (rnd f0 (mark a1))) rfl rfl 29 _ rA (by rw [ws_size]; exact i5) (by rw [ws_size, ws_size]) (ws_one _ _) ?_
        have rA2 := rA.whole (ws 25 (rnd f0 (mark a1)))
        have rB2 := rB.farRow (k := x5.heap.size) (Ne.symm nAB) (ws 25 (rnd f0 (mark a1)))
        refine hK.out _ _ ⟨range_row hHeld.1 (by omega) _, below_row hHeld.2.1 (by omega) _, by simpa using hHeld.2.2⟩ (fun hHeld => ?_)
        clear hK K
        try simp only [List.getElem_toArray, List.getElem_cons_succ, List.getElem_cons_zero, Act.put, List.setIfInBounds_toArray, List.set_cons_zero, List.set_cons_succ]
        refine wpAnyH_ready (rs := [9]) (by kernel_rfl) (by simp) ?_
        refine AllReadyH.cons rfl (fun K hK => ?_) AllReadyH.nil
        rw [if_pos (by rfl)]
        refine wp_store_row 29 _ _ rfl x1.heap.size (ws 25 (rnd f0 (mark a2))) rfl rfl 29 _ rB2 (by rw [ws_size]; exact i5) (by rw [ws_size, ws_size]) (ws_one _ _) ?_
        refine hK.out _ _ ⟨range_row hHeld.1 (by omega) _, below_row hHeld.2.1 (by omega) _, by simpa using hHeld.2.2⟩ (fun hHeld => ?_)
        clear hK K
        try simp only [List.getElem_toArray, List.getElem_cons_succ, List.getElem_cons_zero, Act.put, List.setIfInBounds_toArray, List.set_cons_zero, List.set_cons_succ]
        refine wpAnyH_done (by kernel_rfl) ?_ _
        go_wp2_with fail
        go_meet
        exact ⟨x5.heap.size, x1.heap.size, rfl, rfl, nAB, by omega, by omega, rA2.farRow nAB _, rB2.whole _, hHeld.2.1⟩
      refine AllReadyH.cons rfl (fun K hK => ?_) AllReadyH.nil
      go_simp
      refine hK.out _ ((((x1).alloc (.cells (ws 25 fun _ => 0) 29))).alloc (.cells (ws 25 fun _ => 0) 29)) ⟨World.rangeAt_alloc hHeld.1 _, hHeld.2.1.alloc hHeld.2.1.size _, by simp; have := hHeld.2.2; (try simp only [World.size_alloc] at this); omega⟩ (fun hHeld => ?_)
      clear hK K
      try simp only [List.getElem_toArray, List.getElem_cons_succ, List.getElem_cons_zero, Act.put, List.setIfInBounds_toArray, List.set_cons_zero, List.set_cons_succ]
      have rA : Row ((((x1).alloc (.cells (ws 25 fun _ => 0) 29))).alloc (.cells (ws 25 fun _ => 0) 29)) (x1.heap.size + 1) 29 (ws 25 fun _ => 0) := Row.made _ _ _ (by simp)
      have sA : w.heap.size + 1 ≤ (x1.heap.size + 1) := by have := hHeld.2.2; (try simp only [World.size_alloc] at this); omega
      have nAB : (x1.heap.size + 1) ≠ x1.heap.size := by have hlt := rB.lt; first | omega | (simp only [World.size_alloc] at hlt; omega)
      replace rB := rB.alloc (.cells (ws 25 fun _ => 0) 29)
      refine wpAnyH_ready (rs := [5]) (by kernel_rfl) (by simp) ?_
      refine AllReadyH.cons rfl (fun K hK => ?_) AllReadyH.nil
      go_simp
      refine (k2.out _).mono ?_
      rintro e x6 ⟨rfl, hb'⟩
      replace hb' : Below (((((x1).alloc (.cells (ws 25 fun _ => 0) 29))).alloc (.cells (ws 25 fun _ => 0) 29))).heap.size (((((x1).alloc (.cells (ws 25 fun _ => 0) 29))).alloc (.cells (ws 25 fun _ => 0) 29))) x6 := hb'
      refine hK.out _ _ ⟨range_keep hb' hHeld.1, below_keep hb' hHeld.2.1, by have := hb'.size; (try simp only [World.size_alloc] at this); have := hHeld.2.2; (try simp only [World.size_alloc] at this); omega⟩ (fun hHeld => ?_)
      clear hK K
      try simp only [List.getElem_toArray, List.getElem_cons_succ, List.getElem_cons_zero, Act.put, List.setIfInBounds_toArray, List.set_cons_zero, List.set_cons_succ]
      replace rA := rA.below hb'
      replace rB := rB.below hb'
      refine wpAnyH_ready (rs := [8]) (by kernel_rfl) (by simp) ?_
      refine AllReadyH.cons rfl (fun K hK => ?_) AllReadyH.nil
      rw [if_pos (by rfl)]
      refine wp_store_row 29 _ _ rfl (x1.heap.size + 1) (ws 25 (rnd f0 (mark a1))) rfl rfl 29 _ rA (by rw [ws_size]; exact i5) (by rw [ws_size, ws_size]) (ws_one _ _) ?_
      have rA2 := rA.whole (ws 25 (rnd f0 (mark a1)))
      have rB2 := rB.farRow (k := (x1.heap.size + 1)) (Ne.symm nAB) (ws 25 (rnd f0 (mark a1)))
      refine hK.out _ _ ⟨range_row hHeld.1 (by omega) _, below_row hHeld.2.1 (by omega) _, by simpa using hHeld.2.2⟩ (fun hHeld => ?_)
      clear hK K
      try simp only [List.getElem_toArray, List.getElem_cons_succ, List.getElem_cons_zero, Act.put, List.setIfInBounds_toArray, List.set_cons_zero, List.set_cons_succ]
      refine wpAnyH_ready (rs := [9]) (by kernel_rfl) (by simp) ?_
      refine AllReadyH.cons rfl (fun K hK => ?_) AllReadyH.nil
      rw [if_pos (by rfl)]
      refine wp_store_row 29 _ _ rfl x1.heap.size (ws 25 (rnd f0 (mark a2))) rfl rfl 29 _ rB2 (by rw [ws_size]; exact i5) (by rw [ws_size, ws_size]) (ws_one _ _) ?_
      refine hK.out _ _ ⟨range_row hHeld.1 (by omega) _, below_row hHeld.2.1 (by omega) _, by simpa using hHeld.2.2⟩ (fun hHeld => ?_)
      clear hK K
      try simp only [List.getElem_toArray, List.getElem_cons_succ, List.getElem_cons_zero, Act.put, List.setIfInBounds_toArray, List.set_cons_zero, List.set_cons_succ]
      refine wpAnyH_done (by kernel_rfl) ?_ _
      go_wp2_with fail
      go_meet
      exact ⟨(x1.heap.size + 1), x1.heap.size, rfl, rfl, nAB, by omega, by omega, rA2.farRow nAB _, rB2.whole _, hHeld.2.1⟩
    refine AllReadyH.cons rfl (fun K hK => ?_) ?_
    · skip
      go_simp
      refine hK.out _ ((x0).alloc (.cells (ws 25 fun _ => 0) 29)) ⟨World.rangeAt_alloc hHeld.1 _, hHeld.2.1.alloc hHeld.2.1.size _, by simp; have := hHeld.2.2; (try simp only [World.size_alloc] at this); omega⟩ (fun hHeld => ?_)
      clear hK K
      try simp only [List.getElem_toArray, List.getElem_cons_succ, List.getElem_cons_zero, Act.put, List.setIfInBounds_toArray, List.set_cons_zero, List.set_cons_succ]
      have rA : Row ((x0).alloc (.cells (ws 25 fun _ => 0) 29)) x0.heap.size 29 (ws 25 fun _ => 0) := Row.made _ _ _ (by simp)
      have sA : w.heap.size + 1 ≤ x0.heap.size := by have := hHeld.2.2; (try simp only [World.size_alloc] at this); omega
      refine wpAnyH_ready (rs := [2, 7]) (by kernel_rfl) (by simp) ?_
      refine AllReadyH.cons rfl (fun K hK => ?_) ?_
      · skip
        go_simp
        refine (k1.out _).mono ?_
        rintro e x7 ⟨rfl, hb'⟩
        replace hb' : Below (((x0).alloc (.cells (ws 25 fun _ => 0) 29))).heap.size (((x0).alloc (.cells (ws 25 fun _ => 0) 29))) x7 := hb'
        refine hK.out _ _ ⟨range_keep hb' hHeld.1, below_keep hb' hHeld.2.1, by have := hb'.size; (try simp only [World.size_alloc] at this); have := hHeld.2.2; (try simp only [World.size_alloc] at this); omega⟩ (fun hHeld => ?_)
        clear hK K
        try simp only [List.getElem_toArray, List.getElem_cons_succ, List.getElem_cons_zero, Act.put, List.setIfInBounds_toArray, List.set_cons_zero, List.set_cons_succ]
        replace rA := rA.below hb'
        refine wpAnyH_ready (rs := [5, 7]) (by kernel_rfl) (by simp) ?_
        refine AllReadyH.cons rfl (fun K hK => ?_) ?_
        · skip
          go_simp
          refine (k2.out _).mono ?_
          rintro e x8 ⟨rfl, hb'⟩
          replace hb' : Below (x7).heap.size (x7) x8 := hb'
          refine hK.out _ _ ⟨range_keep hb' hHeld.1, below_keep hb' hHeld.2.1, by have := hb'.size; (try simp only [World.size_alloc] at this); have := hHeld.2.2; (try simp only [World.size_alloc] at this); omega⟩ (fun hHeld => ?_)
          clear hK K
          try simp only [List.getElem_toArray, List.getElem_cons_succ, List.getElem_cons_zero, Act.put, List.setIfInBounds_toArray, List.set_cons_zero, List.set_cons_succ]
          replace rA := rA.below hb'
          refine wpAnyH_ready (rs := [7]) (by kernel_rfl) (by simp) ?_
          refine AllReadyH.cons rfl (fun K hK => ?_) AllReadyH.nil
          go_simp
          refine hK.out _ ((x8).alloc (.cells (ws 25 fun _ => 0) 29)) ⟨World.rangeAt_alloc hHeld.1 _, hHeld.2.1.alloc hHeld.2.1.size _, by simp; have := hHeld.2.2; (try simp only [World.size_alloc] at this); omega⟩ (fun hHeld => ?_)
          clear hK K
          try simp only [List.getElem_toArray, List.getElem_cons_succ, List.getElem_cons_zero, Act.put, List.setIfInBounds_toArray, List.set_cons_zero, List.set_cons_succ]
          have rB : Row ((x8).alloc (.cells (ws 25 fun _ => 0) 29)) x8.heap.size 29 (ws 25 fun _ => 0) := Row.made _ _ _ (by simp)
          have sB : w.heap.size + 1 ≤ x8.heap.size := by have := hHeld.2.2; (try simp only [World.size_alloc] at this); omega
          have nAB : x0.heap.size ≠ x8.heap.size := by have hlt := rA.lt; first | omega | (simp only [World.size_alloc] at hlt; omega)
          replace rA := rA.alloc (.cells (ws 25 fun _ => 0) 29)
          refine wpAnyH_ready (rs := [8]) (by kernel_rfl) (by simp) ?_
          refine AllReadyH.cons rfl (fun K hK => ?_) AllReadyH.nil
          rw [if_pos (by rfl)]
          refine wp_store_row 29 _ _ rfl x0.heap.size (ws 25 (rnd f0 (mark a1))) rfl rfl 29 _ rA (by rw [ws_size]; exact i5) (by rw [ws_size, ws_size]) (ws_one _ _) ?_
          have rA2 := rA.whole (ws 25 (rnd f0 (mark a1)))
          have rB2 := rB.farRow (k := x0.heap.size) (Ne.symm nAB) (ws 25 (rnd f0 (mark a1)))
          refine hK.out _ _ ⟨range_row hHeld.1 (by omega) _, below_row hHeld.2.1 (by omega) _, by simpa using hHeld.2.2⟩ (fun hHeld => ?_)
          clear hK K
          try simp only [List.getElem_toArray, List.getElem_cons_succ, List.getElem_cons_zero, Act.put, List.setIfInBounds_toArray, List.set_cons_zero, List.set_cons_succ]
          refine wpAnyH_ready (rs := [9]) (by kernel_rfl) (by simp) ?_
          refine AllReadyH.cons rfl (fun K hK => ?_) AllReadyH.nil
          rw [if_pos (by rfl)]
          refine wp_store_row 29 _ _ rfl x8.heap.size (ws 25 (rnd f0 (mark a2))) rfl rfl 29 _ rB2 (by rw [ws_size]; exact i5) (by rw [ws_size, ws_size]) (ws_one _ _) ?_
          refine hK.out _ _ ⟨range_row hHeld.1 (by omega) _, below_row hHeld.2.1 (by omega) _, by simpa using hHeld.2.2⟩ (fun hHeld => ?_)
          clear hK K
          try simp only [List.getElem_toArray, List.getElem_cons_succ, List.getElem_cons_zero, Act.put, List.setIfInBounds_toArray, List.set_cons_zero, List.set_cons_succ]
          refine wpAnyH_done (by kernel_rfl) ?_ _
          go_wp2_with fail
          go_meet
          exact ⟨x0.heap.size, x8.heap.size, rfl, rfl, nAB, by omega, by omega, rA2.farRow nAB _, rB2.whole _, hHeld.2.1⟩
        refine AllReadyH.cons rfl (fun K hK => ?_) AllReadyH.nil
        go_simp
        refine hK.out _ ((x7).alloc (.cells (ws 25 fun _ => 0) 29)) ⟨World.rangeAt_alloc hHeld.1 _, hHeld.2.1.alloc hHeld.2.1.size _, by simp; have := hHeld.2.2; (try simp only [World.size_alloc] at this); omega⟩ (fun hHeld => ?_)
        clear hK K
        try simp only [List.getElem_toArray, List.getElem_cons_succ, List.getElem_cons_zero, Act.put, List.setIfInBounds_toArray, List.set_cons_zero, List.set_cons_succ]
        have rB : Row ((x7).alloc (.cells (ws 25 fun _ => 0) 29)) x7.heap.size 29 (ws 25 fun _ => 0) := Row.made _ _ _ (by simp)
        have sB : w.heap.size + 1 ≤ x7.heap.size := by have := hHeld.2.2; (try simp only [World.size_alloc] at this); omega
        have nAB : x0.heap.size ≠ x7.heap.size := by have hlt := rA.lt; first | omega | (simp only [World.size_alloc] at hlt; omega)
        replace rA := rA.alloc (.cells (ws 25 fun _ => 0) 29)
        refine wpAnyH_ready (rs := [5]) (by kernel_rfl) (by simp) ?_
        refine AllReadyH.cons rfl (fun K hK => ?_) AllReadyH.nil
        go_simp
        refine (k2.out _).mono ?_
        rintro e x9 ⟨rfl, hb'⟩
        replace hb' : Below (((x7).alloc (.cells (ws 25 fun _ => 0) 29))).heap.size (((x7).alloc (.cells (ws 25 fun _ => 0) 29))) x9 := hb'
        refine hK.out _ _ ⟨range_keep hb' hHeld.1, below_keep hb' hHeld.2.1, by have := hb'.size; (try simp only [World.size_alloc] at this); have := hHeld.2.2; (try simp only [World.size_alloc] at this); omega⟩ (fun hHeld => ?_)
        clear hK K
        try simp only [List.getElem_toArray, List.getElem_cons_succ, List.getElem_cons_zero, Act.put, List.setIfInBounds_toArray, List.set_cons_zero, List.set_cons_succ]
        replace rA := rA.below hb'
        replace rB := rB.below hb'
        refine wpAnyH_ready (rs := [8]) (by kernel_rfl) (by simp) ?_
        refine AllReadyH.cons rfl (fun K hK => ?_) AllReadyH.nil
        rw [if_pos (by rfl)]
        refine wp_store_row 29 _ _ rfl x0.heap.size (ws 25 (rnd f0 (mark a1))) rfl rfl 29 _ rA (by rw [ws_size]; exact i5) (by rw [ws_size, ws_size]) (ws_one _ _) ?_
        have rA2 := rA.whole (ws 25 (rnd f0 (mark a1)))
        have rB2 := rB.farRow (k := x0.heap.size) (Ne.symm nAB) (ws 25 (rnd f0 (mark a1)))
        refine hK.out _ _ ⟨range_row hHeld.1 (by omega) _, below_row hHeld.2.1 (by omega) _, by simpa using hHeld.2.2⟩ (fun hHeld => ?_)
        clear hK K
        try simp only [List.getElem_toArray, List.getElem_cons_succ, List.getElem_cons_zero, Act.put, List.setIfInBounds_toArray, List.set_cons_zero, List.set_cons_succ]
        refine wpAnyH_ready (rs := [9]) (by kernel_rfl) (by simp) ?_
        refine AllReadyH.cons rfl (fun K hK => ?_) AllReadyH.nil
        rw [if_pos (by rfl)]
        refine wp_store_row 29 _ _ rfl x7.heap.size (ws 25 (rnd f0 (mark a2))) rfl rfl 29 _ rB2 (by rw [ws_size]; exact i5) (by rw [ws_size, ws_size]) (ws_one _ _) ?_
        refine hK.out _ _ ⟨range_row hHeld.1 (by omega) _, below_row hHeld.2.1 (by omega) _, by simpa using hHeld.2.2⟩ (fun hHeld => ?_)
        clear hK K
        try simp only [List.getElem_toArray, List.getElem_cons_succ, List.getElem_cons_zero, Act.put, List.setIfInBounds_toArray, List.set_cons_zero, List.set_cons_succ]
        refine wpAnyH_done (by kernel_rfl) ?_ _
        go_wp2_with fail
        go_meet
        exact ⟨x0.heap.size, x7.heap.size, rfl, rfl, nAB, by omega, by omega, rA2.farRow nAB _, rB2.whole _, hHeld.2.1⟩
      refine AllReadyH.cons rfl (fun K hK => ?_) AllReadyH.nil
      go_simp
      refine hK.out _ ((((x0).alloc (.cells (ws 25 fun _ => 0) 29))).alloc (.cells (ws 25 fun _ => 0) 29)) ⟨World.rangeAt_alloc hHeld.1 _, hHeld.2.1.alloc hHeld.2.1.size _, by simp; have := hHeld.2.2; (try simp only [World.size_alloc] at this); omega⟩ (fun hHeld => ?_)
      clear hK K
      try simp only [List.getElem_toArray, List.getElem_cons_succ, List.getElem_cons_zero, Act.put, List.setIfInBounds_toArray, List.set_cons_zero, List.set_cons_succ]
      have rB : Row ((((x0).alloc (.cells (ws 25 fun _ => 0) 29))).alloc (.cells (ws 25 fun _ => 0) 29)) (x0.heap.size + 1) 29 (ws 25 fun _ => 0) := Row.made _ _ _ (by simp)
      have sB : w.heap.size + 1 ≤ (x0.heap.size + 1) := by have := hHeld.2.2; (try simp only [World.size_alloc] at this); omega
      have nAB : x0.heap.size ≠ (x0.heap.size + 1) := by have hlt := rA.lt; first | omega | (simp only [World.size_alloc] at hlt; omega)
      replace rA := rA.alloc (.cells (ws 25 fun _ => 0) 29)
      refine wpAnyH_ready (rs := [2]) (by kernel_rfl) (by simp) ?_
      refine AllReadyH.cons rfl (fun K hK => ?_) AllReadyH.nil
      go_simp
      refine (k1.out _).mono ?_
      rintro e x10 ⟨rfl, hb'⟩
      replace hb' : Below (((((x0).alloc (.cells (ws 25 fun _ => 0) 29))).alloc (.cells (ws 25 fun _ => 0) 29))).heap.size (((((x0).alloc (.cells (ws 25 fun _ => 0) 29))).alloc (.cells (ws 25 fun _ => 0) 29))) x10 := hb'
      refine hK.out _ _ ⟨range_keep hb' hHeld.1, below_keep hb' hHeld.2.1, by have := hb'.size; (try simp only [World.size_alloc] at this); have := hHeld.2.2; (try simp only [World.size_alloc] at this); omega⟩ (fun hHeld => ?_)
      clear hK K
      try simp only [List.getElem_toArray, List.getElem_cons_succ, List.getElem_cons_zero, Act.put, List.setIfInBounds_toArray, List.set_cons_zero, List.set_cons_succ]
      replace rA := rA.below hb'
      replace rB := rB.below hb'
      refine wpAnyH_ready (rs := [5]) (by kernel_rfl) (by simp) ?_
      refine AllReadyH.cons rfl (fun K hK => ?_) AllReadyH.nil
      go_simp
      refine (k2.out _).mono ?_
      rintro e x11 ⟨rfl, hb'⟩
      replace hb' : Below (x10).heap.size (x10) x11 := hb'
      refine hK.out _ _ ⟨range_keep hb' hHeld.1, below_keep hb' hHeld.2.1, by have := hb'.size; (try simp only [World.size_alloc] at this); have := hHeld.2.2; (try simp only [World.size_alloc] at this); omega⟩ (fun hHeld => ?_)
      clear hK K
      try simp only [List.getElem_toArray, List.getElem_cons_succ, List.getElem_cons_zero, Act.put, List.setIfInBounds_toArray, List.set_cons_zero, List.set_cons_succ]
      replace rA := rA.below hb'
      replace rB := rB.below hb'
      refine wpAnyH_ready (rs := [8]) (by kernel_rfl) (by simp) ?_
      refine AllReadyH.cons rfl (fun K hK => ?_) AllReadyH.nil
      rw [if_pos (by rfl)]
      refine wp_store_row 29 _ _ rfl x0.heap.size (ws 25 (rnd f0 (mark a1))) rfl rfl 29 _ rA (by rw [ws_size]; exact i5) (by rw [ws_size, ws_size]) (ws_one _ _) ?_
      have rA2 := rA.whole (ws 25 (rnd f0 (mark a1)))
      have rB2 := rB.farRow (k := x0.heap.size) (Ne.symm nAB) (ws 25 (rnd f0 (mark a1)))
      refine hK.out _ _ ⟨range_row hHeld.1 (by omega) _, below_row hHeld.2.1 (by omega) _, by simpa using hHeld.2.2⟩ (fun hHeld => ?_)
      clear hK K
      try simp only [List.getElem_toArray, List.getElem_cons_succ, List.getElem_cons_zero, Act.put, List.setIfInBounds_toArray, List.set_cons_zero, List.set_cons_succ]
      refine wpAnyH_ready (rs := [9]) (by kernel_rfl) (by simp) ?_
      refine AllReadyH.cons rfl (fun K hK => ?_) AllReadyH.nil
      rw [if_pos (by rfl)]
      refine wp_store_row 29 _ _ rfl (x0.heap.size + 1) (ws 25 (rnd f0 (mark a2))) rfl rfl 29 _ rB2 (by rw [ws_size]; exact i5) (by rw [ws_size, ws_size]) (ws_one _ _) ?_
      refine hK.out _ _ ⟨range_row hHeld.1 (by omega) _, below_row hHeld.2.1 (by omega) _, by simpa using hHeld.2.2⟩ (fun hHeld => ?_)
      clear hK K
      try simp only [List.getElem_toArray, List.getElem_cons_succ, List.getElem_cons_zero, Act.put, List.setIfInBounds_toArray, List.set_cons_zero, List.set_cons_succ]
      refine wpAnyH_done (by kernel_rfl) ?_ _
      go_wp2_with fail
      go_meet
      exact ⟨x0.heap.size, (x0.heap.size + 1), rfl, rfl, nAB, by omega, by omega, rA2.farRow nAB _, rB2.whole _, hHeld.2.1⟩
    refine AllReadyH.cons rfl (fun K hK => ?_) AllReadyH.nil
    go_simp
    refine hK.out _ ((x0).alloc (.cells (ws 25 fun _ => 0) 29)) ⟨World.rangeAt_alloc hHeld.1 _, hHeld.2.1.alloc hHeld.2.1.size _, by simp; have := hHeld.2.2; (try simp only [World.size_alloc] at this); omega⟩ (fun hHeld => ?_)
    clear hK K
    try simp only [List.getElem_toArray, List.getElem_cons_succ, List.getElem_cons_zero, Act.put, List.setIfInBounds_toArray, List.set_cons_zero, List.set_cons_succ]
    have rB : Row ((x0).alloc (.cells (ws 25 fun _ => 0) 29)) x0.heap.size 29 (ws 25 fun _ => 0) := Row.made _ _ _ (by simp)
    have sB : w.heap.size + 1 ≤ x0.heap.size := by have := hHeld.2.2; (try simp only [World.size_alloc] at this); omega
    refine wpAnyH_ready (rs := [2, 6]) (by kernel_rfl) (by simp) ?_
    refine AllReadyH.cons rfl (fun K hK => ?_) ?_
    · skip
      go_simp
      refine (k1.out _).mono ?_
      rintro e x12 ⟨rfl, hb'⟩
      replace hb' : Below (((x0).alloc (.cells (ws 25 fun _ => 0) 29))).heap.size (((x0).alloc (.cells (ws 25 fun _ => 0) 29))) x12 := hb'
      refine hK.out _ _ ⟨range_keep hb' hHeld.1, below_keep hb' hHeld.2.1, by have := hb'.size; (try simp only [World.size_alloc] at this); have := hHeld.2.2; (try simp only [World.size_alloc] at this); omega⟩ (fun hHeld => ?_)
      clear hK K
      try simp only [List.getElem_toArray, List.getElem_cons_succ, List.getElem_cons_zero, Act.put, List.setIfInBounds_toArray, List.set_cons_zero, List.set_cons_succ]
      replace rB := rB.below hb'
      refine wpAnyH_ready (rs := [5, 6]) (by kernel_rfl) (by simp) ?_
      refine AllReadyH.cons rfl (fun K hK => ?_) ?_
      · skip
        go_simp
        refine (k2.out _).mono ?_
        rintro e x13 ⟨rfl, hb'⟩
        replace hb' : Below (x12).heap.size (x12) x13 := hb'
        refine hK.out _ _ ⟨range_keep hb' hHeld.1, below_keep hb' hHeld.2.1, by have := hb'.size; (try simp only [World.size_alloc] at this); have := hHeld.2.2; (try simp only [World.size_alloc] at this); omega⟩ (fun hHeld => ?_)
        clear hK K
        try simp only [List.getElem_toArray, List.getElem_cons_succ, List.getElem_cons_zero, Act.put, List.setIfInBounds_toArray, List.set_cons_zero, List.set_cons_succ]
        replace rB := rB.below hb'
        refine wpAnyH_ready (rs := [6]) (by kernel_rfl) (by simp) ?_
        refine AllReadyH.cons rfl (fun K hK => ?_) AllReadyH.nil
        go_simp
        refine hK.out _ ((x13).alloc (.cells (ws 25 fun _ => 0) 29)) ⟨World.rangeAt_alloc hHeld.1 _, hHeld.2.1.alloc hHeld.2.1.size _, by simp; have := hHeld.2.2; (try simp only [World.size_alloc] at this); omega⟩ (fun hHeld => ?_)
        clear hK K
        try simp only [List.getElem_toArray, List.getElem_cons_succ, List.getElem_cons_zero, Act.put, List.setIfInBounds_toArray, List.set_cons_zero, List.set_cons_succ]
        have rA : Row ((x13).alloc (.cells (ws 25 fun _ => 0) 29)) x13.heap.size 29 (ws 25 fun _ => 0) := Row.made _ _ _ (by simp)
        have sA : w.heap.size + 1 ≤ x13.heap.size := by have := hHeld.2.2; (try simp only [World.size_alloc] at this); omega
        have nAB : x13.heap.size ≠ x0.heap.size := by have hlt := rB.lt; first | omega | (simp only [World.size_alloc] at hlt; omega)
        replace rB := rB.alloc (.cells (ws 25 fun _ => 0) 29)
        refine wpAnyH_ready (rs := [8]) (by kernel_rfl) (by simp) ?_
        refine AllReadyH.cons rfl (fun K hK => ?_) AllReadyH.nil
        rw [if_pos (by rfl)]
        refine wp_store_row 29 _ _ rfl x13.heap.size (ws 25 (rnd f0 (mark a1))) rfl rfl 29 _ rA (by rw [ws_size]; exact i5) (by rw [ws_size, ws_size]) (ws_one _ _) ?_
        have rA2 := rA.whole (ws 25 (rnd f0 (mark a1)))
        have rB2 := rB.farRow (k := x13.heap.size) (Ne.symm nAB) (ws 25 (rnd f0 (mark a1)))
        refine hK.out _ _ ⟨range_row hHeld.1 (by omega) _, below_row hHeld.2.1 (by omega) _, by simpa using hHeld.2.2⟩ (fun hHeld => ?_)
        clear hK K
        try simp only [List.getElem_toArray, List.getElem_cons_succ, List.getElem_cons_zero, Act.put, List.setIfInBounds_toArray, List.set_cons_zero, List.set_cons_succ]
        refine wpAnyH_ready (rs := [9]) (by kernel_rfl) (by simp) ?_
        refine AllReadyH.cons rfl (fun K hK => ?_) AllReadyH.nil
        rw [if_pos (by rfl)]
        refine wp_store_row 29 _ _ rfl x0.heap.size (ws 25 (rnd f0 (mark a2))) rfl rfl 29 _ rB2 (by rw [ws_size]; exact i5) (by rw [ws_size, ws_size]) (ws_one _ _) ?_
        refine hK.out _ _ ⟨range_row hHeld.1 (by omega) _, below_row hHeld.2.1 (by omega) _, by simpa using hHeld.2.2⟩ (fun hHeld => ?_)
        clear hK K
        try simp only [List.getElem_toArray, List.getElem_cons_succ, List.getElem_cons_zero, Act.put, List.setIfInBounds_toArray, List.set_cons_zero, List.set_cons_succ]
        refine wpAnyH_done (by kernel_rfl) ?_ _
        go_wp2_with fail
        go_meet
        exact ⟨x13.heap.size, x0.heap.size, rfl, rfl, nAB, by omega, by omega, rA2.farRow nAB _, rB2.whole _, hHeld.2.1⟩
      refine AllReadyH.cons rfl (fun K hK => ?_) AllReadyH.nil
      go_simp
      refine hK.out _ ((x12).alloc (.cells (ws 25 fun _ => 0) 29)) ⟨World.rangeAt_alloc hHeld.1 _, hHeld.2.1.alloc hHeld.2.1.size _, by simp; have := hHeld.2.2; (try simp only [World.size_alloc] at this); omega⟩ (fun hHeld => ?_)
      clear hK K
      try simp only [List.getElem_toArray, List.getElem_cons_succ, List.getElem_cons_zero, Act.put, List.setIfInBounds_toArray, List.set_cons_zero, List.set_cons_succ]
      have rA : Row ((x12).alloc (.cells (ws 25 fun _ => 0) 29)) x12.heap.size 29 (ws 25 fun _ => 0) := Row.made _ _ _ (by simp)
      have sA : w.heap.size + 1 ≤ x12.heap.size := by have := hHeld.2.2; (try simp only [World.size_alloc] at this); omega
      have nAB : x12.heap.size ≠ x0.heap.size := by have hlt := rB.lt; first | omega | (simp only [World.size_alloc] at hlt; omega)
      replace rB := rB.alloc (.cells (ws 25 fun _ => 0) 29)
      refine wpAnyH_ready (rs := [5]) (by kernel_rfl) (by simp) ?_
      refine AllReadyH.cons rfl (fun K hK => ?_) AllReadyH.nil
      go_simp
      refine (k2.out _).mono ?_
      rintro e x14 ⟨rfl, hb'⟩
      replace hb' : Below (((x12).alloc (.cells (ws 25 fun _ => 0) 29))).heap.size (((x12).alloc (.cells (ws 25 fun _ => 0) 29))) x14 := hb'
      refine hK.out _ _ ⟨range_keep hb' hHeld.1, below_keep hb' hHeld.2.1, by have := hb'.size; (try simp only [World.size_alloc] at this); have := hHeld.2.2; (try simp only [World.size_alloc] at this); omega⟩ (fun hHeld => ?_)
      clear hK K
      try simp only [List.getElem_toArray, List.getElem_cons_succ, List.getElem_cons_zero, Act.put, List.setIfInBounds_toArray, List.set_cons_zero, List.set_cons_succ]
      replace rA := rA.below hb'
      replace rB := rB.below hb'
      refine wpAnyH_ready (rs := [8]) (by kernel_rfl) (by simp) ?_
      refine AllReadyH.cons rfl (fun K hK => ?_) AllReadyH.nil
      rw [if_pos (by rfl)]
      refine wp_store_row 29 _ _ rfl x12.heap.size (ws 25 (rnd f0 (mark a1))) rfl rfl 29 _ rA (by rw [ws_size]; exact i5) (by rw [ws_size, ws_size]) (ws_one _ _) ?_
      have rA2 := rA.whole (ws 25 (rnd f0 (mark a1)))
      have rB2 := rB.farRow (k := x12.heap.size) (Ne.symm nAB) (ws 25 (rnd f0 (mark a1)))
      refine hK.out _ _ ⟨range_row hHeld.1 (by omega) _, below_row hHeld.2.1 (by omega) _, by simpa using hHeld.2.2⟩ (fun hHeld => ?_)
      clear hK K
      try simp only [List.getElem_toArray, List.getElem_cons_succ, List.getElem_cons_zero, Act.put, List.setIfInBounds_toArray, List.set_cons_zero, List.set_cons_succ]
      refine wpAnyH_ready (rs := [9]) (by kernel_rfl) (by simp) ?_
      refine AllReadyH.cons rfl (fun K hK => ?_) AllReadyH.nil
      rw [if_pos (by rfl)]
      refine wp_store_row 29 _ _ rfl x0.heap.size (ws 25 (rnd f0 (mark a2))) rfl rfl 29 _ rB2 (by rw [ws_size]; exact i5) (by rw [ws_size, ws_size]) (ws_one _ _) ?_
      refine hK.out _ _ ⟨range_row hHeld.1 (by omega) _, below_row hHeld.2.1 (by omega) _, by simpa using hHeld.2.2⟩ (fun hHeld => ?_)
      clear hK K
      try simp only [List.getElem_toArray, List.getElem_cons_succ, List.getElem_cons_zero, Act.put, List.setIfInBounds_toArray, List.set_cons_zero, List.set_cons_succ]
      refine wpAnyH_done (by kernel_rfl) ?_ _
      go_wp2_with fail
      go_meet
      exact ⟨x12.heap.size, x0.heap.size, rfl, rfl, nAB, by omega, by omega, rA2.farRow nAB _, rB2.whole _, hHeld.2.1⟩
    refine AllReadyH.cons rfl (fun K hK => ?_) AllReadyH.nil
    go_simp
    refine hK.out _ ((((x0).alloc (.cells (ws 25 fun _ => 0) 29))).alloc (.cells (ws 25 fun _ => 0) 29)) ⟨World.rangeAt_alloc hHeld.1 _, hHeld.2.1.alloc hHeld.2.1.size _, by simp; have := hHeld.2.2; (try simp only [World.size_alloc] at this); omega⟩ (fun hHeld => ?_)
    clear hK K
    try simp only [List.getElem_toArray, List.getElem_cons_succ, List.getElem_cons_zero, Act.put, List.setIfInBounds_toArray, List.set_cons_zero, List.set_cons_succ]
    have rA : Row ((((x0).alloc (.cells (ws 25 fun _ => 0) 29))).alloc (.cells (ws 25 fun _ => 0) 29)) (x0.heap.size + 1) 29 (ws 25 fun _ => 0) := Row.made _ _ _ (by simp)
    have sA : w.heap.size + 1 ≤ (x0.heap.size + 1) := by have := hHeld.2.2; (try simp only [World.size_alloc] at this); omega
    have nAB : (x0.heap.size + 1) ≠ x0.heap.size := by have hlt := rB.lt; first | omega | (simp only [World.size_alloc] at hlt; omega)
    replace rB := rB.alloc (.cells (ws 25 fun _ => 0) 29)
    refine wpAnyH_ready (rs := [2]) (by kernel_rfl) (by simp) ?_
    refine AllReadyH.cons rfl (fun K hK => ?_) AllReadyH.nil
    go_simp
    refine (k1.out _).mono ?_
    rintro e x15 ⟨rfl, hb'⟩
    replace hb' : Below (((((x0).alloc (.cells (ws 25 fun _ => 0) 29))).alloc (.cells (ws 25 fun _ => 0) 29))).heap.size (((((x0).alloc (.cells (ws 25 fun _ => 0) 29))).alloc (.cells (ws 25 fun _ => 0) 29))) x15 := hb'
    refine hK.out _ _ ⟨range_keep hb' hHeld.1, below_keep hb' hHeld.2.1, by have := hb'.size; (try simp only [World.size_alloc] at this); have := hHeld.2.2; (try simp only [World.size_alloc] at this); omega⟩ (fun hHeld => ?_)
    clear hK K
    try simp only [List.getElem_toArray, List.getElem_cons_succ, List.getElem_cons_zero, Act.put, List.setIfInBounds_toArray, List.set_cons_zero, List.set_cons_succ]
    replace rA := rA.below hb'
    replace rB := rB.below hb'
    refine wpAnyH_ready (rs := [5]) (by kernel_rfl) (by simp) ?_
    refine AllReadyH.cons rfl (fun K hK => ?_) AllReadyH.nil
    go_simp
    refine (k2.out _).mono ?_
    rintro e x16 ⟨rfl, hb'⟩
    replace hb' : Below (x15).heap.size (x15) x16 := hb'
    refine hK.out _ _ ⟨range_keep hb' hHeld.1, below_keep hb' hHeld.2.1, by have := hb'.size; (try simp only [World.size_alloc] at this); have := hHeld.2.2; (try simp only [World.size_alloc] at this); omega⟩ (fun hHeld => ?_)
    clear hK K
    try simp only [List.getElem_toArray, List.getElem_cons_succ, List.getElem_cons_zero, Act.put, List.setIfInBounds_toArray, List.set_cons_zero, List.set_cons_succ]
    replace rA := rA.below hb'
    replace rB := rB.below hb'
    refine wpAnyH_ready (rs := [8]) (by kernel_rfl) (by simp) ?_
    refine AllReadyH.cons rfl (fun K hK => ?_) AllReadyH.nil
    rw [if_pos (by rfl)]
    refine wp_store_row 29 _ _ rfl (x0.heap.size + 1) (ws 25 (rnd f0 (mark a1))) rfl rfl 29 _ rA (by rw [ws_size]; exact i5) (by rw [ws_size, ws_size]) (ws_one _ _) ?_
    have rA2 := rA.whole (ws 25 (rnd f0 (mark a1)))
    have rB2 := rB.farRow (k := (x0.heap.size + 1)) (Ne.symm nAB) (ws 25 (rnd f0 (mark a1)))
    refine hK.out _ _ ⟨range_row hHeld.1 (by omega) _, below_row hHeld.2.1 (by omega) _, by simpa using hHeld.2.2⟩ (fun hHeld => ?_)
    clear hK K
    try simp only [List.getElem_toArray, List.getElem_cons_succ, List.getElem_cons_zero, Act.put, List.setIfInBounds_toArray, List.set_cons_zero, List.set_cons_succ]
    refine wpAnyH_ready (rs := [9]) (by kernel_rfl) (by simp) ?_
    refine AllReadyH.cons rfl (fun K hK => ?_) AllReadyH.nil
    rw [if_pos (by rfl)]
    refine wp_store_row 29 _ _ rfl x0.heap.size (ws 25 (rnd f0 (mark a2))) rfl rfl 29 _ rB2 (by rw [ws_size]; exact i5) (by rw [ws_size, ws_size]) (ws_one _ _) ?_
    refine hK.out _ _ ⟨range_row hHeld.1 (by omega) _, below_row hHeld.2.1 (by omega) _, by simpa using hHeld.2.2⟩ (fun hHeld => ?_)
    clear hK K
    try simp only [List.getElem_toArray, List.getElem_cons_succ, List.getElem_cons_zero, Act.put, List.setIfInBounds_toArray, List.set_cons_zero, List.set_cons_succ]
    refine wpAnyH_done (by kernel_rfl) ?_ _
    go_wp2_with fail
    go_meet
    exact ⟨(x0.heap.size + 1), x0.heap.size, rfl, rfl, nAB, by omega, by omega, rA2.farRow nAB _, rB2.whole _, hHeld.2.1⟩
  case rest =>
    obtain ⟨A, B, rfl, rfl, hAB, hA, hB, rA, rB, hb⟩ := hcut
    clear k1 k2 hs1 hb2 hz1
    obtain ⟨c, hc⟩ : ∃ c, chi (turned (mixd f0)) = c := ⟨_, rfl⟩
    rw [show rnd f0 (mark a1) = iota (mark a1) c by rw [← hc]; rfl] at rA
    rw [show rnd f0 (mark a2) = iota (mark a2) c by rw [← hc]; rfl] at rB
    clear hc
    have m1 := Lib.hid (mark_any a1 w1)
    have m2 := Lib.hid (mark_any a2 w2)
    generalize mark a1 = M1 at *
    generalize mark a2 = M2 at *
    obtain ⟨x3, hx3, rA, rB, hb⟩ : ∃ x, wc.drew = x ∧ Row x A 29 (ws 25 (iota M1 c)) ∧ Row x B 29 (ws 25 (iota M2 c)) ∧ Below w.heap.size w x := ⟨_, rfl, rA, rB, Below.drew hb⟩
    have fA := rA.free 0
    have cA := (rA.cell 0).trans (ws_get _ (by decide))
    have eA := (ws_set 25 (iota M1 c) 0 (iota M1 c 0 ^^^ M1)).trans (ws_congr fun i _ => iota_twice M1 c i)
    have rA2 := rA.put 0 (wv (iota M1 c 0 ^^^ M1))
    rw [eA] at rA2
    have rB1 := rB.far (p := ⟨A, 0, none⟩) (Ne.symm hAB) (wv (iota M1 c 0 ^^^ M1))
    have hb1 := Below.setCell (a := w) (p := ⟨A, 0, none⟩) hb hA (wv (iota M1 c 0 ^^^ M1))
    have eB := (ws_set 25 (iota M2 c) 0 (iota M2 c 0 ^^^ M2)).trans (ws_congr fun i _ => iota_twice M2 c i)
    clear eA rA rB hb
    go_wp2_with fail
    refine wp_region_still_tail 5 (by kernel_rfl) (by kernel_rfl) ?_
    simp only [List.take_succ_cons, List.take_zero, List.drop_succ_cons, List.drop_zero]
    change wpStill _ _ wc.drew _ _ _
    rw [hx3]
    repeat (first | still_step | still_call ((m1.out _).mono fun _ _ h => ⟨h.1, h.2.symm⟩))
    refine wpStill_nil ?_
    change wpList _ _ _ _ _ wc.drew
    rw [hx3]
    clear hx3
    go_wp2_with fail
    obtain ⟨x4, hx4, rA, rB, hb⟩ : ∃ x, (World.setCell x3 ⟨A, 0, none⟩ (wv (iota M1 c 0 ^^^ M1))).drew = x ∧ Row x A 29 (ws 25 c) ∧ Row x B 29 (ws 25 (iota M2 c)) ∧ Below w.heap.size w x := ⟨_, rfl, rA2, rB1, Below.drew hb1⟩
    clear rA2 rB1 hb1 fA cA
    have fB := rB.free 0
    have cB := (rB.cell 0).trans (ws_get _ (by decide))
    have rB2 := rB.put 0 (wv (iota M2 c 0 ^^^ M2))
    rw [eB] at rB2
    have rA1 := rA.far (p := ⟨B, 0, none⟩) hAB (wv (iota M2 c 0 ^^^ M2))
    have hb1 := Below.setCell (a := w) (p := ⟨B, 0, none⟩) hb hB (wv (iota M2 c 0 ^^^ M2))
    clear rA rB hb eB
    refine wp_region_still_tail 5 (by kernel_rfl) (by kernel_rfl) ?_
    simp only [List.take_succ_cons, List.take_zero, List.drop_succ_cons, List.drop_zero]
    change wpStill _ _ (World.setCell x3 ⟨A, 0, none⟩ (wv (iota M1 c 0 ^^^ M1))).drew _ _ _
    rw [hx4]
    repeat (first | still_step | still_call ((m2.out _).mono fun _ _ h => ⟨h.1, h.2.symm⟩))
    refine wpStill_nil ?_
    change wpList _ _ _ _ _ (World.setCell x3 ⟨A, 0, none⟩ (wv (iota M1 c 0 ^^^ M1))).drew
    rw [hx4]
    clear hx4
    have q1 := eql_ws c c
    have q2 := eqg_ws c c
    go_wp2_with (first
      | (refine wpList_load_row_g (by rfl) 29 _ rfl A rfl 29 (ws 25 c) (0, 0) _ rA1 lanesT rfl (by rw [ws_size]; exact i5) ?_)
      | (refine wpList_load_row_g (by rfl) 29 _ rfl B rfl 29 (ws 25 c) (0, 0) _ rB2 lanesT rfl (by rw [ws_size]; exact i5) ?_))
    go_wp2
    go_ret
    exact ⟨by simp, hb1⟩

set_option maxRecDepth 100000 in
/-- The step of the row. -/
theorem lifted (os : Os) (started : os.Started) (H : Type) (enc : TypeId × Value → H) :
    ReturnsInHanded {} Try.checked os 10 .any (Rows.keccakFirstSpec.pre6 enc Try.prog Try.f10 Rows.keccakFirstRow.domain false) (Rows.keccakFirstSpec.post enc Try.prog Try.f10 false true false false) := by
  refine returnsInHanded_of_change (C := Try.checked) own started (by kernel_rfl) Try.func10
    (ChangeSpec.witness6 (enc := enc) (C := Try.checked) false ⟨#[], #[.agg (ws 25 fun _ => 0), .int .i64 0, .int .i64 0], []⟩ 8 (by kernel_rfl) (by kernel_rfl) (by kernel_rfl) (by kernel_rfl)) ?_
  intro W base args ds gs before hval0 hW hcnd _
  have hval : ∀ (j : Nat) t v, Try.f10.params[j]? = some t → args[j]? = some v → Value.okWide Try.prog W .any base t v := hval0
  have hW' := hW
  obtain ⟨p, q, hA0, hV, rfl, hfz, hnd⟩ := hW
  have hA : DataW.TrodAll enc Try.prog W 0 (fun _ => true) true Try.f10.params.toList args.toList ds p := hA0
  rw [Try.params10] at hA hval
  obtain ⟨v0, vs0, d0, ds0, p0, q0, hargs, rfl, rfl, h0, r0⟩ := trodAll_cons hA
  obtain ⟨v1, vs1, d1, ds1, p1, q1, rfl, rfl, rfl, h1, r1⟩ := trodAll_cons r0
  obtain ⟨v2, vs2, d2, ds2, p2, q2, rfl, rfl, rfl, h2, r2⟩ := trodAll_cons r1
  obtain ⟨rfl, rfl, rfl⟩ := trodAll_nil r2
  obtain rfl : args = #[v0, v1, v2] := by cases args; simp_all
  obtain ⟨rfl, rfl⟩ := trodVars_none hV
  have k0 := h0
  have lt0 : ∀ x ∈ p0, x.block < W.heap.size := by obtain ⟨m, hm⟩ := k0; exact DataW.trod_lt m _ _ _ hm
  have k1 := h1
  have lt1 : ∀ x ∈ p1, x.block < W.heap.size := by obtain ⟨m, hm⟩ := k1; exact DataW.trod_lt m _ _ _ hm
  have k2 := h2
  have lt2 : ∀ x ∈ p2, x.block < W.heap.size := by obtain ⟨m, hm⟩ := k2; exact DataW.trod_lt m _ _ _ hm
  obtain ⟨f0, rfl⟩ := open_words Try.underlying29 Try.underlying25 (by kernel_rfl) (by kernel_rfl) (hval 0 29 v0 rfl rfl) h0
  obtain ⟨a1, rfl, rfl, rfl, w1⟩ := open_int Try.underlying3 (hval 1 3 v1 rfl rfl) h1
  obtain ⟨a2, rfl, rfl, rfl, w2⟩ := open_int Try.underlying3 (hval 2 3 v2 rfl rfl) h2
  clear hA0 hval0
  refine (walk f0 a1 a2 W w1 w2).mono fun e W' ⟨he, bel⟩ => ?_
  subst he
  exact ⟨_, rfl, _, _, _, [], _, [], hW', trodAll_mk1 (shut_bool Try.underlying4 _), (trodAll_cons_mk (Below.trod laidOut (by kernel_rfl) (of_decide_eq_true (by kernel_rfl)) k0 bel lt0) (trodAll_cons_mk (Below.trod laidOut (by kernel_rfl) (of_decide_eq_true (by kernel_rfl)) k1 bel lt1) (trodAll_cons_mk (Below.trod laidOut (by kernel_rfl) (of_decide_eq_true (by kernel_rfl)) k2 bel lt2) trodAll_mk0))), rfl, bel.frame _, fun h => by cases h⟩

theorem over : Rows.keccakFirstRow.holds Try.pinned (OpenSpec.ofChange Rows.keccakFirstSpec) :=
  OpenClaim.holds_of_wide 10 Try.f10 rfl rfl rfl rfl rfl rfl rfl ⟨rfl, rfl, rfl, rfl, rfl⟩ rfl rfl rfl rfl rfl (by kernel_rfl) Try.func10 (by kernel_rfl)
    (of_decide_eq_true (by kernel_rfl)) (by unfold Func.isWrapper; first | (rw [if_pos (by decide +kernel)]; kernel_rfl) | (rw [if_neg (by decide +kernel)]; exact ⟨rfl, rfl⟩))
    (fun os started H enc _ => lifted os started H enc)

/-- The statement. -/
theorem proved : Rows.KeccakFirstSaid := over
#print axioms proved
end Go.Proofs.Ytepebebkndfefaa.keccakFirst
