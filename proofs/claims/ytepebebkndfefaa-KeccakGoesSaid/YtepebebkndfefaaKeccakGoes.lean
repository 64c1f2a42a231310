/-
  The law KeccakGoes of the given program: for every input the call returns true, and each argument reads behind the call as it read before. No condition on the input. (The frame is after the proof skeleton of the kit, the walk by hand.)
-/
import Derived.Test.YtepebebkndfefaaRows
import Derived.Test.YtepebebkndfefaaKLaws
import Derived.Deep.DeepCutAuto
import Derived.Test.YtepebebkndfefaaKOpen
import Derived.WalkKit
import Derived.ProofKit
import Derived.OpenShut
import Derived.ShutString
import Derived.ChangeOld
import Derived.Below
namespace Go.Proofs.Ytepebebkndfefaa.keccakGoes
open Go.ChangeShapes Go.WideShapes Go.ChangeAt Go.RowKit
open Go.ChangeMaps (open_string shut_string)
set_option linter.unusedVariables false
set_option linter.unusedSimpArgs false

theorem own : ownKnob Try.prog.godebug = none := by kernel_rfl
theorem laidOut : laidOutB Try.prog = true := by kernel_rfl

set_option maxHeartbeats 2000000 in
set_option maxRecDepth 100000 in
/-- The walk. -/
theorem walk (f0 : Nat → W64) (w : World)  :
    Calls Try.prog 8 #[.agg (ws 25 f0)] w fun e w' => e = .returned (.bool true) ∧ Below w.heap.size w w' := by
  have hx0 : Row ((w.alloc (.cells (ws 25 f0) 29)).alloc (.cells (ws 25 fun _ => 0) 29)) (w.heap.size + 1) 29 (ws 25 fun _ => 0) := Row.made _ _ _ (by simp)
  go_enter Try.func8, Try.ntmps8
  go_wp2_with (first
    | (refine wpList_load_row rfl 29 _ rfl w.heap.size rfl 29 (ws 25 f0) (0, 0) _ (Row.new w 29 (ws 25 f0)) lanesT rfl (by rw [ws_size]; exact i5) ?_)
    | (refine wpList_store_row rfl 29 _ _ rfl (w.heap.size + 1) (ws 25 f0) rfl rfl 29 _ hx0 (by rw [ws_size]; exact i5) (by rw [ws_size, ws_size]) (ws_one _ _) ?_))
  have hs1 := ((Row.new w 29 (ws 25 f0)).alloc (.cells (ws 25 fun _ => 0) 29)).farRow (k := w.heap.size + 1) (by omega) (ws 25 f0)
  have hx1 := hx0.whole (ws 25 f0)
  have hb1 := below_row (g := w.heap.size + 1) (((Below.refl w.heap.size w).alloc (Nat.le_refl _) (.cells (ws 25 f0) 29)).alloc (by simp) (.cells (ws 25 fun _ => 0) 29)) (by omega) (ws 25 f0)
  clear hx0
  go_loopw [6] (fun v wr => ∃ k : Nat, v = .int .i64 k ∧ k ≤ 24 ∧ Row wr w.heap.size 29 (ws 25 f0) ∧ Row wr (w.heap.size + 1) 29 (ws 25 (perm f0 k)) ∧ Below w.heap.size w wr) (fun v _ => 24 - (intOf v).toNat)
  case atStart => exact ⟨0, rfl, by omega, hs1, hx1, hb1⟩
  case round =>
    clear hs1 hx1 hb1
    obtain ⟨k, rfl, hk, hs, hx, hb⟩ := hrel
    have hsz := hb.size
    by_cases hlt : k < 24
    · go_wp2_with (first
        | (refine wpList_load_row rfl 29 _ rfl (w.heap.size + 1) rfl 29 (ws 25 (perm f0 k)) (0, 0) _ hx lanesT rfl (by rw [ws_size]; exact i5) ?_))
      refine (kround_any _ _ (by simp [Lit.wf, IntKind.min, IntKind.max, IntKind.signed, IntKind.bits]; omega) _).mono ?_
      rintro e w2 ⟨rfl, hb2⟩
      have hx2 := hx.below hb2
      go_wp2_with (first
        | (refine wpList_store_row rfl 29 _ _ rfl (w.heap.size + 1) (ws 25 (rnd (perm f0 k) (mark k))) rfl rfl 29 _ hx2 (by rw [ws_size]; exact i5) (by rw [ws_size, ws_size]) (ws_one _ _) ?_))
      go_roundw
      case rel =>
        refine ⟨k + 1, by go_num, by omega, (hs.below hb2).farRow (by omega) _, hx2.whole _, below_row (hb.trans (hb2.mono hsz)) (by omega) _⟩
      case measure => simp [intOf]; omega
    · have hk24 : k = 24 := by omega
      rw [hk24] at hx
      clear hk24
      have r1 := hs.range
      have r2 := hx.range
      have hsize1 := i5' f0
      have hsize2 := i5' (perm f0 24)
      have hT := lanesT
      obtain ⟨g, hg⟩ : ∃ g, perm f0 24 = g := ⟨_, rfl⟩
      have kp := Lib.hid (kperm_l f0)
      rw [hg] at kp r2 hsize2
      have q1 := eql_wsl g g
      have q2 := eqg_wsl g g
      clear hs hx hg hT
      go_wp2_with fail
      refine wp_region_held_drew (S := fun w' => w'.rangeAt w.heap.size 0 (wsl 25 f0) ∧ w'.rangeAt (w.heap.size + 1) 0 (wsl 25 g) ∧ Below w.heap.size w w') (by kernel_rfl) ⟨r1, r2, Below.drew hb⟩ (fun hHeld => ?_)
      clear r1 r2 hb hsz
      refine wpAnyH_ready (rs := [0]) (by kernel_rfl) (by simp) ?_
      refine AllReadyH.cons rfl (fun K hK => ?_) AllReadyH.nil
      go_simp
      refine (shown_any _).mono ?_
      rintro e w' ⟨rfl, hb'⟩
      refine hK.out _ _ ⟨range_keep hb' hHeld.1, range_keep hb' hHeld.2.1, below_keep hb' hHeld.2.2⟩ (fun hHeld => ?_)
      clear hK K
      try simp only [List.getElem_toArray, List.getElem_cons_succ, List.getElem_cons_zero, Act.put, List.setIfInBounds_toArray, List.set_cons_zero, List.set_cons_succ]
      refine wpAnyH_take (i := 1) (v := ?_) rfl (by kernel_rfl) (by kernel_rfl) (by kernel_rfl) (fun _ _ _ h => h) (Or.inl ⟨by rfl, ?_⟩) hHeld ?_
      rotate_left
      · intro w hSw
        go_simp
        try rfl
      try simp only [List.getElem_toArray, List.getElem_cons_succ, List.getElem_cons_zero, Act.put, List.setIfInBounds_toArray, List.set_cons_zero, List.set_cons_succ]
      refine wpAnyH_take (i := 2) rfl (by kernel_rfl) (by kernel_rfl) (by kernel_rfl) (fun _ _ _ h => h) (yieldsIf_load_mid (by rfl) _ _ rfl _ _ rfl (wsl 25 f0) _ (fun _ h => h.1) lanesT rfl hsize1) hHeld ?_
      try simp only [List.getElem_toArray, List.getElem_cons_succ, List.getElem_cons_zero, Act.put, List.setIfInBounds_toArray, List.set_cons_zero, List.set_cons_succ]
      refine wpAnyH_take (i := 4) rfl (by kernel_rfl) (by kernel_rfl) (by kernel_rfl) (fun _ _ _ h => h) (yieldsIf_load_mid (by rfl) _ _ rfl _ _ rfl (wsl 25 g) _ (fun _ h => h.2.1) lanesT rfl hsize2) hHeld ?_
      try simp only [List.getElem_toArray, List.getElem_cons_succ, List.getElem_cons_zero, Act.put, List.setIfInBounds_toArray, List.set_cons_zero, List.set_cons_succ]
      refine wpAnyH_ready (rs := [3]) (by kernel_rfl) (by simp) ?_
      refine AllReadyH.cons rfl (fun K hK => ?_) AllReadyH.nil
      go_simp
      refine (kp.out _).mono ?_
      rintro e w' ⟨rfl, hb'⟩
      refine hK.out _ _ ⟨range_keep hb' hHeld.1, range_keep hb' hHeld.2.1, below_keep hb' hHeld.2.2⟩ (fun hHeld => ?_)
      clear hK K
      try simp only [List.getElem_toArray, List.getElem_cons_succ, List.getElem_cons_zero, Act.put, List.setIfInBounds_toArray, List.set_cons_zero, List.set_cons_succ]
      refine wpAnyH_take (i := 5) (v := ?_) rfl (by kernel_rfl) (by kernel_rfl) (by kernel_rfl) (fun _ _ _ h => h) (Or.inl ⟨by rfl, ?_⟩) hHeld ?_
      rotate_left
      · intro w hSw
        go_simp
        try rfl
      try simp only [List.getElem_toArray, List.getElem_cons_succ, List.getElem_cons_zero, Act.put, List.setIfInBounds_toArray, List.set_cons_zero, List.set_cons_succ]
      refine wpAnyH_take (i := 6) (v := ?_) rfl (by kernel_rfl) (by kernel_rfl) (by kernel_rfl) (fun _ _ _ h => h) (Or.inl ⟨by rfl, ?_⟩) hHeld ?_
      rotate_left
      · intro w hSw
        go_simp
        try rfl
      try simp only [List.getElem_toArray, List.getElem_cons_succ, List.getElem_cons_zero, Act.put, List.setIfInBounds_toArray, List.set_cons_zero, List.set_cons_succ]
      refine wpAnyH_take (i := 7) (v := ?_) rfl (by kernel_rfl) (by kernel_rfl) (by kernel_rfl) (fun _ _ _ h => h) (Or.inl ⟨by rfl, ?_⟩) hHeld ?_
      rotate_left
      · intro w hSw
        go_simp
        try rfl
      try simp only [List.getElem_toArray, List.getElem_cons_succ, List.getElem_cons_zero, Act.put, List.setIfInBounds_toArray, List.set_cons_zero, List.set_cons_succ]
      refine wpAnyH_done (by kernel_rfl) ?_ _
      go_wp2
      go_ret
      exact ⟨by simp, hHeld.2.2⟩

set_option maxRecDepth 100000 in
/-- The step of the row. -/
theorem lifted (os : Os) (started : os.Started) (H : Type) (enc : TypeId × Value → H) :
    ReturnsInHanded {} Try.checked os 8 .any (Rows.keccakGoesSpec.pre6 enc Try.prog Try.f8 Rows.keccakGoesRow.domain false) (Rows.keccakGoesSpec.post enc Try.prog Try.f8 false true false false) := by
  refine returnsInHanded_of_change (C := Try.checked) own started (by kernel_rfl) Try.func8
    (ChangeSpec.witness6 (enc := enc) (C := Try.checked) false ⟨#[], #[.agg (ws 25 fun _ => 0)], []⟩ 8 (by kernel_rfl) (by kernel_rfl) (by kernel_rfl) (by kernel_rfl)) ?_
  intro W base args ds gs before hval0 hW hcnd _
  have hval : ∀ (j : Nat) t v, Try.f8.params[j]? = some t → args[j]? = some v → Value.okWide Try.prog W .any base t v := hval0
  have hW' := hW
  obtain ⟨p, q, hA0, hV, rfl, hfz, hnd⟩ := hW
  have hA : DataW.TrodAll enc Try.prog W 0 (fun _ => true) true Try.f8.params.toList args.toList ds p := hA0
  rw [Try.params8] at hA hval
  obtain ⟨v0, vs0, d0, ds0, p0, q0, hargs, rfl, rfl, h0, r0⟩ := trodAll_cons hA
  obtain ⟨rfl, rfl, rfl⟩ := trodAll_nil r0
  obtain rfl : args = #[v0] := by cases args; simp_all
  obtain ⟨rfl, rfl⟩ := trodVars_none hV
  have k0 := h0
  have lt0 : ∀ x ∈ p0, x.block < W.heap.size := by obtain ⟨m, hm⟩ := k0; exact DataW.trod_lt m _ _ _ hm
  obtain ⟨f0, rfl⟩ := open_words Try.underlying29 Try.underlying25 (by kernel_rfl) (by kernel_rfl) (hval 0 29 v0 rfl rfl) h0
  clear hA0 hval0
  refine (walk f0 W ).mono fun e W' ⟨he, bel⟩ => ?_
  subst he
  exact ⟨_, rfl, _, _, _, [], _, [], hW', trodAll_mk1 (shut_bool Try.underlying4 _), (trodAll_cons_mk (Below.trod laidOut (by kernel_rfl) (of_decide_eq_true (by kernel_rfl)) k0 bel lt0) trodAll_mk0), rfl, bel.frame _, fun h => by cases h⟩

theorem over : Rows.keccakGoesRow.holds Try.pinned (OpenSpec.ofChange Rows.keccakGoesSpec) :=
  OpenClaim.holds_of_wide 8 Try.f8 rfl rfl rfl rfl rfl rfl rfl ⟨rfl, rfl, rfl, rfl, rfl⟩ rfl rfl rfl rfl rfl (by kernel_rfl) Try.func8 (by kernel_rfl)
    (of_decide_eq_true (by kernel_rfl)) (by unfold Func.isWrapper; first | (rw [if_pos (by decide +kernel)]; kernel_rfl) | (rw [if_neg (by decide +kernel)]; exact ⟨rfl, rfl⟩))
    (fun os started H enc _ => lifted os started H enc)

/-- The statement. -/
theorem proved : Rows.KeccakGoesSaid := over
#print axioms proved
end Go.Proofs.Ytepebebkndfefaa.keccakGoes
