/-
  The law LzUnpacks of the given program: for every input the call returns true, and each argument reads behind the call as it read before. No condition on the input. (The frame is after the proof skeleton of the kit, the walk by hand.)
-/
import Derived.Test.YthbniljkgdkdnaaRows
import Derived.Test.YthbniljkgdkdnaaLzShown
import Derived.Test.YthbniljkgdkdnaaLzRefUn
import Derived.WalkKit
import Derived.ProofKit
import Derived.OpenShut
import Derived.ShutString
import Derived.ChangeOld
import Derived.Below
namespace Go.Proofs.Ythbniljkgdkdnaa.lzUnpacks
open Go.ChangeShapes Go.WideShapes Go.ChangeAt Go.RowKit
open Go.ChangeMaps (open_string shut_string)
set_option linter.unusedVariables false
set_option linter.unusedSimpArgs false

theorem own : ownKnob Try.prog.godebug = none := by kernel_rfl
theorem laidOut : laidOutB Try.prog = true := by kernel_rfl

/-- A slice of integers that came in: nil; or a row of cells, as many as its capacity, that fit their kind. -/
def IsRow (k : IntKind) (w : World) (a : Option Addr) (len cap : Nat) (zs : List Int) : Prop :=
  (a = none ∧ len = 0 ∧ cap = 0 ∧ zs = []) ∨
  ∃ x, a = some x ∧ len ≤ cap ∧ cap ≤ maxLen ∧ zs.length = cap ∧ (∀ i, i < zs.length → w.cell? (x.add i) = some (.int k (zs.getD i 0))) ∧ ∀ n ∈ zs, (Lit.int k n).wf = true

set_option maxHeartbeats 2000000 in
set_option maxRecDepth 100000 in
/-- The walk. -/
theorem walk (a0 : Option Addr) (len0 cap0 : Nat) (z0 : List Int) (a1 : Int) (w : World) (w0 : IsRow .u8 w a0 len0 cap0 z0) (w1 : (Lit.int .i64 a1).wf = true) :
    Calls Try.prog 4 #[.slice a0 len0 cap0, .int .i64 a1] w fun e w' => e = .returned (.bool true) ∧ Below w.heap.size w w' := by
  obtain ⟨bs, rfl, hc, hm, hb⟩ := bytes_of_ints w0
  have hm' := hm
  unfold maxLen at hm
  have b1 := bounds_i64 w1
  have hmin : (bs.take 5000).length = min bs.length 5000 := by simp; omega
  have hb' := hb.take 5000
  have hn : min bs.length 5000 ≤ 5000 := by omega
  have hnc : min bs.length 5000 ≤ cap0 := by omega
  have hi1 : min (bs.length : Int) 5000 = ((min bs.length 5000 : Nat) : Int) := by omega
  have hxl := Lib.hid hmin
  clear hmin w0 w1
  generalize min bs.length 5000 = n at *
  generalize bs.take 5000 = xs at *
  have r1 := fun w => run_slice_hi (P := Try.prog) (T := 22) (E := 5) Try.underlying22 (by kernel_rfl) w a0 bs.length cap0 n (by omega)
  obtain ⟨N, hN⟩ : ∃ N, min a1 100000 = N := ⟨_, rfl⟩
  have k1 := fun w h => unpack_rd a0 n cap0 xs N w hxl.out hnc hm' h (by omega) (by omega) (by omega)
  have k2 := fun w h => runpack_rd a0 n cap0 xs N w hxl.out hnc hm' h (by omega) (by omega) (by omega)
  obtain ⟨U, hU⟩ : ∃ U, unpB xs N = U := ⟨_, rfl⟩
  rw [hU] at k1 k2
  obtain ⟨ys, er⟩ := U
  dsimp only at k1 k2
  obtain ⟨m, hm2⟩ : ∃ m, ys.length = m := ⟨_, rfl⟩
  rw [hm2] at k1 k2
  replace hm2 := Lib.hid hm2
  replace k1 := Lib.hid k1
  replace k2 := Lib.hid k2
  clear hU
  go_enter Try.func4, Try.ntmps4
  go_wp2_with fail
  refine (shown_any _).mono ?_
  rintro e v1 ⟨rfl, hb1⟩
  go_wp2_with fail
  refine (k1.out _ (Rd.below hb' hb1)).mono ?_
  rintro e v2 ⟨A2, c2, rfl, _, _, hrd2, hb2⟩
  have hb3 := hb1.trans (hb2.mono hb1.size)
  clear hb2 hb1
  go_wp2_with fail
  refine (k2.out _ (Rd.below hb' hb3)).mono ?_
  rintro e v3 ⟨A3, c3, rfl, hrd3, hb4⟩
  have hb5 := hb3.trans (hb4.mono hb3.size)
  have s1 := run_str v3 A2 m c2 ys hm2.out (Bs.below hrd2 hb4)
  have s2 := run_str v3 A3 m c3 ys hm2.out hrd3
  clear hb3 hb4 hrd2 hrd3 k1 k2
  go_wp2
  go_ret
  exact ⟨by simp, hb5⟩

set_option maxRecDepth 100000 in
/-- The step of the row. -/
theorem lifted (os : Os) (started : os.Started) (H : Type) (enc : TypeId × Value → H) :
    ReturnsInHanded {} Try.checked os 4 .any (Rows.lzUnpacksSpec.pre6 enc Try.prog Try.f4 Rows.lzUnpacksRow.domain false) (Rows.lzUnpacksSpec.post enc Try.prog Try.f4 false true false false) := by
  refine returnsInHanded_of_change (C := Try.checked) own started (by kernel_rfl) Try.func4
    (ChangeSpec.witness6 (enc := enc) (C := Try.checked) false ⟨#[], #[.slice none 0 0, .int .i64 0], []⟩ 8 (by kernel_rfl) (by kernel_rfl) (by kernel_rfl) (by kernel_rfl)) ?_
  intro W base args ds gs before hval0 hW hcnd _
  have hval : ∀ (j : Nat) t v, Try.f4.params[j]? = some t → args[j]? = some v → Value.okWide Try.prog W .any base t v := hval0
  have hW' := hW
  obtain ⟨p, q, hA0, hV, rfl, hfz, hnd⟩ := hW
  have hA : DataW.TrodAll enc Try.prog W 0 (fun _ => true) true Try.f4.params.toList args.toList ds p := hA0
  rw [Try.params4] at hA hval
  obtain ⟨v0, vs0, d0, ds0, p0, q0, hargs, rfl, rfl, h0, r0⟩ := trodAll_cons hA
  obtain ⟨v1, vs1, d1, ds1, p1, q1, rfl, rfl, rfl, h1, r1⟩ := trodAll_cons r0
  obtain ⟨rfl, rfl, rfl⟩ := trodAll_nil r1
  obtain rfl : args = #[v0, v1] := by cases args; simp_all
  obtain ⟨rfl, rfl⟩ := trodVars_none hV
  have k0 := h0
  have lt0 : ∀ x ∈ p0, x.block < W.heap.size := by obtain ⟨m, hm⟩ := k0; exact DataW.trod_lt m _ _ _ hm
  have k1 := h1
  have lt1 : ∀ x ∈ p1, x.block < W.heap.size := by obtain ⟨m, hm⟩ := k1; exact DataW.trod_lt m _ _ _ hm
  obtain ⟨a0, len0, cap0, rfl⟩ := okWide_slice Try.underlying22 (hval 0 22 v0 rfl rfl)
  obtain ⟨z0, w0⟩ : ∃ zs, IsRow .u8 W a0 len0 cap0 zs := by
    obtain ⟨fuel, hf⟩ := h0
    rcases open_ints Try.underlying22 Try.underlying5 (by kernel_rfl) hf with ⟨hcs, _⟩ | ⟨x, l, c, zs, hcs, _, hl, hm, hz, _, hcell, hwz⟩
    · simp [Value.cells] at hcs
      obtain ⟨rfl, rfl, rfl⟩ := hcs
      exact ⟨[], .inl ⟨rfl, rfl, rfl, rfl⟩⟩
    · simp [Value.cells] at hcs
      obtain ⟨rfl, rfl, rfl⟩ := hcs
      exact ⟨zs, .inr ⟨_, rfl, hl, hm, by simpa using hz, hcell, hwz⟩⟩
  obtain ⟨a1, rfl, rfl, rfl, w1⟩ := open_int Try.underlying3 (hval 1 3 v1 rfl rfl) h1
  clear hA0 hval0
  refine (walk a0 len0 cap0 z0 a1 W w0 w1).mono fun e W' ⟨he, bel⟩ => ?_
  subst he
  exact ⟨_, rfl, _, _, _, [], _, [], hW', trodAll_mk1 (shut_bool Try.underlying4 _), (trodAll_cons_mk (Below.trod laidOut (by kernel_rfl) (of_decide_eq_true (by kernel_rfl)) k0 bel lt0) (trodAll_cons_mk (Below.trod laidOut (by kernel_rfl) (of_decide_eq_true (by kernel_rfl)) k1 bel lt1) trodAll_mk0)), rfl, bel.frame _, fun h => by cases h⟩

theorem over : Rows.lzUnpacksRow.holds Try.pinned (OpenSpec.ofChange Rows.lzUnpacksSpec) :=
  OpenClaim.holds_of_wide 4 Try.f4 rfl rfl rfl rfl rfl rfl rfl ⟨rfl, rfl, rfl, rfl, rfl⟩ rfl rfl rfl rfl rfl (by kernel_rfl) Try.func4 (by kernel_rfl)
    (of_decide_eq_true (by kernel_rfl)) (by unfold Func.isWrapper; first | (rw [if_pos (by decide +kernel)]; kernel_rfl) | (rw [if_neg (by decide +kernel)]; exact ⟨rfl, rfl⟩))
    (fun os started H enc _ => lifted os started H enc)

/-- The statement. -/
theorem proved : Rows.LzUnpacksSaid := over
#print axioms proved
end Go.Proofs.Ythbniljkgdkdnaa.lzUnpacks
