/-
  The law LzKinds of the given program: for every input the call returns true, and each argument reads behind the call as it read before. No condition on the input. (The frame is after the proof skeleton of the kit, the walk by hand.)
-/
import Derived.Test.YthbniljkgdkdnaaRows
import Derived.Test.YthbniljkgdkdnaaLzShown
import Derived.WalkKit
import Derived.ProofKit
import Derived.OpenShut
import Derived.ShutString
import Derived.ChangeOld
import Derived.Below
namespace Go.Proofs.Ythbniljkgdkdnaa.lzKinds
open Go.ChangeShapes Go.WideShapes Go.ChangeAt Go.RowKit
open Go.ChangeMaps (open_string shut_string)
set_option linter.unusedVariables false
set_option linter.unusedSimpArgs false

theorem own : ownKnob Try.prog.godebug = none := by kernel_rfl
theorem laidOut : laidOutB Try.prog = true := by kernel_rfl

/-- A slice of integers that came in: nil; or a row of cells, as many as its capacity, that fit their kind. -/
def IsRow (k : IntKind) (w : World) (a : Option Addr) (len cap : Nat) (zs : List Int) : Prop :=
  (a = none ∧ len = 0 ∧ cap = 0 ∧ zs = []) ∨
  ∃ x, a = some x ∧ len ≤ cap ∧ cap ≤ maxLen ∧ zs.length = cap ∧ (∀ i, i < zs.length → w.cell? (x.add i) = some (.int k (zs.getD i 0))) ∧ ∀ n ∈ zs, (Lit.int k n).wf = true

set_option maxHeartbeats 2000000 in
set_option maxRecDepth 100000 in
/-- The walk. -/
theorem walk (a0 : Option Addr) (len0 cap0 : Nat) (z0 : List Int) (w : World) (w0 : IsRow .u8 w a0 len0 cap0 z0) :
    Calls Try.prog 8 #[.slice a0 len0 cap0] w fun e w' => e = .returned (.bool true) ∧ Below w.heap.size w w' := by
  obtain ⟨bs, rfl, hc, hm, hb⟩ := bytes_of_ints w0
  have hm' := hm
  unfold maxLen at hm
  have hmin : (bs.take 3000).length = min bs.length 3000 := by simp; omega
  have hb' := hb.take 3000
  have hn : min bs.length 3000 ≤ 3000 := by omega
  have hnc : min bs.length 3000 ≤ cap0 := by omega
  have hi1 : min (bs.length : Int) 3000 = ((min bs.length 3000 : Nat) : Int) := by omega
  have hxl := Lib.hid hmin
  clear hmin w0
  generalize min bs.length 3000 = n at *
  generalize bs.take 3000 = xs at *
  have r1 := fun w => run_slice_hi (P := Try.prog) (T := 22) (E := 5) Try.underlying22 (by kernel_rfl) w a0 bs.length cap0 n (by omega)
  have k1 := fun w h => pack_rd a0 n cap0 xs w hxl.out hnc hm' h (by omega)
  have kinds := pack_kinds xs
  have hnb : (n : Int) ≤ 3000 := by omega
  rcases kinds with hp | ⟨t, hp, ht⟩
  · rw [hp] at k1
    simp only [List.length_cons, hxl.out] at k1
    replace k1 := Lib.hid k1
    clear hp
    have e0 : (((n + 1 : Nat) : Int) == 0) = false := beq_false_of_ne (by omega)
    have e0' : ((n : Int) + 1 == 0) = false := beq_false_of_ne (by omega)
    go_enter Try.func8, Try.ntmps8
    go_wp2_with fail
    refine (shown_any _).mono ?_
    rintro e v1 ⟨rfl, hb1⟩
    go_wp2_with fail
    refine (k1.out _ (Rd.below hb' hb1)).mono ?_
    rintro e v2 ⟨A2, c2, rfl, hle, hmx, hrd, hb2⟩
    have hb3 := hb1.trans (hb2.mono hb1.size)
    obtain ⟨ad, hA2, c0⟩ := hrd.at_ 0 (by simp)
    subst hA2
    have ead : ad.add 0 = ad := by unfold Addr.add; simp
    rw [ead] at c0
    clear ead
    replace c0 : v2.cell? ad = some (.int .u8 0) := c0
    have hcut := Bs.cut hrd 1 c2 (by simpa [hxl.out] using hle)
    have r2 : ∀ w, (Instr.slice 22 (.slice (some ad) (n + 1) c2) (some (.int .i64 1)) none none).run Try.prog w = .ok (.slice (if c2 = 1 then some ad else (some ad).map (·.add 1)) n (c2 - 1)) w := fun w => run_slice_lo (P := Try.prog) (T := 22) (E := 5) Try.underlying22 (by kernel_rfl) w (some ad) (n + 1) c2 1 (by omega) hle
    obtain ⟨A3, hA3⟩ : ∃ A3, (if c2 = 1 then some ad else (some ad).map (·.add 1)) = A3 := ⟨_, rfl⟩
    rw [hA3] at r2 hcut
    clear hA3
    replace hcut : Bs v2 A3 xs := hcut
    have s1 := fun q => run_str (v2.drewN q) A3 n (c2 - 1) xs hxl.out hcut
    have s2 := fun q => run_str (v2.drewN q) a0 n cap0 xs hxl.out (Bs.drewN (Rd.below hb' hb3) q)
    have s1' := run_str v2 A3 n (c2 - 1) xs hxl.out hcut
    have s2' := run_str v2 a0 n cap0 xs hxl.out (Rd.below hb' hb3)
    clear hb1 hb2 hrd hcut
    go_wp2_with fail
    go_quiet (fail)
    go_wp2
    go_ret
    exact ⟨by simp, hb3.drewN _⟩
  · rw [hp] at k1
    simp only [List.length_cons] at k1
    replace k1 := Lib.hid k1
    clear hp
    have htn : t.length + 1 ≤ n := by have := hxl.out; omega
    obtain ⟨m, hm1⟩ : ∃ m, t.length + 1 = m := ⟨_, rfl⟩
    rw [hm1] at k1 htn
    have e0 : ((m : Int) == 0) = false := beq_false_of_ne (by omega)
    have m0 : 0 < m := by omega
    have m0i : (0 : Int) < (m : Int) := by omega
    have e1 : decide (m ≤ n) = true := by simp; omega
    have e2 : decide ((m : Int) ≤ (n : Int)) = true := by simp; omega
    clear hm1
    go_enter Try.func8, Try.ntmps8
    go_wp2_with fail
    refine (shown_any _).mono ?_
    rintro e v1 ⟨rfl, hb1⟩
    go_wp2_with fail
    refine (k1.out _ (Rd.below hb' hb1)).mono ?_
    rintro e v2 ⟨A2, c2, rfl, hle, hmx, hrd, hb2⟩
    have hb3 := hb1.trans (hb2.mono hb1.size)
    obtain ⟨ad, hA2, c0⟩ := hrd.at_ 0 (by simp)
    subst hA2
    have ead : ad.add 0 = ad := by unfold Addr.add; simp
    rw [ead] at c0
    clear ead
    replace c0 : v2.cell? ad = some (.int .u8 1) := c0
    clear hb1 hb2 hrd
    go_wp2_with fail
    go_quiet (fail)
    go_wp2
    go_ret
    exact ⟨by simp, hb3.drewN _⟩

set_option maxRecDepth 100000 in
/-- The step of the row. -/
theorem lifted (os : Os) (started : os.Started) (H : Type) (enc : TypeId × Value → H) :
    ReturnsInHanded {} Try.checked os 8 .any (Rows.lzKindsSpec.pre6 enc Try.prog Try.f8 Rows.lzKindsRow.domain false) (Rows.lzKindsSpec.post enc Try.prog Try.f8 false true false false) := by
  refine returnsInHanded_of_change (C := Try.checked) own started (by kernel_rfl) Try.func8
    (ChangeSpec.witness6 (enc := enc) (C := Try.checked) false ⟨#[], #[.slice none 0 0], []⟩ 8 (by kernel_rfl) (by kernel_rfl) (by kernel_rfl) (by kernel_rfl)) ?_
  intro W base args ds gs before hval0 hW hcnd _
  have hval : ∀ (j : Nat) t v, Try.f8.params[j]? = some t → args[j]? = some v → Value.okWide Try.prog W .any base t v := hval0
  have hW' := hW
  obtain ⟨p, q, hA0, hV, rfl, hfz, hnd⟩ := hW
  have hA : DataW.TrodAll enc Try.prog W 0 (fun _ => true) true Try.f8.params.toList args.toList ds p := hA0
  rw [Try.params8] at hA hval
  obtain ⟨v0, vs0, d0, ds0, p0, q0, hargs, rfl, rfl, h0, r0⟩ := trodAll_cons hA
  obtain ⟨rfl, rfl, rfl⟩ := trodAll_nil r0
  obtain rfl : args = #[v0] := by cases args; simp_all
  obtain ⟨rfl, rfl⟩ := trodVars_none hV
  have k0 := h0
  have lt0 : ∀ x ∈ p0, x.block < W.heap.size := by obtain ⟨m, hm⟩ := k0; exact DataW.trod_lt m _ _ _ hm
  obtain ⟨a0, len0, cap0, rfl⟩ := okWide_slice Try.underlying22 (hval 0 22 v0 rfl rfl)
  obtain ⟨z0, w0⟩ : ∃ zs, IsRow .u8 W a0 len0 cap0 zs := by
    obtain ⟨fuel, hf⟩ := h0
    rcases open_ints Try.underlying22 Try.underlying5 (by kernel_rfl) hf with ⟨hcs, _⟩ | ⟨x, l, c, zs, hcs, _, hl, hm, hz, _, hcell, hwz⟩
    · simp [Value.cells] at hcs
      obtain ⟨rfl, rfl, rfl⟩ := hcs
      exact ⟨[], .inl ⟨rfl, rfl, rfl, rfl⟩⟩
    · simp [Value.cells] at hcs
      obtain ⟨rfl, rfl, rfl⟩ := hcs
      exact ⟨zs, .inr ⟨_, rfl, hl, hm, by simpa using hz, hcell, hwz⟩⟩
  clear hA0 hval0
  refine (walk a0 len0 cap0 z0 W w0).mono fun e W' ⟨he, bel⟩ => ?_
  subst he
  exact ⟨_, rfl, _, _, _, [], _, [], hW', trodAll_mk1 (shut_bool Try.underlying4 _), (trodAll_cons_mk (Below.trod laidOut (by kernel_rfl) (of_decide_eq_true (by kernel_rfl)) k0 bel lt0) trodAll_mk0), rfl, bel.frame _, fun h => by cases h⟩

theorem over : Rows.lzKindsRow.holds Try.pinned (OpenSpec.ofChange Rows.lzKindsSpec) :=
  OpenClaim.holds_of_wide 8 Try.f8 rfl rfl rfl rfl rfl rfl rfl ⟨rfl, rfl, rfl, rfl, rfl⟩ rfl rfl rfl rfl rfl (by kernel_rfl) Try.func8 (by kernel_rfl)
    (of_decide_eq_true (by kernel_rfl)) (by unfold Func.isWrapper; first | (rw [if_pos (by decide +kernel)]; kernel_rfl) | (rw [if_neg (by decide +kernel)]; exact ⟨rfl, rfl⟩))
    (fun os started H enc _ => lifted os started H enc)

/-- The statement. -/
theorem proved : Rows.LzKindsSaid := over
#print axioms proved
end Go.Proofs.Ythbniljkgdkdnaa.lzKinds
