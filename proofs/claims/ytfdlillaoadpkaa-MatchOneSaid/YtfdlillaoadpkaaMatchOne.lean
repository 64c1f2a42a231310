/-
  The law MatchOne of the given program: for every input the call returns true, and each argument reads behind the call as it read before. No condition on the input. (The frame is after the proof skeleton of the kit, the walk by hand.)
-/
import Derived.Test.YtfdlillaoadpkaaRows
import Derived.Test.YtfdlillaoadpkaaMatchShown
import Derived.Test.YtfdlillaoadpkaaMake
import Derived.Test.YtfdlillaoadpkaaMatchRun
import Derived.WalkKit
import Derived.ProofKit
import Derived.OpenShut
import Derived.ShutString
import Derived.ChangeOld
import Derived.Below
namespace Go.Proofs.Ytfdlillaoadpkaa.matchOne
open Go.ChangeShapes Go.WideShapes Go.ChangeAt Go.RowKit
open Go.ChangeMaps (open_string shut_string)
set_option linter.unusedVariables false
set_option linter.unusedSimpArgs false

theorem own : ownKnob Try.prog.godebug = none := by kernel_rfl
theorem laidOut : laidOutB Try.prog = true := by kernel_rfl

set_option maxHeartbeats 2000000 in
set_option maxRecDepth 100000 in
/-- The walk. -/
theorem walk (a0 : Int) (a1 : Int) (a2 : Int) (w : World) (w0 : (Lit.int .u8 a0).wf = true) (w1 : (Lit.int .u16 a1).wf = true) (w2 : (Lit.int .u16 a2).wf = true) :
    Calls Try.prog 5 #[.int .u8 a0, .int .u16 a1, .int .u16 a2] w fun e w' => e = .returned (.bool true) ∧ Below w.heap.size w w' := by
  have b0 := bounds_u8 w0
  have b1 := bounds_u16 w1
  have b2 := bounds_u16 w2
  obtain ⟨c, hc⟩ : ∃ c : UInt8, a0 = (c.toNat : Int) := ⟨UInt8.ofNat a0.toNat, by simp only [UInt8.toNat_ofNat']; omega⟩
  subst hc
  clear w0 w1 w2 b0
  obtain ⟨m, hm⟩ : ∃ m : Nat, a1 % 601 = (m : Int) := ⟨(a1 % 601).toNat, by omega⟩
  have hm6 : m ≤ 600 := by omega
  have hmk := fun w => run_make_one (P := Try.prog) (T := 22) (E := 5) (z := .int .u8 0) (b := 1) Try.underlying22 rfl (by kernel_rfl) w .i64 .i64 m (by omega) (by omega)
  go_enter Try.func5, Try.ntmps5
  go_wp2_with fail
  refine (shown_any _).mono ?_
  rintro e w1 ⟨rfl, hb1⟩
  have s1 := hb1.size
  go_wp2
  go_loopw [10, 23] (fun _ v wr => ∃ i : Nat, v = .int .i64 i ∧ i ≤ m ∧ Row wr w1.heap.size 5 (frow (bv c) (.int .u8 0) i m) ∧ Below w.heap.size w wr) (fun _ v _ => m - (intOf v).toNat)
  case atStart => exact ⟨0, rfl, by omega, by rw [← frow_zero]; exact Row.new _ _ _, hb1.alloc s1 _⟩
  case round =>
    obtain ⟨i, rfl, hi, hrow, hb⟩ := hrel
    by_cases hlt : i < m
    · have c0 := hrow.cell i
      rw [frow_get _ _ _ _ _ hlt hi] at c0
      have f0 := hrow.free i
      have hset := Lib.hid (frow_set (bv c) (.int .u8 0) i m hlt)
      have hrow := Lib.hid hrow
      go_wp2
      go_roundw
      case rel => exact ⟨i + 1, by go_num, by omega, by have := hrow.out.put i (bv c); rwa [hset.out] at this, hb.setCell s1 _⟩
      case measure => simp [intOf]; omega
    · obtain rfl : i = m := by omega
      by_cases h0 : i = 0
      · have h0' : ((i : Int) == 0) = true := by simp; omega
        go_wp2
        go_ret
        exact ⟨rfl, hb⟩
      · have h0' : ((i : Int) == 0) = false := by simp; omega
        have hi0 : (0 : Int) < i := by omega
        have hk0 : 0 ≤ a2 % (i : Int) := Int.emod_nonneg _ (by omega)
        have hk1 : a2 % (i : Int) < i := Int.emod_lt_of_pos _ hi0
        obtain ⟨k, hk⟩ : ∃ k : Nat, a2 % (i : Int) = k := ⟨(a2 % (i : Int)).toNat, by omega⟩
        rw [hk] at hk1
        clear hk0
        have hbs : Bs wr (some ⟨w1.heap.size, 0, none⟩) (List.replicate i c) := by
          have := hrow.rd
          unfold Bs
          rwa [show (frow (bv c) (.int .u8 0) i i).toList = (List.replicate i c).map bv by simp [frow]] at this
        have hlen : (List.replicate i c).length = i := by simp
        have hl := longest_in (some ⟨w1.heap.size, 0, none⟩) i k (List.replicate i c) wr (by omega) (by unfold maxLen; omega) hbs (by omega)
        rw [hlen, best_run c i k (by omega)] at hl
        clear hbs hrow hlen
        by_cases hz : k = 0 ∨ min 130 (i - k) < 3
        · rw [if_pos hz] at hl
          have hl := Lib.hid hl
          by_cases hk0 : k = 0
          · have hk0' : ((k : Int) == 0) = true := by simp; omega
            clear hz hk0
            go_wp2_with fail
            refine hl.out.mono ?_
            rintro e w2 ⟨rfl, hb2⟩
            go_wp2
            go_ret
            exact ⟨rfl, hb.trans (hb2.mono hb.size)⟩
          · have hk0' : ((k : Int) == 0) = false := by simp; omega
            have hz' : min 130 ((i : Int) - k) < 3 := by omega
            clear hz hk0
            go_wp2_with fail
            refine hl.out.mono ?_
            rintro e w2 ⟨rfl, hb2⟩
            go_wp2
            go_ret
            exact ⟨rfl, hb.trans (hb2.mono hb.size)⟩
        · rw [if_neg hz] at hl
          have hl := Lib.hid hl
          have hk0' : ((k : Int) == 0) = false := by simp; omega
          have hz' : ¬ min 130 ((i : Int) - k) < 3 := by omega
          have hm' : ((min 130 (i - k) : Nat) : Int) = min 130 ((i : Int) - k) := by omega
          clear hz
          go_wp2_with fail
          refine hl.out.mono ?_
          rintro e w2 ⟨rfl, hb2⟩
          go_wp2
          go_ret
          exact ⟨by simp, hb.trans (hb2.mono hb.size)⟩

set_option maxRecDepth 100000 in
/-- The step of the row. -/
theorem lifted (os : Os) (started : os.Started) (H : Type) (enc : TypeId × Value → H) :
    ReturnsInHanded {} Try.checked os 5 .any (Rows.matchOneSpec.pre6 enc Try.prog Try.f5 Rows.matchOneRow.domain false) (Rows.matchOneSpec.post enc Try.prog Try.f5 false true false false) := by
  refine returnsInHanded_of_change (C := Try.checked) own started (by kernel_rfl) Try.func5
    (ChangeSpec.witness6 (enc := enc) (C := Try.checked) false ⟨#[], #[.int .u8 0, .int .u16 0, .int .u16 0], []⟩ 8 (by kernel_rfl) (by kernel_rfl) (by kernel_rfl) (by kernel_rfl)) ?_
  intro W base args ds gs before hval0 hW hcnd _
  have hval : ∀ (j : Nat) t v, Try.f5.params[j]? = some t → args[j]? = some v → Value.okWide Try.prog W .any base t v := hval0
  have hW' := hW
  obtain ⟨p, q, hA0, hV, rfl, hfz, hnd⟩ := hW
  have hA : DataW.TrodAll enc Try.prog W 0 (fun _ => true) true Try.f5.params.toList args.toList ds p := hA0
  rw [Try.params5] at hA hval
  obtain ⟨v0, vs0, d0, ds0, p0, q0, hargs, rfl, rfl, h0, r0⟩ := trodAll_cons hA
  obtain ⟨v1, vs1, d1, ds1, p1, q1, rfl, rfl, rfl, h1, r1⟩ := trodAll_cons r0
  obtain ⟨v2, vs2, d2, ds2, p2, q2, rfl, rfl, rfl, h2, r2⟩ := trodAll_cons r1
  obtain ⟨rfl, rfl, rfl⟩ := trodAll_nil r2
  obtain rfl : args = #[v0, v1, v2] := by cases args; simp_all
  obtain ⟨rfl, rfl⟩ := trodVars_none hV
  have k0 := h0
  have lt0 : ∀ x ∈ p0, x.block < W.heap.size := by obtain ⟨m, hm⟩ := k0; exact DataW.trod_lt m _ _ _ hm
  have k1 := h1
  have lt1 : ∀ x ∈ p1, x.block < W.heap.size := by obtain ⟨m, hm⟩ := k1; exact DataW.trod_lt m _ _ _ hm
  have k2 := h2
  have lt2 : ∀ x ∈ p2, x.block < W.heap.size := by obtain ⟨m, hm⟩ := k2; exact DataW.trod_lt m _ _ _ hm
  obtain ⟨a0, rfl, rfl, rfl, w0⟩ := open_int Try.underlying5 (hval 0 5 v0 rfl rfl) h0
  obtain ⟨a1, rfl, rfl, rfl, w1⟩ := open_int Try.underlying30 (hval 1 30 v1 rfl rfl) h1
  obtain ⟨a2, rfl, rfl, rfl, w2⟩ := open_int Try.underlying30 (hval 2 30 v2 rfl rfl) h2
  clear hA0 hval0
  refine (walk a0 a1 a2 W w0 w1 w2).mono fun e W' ⟨he, bel⟩ => ?_
  subst he
  exact ⟨_, rfl, _, _, _, [], _, [], hW', trodAll_mk1 (shut_bool Try.underlying4 _), (trodAll_cons_mk (Below.trod laidOut (by kernel_rfl) (of_decide_eq_true (by kernel_rfl)) k0 bel lt0) (trodAll_cons_mk (Below.trod laidOut (by kernel_rfl) (of_decide_eq_true (by kernel_rfl)) k1 bel lt1) (trodAll_cons_mk (Below.trod laidOut (by kernel_rfl) (of_decide_eq_true (by kernel_rfl)) k2 bel lt2) trodAll_mk0))), rfl, bel.frame _, fun h => by cases h⟩

theorem over : Rows.matchOneRow.holds Try.pinned (OpenSpec.ofChange Rows.matchOneSpec) :=
  OpenClaim.holds_of_wide 5 Try.f5 rfl rfl rfl rfl rfl rfl rfl ⟨rfl, rfl, rfl, rfl, rfl⟩ rfl rfl rfl rfl rfl (by kernel_rfl) Try.func5 (by kernel_rfl)
    (of_decide_eq_true (by kernel_rfl)) (by unfold Func.isWrapper; first | (rw [if_pos (by decide +kernel)]; kernel_rfl) | (rw [if_neg (by decide +kernel)]; exact ⟨rfl, rfl⟩))
    (fun os started H enc _ => lifted os started H enc)

/-- The statement. -/
theorem proved : Rows.MatchOneSaid := over
#print axioms proved
end Go.Proofs.Ytfdlillaoadpkaa.matchOne
