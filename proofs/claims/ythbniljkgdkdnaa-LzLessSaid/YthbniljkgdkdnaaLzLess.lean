/-
  The law LzLess of the given program: for every input the call returns true, and each argument reads behind the call as it read before. No condition on the input. (The frame is after the proof skeleton of the kit, the walk by hand.)
-/
import Derived.Test.YthbniljkgdkdnaaRows
import Derived.Test.YthbniljkgdkdnaaLzShown
import Derived.Test.YthbniljkgdkdnaaMake
import Derived.Test.YthbniljkgdkdnaaLzLessMath
import Derived.WalkKit
import Derived.ProofKit
import Derived.OpenShut
import Derived.ShutString
import Derived.ChangeOld
import Derived.Below
namespace Go.Proofs.Ythbniljkgdkdnaa.lzLess
open Go.ChangeShapes Go.WideShapes Go.ChangeAt Go.RowKit
open Go.ChangeMaps (open_string shut_string)
set_option linter.unusedVariables false
set_option linter.unusedSimpArgs false

theorem own : ownKnob Try.prog.godebug = none := by kernel_rfl
theorem laidOut : laidOutB Try.prog = true := by kernel_rfl

/-- A slice of integers that came in: nil; or a row of cells, as many as its capacity, that fit their kind. -/
def IsRow (k : IntKind) (w : World) (a : Option Addr) (len cap : Nat) (zs : List Int) : Prop :=
  (a = none ∧ len = 0 ∧ cap = 0 ∧ zs = []) ∨
  ∃ x, a = some x ∧ len ≤ cap ∧ cap ≤ maxLen ∧ zs.length = cap ∧ (∀ i, i < zs.length → w.cell? (x.add i) = some (.int k (zs.getD i 0))) ∧ ∀ n ∈ zs, (Lit.int k n).wf = true

set_option maxHeartbeats 2000000 in
set_option maxRecDepth 100000 in
/-- The walk. -/
theorem walk (a0 : Int) (a1 : Int) (a2 : Option Addr) (len2 cap2 : Nat) (z2 : List Int) (w : World) (w0 : (Lit.int .u8 a0).wf = true) (w1 : (Lit.int .u16 a1).wf = true) (w2 : IsRow .u8 w a2 len2 cap2 z2) :
    Calls Try.prog 6 #[.int .u8 a0, .int .u16 a1, .slice a2 len2 cap2] w fun e w' => e = .returned (.bool true) ∧ Below w.heap.size w w' := by
  have b0 := bounds_u8 w0
  have b1 := bounds_u16 w1
  obtain ⟨c, hc⟩ : ∃ c : UInt8, a0 = (c.toNat : Int) := ⟨UInt8.ofNat a0.toNat, by simp only [UInt8.toNat_ofNat']; omega⟩
  subst hc
  obtain ⟨cs, rfl, hcc, hcm, hcb⟩ := bytes_of_ints w2
  have hcm' := hcm
  unfold maxLen at hcm
  clear w0 w1 w2 b0
  obtain ⟨m, hm⟩ : ∃ m : Nat, a1 % 1001 = (m : Int) := ⟨(a1 % 1001).toNat, by omega⟩
  have hm6 : m ≤ 1000 := by omega
  have hmk := fun w => run_make_one (P := Try.prog) (T := 22) (E := 5) (z := .int .u8 0) (b := 1) Try.underlying22 rfl (by kernel_rfl) w .i64 .i64 m (by omega) (by omega)
  have hmin : (cs.take 100).length = min cs.length 100 := by simp; omega
  have hys := hcb.take 100
  have hn2 : min cs.length 100 ≤ 100 := by omega
  have hn2c : min cs.length 100 ≤ cap2 := by omega
  have hi1 : min (cs.length : Int) 100 = ((min cs.length 100 : Nat) : Int) := by omega
  have hyl := Lib.hid hmin
  clear hmin hcb
  generalize min cs.length 100 = n2 at *
  generalize cs.take 100 = ys at *
  have r1 := fun w => run_slice_hi (P := Try.prog) (T := 22) (E := 5) Try.underlying22 (by kernel_rfl) w a2 cs.length cap2 n2 (by omega)
  have infoB' := Lib.hid infoB
  have hl2 : (ys ++ ys).length = 2 * n2 := by rw [List.length_append, hyl.out]; omega
  have k2 := fun A c w h1 h2 h => pack_rd A (2 * n2) c (ys ++ ys) w hl2 h1 h2 h (by omega)
  have h20 : n2 < 20 ∨ (20 ≤ n2 ∧ (packB (ys ++ ys)).length < 2 * n2) := by
    by_cases h : n2 < 20
    · exact .inl h
    · have := pack_twice ys (by rw [hyl.out]; omega) (by rw [hyl.out]; omega)
      rw [hyl.out] at this
      exact .inr ⟨by omega, this⟩
  obtain ⟨p2, hp2⟩ : ∃ p, packB (ys ++ ys) = p := ⟨_, rfl⟩
  rw [hp2] at k2 h20
  replace k2 := Lib.hid k2
  have k1 := fun g w h => pack_rd (some ⟨g, 0, none⟩) m m (List.replicate m c) w (by simp) (Nat.le_refl _) (by unfold maxLen; omega) h (by omega)
  have h5 : m < 5 ∨ (5 ≤ m ∧ (packB (List.replicate m c)).length ≤ 4 + 2 * (m / 130 + 1)) := by
    by_cases h : m < 5
    · exact .inl h
    · exact .inr ⟨by omega, pack_run c m (by omega)⟩
  obtain ⟨p1, hp1⟩ : ∃ p, packB (List.replicate m c) = p := ⟨_, rfl⟩
  rw [hp1] at k1 h5
  replace k1 := Lib.hid k1
  clear hp1 hp2 hl2
  obtain ⟨q, hq⟩ : ∃ q, m / 130 = q := ⟨_, rfl⟩
  have hq1 : (m : Int) / 130 = q := by omega
  have hq2 : (q : Int) ≤ 10 := by omega
  rw [hq] at h5
  clear hq
  go_enter Try.func6, Try.ntmps6
  go_wp2_with fail
  refine (shown_any _).mono ?_
  rintro e w1 ⟨rfl, hb1⟩
  have s1 := hb1.size
  go_wp2
  go_loopw [10, 22] (fun _ v wr => ∃ i : Nat, v = .int .i64 i ∧ i ≤ m ∧ Row wr w1.heap.size 5 (frow (bv c) (.int .u8 0) i m) ∧ Below w.heap.size w wr) (fun _ v _ => m - (intOf v).toNat)
  case atStart => exact ⟨0, rfl, by omega, by rw [← frow_zero]; exact Row.new _ _ _, hb1.alloc s1 _⟩
  case round =>
    obtain ⟨i, rfl, hi, hrow, hb⟩ := hrel
    by_cases hlt : i < m
    · have c0 := hrow.cell i
      rw [frow_get _ _ _ _ _ hlt hi] at c0
      have f0 := hrow.free i
      have hset := Lib.hid (frow_set (bv c) (.int .u8 0) i m hlt)
      have hrow := Lib.hid hrow
      go_wp2
      go_roundw
      case rel => exact ⟨i + 1, by go_num, by omega, by have := hrow.out.put i (bv c); rwa [hset.out] at this, hb.setCell s1 _⟩
      case measure => simp [intOf]; omega
    · have him : i = m := by omega
      have hbs : Bs wr (some ⟨w1.heap.size, 0, none⟩) (List.replicate m c) := by
        have := hrow.rd
        unfold Bs
        rwa [him, show (frow (bv c) (.int .u8 0) m m).toList = (List.replicate m c).map bv by simp [frow]] at this
      have him2 : ¬ (i : Int) < (m : Int) := by omega
      clear hrow him
      go_wp2_with fail
      refine (k1.out _ _ hbs).mono ?_
      rintro e w5 ⟨A5, c5, rfl, _, _, _, hb4⟩
      have hb5 := hb.trans (hb4.mono hb.size)
      clear hb hb4 hbs
      rcases h5 with h5 | ⟨h5, hp⟩
      · have d1 : decide (5 ≤ (m : Int)) = false := by simp; omega
        go_wp2_with (first
          | (at_builtin; refine wpList_append_any rfl _ _ 22 rfl w.heap.size 5 (.int .u8 0) 1 1 Try.underlying22 infoB'.out rfl (by decide) (.slice (some ⟨w5.heap.size, 0, none⟩) 0 0) 0 [] rfl (World.ownsRow_made w5 #[] 0 hb5.size (by unfold maxLen; omega) rfl) a2 n2 cap2 (ys.map bv) rfl (Bs.alloc (Rd.below hys hb5) _) (by rw [List.length_map]; have := hyl.out; omega) (bv_one ys) (by unfold maxLen; omega) (by omega) (by have := hb5.size; simp; omega) ?_; intro v6 w6 ho6 hg6 _; have hb6 : Below w.heap.size w w6 := (hb5.alloc hb5.size (.cells #[] 5)).grown hg6 (by have := hb5.size; simp; omega) (fun q e => by have e1 : w5.heap.size = q := Option.some.inj e; have := hb5.size; omega))
          | (at_builtin; refine wpList_append_any rfl _ _ 22 rfl w.heap.size 5 (.int .u8 0) 1 1 Try.underlying22 infoB'.out rfl (by decide) v6 _ _ rfl ho6 a2 n2 cap2 (ys.map bv) rfl (Rd.below hys hb6) (by rw [List.length_map]; have := hyl.out; omega) (bv_one ys) (by unfold maxLen; omega) (by omega) hb6.size ?_; intro v7 w7 ho7 hg7 _))
        have hb7 : Below w.heap.size w w7 := hb6.grown hg7 hb6.size (fun q e => (ho6.lt q e).1)
        obtain ⟨A7, c7, hv7, hle7, hmx7, hrd7⟩ := own_slice ho7
        subst hv7
        have hrd8 : Bs w7 A7 (ys ++ ys) := by
          unfold Bs
          rw [List.map_append]
          simpa using hrd7
        have hn7 : 0 + n2 + n2 = 2 * n2 := by omega
        rw [hn7] at hle7 ⊢
        clear hrd7 ho7 ho6 hg6 hg7 hn7
        refine (k2.out A7 c7 _ hle7 hmx7 hrd8).mono ?_
        rintro e w8 ⟨A8, c8, rfl, _, _, _, hb8⟩
        have hb9 := hb7.trans (hb8.mono hb7.size)
        clear hb8 hrd8
        rcases h20 with h20 | h20
        · have d3 : decide ((n2 : Int) < 20) = true := by simp; omega
          go_wp2
          go_ret
          exact ⟨by simp, hb9⟩
        · have d3 : decide ((n2 : Int) < 20) = false := by simp; omega
          have d4 : decide ((p2.length : Int) < 2 * (n2 : Int)) = true := by simp; omega
          go_wp2
          go_ret
          exact ⟨by simp, hb9⟩
      · have d1 : decide (5 ≤ (m : Int)) = true := by simp; omega
        have d2 : decide (4 + 2 * ((q : Int) + 1) < (p1.length : Int)) = false := by simp; omega
        go_wp2_with (first
          | (at_builtin; refine wpList_append_any rfl _ _ 22 rfl w.heap.size 5 (.int .u8 0) 1 1 Try.underlying22 infoB'.out rfl (by decide) (.slice (some ⟨w5.heap.size, 0, none⟩) 0 0) 0 [] rfl (World.ownsRow_made w5 #[] 0 hb5.size (by unfold maxLen; omega) rfl) a2 n2 cap2 (ys.map bv) rfl (Bs.alloc (Rd.below hys hb5) _) (by rw [List.length_map]; have := hyl.out; omega) (bv_one ys) (by unfold maxLen; omega) (by omega) (by have := hb5.size; simp; omega) ?_; intro v6 w6 ho6 hg6 _; have hb6 : Below w.heap.size w w6 := (hb5.alloc hb5.size (.cells #[] 5)).grown hg6 (by have := hb5.size; simp; omega) (fun q e => by have e1 : w5.heap.size = q := Option.some.inj e; have := hb5.size; omega))
          | (at_builtin; refine wpList_append_any rfl _ _ 22 rfl w.heap.size 5 (.int .u8 0) 1 1 Try.underlying22 infoB'.out rfl (by decide) v6 _ _ rfl ho6 a2 n2 cap2 (ys.map bv) rfl (Rd.below hys hb6) (by rw [List.length_map]; have := hyl.out; omega) (bv_one ys) (by unfold maxLen; omega) (by omega) hb6.size ?_; intro v7 w7 ho7 hg7 _))
        have hb7 : Below w.heap.size w w7 := hb6.grown hg7 hb6.size (fun q e => (ho6.lt q e).1)
        obtain ⟨A7, c7, hv7, hle7, hmx7, hrd7⟩ := own_slice ho7
        subst hv7
        have hrd8 : Bs w7 A7 (ys ++ ys) := by
          unfold Bs
          rw [List.map_append]
          simpa using hrd7
        have hn7 : 0 + n2 + n2 = 2 * n2 := by omega
        rw [hn7] at hle7 ⊢
        clear hrd7 ho7 ho6 hg6 hg7 hn7
        refine (k2.out A7 c7 _ hle7 hmx7 hrd8).mono ?_
        rintro e w8 ⟨A8, c8, rfl, _, _, _, hb8⟩
        have hb9 := hb7.trans (hb8.mono hb7.size)
        clear hb8 hrd8
        rcases h20 with h20 | h20
        · have d3 : decide ((n2 : Int) < 20) = true := by simp; omega
          go_wp2
          go_ret
          exact ⟨by simp, hb9⟩
        · have d3 : decide ((n2 : Int) < 20) = false := by simp; omega
          have d4 : decide ((p2.length : Int) < 2 * (n2 : Int)) = true := by simp; omega
          go_wp2
          go_ret
          exact ⟨by simp, hb9⟩

set_option maxRecDepth 100000 in
/-- The step of the row. -/
theorem lifted (os : Os) (started : os.Started) (H : Type) (enc : TypeId × Value → H) :
    ReturnsInHanded {} Try.checked os 6 .any (Rows.lzLessSpec.pre6 enc Try.prog Try.f6 Rows.lzLessRow.domain false) (Rows.lzLessSpec.post enc Try.prog Try.f6 false true false false) := by
  refine returnsInHanded_of_change (C := Try.checked) own started (by kernel_rfl) Try.func6
    (ChangeSpec.witness6 (enc := enc) (C := Try.checked) false ⟨#[], #[.int .u8 0, .int .u16 0, .slice none 0 0], []⟩ 8 (by kernel_rfl) (by kernel_rfl) (by kernel_rfl) (by kernel_rfl)) ?_
  intro W base args ds gs before hval0 hW hcnd _
  have hval : ∀ (j : Nat) t v, Try.f6.params[j]? = some t → args[j]? = some v → Value.okWide Try.prog W .any base t v := hval0
  have hW' := hW
  obtain ⟨p, q, hA0, hV, rfl, hfz, hnd⟩ := hW
  have hA : DataW.TrodAll enc Try.prog W 0 (fun _ => true) true Try.f6.params.toList args.toList ds p := hA0
  rw [Try.params6] at hA hval
  obtain ⟨v0, vs0, d0, ds0, p0, q0, hargs, rfl, rfl, h0, r0⟩ := trodAll_cons hA
  obtain ⟨v1, vs1, d1, ds1, p1, q1, rfl, rfl, rfl, h1, r1⟩ := trodAll_cons r0
  obtain ⟨v2, vs2, d2, ds2, p2, q2, rfl, rfl, rfl, h2, r2⟩ := trodAll_cons r1
  obtain ⟨rfl, rfl, rfl⟩ := trodAll_nil r2
  obtain rfl : args = #[v0, v1, v2] := by cases args; simp_all
  obtain ⟨rfl, rfl⟩ := trodVars_none hV
  have k0 := h0
  have lt0 : ∀ x ∈ p0, x.block < W.heap.size := by obtain ⟨m, hm⟩ := k0; exact DataW.trod_lt m _ _ _ hm
  have k1 := h1
  have lt1 : ∀ x ∈ p1, x.block < W.heap.size := by obtain ⟨m, hm⟩ := k1; exact DataW.trod_lt m _ _ _ hm
  have k2 := h2
  have lt2 : ∀ x ∈ p2, x.block < W.heap.size := by obtain ⟨m, hm⟩ := k2; exact DataW.trod_lt m _ _ _ hm
  obtain ⟨a0, rfl, rfl, rfl, w0⟩ := open_int Try.underlying5 (hval 0 5 v0 rfl rfl) h0
  obtain ⟨a1, rfl, rfl, rfl, w1⟩ := open_int Try.underlying30 (hval 1 30 v1 rfl rfl) h1
  obtain ⟨a2, len2, cap2, rfl⟩ := okWide_slice Try.underlying22 (hval 2 22 v2 rfl rfl)
  obtain ⟨z2, w2⟩ : ∃ zs, IsRow .u8 W a2 len2 cap2 zs := by
    obtain ⟨fuel, hf⟩ := h2
    rcases open_ints Try.underlying22 Try.underlying5 (by kernel_rfl) hf with ⟨hcs, _⟩ | ⟨x, l, c, zs, hcs, _, hl, hm, hz, _, hcell, hwz⟩
    · simp [Value.cells] at hcs
      obtain ⟨rfl, rfl, rfl⟩ := hcs
      exact ⟨[], .inl ⟨rfl, rfl, rfl, rfl⟩⟩
    · simp [Value.cells] at hcs
      obtain ⟨rfl, rfl, rfl⟩ := hcs
      exact ⟨zs, .inr ⟨_, rfl, hl, hm, by simpa using hz, hcell, hwz⟩⟩
  clear hA0 hval0
  refine (walk a0 a1 a2 len2 cap2 z2 W w0 w1 w2).mono fun e W' ⟨he, bel⟩ => ?_
  subst he
  exact ⟨_, rfl, _, _, _, [], _, [], hW', trodAll_mk1 (shut_bool Try.underlying4 _), (trodAll_cons_mk (Below.trod laidOut (by kernel_rfl) (of_decide_eq_true (by kernel_rfl)) k0 bel lt0) (trodAll_cons_mk (Below.trod laidOut (by kernel_rfl) (of_decide_eq_true (by kernel_rfl)) k1 bel lt1) (trodAll_cons_mk (Below.trod laidOut (by kernel_rfl) (of_decide_eq_true (by kernel_rfl)) k2 bel lt2) trodAll_mk0))), rfl, bel.frame _, fun h => by cases h⟩

theorem over : Rows.lzLessRow.holds Try.pinned (OpenSpec.ofChange Rows.lzLessSpec) :=
  OpenClaim.holds_of_wide 6 Try.f6 rfl rfl rfl rfl rfl rfl rfl ⟨rfl, rfl, rfl, rfl, rfl⟩ rfl rfl rfl rfl rfl (by kernel_rfl) Try.func6 (by kernel_rfl)
    (of_decide_eq_true (by kernel_rfl)) (by unfold Func.isWrapper; first | (rw [if_pos (by decide +kernel)]; kernel_rfl) | (rw [if_neg (by decide +kernel)]; exact ⟨rfl, rfl⟩))
    (fun os started H enc _ => lifted os started H enc)

/-- The statement. -/
theorem proved : Rows.LzLessSaid := over
#print axioms proved
end Go.Proofs.Ythbniljkgdkdnaa.lzLess
