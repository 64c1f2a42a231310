/-
  The law LzSteps of the given program: for every input the call returns true, and each argument reads behind the call as it read before. No condition on the input. (The frame is after the proof skeleton of the kit, the walk by hand.)
-/
import Derived.Test.YthbniljkgdkdnaaRows
import Derived.Test.YthbniljkgdkdnaaLzShown
import Derived.Test.YthbniljkgdkdnaaLzStepsMath
import Derived.WalkKit
import Derived.ProofKit
import Derived.OpenShut
import Derived.ShutString
import Derived.ChangeOld
import Derived.Below
namespace Go.Proofs.Ythbniljkgdkdnaa.lzSteps
open Go.ChangeShapes Go.WideShapes Go.ChangeAt Go.RowKit
open Go.ChangeMaps (open_string shut_string)
set_option linter.unusedVariables false
set_option linter.unusedSimpArgs false

theorem own : ownKnob Try.prog.godebug = none := by kernel_rfl
theorem laidOut : laidOutB Try.prog = true := by kernel_rfl

/-- A slice of integers that came in: nil; or a row of cells, as many as its capacity, that fit their kind. -/
def IsRow (k : IntKind) (w : World) (a : Option Addr) (len cap : Nat) (zs : List Int) : Prop :=
  (a = none ∧ len = 0 ∧ cap = 0 ∧ zs = []) ∨
  ∃ x, a = some x ∧ len ≤ cap ∧ cap ≤ maxLen ∧ zs.length = cap ∧ (∀ i, i < zs.length → w.cell? (x.add i) = some (.int k (zs.getD i 0))) ∧ ∀ n ∈ zs, (Lit.int k n).wf = true

set_option maxHeartbeats 2000000 in
set_option maxRecDepth 100000 in
/-- The walk. -/
theorem walk (a0 : Option Addr) (len0 cap0 : Nat) (z0 : List Int) (a1 : Int) (a2 : Int) (w : World) (w0 : IsRow .u8 w a0 len0 cap0 z0) (w1 : (Lit.int .u8 a1).wf = true) (w2 : (Lit.int .u8 a2).wf = true) :
    Calls Try.prog 7 #[.slice a0 len0 cap0, .int .u8 a1, .int .u8 a2] w fun e w' => e = .returned (.bool true) ∧ Below w.heap.size w w' := by
  obtain ⟨bs, rfl, hc, hm, hb⟩ := bytes_of_ints w0
  have b1 := bounds_u8 w1
  have b2 := bounds_u8 w2
  have hm' := hm
  unfold maxLen at hm
  have hmin : (bs.take 128).length = min bs.length 128 := by simp; omega
  have hb' := hb.take 128
  have hn : min bs.length 128 ≤ 128 := by omega
  have hnc : min bs.length 128 ≤ cap0 := by omega
  have hi1 : min (bs.length : Int) 128 = ((min bs.length 128 : Nat) : Int) := by omega
  have hxl := Lib.hid hmin
  clear hmin w0 w1 w2
  generalize min bs.length 128 = n at *
  generalize bs.take 128 = xs at *
  have r1 := fun w => run_slice_hi (P := Try.prog) (T := 22) (E := 5) Try.underlying22 (by kernel_rfl) w a0 bs.length cap0 n (by omega)
  have infoB' := Lib.hid infoB
  by_cases h0 : n = 0
  · have e0 : ((n : Int) == 0) = true := beq_iff_eq.2 (by omega)
    go_enter Try.func7, Try.ntmps7
    go_wp2_with fail
    refine (shown_any _).mono ?_
    rintro e v1 ⟨rfl, hb1⟩
    go_wp2
    go_ret
    exact ⟨rfl, hb1⟩
  · have e0 : ((n : Int) == 0) = false := beq_false_of_ne (by omega)
    have npos : (0 : Int) < (n : Int) := by omega
    obtain ⟨D0, hD0⟩ : ∃ D0 : Nat, a1 % (n : Int) = D0 := ⟨(a1 % (n : Int)).toNat, by have := Int.emod_nonneg a1 (show (n : Int) ≠ 0 by omega); omega⟩
    have hD0l : (D0 : Int) < n := by rw [← hD0]; exact Int.emod_lt_of_pos a1 npos
    obtain ⟨N0, hN0⟩ : ∃ N0 : Nat, a2 % 128 = (N0 : Int) := ⟨(a2 % 128).toNat, by omega⟩
    obtain ⟨F, hF⟩ : ∃ F : Nat, (D0 : Int) + 1 = (F : Int) := ⟨D0 + 1, rfl⟩
    obtain ⟨L, hL⟩ : ∃ L : Nat, (N0 : Int) + 3 = (L : Int) := ⟨N0 + 3, rfl⟩
    obtain ⟨T, hT⟩ : ∃ T : Nat, (n : Int) + (L : Int) = (T : Int) := ⟨n + L, by simp⟩
    have hLb : 3 ≤ L ∧ L ≤ 130 := by omega
    have hFb : 1 ≤ F ∧ F ≤ n := by omega
    have hTn : T ≤ n + L ∧ n + L ≤ T := by omega
    have hnl := hxl.out
    have hu1 := unp_steps xs F L T (by omega) (by omega) (by omega) (by omega) (by omega) (by omega) (by omega)
    have hu2 := unp_short xs L (by omega) (by omega) (by omega) (by omega)
    have hrl := rep_len xs F L
    have hrt := rep_take xs F L (by omega) (by omega)
    have hrb : ∀ j, n ≤ j → j < T → ∃ c : UInt8, (rep xs F L)[j]? = some c ∧ (rep xs F L)[j - F]? = some c := fun j h1 h2 => by
      have g1 := rep_get xs F (by omega) (by omega) L j (by omega)
      have g2 := rep_get xs F (by omega) (by omega) L (j - F) (by omega)
      rw [rpb_back (by omega) (by omega) (by omega)] at g1
      exact ⟨_, g1, g2⟩
    have t1 : (n : Int) - 1 = ((UInt8.ofNat (xs.length - 1)).toNat : Int) := by rw [UInt8.toNat_ofNat']; omega
    have t2a : IntKind.i64.wrap (128 + (L : Int)) = 128 + (L : Int) := IntWalk.i64_in _ (by omega)
    have t2 : 128 + (L : Int) - 3 = ((UInt8.ofNat (128 + L - 3)).toNat : Int) := by rw [UInt8.toNat_ofNat']; omega
    have t3 : (F : Int) - 1 = ((UInt8.ofNat (F - 1)).toNat : Int) := by rw [UInt8.toNat_ofNat']; omega
    unfold laidM at hu1
    generalize UInt8.ofNat (xs.length - 1) = c1 at *
    generalize UInt8.ofNat (128 + L - 3) = c2 at *
    generalize UInt8.ofNat (F - 1) = c3 at *
    have c1l := c1.toNat_lt
    have c2l := c2.toNat_lt
    have c3l := c3.toNat_lt
    generalize rep xs F L = ys at *
    have hyl : ys.length = T := by omega
    have k1 := fun A c w h1 h2 h => unpack_rd A (n + 4) c (1 :: c1 :: (xs ++ [c2, c3])) (T : Int) w (by simp [hnl]) h1 h2 h (by omega) (by omega) (by omega)
    have k2 := fun A c w h1 h2 h => unpack_rd A (n + 3) c (1 :: c1 :: (xs ++ [c2])) 1000 w (by simp [hnl]) h1 h2 h (by omega) (by omega) (by omega)
    rw [hu1] at k1
    rw [hu2] at k2
    dsimp only at k1
    rw [hyl] at k1
    replace k1 := Lib.hid k1
    replace k2 := Lib.hid k2
    replace hrb := Lib.hid hrb
    replace hyl := Lib.hid hyl
    rw [hnl] at hrt
    replace hrt := Lib.hid hrt
    have nb : (n : Int) ≤ 128 := by omega
    have Tb : (T : Int) ≤ 300 := by omega
    have Lb : (L : Int) ≤ 130 := by omega
    have Fb : (F : Int) ≤ 128 := by omega
    have Tn : decide ((n : Int) ≤ (T : Int)) = true := by simp; omega
    clear hu1 hu2 hrl hnl h0
    go_enter Try.func7, Try.ntmps7
    go_wp2_with fail
    refine (shown_any _).mono ?_
    rintro e v1 ⟨rfl, hb1⟩
    have hs1 := hb1.size
    have hown : (v1.alloc (.cells #[bv 1, bv c1] 5)).ownsRow w.heap.size 5 1 (.slice (some ⟨v1.heap.size, 0, none⟩) 2 2) 2 [bv 1, bv c1] := ⟨rfl, .inr ⟨v1.heap.size, 2, #[bv 1, bv c1], rfl, hs1, heap_alloc_new v1 _, Nat.le_refl _, by unfold maxLen; omega, rfl, rfl⟩⟩
    go_wp2_with (first
      | (at_builtin; refine wpList_append_any rfl _ _ 22 rfl w.heap.size 5 (.int .u8 0) 1 1 Try.underlying22 infoB'.out rfl (by decide) (.slice (some ⟨v1.heap.size, 0, none⟩) 2 2) 2 [bv 1, bv c1] rfl hown a0 n cap0 (xs.map bv) rfl (Bs.alloc (Rd.below hb' hb1) _) (by rw [List.length_map]; have := hxl.out; omega) (bv_one xs) (by unfold maxLen; omega) (by omega) (by simp; omega) ?_; intro v2 w2 ho2 hg2 _; have hb2 : Below w.heap.size w w2 := (hb1.alloc hs1 (.cells #[bv 1, bv c1] 5)).grown hg2 (by simp; omega) (fun q e => by have e1 : v1.heap.size = q := Option.some.inj e; omega))
      | (at_builtin; refine wpList_append_any rfl _ _ 22 rfl w.heap.size 5 (.int .u8 0) 1 1 Try.underlying22 infoB'.out rfl (by decide) v2 _ _ rfl (ho2.alloc (.cells #[bv c2, bv c3] 5)) (some ⟨w2.heap.size, 0, none⟩) 2 2 [bv c2, bv c3] rfl (Bs.new w2 #[bv c2, bv c3] 5 (0, 0) [c2, c3] rfl) rfl (by simp [Value.oneCell']) (by unfold maxLen; omega) (by omega) (by have := hb2.size; simp; omega) ?_; intro v3 w3 ho3 hg3 _))
    have hb3 : Below w.heap.size w w3 := (hb2.alloc hb2.size (.cells #[bv c2, bv c3] 5)).grown hg3 (by have := hb2.size; simp; omega) (fun q e => (ho2.lt q e).1)
    obtain ⟨A3, cp3, hv3, hle3, hmx3, hrd3⟩ := own_slice ho3
    subst hv3
    have hrd4 : Bs w3 A3 (1 :: c1 :: (xs ++ [c2, c3])) := by
      unfold Bs
      simpa using hrd3
    have hn4 : 2 + n + 2 = n + 4 := by omega
    rw [hn4] at hle3 ⊢
    clear hrd3 ho3 ho2 hg2 hg3 hn4
    refine (k1.out A3 cp3 _ hle3 hmx3 hrd4).mono ?_
    rintro e w4 ⟨A4, cp4, rfl, hle4, hmx4, hrd5, hb4⟩
    have hb5 := hb3.trans (hb4.mono hb3.size)
    have hrd6 := hrd4.below hb4
    clear hb4 hb3 hrd4 k1
    have hy2 : Bs w4 A4 xs := by
      have := hrd5.take n
      rwa [hrt.out] at this
    have sx := fun q => run_str (w4.drewN q) a0 n cap0 xs hxl.out (Rd.below hb' (hb5.drewN q))
    have sy := fun q => run_str (w4.drewN q) A4 n cp4 xs hxl.out (hy2.drewN q)
    have rc1 := fun w => run_slice_hi (P := Try.prog) (T := 22) (E := 5) Try.underlying22 (by kernel_rfl) w A4 T cp4 n (by omega)
    have tnl : IntKind.i64.wrap ((n : Int) + (L : Int)) = (T : Int) := by rw [hT]; exact IntWalk.i64_in _ (by omega)
    go_wp2
    go_quiet (fail)
    clear sx sy rc1
    generalize nq = q1 at *
    have T0 : 0 < ys.length := by have := hyl.out; omega
    obtain ⟨ad, hA4, -⟩ := hrd5.at_ 0 T0
    subst hA4
    have hcell : ∀ j : Nat, n ≤ j → j < T → ∃ c : UInt8, w4.cell? (ad.add j) = some (bv c) ∧ w4.cell? (ad.add (j - F)) = some (bv c) := fun j h1 h2 => by
      obtain ⟨c, g1, g2⟩ := hrb.out j h1 h2
      obtain ⟨ad1, e1, f1⟩ := Rd.at_ hrd5 (k := j) (u := bv c) (by rw [List.getElem?_map, g1]; rfl)
      obtain ⟨ad2, e2, f2⟩ := Rd.at_ hrd5 (k := j - F) (u := bv c) (by rw [List.getElem?_map, g2]; rfl)
      cases e1
      cases e2
      exact ⟨c, f1, f2⟩
    replace hcell := Lib.hid hcell
    clear hrb hrd5 hy2
    go_wp2
    go_loopw [14] (fun v wr => ∃ i q : Nat, v = .int .i64 i ∧ n ≤ i ∧ i ≤ T ∧ wr = w4.drewN q) (fun v _ => T - (intOf v).toNat)
    case atStart => exact ⟨n, q1, rfl, Nat.le_refl _, by omega, rfl⟩
    case round =>
      obtain ⟨i, q2, rfl, hi1, hi2, rfl⟩ := hrel
      by_cases hlt : i < T
      · obtain ⟨cc, f1, f2⟩ := hcell.out i hi1 hlt
        obtain ⟨b, hb⟩ : ∃ b, i - F = b := ⟨_, rfl⟩
        rw [hb] at f2
        have hw : IntKind.i64.wrap ((i : Int) - (F : Int)) = (b : Int) := by rw [show (i : Int) - (F : Int) = (b : Int) by omega]; exact IntWalk.i64_in _ (by omega)
        have d2 : b < T := by omega
        clear hb
        go_wp2
        go_quiet (fail)
        generalize nq = q3 at *
        go_wp2
        go_roundw
        case rel => exact ⟨i + 1, q2 + q3, by go_num, by omega, by omega, rfl⟩
        case measure => simp [intOf]; omega
      · have hiT : i = T := by omega
        have hlt2 : ¬ (i : Int) < (T : Int) := by omega
        have hrd7 : Bs w4 A3 (1 :: c1 :: (xs ++ [c2])) := by
          have := hrd6.take (n + 3)
          rwa [show (1 :: c1 :: (xs ++ [c2, c3])).take (n + 3) = 1 :: c1 :: (xs ++ [c2]) by
            have := hxl.out
            rw [show n + 3 = xs.length + 1 + 1 + 1 by omega, List.take_succ_cons, List.take_succ_cons, show xs ++ [c2, c3] = (xs ++ [c2]) ++ [c3] by simp, List.take_append_of_le_length (by simp), List.take_of_length_le (by simp)]] at this
        obtain ⟨m4, hm4⟩ : ∃ m4, n + 4 = m4 := ⟨_, rfl⟩
        obtain ⟨m3, hm3⟩ : ∃ m3, n + 3 = m3 := ⟨_, rfl⟩
        have hm43 : (m4 : Int) - 1 = (m3 : Int) := by omega
        have m4b : (m4 : Int) ≤ 132 := by omega
        have rp := fun w => run_slice_hi (P := Try.prog) (T := 22) (E := 5) Try.underlying22 (by kernel_rfl) w A3 m4 cp3 m3 (by omega)
        rw [hm3] at k2
        rw [hm4] at hle3 ⊢
        clear hrd6 hcell hm3 hm4
        go_wp2_with fail
        refine (k2.out A3 cp3 _ (by omega) hmx3 (hrd7.drewN _)).mono ?_
        rintro e w7 ⟨A7, c7, rfl, _, _, _, hb7⟩
        have hb8 := (hb5.drewN q2).trans (hb7.mono (hb5.drewN q2).size)
        go_wp2
        go_ret
        exact ⟨rfl, hb8⟩

set_option maxRecDepth 100000 in
/-- The step of the row. -/
theorem lifted (os : Os) (started : os.Started) (H : Type) (enc : TypeId × Value → H) :
    ReturnsInHanded {} Try.checked os 7 .any (Rows.lzStepsSpec.pre6 enc Try.prog Try.f7 Rows.lzStepsRow.domain false) (Rows.lzStepsSpec.post enc Try.prog Try.f7 false true false false) := by
  refine returnsInHanded_of_change (C := Try.checked) own started (by kernel_rfl) Try.func7
    (ChangeSpec.witness6 (enc := enc) (C := Try.checked) false ⟨#[], #[.slice none 0 0, .int .u8 0, .int .u8 0], []⟩ 8 (by kernel_rfl) (by kernel_rfl) (by kernel_rfl) (by kernel_rfl)) ?_
  intro W base args ds gs before hval0 hW hcnd _
  have hval : ∀ (j : Nat) t v, Try.f7.params[j]? = some t → args[j]? = some v → Value.okWide Try.prog W .any base t v := hval0
  have hW' := hW
  obtain ⟨p, q, hA0, hV, rfl, hfz, hnd⟩ := hW
  have hA : DataW.TrodAll enc Try.prog W 0 (fun _ => true) true Try.f7.params.toList args.toList ds p := hA0
  rw [Try.params7] at hA hval
  obtain ⟨v0, vs0, d0, ds0, p0, q0, hargs, rfl, rfl, h0, r0⟩ := trodAll_cons hA
  obtain ⟨v1, vs1, d1, ds1, p1, q1, rfl, rfl, rfl, h1, r1⟩ := trodAll_cons r0
  obtain ⟨v2, vs2, d2, ds2, p2, q2, rfl, rfl, rfl, h2, r2⟩ := trodAll_cons r1
  obtain ⟨rfl, rfl, rfl⟩ := trodAll_nil r2
  obtain rfl : args = #[v0, v1, v2] := by cases args; simp_all
  obtain ⟨rfl, rfl⟩ := trodVars_none hV
  have k0 := h0
  have lt0 : ∀ x ∈ p0, x.block < W.heap.size := by obtain ⟨m, hm⟩ := k0; exact DataW.trod_lt m _ _ _ hm
  have k1 := h1
  have lt1 : ∀ x ∈ p1, x.block < W.heap.size := by obtain ⟨m, hm⟩ := k1; exact DataW.trod_lt m _ _ _ hm
  have k2 := h2
  have lt2 : ∀ x ∈ p2, x.block < W.heap.size := by obtain ⟨m, hm⟩ := k2; exact DataW.trod_lt m _ _ _ hm
  obtain ⟨a0, len0, cap0, rfl⟩ := okWide_slice Try.underlying22 (hval 0 22 v0 rfl rfl)
  obtain ⟨z0, w0⟩ : ∃ zs, IsRow .u8 W a0 len0 cap0 zs := by
    obtain ⟨fuel, hf⟩ := h0
    rcases open_ints Try.underlying22 Try.underlying5 (by kernel_rfl) hf with ⟨hcs, _⟩ | ⟨x, l, c, zs, hcs, _, hl, hm, hz, _, hcell, hwz⟩
    · simp [Value.cells] at hcs
      obtain ⟨rfl, rfl, rfl⟩ := hcs
      exact ⟨[], .inl ⟨rfl, rfl, rfl, rfl⟩⟩
    · simp [Value.cells] at hcs
      obtain ⟨rfl, rfl, rfl⟩ := hcs
      exact ⟨zs, .inr ⟨_, rfl, hl, hm, by simpa using hz, hcell, hwz⟩⟩
  obtain ⟨a1, rfl, rfl, rfl, w1⟩ := open_int Try.underlying5 (hval 1 5 v1 rfl rfl) h1
  obtain ⟨a2, rfl, rfl, rfl, w2⟩ := open_int Try.underlying5 (hval 2 5 v2 rfl rfl) h2
  clear hA0 hval0
  refine (walk a0 len0 cap0 z0 a1 a2 W w0 w1 w2).mono fun e W' ⟨he, bel⟩ => ?_
  subst he
  exact ⟨_, rfl, _, _, _, [], _, [], hW', trodAll_mk1 (shut_bool Try.underlying4 _), (trodAll_cons_mk (Below.trod laidOut (by kernel_rfl) (of_decide_eq_true (by kernel_rfl)) k0 bel lt0) (trodAll_cons_mk (Below.trod laidOut (by kernel_rfl) (of_decide_eq_true (by kernel_rfl)) k1 bel lt1) (trodAll_cons_mk (Below.trod laidOut (by kernel_rfl) (of_decide_eq_true (by kernel_rfl)) k2 bel lt2) trodAll_mk0))), rfl, bel.frame _, fun h => by cases h⟩

theorem over : Rows.lzStepsRow.holds Try.pinned (OpenSpec.ofChange Rows.lzStepsSpec) :=
  OpenClaim.holds_of_wide 7 Try.f7 rfl rfl rfl rfl rfl rfl rfl ⟨rfl, rfl, rfl, rfl, rfl⟩ rfl rfl rfl rfl rfl (by kernel_rfl) Try.func7 (by kernel_rfl)
    (of_decide_eq_true (by kernel_rfl)) (by unfold Func.isWrapper; first | (rw [if_pos (by decide +kernel)]; kernel_rfl) | (rw [if_neg (by decide +kernel)]; exact ⟨rfl, rfl⟩))
    (fun os started H enc _ => lifted os started H enc)

/-- The statement. -/
theorem proved : Rows.LzStepsSaid := over
#print axioms proved
end Go.Proofs.Ythbniljkgdkdnaa.lzSteps
