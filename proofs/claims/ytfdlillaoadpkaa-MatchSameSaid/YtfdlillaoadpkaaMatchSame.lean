/-
  The law MatchSame of the given program: for every input the call returns true, and each argument reads behind the call as it read before. No condition on the input. (The frame is after the proof skeleton of the kit, the walk by hand.)
-/
import Derived.Test.YtfdlillaoadpkaaRows
import Derived.Test.YtfdlillaoadpkaaMatchLaws
import Derived.Test.YtfdlillaoadpkaaMatchShrink
import Derived.Test.YtfdlillaoadpkaaEqArr
import Derived.Test.YtfdlillaoadpkaaAppend
import Derived.WalkKit
import Derived.ProofKit
import Derived.OpenShut
import Derived.ShutString
import Derived.ChangeOld
import Derived.Below
namespace Go.Proofs.Ytfdlillaoadpkaa.matchSame
open Go.ChangeShapes Go.WideShapes Go.ChangeAt Go.RowKit
open Go.ChangeMaps (open_string shut_string)
set_option linter.unusedVariables false
set_option linter.unusedSimpArgs false

theorem own : ownKnob Try.prog.godebug = none := by kernel_rfl
theorem laidOut : laidOutB Try.prog = true := by kernel_rfl

/-- A slice of integers that came in: nil; or a row of cells, as many as its capacity, that fit their kind. -/
def IsRow (k : IntKind) (w : World) (a : Option Addr) (len cap : Nat) (zs : List Int) : Prop :=
  (a = none ∧ len = 0 ∧ cap = 0 ∧ zs = []) ∨
  ∃ x, a = some x ∧ len ≤ cap ∧ cap ≤ maxLen ∧ zs.length = cap ∧ (∀ i, i < zs.length → w.cell? (x.add i) = some (.int k (zs.getD i 0))) ∧ ∀ n ∈ zs, (Lit.int k n).wf = true

set_option maxHeartbeats 2000000 in
set_option maxRecDepth 100000 in
/-- The walk. -/
theorem walk (a0 : Option Addr) (len0 cap0 : Nat) (z0 : List Int) (a1 : Int) (a2 : Option Addr) (len2 cap2 : Nat) (z2 : List Int) (w : World) (w0 : IsRow .u8 w a0 len0 cap0 z0) (w1 : (Lit.int .u16 a1).wf = true) (w2 : IsRow .u8 w a2 len2 cap2 z2) :
    Calls Try.prog 9 #[.slice a0 len0 cap0, .int .u16 a1, .slice a2 len2 cap2] w fun e w' => e = .returned (.bool true) ∧ Below w.heap.size w w' := by
  obtain ⟨bs, rfl, hc, hm, hb⟩ := bytes_of_ints w0
  obtain ⟨cs, rfl, hcc, hcm2, hcb⟩ := bytes_of_ints w2
  have b1 := bounds_u16 w1
  have hmin : (bs.take 1000).length = min bs.length 1000 := by simp; omega
  have hmin2 : (cs.take 1000).length = min cs.length 1000 := by simp; omega
  have hb' := hb.take 1000
  have hcb' := hcb.take 1000
  have hc' : (bs.take 1000).length ≤ cap0 := by omega
  have k1 := fun w h => all_any a0 cap0 (bs.take 1000) w hc' hm h (by omega)
  have k2 := fun k w h hk => longest_in a0 cap0 k (bs.take 1000) w hc' hm h hk
  have hn : min bs.length 1000 ≤ 1000 := by omega
  have hn2 : min cs.length 1000 ≤ 1000 := by omega
  rw [hmin] at k1 k2
  have few1 := Lib.hid fun w => few_any a0 bs.length cap0 w hc hm
  have few2 := Lib.hid fun w => few_any a2 cs.length cap2 w hcc hcm2
  have hxl := Lib.hid hmin
  have hyl := Lib.hid hmin2
  clear hmin hmin2 w0 w1 w2
  generalize min bs.length 1000 = n at *
  generalize min cs.length 1000 = n2 at *
  generalize bs.take 1000 = xs at *
  generalize cs.take 1000 = ys at *
  clear hb hc' hcb
  replace k1 := Lib.hid k1
  replace k2 := Lib.hid k2
  by_cases h0 : n = 0
  · have h0' : ((n : Int) == 0) = true := by simp; omega
    go_enter Try.func9, Try.ntmps9
    go_wp2_with fail
    refine (shown_any _).mono ?_
    rintro e w1 ⟨rfl, hb1⟩
    go_wp2_with fail
    refine (few1.out _).mono ?_
    rintro e w' ⟨rfl, rfl⟩
    go_wp2
    go_ret
    exact ⟨rfl, hb1⟩
  · have h0' : ((n : Int) == 0) = false := by simp; omega
    have hk0 : 0 ≤ a1 % (n : Int) := Int.emod_nonneg _ (by omega)
    have hk1 : a1 % (n : Int) < n := Int.emod_lt_of_pos _ (by omega)
    obtain ⟨k, hk⟩ : ∃ k : Nat, a1 % (n : Int) = k := ⟨(a1 % (n : Int)).toNat, by omega⟩
    rw [hk] at hk1
    have hkn : k < n := by omega
    clear hk0
    have hle := best_le xs k
    have hle2 := best_le (xs ++ ys) k
    have q1 := fun w o x y => run_eqGuard (P := Try.prog) (t := 34) w o x y #[.int .i64 (best xs k).1, .int .i64 (best xs k).2] #[.int .i64 (best xs k).1, .int .i64 (best xs k).2] (by kernel_rfl)
    have q2 := fun w => (run_eql_arr (P := Try.prog) (t := 34) (e := 3) (k := .i64) w Try.underlying34 Try.underlying3 (by kernel_rfl) [((best xs k).1 : Int), ((best xs k).2 : Int)] [((best xs k).1 : Int), ((best xs k).2 : Int)] rfl rfl).2
    simp only [iv, List.map_cons, List.map_nil, decide_true, Bool.not_true] at q2
    have same := Lib.hid fun h => best_same xs ys k h
    have more := best_more xs ys k
    rw [hxl.out] at same
    have infoB : (Try.prog.info? 5).map (fun i => (i.zero, i.size, i.bytes)) = some (some (.int .u8 0), 1, 1) := by kernel_rfl
    replace infoB := Lib.hid infoB
    go_enter Try.func9, Try.ntmps9
    go_wp2_with fail
    refine (shown_any _).mono ?_
    rintro e w1 ⟨rfl, hb1⟩
    go_wp2_with fail
    refine (few1.out _).mono ?_
    rintro e w' ⟨rfl, rfl⟩
    go_wp2_with fail
    refine (k1.out _ (hb'.below hb1)).mono ?_
    rintro e w2 ⟨v1, rfl, ho1, hb2⟩
    have hb12 := hb1.trans (hb2.mono hb1.size)
    obtain ⟨A1, c1, rfl, hle1, hmx1, _⟩ := own_slice ho1
    obtain ⟨g1, rfl⟩ := own_addr ho1 (by omega)
    go_wp2_with fail
    refine (k2.out k _ (hb'.below hb12) hkn).mono ?_
    rintro e w3 ⟨rfl, hb3⟩
    have hb13 := hb12.trans (hb3.mono hb12.size)
    have ho3 := ho1.kept (grown_below hb3 none) (by simp [Value.ownBlock])
    obtain ⟨d0, d1⟩ := own_pair ho3 hkn
    have hs13 := hb13.size
    clear ho1 hb1 hb2 hb12 hb3 ho3
    have hmade : (w3.alloc (.cells #[] 5)).ownsRow w.heap.size 5 1 (.slice (some ⟨w3.heap.size, 0, none⟩) 0 0) 0 [] := World.ownsRow_made w3 #[] 0 hs13 (by unfold maxLen; omega) rfl
    go_wp2_with (at_builtin; refine wpList_append_any rfl _ _ 22 rfl w.heap.size 5 (.int .u8 0) 1 1 Try.underlying22 infoB.out rfl (by decide) _ _ _ rfl hmade a0 n cap0 (xs.map bv) rfl (Bs.alloc (hb'.below hb13) _) (by rw [List.length_map, hxl.out]; omega) (bv_one xs) (by unfold maxLen; omega) (by omega) (by simp; omega) ?_; intro v4 w4 ho4 hg4 _)
    simp only [Nat.zero_add, List.nil_append] at ho4
    have hb14 := (hb13.alloc hs13 (.cells #[] 5)).grown hg4 (by simp; omega) (fun q e => by have e1 : w3.heap.size = q := Option.some.inj e; omega)
    have hs14 := hb14.size
    clear hg4 hmade
    go_wp2_with fail
    refine (few2.out _).mono ?_
    rintro e w' ⟨rfl, rfl⟩
    go_wp2_with (at_builtin; refine wpList_append_any rfl _ _ 22 rfl w.heap.size 5 (.int .u8 0) 1 1 Try.underlying22 infoB.out rfl (by decide) _ _ _ rfl ho4 a2 n2 cap2 (ys.map bv) rfl (hcb'.below hb14) (by rw [List.length_map, hyl.out]; omega) (bv_one ys) (by unfold maxLen; omega) (by omega) (by omega) ?_; intro v5 w5 ho5 hg5 _)
    have hb15 := hb14.grown hg5 hs14 (fun q e => (ho4.lt q e).1)
    have hs15 := hb15.size
    obtain ⟨A5, c5, rfl, hle5, hmx5, hrd5⟩ := own_slice ho5
    rw [← List.map_append] at hrd5
    have hlx : (xs ++ ys).length = n + n2 := by rw [List.length_append, hxl.out, hyl.out]
    have hlg := longest_in A5 c5 k (xs ++ ys) w5 (by omega) hmx5 hrd5 (by omega)
    rw [hlx] at hlg
    replace hlg := Lib.hid hlg
    clear hlx hg5 ho4 ho5 hrd5
    go_wp2_with fail
    refine hlg.out.mono ?_
    rintro e w6 ⟨rfl, hb6⟩
    have hb16 := hb15.trans (hb6.mono hs15)
    by_cases hin : k + max (best xs k).2 2 < n
    · have hin' : (k : Int) + max ((best xs k).2 : Int) 2 < n := by omega
      have hsm := same.out hin
      rw [hsm]
      clear hsm hlg same
      go_wp2
      go_ret
      exact ⟨by simp, hb16⟩
    · have hin' : ¬ (k : Int) + max ((best xs k).2 : Int) 2 < n := by omega
      have more' : ((best xs k).2 : Int) ≤ (best (xs ++ ys) k).2 := by omega
      clear hlg same
      go_wp2
      go_ret
      exact ⟨by simp [more'], hb16⟩

set_option maxRecDepth 100000 in
/-- The step of the row. -/
theorem lifted (os : Os) (started : os.Started) (H : Type) (enc : TypeId × Value → H) :
    ReturnsInHanded {} Try.checked os 9 .any (Rows.matchSameSpec.pre6 enc Try.prog Try.f9 Rows.matchSameRow.domain false) (Rows.matchSameSpec.post enc Try.prog Try.f9 false true false false) := by
  refine returnsInHanded_of_change (C := Try.checked) own started (by kernel_rfl) Try.func9
    (ChangeSpec.witness6 (enc := enc) (C := Try.checked) false ⟨#[], #[.slice none 0 0, .int .u16 0, .slice none 0 0], []⟩ 8 (by kernel_rfl) (by kernel_rfl) (by kernel_rfl) (by kernel_rfl)) ?_
  intro W base args ds gs before hval0 hW hcnd _
  have hval : ∀ (j : Nat) t v, Try.f9.params[j]? = some t → args[j]? = some v → Value.okWide Try.prog W .any base t v := hval0
  have hW' := hW
  obtain ⟨p, q, hA0, hV, rfl, hfz, hnd⟩ := hW
  have hA : DataW.TrodAll enc Try.prog W 0 (fun _ => true) true Try.f9.params.toList args.toList ds p := hA0
  rw [Try.params9] at hA hval
  obtain ⟨v0, vs0, d0, ds0, p0, q0, hargs, rfl, rfl, h0, r0⟩ := trodAll_cons hA
  obtain ⟨v1, vs1, d1, ds1, p1, q1, rfl, rfl, rfl, h1, r1⟩ := trodAll_cons r0
  obtain ⟨v2, vs2, d2, ds2, p2, q2, rfl, rfl, rfl, h2, r2⟩ := trodAll_cons r1
  obtain ⟨rfl, rfl, rfl⟩ := trodAll_nil r2
  obtain rfl : args = #[v0, v1, v2] := by cases args; simp_all
  obtain ⟨rfl, rfl⟩ := trodVars_none hV
  have k0 := h0
  have lt0 : ∀ x ∈ p0, x.block < W.heap.size := by obtain ⟨m, hm⟩ := k0; exact DataW.trod_lt m _ _ _ hm
  have k1 := h1
  have lt1 : ∀ x ∈ p1, x.block < W.heap.size := by obtain ⟨m, hm⟩ := k1; exact DataW.trod_lt m _ _ _ hm
  have k2 := h2
  have lt2 : ∀ x ∈ p2, x.block < W.heap.size := by obtain ⟨m, hm⟩ := k2; exact DataW.trod_lt m _ _ _ hm
  obtain ⟨a0, len0, cap0, rfl⟩ := okWide_slice Try.underlying22 (hval 0 22 v0 rfl rfl)
  obtain ⟨z0, w0⟩ : ∃ zs, IsRow .u8 W a0 len0 cap0 zs := by
    obtain ⟨fuel, hf⟩ := h0
    rcases open_ints Try.underlying22 Try.underlying5 (by kernel_rfl) hf with ⟨hcs, _⟩ | ⟨x, l, c, zs, hcs, _, hl, hm, hz, _, hcell, hwz⟩
    · simp [Value.cells] at hcs
      obtain ⟨rfl, rfl, rfl⟩ := hcs
      exact ⟨[], .inl ⟨rfl, rfl, rfl, rfl⟩⟩
    · simp [Value.cells] at hcs
      obtain ⟨rfl, rfl, rfl⟩ := hcs
      exact ⟨zs, .inr ⟨_, rfl, hl, hm, by simpa using hz, hcell, hwz⟩⟩
  obtain ⟨a1, rfl, rfl, rfl, w1⟩ := open_int Try.underlying30 (hval 1 30 v1 rfl rfl) h1
  obtain ⟨a2, len2, cap2, rfl⟩ := okWide_slice Try.underlying22 (hval 2 22 v2 rfl rfl)
  obtain ⟨z2, w2⟩ : ∃ zs, IsRow .u8 W a2 len2 cap2 zs := by
    obtain ⟨fuel, hf⟩ := h2
    rcases open_ints Try.underlying22 Try.underlying5 (by kernel_rfl) hf with ⟨hcs, _⟩ | ⟨x, l, c, zs, hcs, _, hl, hm, hz, _, hcell, hwz⟩
    · simp [Value.cells] at hcs
      obtain ⟨rfl, rfl, rfl⟩ := hcs
      exact ⟨[], .inl ⟨rfl, rfl, rfl, rfl⟩⟩
    · simp [Value.cells] at hcs
      obtain ⟨rfl, rfl, rfl⟩ := hcs
      exact ⟨zs, .inr ⟨_, rfl, hl, hm, by simpa using hz, hcell, hwz⟩⟩
  clear hA0 hval0
  refine (walk a0 len0 cap0 z0 a1 a2 len2 cap2 z2 W w0 w1 w2).mono fun e W' ⟨he, bel⟩ => ?_
  subst he
  exact ⟨_, rfl, _, _, _, [], _, [], hW', trodAll_mk1 (shut_bool Try.underlying4 _), (trodAll_cons_mk (Below.trod laidOut (by kernel_rfl) (of_decide_eq_true (by kernel_rfl)) k0 bel lt0) (trodAll_cons_mk (Below.trod laidOut (by kernel_rfl) (of_decide_eq_true (by kernel_rfl)) k1 bel lt1) (trodAll_cons_mk (Below.trod laidOut (by kernel_rfl) (of_decide_eq_true (by kernel_rfl)) k2 bel lt2) trodAll_mk0))), rfl, bel.frame _, fun h => by cases h⟩

theorem over : Rows.matchSameRow.holds Try.pinned (OpenSpec.ofChange Rows.matchSameSpec) :=
  OpenClaim.holds_of_wide 9 Try.f9 rfl rfl rfl rfl rfl rfl rfl ⟨rfl, rfl, rfl, rfl, rfl⟩ rfl rfl rfl rfl rfl (by kernel_rfl) Try.func9 (by kernel_rfl)
    (of_decide_eq_true (by kernel_rfl)) (by unfold Func.isWrapper; first | (rw [if_pos (by decide +kernel)]; kernel_rfl) | (rw [if_neg (by decide +kernel)]; exact ⟨rfl, rfl⟩))
    (fun os started H enc _ => lifted os started H enc)

/-- The statement. -/
theorem proved : Rows.MatchSameSaid := over
#print axioms proved
end Go.Proofs.Ytfdlillaoadpkaa.matchSame
