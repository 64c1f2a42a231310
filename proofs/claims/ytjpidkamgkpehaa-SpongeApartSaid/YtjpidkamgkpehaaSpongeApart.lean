/-
  The law SpongeApart of the given program: for every input the call returns true, and each argument reads behind the call as it read before. No condition on the input. (The frame is after the proof skeleton of the kit, the walk by hand.)
-/
import Derived.Test.YtjpidkamgkpehaaRows
import Derived.Test.YtjpidkamgkpehaaSLaws
import Derived.WalkKit
import Derived.ProofKit
import Derived.OpenShut
import Derived.ShutString
import Derived.ChangeOld
import Derived.Below
namespace Go.Proofs.Ytjpidkamgkpehaa.spongeApart
open Go.ChangeShapes Go.WideShapes Go.ChangeAt Go.RowKit
open Go.ChangeMaps (open_string shut_string)
set_option linter.unusedVariables false
set_option linter.unusedSimpArgs false

theorem own : ownKnob Try.prog.godebug = none := by kernel_rfl
theorem laidOut : laidOutB Try.prog = true := by kernel_rfl

/-- A slice of integers that came in: nil; or a row of cells, as many as its capacity, that fit their kind. -/
def IsRow (k : IntKind) (w : World) (a : Option Addr) (len cap : Nat) (zs : List Int) : Prop :=
  (a = none ∧ len = 0 ∧ cap = 0 ∧ zs = []) ∨
  ∃ x, a = some x ∧ len ≤ cap ∧ cap ≤ maxLen ∧ zs.length = cap ∧ (∀ i, i < zs.length → w.cell? (x.add i) = some (.int k (zs.getD i 0))) ∧ ∀ n ∈ zs, (Lit.int k n).wf = true

set_option maxHeartbeats 2000000 in
set_option maxRecDepth 100000 in
/-- The walk. -/
theorem walk (a0 : Option Addr) (len0 cap0 : Nat) (z0 : List Int) (a1 : Option Addr) (len1 cap1 : Nat) (z1 : List Int) (w : World) (w0 : IsRow .u8 w a0 len0 cap0 z0) (w1 : IsRow .u8 w a1 len1 cap1 z1) :
    Calls Try.prog 6 #[.slice a0 len0 cap0, .slice a1 len1 cap1] w fun e w' => e = .returned (.bool true) ∧ Below w.heap.size w w' := by
  obtain ⟨bs, rfl, hc, hm, hb⟩ := bytes_of_ints w0
  obtain ⟨cs, rfl, hcc, hcm, hcb⟩ := bytes_of_ints w1
  have hmin : (bs.take 20000).length = min bs.length 20000 := by simp; omega
  have hmin2 : (cs.take 20000).length = min cs.length 20000 := by simp; omega
  have hb' := hb.take 20000
  have hcb' := hcb.take 20000
  have few1 := Lib.hid fun w => few_any a0 bs.length cap0 w hc hm
  have few2 := Lib.hid fun w => few_any a1 cs.length cap1 w hcc hcm
  have hn : min bs.length 20000 ≤ 20000 := by omega
  have hn2 : min cs.length 20000 ≤ 20000 := by omega
  have hnc : min bs.length 20000 ≤ cap0 := by omega
  have hm' := hm
  unfold maxLen at hm'
  have hxl := Lib.hid hmin
  have hyl := Lib.hid hmin2
  clear hmin hmin2 w0 w1
  generalize min bs.length 20000 = n at *
  generalize min cs.length 20000 = n2 at *
  generalize bs.take 20000 = xs at *
  generalize cs.take 20000 = ys at *
  have hxl' := hxl.out
  obtain ⟨h, hh⟩ : ∃ h, n / 2 = h := ⟨_, rfl⟩
  have hh1 : (n : Int) / 2 = h := by omega
  have hh2 : h ≤ n := by omega
  have r1 := fun w => run_slice_hi (P := Try.prog) (T := 22) (E := 5) Try.underlying22 (by kernel_rfl) w a0 n cap0 h (by omega)
  have r2 := fun w => run_slice_lo (P := Try.prog) (T := 22) (E := 5) Try.underlying22 (by kernel_rfl) w a0 n cap0 h (by omega) (by omega)
  have hx1 := hb'.take h
  have hx2 := Bs.cut hb' h cap0 (by omega)
  obtain ⟨A2, hA2⟩ : ∃ A2, (if cap0 = h then a0 else a0.map (·.add h)) = A2 := ⟨_, rfl⟩
  rw [hA2] at r2 hx2
  clear hA2
  have hl1 : (xs.take h).length = h := by simp; omega
  have hl2 : (xs.drop h).length = n - h := by simp; omega
  have hcat := List.take_append_drop h xs
  have w1_ := Lib.hid fun g w hs h1 => write_fp g [] a0 h cap0 (xs.take h) w hs hl1 (by omega) h1
  have w2_ := Lib.hid fun g w hs h1 => write_fp g (xs.take h) A2 (n - h) (cap0 - h) (xs.drop h) w hs hl2 (by omega) h1
  have w3_ := Lib.hid fun g w hs h1 => write_fp g [] a1 n2 cap1 ys w hs hyl.out (by omega) h1
  rw [hcat] at w2_
  rw [List.nil_append] at w1_ w3_
  have k1 := fun w h => one_any a0 n cap0 xs w hxl.out (by omega) h
  have k2 := fun w h => one_any a1 n2 cap1 ys w hyl.out (by omega) h
  have k3 := fun g w h => ssum_fp g xs w h
  have k4 := fun g w h => ssum_fp g ys w h
  obtain ⟨F, hF⟩ : ∃ F, fp xs = F := ⟨_, rfl⟩
  obtain ⟨G, hG⟩ : ∃ G, fp ys = G := ⟨_, rfl⟩
  rw [hF] at k1 k3
  rw [hG] at k2 k4
  have q1 := eql_self F
  have q2 := eqg_bsr F F
  have q3 := eql_self G
  have q4 := eqg_bsr G G
  replace k1 := Lib.hid k1
  replace k2 := Lib.hid k2
  replace k3 := Lib.hid k3
  replace k4 := Lib.hid k4
  clear hb hcb hxl' hcat hl1 hl2 hm hcm hF hG hxl hyl hh
  go_enter Try.func6, Try.ntmps6
  go_wp2_with fail
  refine (shown_any _).mono ?_
  rintro e v1 ⟨rfl, hb1⟩
  go_wp2_with fail
  refine (new_any _).mono ?_
  rintro e v2 ⟨rfl, rfl⟩
  go_wp2_with fail
  refine (new_any _).mono ?_
  rintro e v2 ⟨rfl, rfl⟩
  have hs1 := (new_row v1).alloc (.cells (sc (fun _ => 0) 0) 44)
  have ht1 : Row ((v1.alloc (.cells (sc (fun _ => 0) 0) 44)).alloc (.cells (sc (fun _ => 0) 0) 44)) (v1.heap.size + 1) 44 (sc (feed st0 []).1 (feed st0 []).2) := by
    have h := new_row (v1.alloc (.cells (sc (fun _ => 0) 0) 44))
    rw [World.size_alloc] at h
    exact h
  have hz1 := hb1.size
  have hb2 := (hb1.alloc hb1.size (.cells (sc (fun _ => 0) 0) 44)).alloc (by simp; omega) (.cells (sc (fun _ => 0) 0) 44)
  have hz2 : ((v1.alloc (.cells (sc (fun _ => 0) 0) 44)).alloc (.cells (sc (fun _ => 0) 0) 44)).heap.size = v1.heap.size + 2 := by simp
  clear hb1
  go_wp2_with fail
  refine (few1.out _).mono ?_
  rintro e w' ⟨rfl, rfl⟩
  go_wp2_with fail
  refine (few2.out _).mono ?_
  rintro e w' ⟨rfl, rfl⟩
  go_wp2_with fail
  have hlo1 := hx1.lo
  have hlo2 := hx2.lo
  have hlo3 := Bs.lo hcb'
  refine (w1_.out v1.heap.size _ hs1 (Rd.below hx1 hb2) (hlo1.imp_right fun h ad e => by have := h ad e; omega)).mono ?_
  rintro e v2 ⟨rfl, hs2, hg2⟩
  have ht2 := ht1.grown hg2 (by simp)
  have hb3 := below_of_grown hb2 hg2 hz1 hb2.size
  have hz3 := hg2.size
  rw [hz2] at hz3
  clear hs1 ht1 hb2 hz2 hg2
  go_wp2_with fail
  refine (w3_.out (v1.heap.size + 1) _ ht2 (Rd.below hcb' hb3) (hlo3.imp_right fun h ad e => by have := h ad e; omega)).mono ?_
  rintro e v3 ⟨rfl, ht3, hg3⟩
  have hs3 := hs2.grown hg3 (by simp)
  have hb4 := below_of_grown hb3 hg3 (by omega) hb3.size
  have hz4 := hg3.size
  clear hs2 ht2 hb3 hg3
  go_wp2_with fail
  refine (w2_.out v1.heap.size _ hs3 (Rd.below hx2 hb4) (hlo2.imp_right fun h ad e => by have := h ad e; omega)).mono ?_
  rintro e v4 ⟨rfl, hs4, hg4⟩
  have ht4 := ht3.grown hg4 (by simp)
  have hb5 := below_of_grown hb4 hg4 (by omega) hb4.size
  have hz5 := hg4.size
  clear hs3 ht3 hb4 hg4
  go_wp2_with fail
  refine (k3.out _ _ hs4).mono ?_
  rintro e v5 ⟨rfl, hb6⟩
  have hb7 := hb5.trans (hb6.mono hb5.size)
  have ht5 := ht4.below hb6
  have hz6 := hb6.size
  clear hs4 ht4 hb5 hb6
  go_wp2_with fail
  refine (k1.out _ (Rd.below hb' hb7)).mono ?_
  rintro e v6 ⟨rfl, hb8⟩
  have ht6 := (ht5.alloc (.cells #[.slice a0 n cap0] 22)).below hb8
  have hb9 := (hb7.alloc hb7.size (.cells #[.slice a0 n cap0] 22)).trans (hb8.mono (by have := hb7.size; simp; omega))
  clear ht5 hb7 hb8
  go_wp2_with fail
  refine (k4.out _ _ ht6).mono ?_
  rintro e v7 ⟨rfl, hb10⟩
  have hb11 := hb9.trans (hb10.mono hb9.size)
  clear hb9 hb10 ht6
  go_wp2_with fail
  refine (k2.out _ (Rd.below hcb' hb11)).mono ?_
  rintro e v8 ⟨rfl, hb12⟩
  have hb13 := (hb11.alloc hb11.size (.cells #[.slice a1 n2 cap1] 22)).trans (hb12.mono (by have := hb11.size; simp; omega))
  go_wp2
  go_ret
  exact ⟨rfl, hb13⟩

set_option maxRecDepth 100000 in
/-- The step of the row. -/
theorem lifted (os : Os) (started : os.Started) (H : Type) (enc : TypeId × Value → H) :
    ReturnsInHanded {} Try.checked os 6 .any (Rows.spongeApartSpec.pre6 enc Try.prog Try.f6 Rows.spongeApartRow.domain false) (Rows.spongeApartSpec.post enc Try.prog Try.f6 false true false false) := by
  refine returnsInHanded_of_change (C := Try.checked) own started (by kernel_rfl) Try.func6
    (ChangeSpec.witness6 (enc := enc) (C := Try.checked) false ⟨#[], #[.slice none 0 0, .slice none 0 0], []⟩ 8 (by kernel_rfl) (by kernel_rfl) (by kernel_rfl) (by kernel_rfl)) ?_
  intro W base args ds gs before hval0 hW hcnd _
  have hval : ∀ (j : Nat) t v, Try.f6.params[j]? = some t → args[j]? = some v → Value.okWide Try.prog W .any base t v := hval0
  have hW' := hW
  obtain ⟨p, q, hA0, hV, rfl, hfz, hnd⟩ := hW
  have hA : DataW.TrodAll enc Try.prog W 0 (fun _ => true) true Try.f6.params.toList args.toList ds p := hA0
  rw [Try.params6] at hA hval
  obtain ⟨v0, vs0, d0, ds0, p0, q0, hargs, rfl, rfl, h0, r0⟩ := trodAll_cons hA
  obtain ⟨v1, vs1, d1, ds1, p1, q1, rfl, rfl, rfl, h1, r1⟩ := trodAll_cons r0
  obtain ⟨rfl, rfl, rfl⟩ := trodAll_nil r1
  obtain rfl : args = #[v0, v1] := by cases args; simp_all
  obtain ⟨rfl, rfl⟩ := trodVars_none hV
  have k0 := h0
  have lt0 : ∀ x ∈ p0, x.block < W.heap.size := by obtain ⟨m, hm⟩ := k0; exact DataW.trod_lt m _ _ _ hm
  have k1 := h1
  have lt1 : ∀ x ∈ p1, x.block < W.heap.size := by obtain ⟨m, hm⟩ := k1; exact DataW.trod_lt m _ _ _ hm
  obtain ⟨a0, len0, cap0, rfl⟩ := okWide_slice Try.underlying22 (hval 0 22 v0 rfl rfl)
  obtain ⟨z0, w0⟩ : ∃ zs, IsRow .u8 W a0 len0 cap0 zs := by
    obtain ⟨fuel, hf⟩ := h0
    rcases open_ints Try.underlying22 Try.underlying5 (by kernel_rfl) hf with ⟨hcs, _⟩ | ⟨x, l, c, zs, hcs, _, hl, hm, hz, _, hcell, hwz⟩
    · simp [Value.cells] at hcs
      obtain ⟨rfl, rfl, rfl⟩ := hcs
      exact ⟨[], .inl ⟨rfl, rfl, rfl, rfl⟩⟩
    · simp [Value.cells] at hcs
      obtain ⟨rfl, rfl, rfl⟩ := hcs
      exact ⟨zs, .inr ⟨_, rfl, hl, hm, by simpa using hz, hcell, hwz⟩⟩
  obtain ⟨a1, len1, cap1, rfl⟩ := okWide_slice Try.underlying22 (hval 1 22 v1 rfl rfl)
  obtain ⟨z1, w1⟩ : ∃ zs, IsRow .u8 W a1 len1 cap1 zs := by
    obtain ⟨fuel, hf⟩ := h1
    rcases open_ints Try.underlying22 Try.underlying5 (by kernel_rfl) hf with ⟨hcs, _⟩ | ⟨x, l, c, zs, hcs, _, hl, hm, hz, _, hcell, hwz⟩
    · simp [Value.cells] at hcs
      obtain ⟨rfl, rfl, rfl⟩ := hcs
      exact ⟨[], .inl ⟨rfl, rfl, rfl, rfl⟩⟩
    · simp [Value.cells] at hcs
      obtain ⟨rfl, rfl, rfl⟩ := hcs
      exact ⟨zs, .inr ⟨_, rfl, hl, hm, by simpa using hz, hcell, hwz⟩⟩
  clear hA0 hval0
  refine (walk a0 len0 cap0 z0 a1 len1 cap1 z1 W w0 w1).mono fun e W' ⟨he, bel⟩ => ?_
  subst he
  exact ⟨_, rfl, _, _, _, [], _, [], hW', trodAll_mk1 (shut_bool Try.underlying4 _), (trodAll_cons_mk (Below.trod laidOut (by kernel_rfl) (of_decide_eq_true (by kernel_rfl)) k0 bel lt0) (trodAll_cons_mk (Below.trod laidOut (by kernel_rfl) (of_decide_eq_true (by kernel_rfl)) k1 bel lt1) trodAll_mk0)), rfl, bel.frame _, fun h => by cases h⟩

theorem over : Rows.spongeApartRow.holds Try.pinned (OpenSpec.ofChange Rows.spongeApartSpec) :=
  OpenClaim.holds_of_wide 6 Try.f6 rfl rfl rfl rfl rfl rfl rfl ⟨rfl, rfl, rfl, rfl, rfl⟩ rfl rfl rfl rfl rfl (by kernel_rfl) Try.func6 (by kernel_rfl)
    (of_decide_eq_true (by kernel_rfl)) (by unfold Func.isWrapper; first | (rw [if_pos (by decide +kernel)]; kernel_rfl) | (rw [if_neg (by decide +kernel)]; exact ⟨rfl, rfl⟩))
    (fun os started H enc _ => lifted os started H enc)

/-- The statement. -/
theorem proved : Rows.SpongeApartSaid := over
#print axioms proved
end Go.Proofs.Ytjpidkamgkpehaa.spongeApart
