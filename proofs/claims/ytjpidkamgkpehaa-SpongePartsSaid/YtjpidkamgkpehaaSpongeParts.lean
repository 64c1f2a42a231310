/-
  The law SpongeParts of the given program: for every input the call returns true, and each argument reads behind the call as it read before. No condition on the input. (The frame is after the proof skeleton of the kit, the walk by hand.)
-/
import Derived.Test.YtjpidkamgkpehaaRows
import Derived.Test.YtjpidkamgkpehaaSLaws
import Derived.Test.YtjpidkamgkpehaaKRows
import Derived.Deep.RegionHeld3
import Derived.WalkKit
import Derived.ProofKit
import Derived.OpenShut
import Derived.ShutString
import Derived.ChangeOld
import Derived.Below
namespace Go.Proofs.Ytjpidkamgkpehaa.spongeParts
open Go.ChangeShapes Go.WideShapes Go.ChangeAt Go.RowKit
open Go.ChangeMaps (open_string shut_string)
set_option linter.unusedVariables false
set_option linter.unusedSimpArgs false

theorem own : ownKnob Try.prog.godebug = none := by kernel_rfl
theorem laidOut : laidOutB Try.prog = true := by kernel_rfl

/-- A slice of integers that came in: nil; or a row of cells, as many as its capacity, that fit their kind. -/
def IsRow (k : IntKind) (w : World) (a : Option Addr) (len cap : Nat) (zs : List Int) : Prop :=
  (a = none ∧ len = 0 ∧ cap = 0 ∧ zs = []) ∨
  ∃ x, a = some x ∧ len ≤ cap ∧ cap ≤ maxLen ∧ zs.length = cap ∧ (∀ i, i < zs.length → w.cell? (x.add i) = some (.int k (zs.getD i 0))) ∧ ∀ n ∈ zs, (Lit.int k n).wf = true

set_option maxHeartbeats 2000000 in
set_option maxRecDepth 100000 in
/-- The walk. -/
theorem walk (a0 : Option Addr) (len0 cap0 : Nat) (z0 : List Int) (a1 : Int) (a2 : Int) (w : World) (w0 : IsRow .u8 w a0 len0 cap0 z0) (w1 : (Lit.int .u64 a1).wf = true) (w2 : (Lit.int .u64 a2).wf = true) :
    Calls Try.prog 5 #[.slice a0 len0 cap0, .int .u64 a1, .int .u64 a2] w fun e w' => e = .returned (.bool true) ∧ Below w.heap.size w w' := by
  obtain ⟨bs, rfl, hc, hm, hb⟩ := bytes_of_ints w0
  have b1 := bounds_u64 w1
  have b2 := bounds_u64 w2
  have hmin : (bs.take 20000).length = min bs.length 20000 := by simp; omega
  have hb' := hb.take 20000
  have few1 := Lib.hid fun w => few_any a0 bs.length cap0 w hc hm
  have hn : min bs.length 20000 ≤ 20000 := by omega
  have hnc : min bs.length 20000 ≤ cap0 := by omega
  unfold maxLen at hm
  have hxl := Lib.hid hmin
  clear hmin w0 w1 w2
  generalize min bs.length 20000 = n at *
  generalize bs.take 20000 = xs at *
  have hxl' := hxl.out
  obtain ⟨m, hm1⟩ : ∃ m : Nat, a1 % ((n : Int) + 1) = m := ⟨(a1 % ((n : Int) + 1)).toNat, by have := Int.emod_nonneg a1 (show (n : Int) + 1 ≠ 0 by omega); omega⟩
  obtain ⟨k, hk1⟩ : ∃ k : Nat, a2 % ((n : Int) + 1) = k := ⟨(a2 % ((n : Int) + 1)).toNat, by have := Int.emod_nonneg a2 (show (n : Int) + 1 ≠ 0 by omega); omega⟩
  have hm2 : m ≤ n := by have := Int.emod_lt_of_pos a1 (show (0 : Int) < (n : Int) + 1 by omega); omega
  have hk2 : k ≤ n := by have := Int.emod_lt_of_pos a2 (show (0 : Int) < (n : Int) + 1 by omega); omega
  have hm3 : a1.tmod ((n : Int) + 1) = m := by rw [Int.tmod_eq_emod_of_nonneg (by omega)]; exact hm1
  have hk3 : a2.tmod ((n : Int) + 1) = k := by rw [Int.tmod_eq_emod_of_nonneg (by omega)]; exact hk1
  obtain ⟨lo, hlo⟩ : ∃ lo, min m k = lo := ⟨_, rfl⟩
  obtain ⟨hi, hhi⟩ : ∃ hi, max m k = hi := ⟨_, rfl⟩
  have hlo1 : min (m : Int) k = lo := by omega
  have hhi1 : max (m : Int) k = hi := by omega
  have hlh : lo ≤ hi := by omega
  have hhn : hi ≤ n := by omega
  have r1 := fun w => run_slice_hi (P := Try.prog) (T := 22) (E := 5) Try.underlying22 (by kernel_rfl) w a0 n cap0 lo (by omega)
  have r2 := fun w => run_slice_mid (P := Try.prog) (T := 22) (E := 5) Try.underlying22 (by kernel_rfl) w a0 n cap0 lo hi hlh (by omega)
  have r3 := fun w => run_slice_lo (P := Try.prog) (T := 22) (E := 5) Try.underlying22 (by kernel_rfl) w a0 n cap0 hi hhn (by omega)
  have hx1 := hb'.take lo
  have hx2 := Bs.take (Bs.cut hb' lo cap0 (by omega)) (hi - lo)
  have hx3 := Bs.cut hb' hi cap0 (by omega)
  obtain ⟨A2, hA2⟩ : ∃ A2, (if cap0 = lo then a0 else a0.map (·.add lo)) = A2 := ⟨_, rfl⟩
  obtain ⟨A3, hA3⟩ : ∃ A3, (if cap0 = hi then a0 else a0.map (·.add hi)) = A3 := ⟨_, rfl⟩
  rw [hA2] at r2 hx2
  rw [hA3] at r3 hx3
  clear hA2 hA3
  have hl1 : (xs.take lo).length = lo := by simp; omega
  have hl2 : ((xs.drop lo).take (hi - lo)).length = hi - lo := by simp; omega
  have hl3 : (xs.drop hi).length = n - hi := by simp; omega
  have hcat1 : xs.take lo ++ (xs.drop lo).take (hi - lo) = xs.take hi := by
    rw [← List.take_append_drop lo (xs.take hi), List.take_take, Nat.min_eq_left hlh, List.drop_take]
  have hcat2 : xs.take hi ++ xs.drop hi = xs := List.take_append_drop hi xs
  have w1_ := Lib.hid fun g w hs h1 => write_fp g [] a0 lo cap0 (xs.take lo) w hs hl1 (by omega) h1
  have w2_ := Lib.hid fun g w hs h1 => write_fp g (xs.take lo) A2 (hi - lo) (cap0 - lo) ((xs.drop lo).take (hi - lo)) w hs hl2 (by omega) h1
  have w3_ := Lib.hid fun g w hs h1 => write_fp g (xs.take hi) A3 (n - hi) (cap0 - hi) (xs.drop hi) w hs hl3 (by omega) h1
  rw [hcat1] at w2_
  rw [hcat2] at w3_
  rw [List.nil_append] at w1_
  have kX := fun p W hr (hbl : Below w.heap.size w W) => one_at p a0 n cap0 xs W hr hxl.out (by omega) (Rd.below hb' hbl)
  have kL := fun p W hr (hbl : Below w.heap.size w W) => one_at p a0 lo cap0 (xs.take lo) W hr hl1 (by omega) (Rd.below hx1 hbl)
  have kP := fun p W hr (hbl : Below w.heap.size w W) => four_at p [⟨a0, cap0, xs.take lo⟩, ⟨A2, cap0 - lo, (xs.drop lo).take (hi - lo)⟩, ⟨none, 0, []⟩, ⟨A3, cap0 - hi, xs.drop hi⟩] #[.slice a0 lo cap0, .slice A2 (hi - lo) (cap0 - lo), .slice none 0 0, .slice A3 (n - hi) (cap0 - hi)] W hr (by simp [Part.val, hl1, hl2, hl3]) rfl (fun q hq => by
    rcases List.mem_cons.1 hq with rfl | hq
    · exact ⟨Rd.below hx1 hbl, by dsimp only; omega⟩
    rcases List.mem_cons.1 hq with rfl | hq
    · exact ⟨Rd.below hx2 hbl, by dsimp only; omega⟩
    rcases List.mem_cons.1 hq with rfl | hq
    · exact ⟨Bs.nil, by simp⟩
    rcases List.mem_cons.1 hq with rfl | hq
    · exact ⟨Rd.below hx3 hbl, by dsimp only; omega⟩
    · cases hq)
  have hwh : whole [⟨a0, cap0, xs.take lo⟩, ⟨A2, cap0 - lo, (xs.drop lo).take (hi - lo)⟩, ⟨none, 0, []⟩, ⟨A3, cap0 - hi, xs.drop hi⟩] = xs := by
    simp only [whole, List.map_cons, List.map_nil, List.flatten_cons, List.flatten_nil, List.append_nil, List.nil_append]
    rw [← List.append_assoc, hcat1, hcat2]
  rw [hwh] at kP
  have kS0 := fun g w h => ssum_fp g xs w h
  have kS1 := fun g w h => ssum_fp g (xs.take lo) w h
  obtain ⟨F, hF⟩ : ∃ F, fp xs = F := ⟨_, rfl⟩
  obtain ⟨F1, hF1⟩ : ∃ F1, fp (xs.take lo) = F1 := ⟨_, rfl⟩
  rw [hF] at kX kP kS0
  rw [hF1] at kL kS1
  have q1 := eql_self F
  have q2 := eqg_bsr F F
  have q3 := eql_self F1
  have q4 := eqg_bsr F1 F1
  replace kX := Lib.hid kX
  replace kL := Lib.hid kL
  replace kP := Lib.hid kP
  replace kS0 := Lib.hid kS0
  replace kS1 := Lib.hid kS1
  have hlo_1 := hx1.lo
  have hlo_2 := hx2.lo
  have hlo_3 := hx3.lo
  replace hlo_1 := Lib.hid hlo_1
  replace hlo_2 := Lib.hid hlo_2
  replace hlo_3 := Lib.hid hlo_3
  have hnb : (n : Int) ≤ 20000 := by omega
  have hmb : (m : Int) ≤ 20000 := by omega
  have hkb : (k : Int) ≤ 20000 := by omega
  have hlob : (lo : Int) ≤ 20000 := by omega
  have hhib : (hi : Int) ≤ 20000 := by omega
  have z1 : IntKind.i64.wrap ((n : Int) + 1) = (n : Int) + 1 := IntWalk.i64_in _ (by omega)
  have z2 : IntKind.u64.wrap ((n : Int) + 1) = (n : Int) + 1 := by rw [u64_wrap]; omega
  have z3 : IntKind.i64.wrap (m : Int) = m := IntWalk.i64_in _ (by omega)
  have z4 : IntKind.i64.wrap (k : Int) = k := IntWalk.i64_in _ (by omega)
  have z5 : ((n : Int) + 1 == 0) = false := by simp; omega
  have z6 : IntKind.u64.wrap (m : Int) = m := by rw [u64_wrap]; omega
  have z7 : IntKind.u64.wrap (k : Int) = k := by rw [u64_wrap]; omega
  clear hb hxl' hcat1 hcat2 hl1 hl2 hl3 hF hF1 hxl hlo hhi hwh
  go_enter Try.func5, Try.ntmps5
  go_wp2_with fail
  refine (shown_any _).mono ?_
  rintro e v1 ⟨rfl, hb1⟩
  go_wp2_with fail
  refine (few1.out _).mono ?_
  rintro e w' ⟨rfl, rfl⟩
  go_wp2_with fail
  go_quiet (fail)
  clear z1 z2 z3 z4 z5 z6 z7 hm1 hk1 hm3 hk3
  have hbq := hb1.drewN nq
  generalize v1.drewN nq = v1 at *
  clear hb1
  have hb1 := hbq
  clear hbq
  go_wp2_with fail
  refine (new_any _).mono ?_
  rintro e v2 ⟨rfl, rfl⟩
  have hs1 := new_row v1
  have hb2 := hb1.alloc hb1.size (.cells (sc (fun _ => 0) 0) 44)
  have hz1 := hb1.size
  have hz2 : (v1.alloc (.cells (sc (fun _ => 0) 0) 44)).heap.size = v1.heap.size + 1 := by simp
  clear hb1
  go_wp2_with fail
  refine (w1_.out v1.heap.size _ hs1 (Rd.below hx1 hb2) (hlo_1.out.imp_right fun h ad e => by have := h ad e; omega)).mono ?_
  rintro e v2 ⟨rfl, hs2, hg2⟩
  have hb3 := below_of_grown hb2 hg2 hz1 hb2.size
  have hz3 := hg2.size
  rw [hz2] at hz3
  clear hs1 hb2 hz2 hg2
  go_wp2_with fail
  refine (kS1.out _ _ hs2).mono ?_
  rintro e v3 ⟨rfl, hb4⟩
  have hs3 := hs2.below hb4
  have hb5 := hb3.trans (hb4.mono hb3.size)
  have hz4 := hb4.size
  clear hs2 hb3 hb4
  have hr0 : Row (v3.alloc (.cells (bsr F1 0) 25)) v3.heap.size 25 (bsr F1 0) := Row.new _ _ _
  have hr0' := hr0
  rw [bsr_zero] at hr0'
  rw [← bsr_zero F1] at hr0'
  go_wp2_with (first
    | (refine wpList_store_row rfl 25 _ _ rfl v3.heap.size (bsr F1 32) rfl rfl 25 _ hr0 (by rw [bsr_size]; exact i32) (by rw [bsr_size, bsr_size]) (bsr_one _ _) ?_))
  have hr1 := hr0.whole (bsr F1 32)
  have hs4 := (hs3.alloc (.cells (bsr F1 0) 25)).farRow (k := v3.heap.size) (by omega) (bsr F1 32)
  have hb6 := below_row (g := v3.heap.size) (hb5.alloc hb5.size (.cells (bsr F1 0) 25)) hb5.size (bsr F1 32)
  have hz5 : ((v3.alloc (.cells (bsr F1 0) 25)).setRow v3.heap.size (bsr F1 32)).heap.size = v3.heap.size + 1 := by simp
  clear hr0 hr0' hs3 hb5
  refine (w2_.out v1.heap.size _ hs4 (Rd.below hx2 hb6) (hlo_2.out.imp_right fun h ad e => by have := h ad e; omega)).mono ?_
  rintro e v4 ⟨rfl, hs5, hg5⟩
  have hr2 := hr1.grown hg5 (by simp; omega)
  have hb7 := below_of_grown hb6 hg5 hz1 hb6.size
  have hz6 := hg5.size
  rw [hz5] at hz6
  clear hs4 hb6 hz5 hg5 hr1
  go_wp2_with fail
  refine (w3_.out v1.heap.size _ hs5 (Rd.below hx3 hb7) (hlo_3.out.imp_right fun h ad e => by have := h ad e; omega)).mono ?_
  rintro e v5 ⟨rfl, hs6, hg6⟩
  have hr3 := hr2.grown hg6 (by simp; omega)
  have hb8 := below_of_grown hb7 hg6 hz1 hb7.size
  clear hs5 hb7 hg6 hr2 w1_ w2_ w3_ kS1 few1 hlo_1 hlo_2 hlo_3 hx1 hx2 hx3 hb' b1 b2
  have kS := Lib.hid (kS0.out v1.heap.size)
  clear kS0
  go_wp2_with fail
  refine wp_region_held_drew (S := fun w' => Row w' v1.heap.size 44 (sc (feed st0 xs).1 (feed st0 xs).2) ∧ Row w' v3.heap.size 25 (bsr F1 32) ∧ Below w.heap.size w w') (by kernel_rfl) ⟨Row.drew hs6, Row.drew hr3, Below.drew hb8⟩ (fun hHeld => ?_)
  clear hs6 hr3 hb8
  obtain ⟨x00, hx00⟩ : ∃ x, v5.drew = x := ⟨_, rfl⟩
  rw [hx00] at hHeld ⊢
  clear hx00
  refine wpAnyH_take (i := 0) (v := ?_) rfl (by kernel_rfl) (by kernel_rfl) (by kernel_rfl) (fun _ _ _ h => h) (Or.inl ⟨by rfl, ?_⟩) hHeld ?_
  rotate_left
  · intro w hSw
    go_simp
    try rfl
  try simp only [List.getElem_toArray, List.getElem_cons_succ, List.getElem_cons_zero, Act.put, List.setIfInBounds_toArray, List.set_cons_zero, List.set_cons_succ]
  refine wpAnyH_take (i := 1) (v := ?_) rfl (by kernel_rfl) (by kernel_rfl) (by kernel_rfl) (fun _ _ _ h => h) (Or.inl ⟨by rfl, ?_⟩) hHeld ?_
  rotate_left
  · intro w hSw
    go_simp
    try rfl
  try simp only [List.getElem_toArray, List.getElem_cons_succ, List.getElem_cons_zero, Act.put, List.setIfInBounds_toArray, List.set_cons_zero, List.set_cons_succ]
  refine wpAnyH_take (i := 2) (v := ?_) rfl (by kernel_rfl) (by kernel_rfl) (by kernel_rfl) (fun _ _ _ h => h) (Or.inl ⟨by rfl, ?_⟩) hHeld ?_
  rotate_left
  · intro w hSw
    go_simp
    try rfl
  try simp only [List.getElem_toArray, List.getElem_cons_succ, List.getElem_cons_zero, Act.put, List.setIfInBounds_toArray, List.set_cons_zero, List.set_cons_succ]
  refine wpAnyH_take (i := 3) (v := ?_) rfl (by kernel_rfl) (by kernel_rfl) (by kernel_rfl) (fun _ _ _ h => h) (Or.inl ⟨by rfl, ?_⟩) hHeld ?_
  rotate_left
  · intro w hSw
    go_simp
    try rfl
  try simp only [List.getElem_toArray, List.getElem_cons_succ, List.getElem_cons_zero, Act.put, List.setIfInBounds_toArray, List.set_cons_zero, List.set_cons_succ]
  refine wpAnyH_take (i := 4) (v := ?_) rfl (by kernel_rfl) (by kernel_rfl) (by kernel_rfl) (fun _ _ _ h => h) (Or.inl ⟨by rfl, ?_⟩) hHeld ?_
  rotate_left
  · intro w hSw
    go_simp
    try rfl
  try simp only [List.getElem_toArray, List.getElem_cons_succ, List.getElem_cons_zero, Act.put, List.setIfInBounds_toArray, List.set_cons_zero, List.set_cons_succ]
  refine wpAnyH_take (i := 5) (v := ?_) rfl (by kernel_rfl) (by kernel_rfl) (by kernel_rfl) (fun _ _ _ h => h) (Or.inl ⟨by rfl, ?_⟩) hHeld ?_
  rotate_left
  · intro w hSw
    go_simp
    try rfl
  try simp only [List.getElem_toArray, List.getElem_cons_succ, List.getElem_cons_zero, Act.put, List.setIfInBounds_toArray, List.set_cons_zero, List.set_cons_succ]
  refine wpAnyH_take (i := 6) (v := ?_) rfl (by kernel_rfl) (by kernel_rfl) (by kernel_rfl) (fun _ _ _ h => h) (Or.inl ⟨by rfl, ?_⟩) hHeld ?_
  rotate_left
  · intro w hSw
    go_simp
    try rfl
  try simp only [List.getElem_toArray, List.getElem_cons_succ, List.getElem_cons_zero, Act.put, List.setIfInBounds_toArray, List.set_cons_zero, List.set_cons_succ]
  refine wpAnyH_take (i := 7) (v := ?_) rfl (by kernel_rfl) (by kernel_rfl) (by kernel_rfl) (fun _ _ _ h => h) (Or.inl ⟨by rfl, ?_⟩) hHeld ?_
  rotate_left
  · intro w hSw
    go_simp
    try rfl
  try simp only [List.getElem_toArray, List.getElem_cons_succ, List.getElem_cons_zero, Act.put, List.setIfInBounds_toArray, List.set_cons_zero, List.set_cons_succ]
  refine wpAnyH_take (i := 8) (v := ?_) rfl (by kernel_rfl) (by kernel_rfl) (by kernel_rfl) (fun _ _ _ h => h) (Or.inl ⟨by rfl, ?_⟩) hHeld ?_
  rotate_left
  · intro w hSw
    go_simp
    try rfl
  try simp only [List.getElem_toArray, List.getElem_cons_succ, List.getElem_cons_zero, Act.put, List.setIfInBounds_toArray, List.set_cons_zero, List.set_cons_succ]
  refine wpAnyH_take (i := 9) (v := ?_) rfl (by kernel_rfl) (by kernel_rfl) (by kernel_rfl) (fun _ _ _ h => h) (Or.inl ⟨by rfl, ?_⟩) hHeld ?_
  rotate_left
  · intro w hSw
    go_simp
    try rfl
  try simp only [List.getElem_toArray, List.getElem_cons_succ, List.getElem_cons_zero, Act.put, List.setIfInBounds_toArray, List.set_cons_zero, List.set_cons_succ]
  refine wpAnyH_take (i := 10) (v := ?_) rfl (by kernel_rfl) (by kernel_rfl) (by kernel_rfl) (fun _ _ _ h => h) (Or.inl ⟨by rfl, ?_⟩) hHeld ?_
  rotate_left
  · intro w hSw
    go_simp
    try rfl
  try simp only [List.getElem_toArray, List.getElem_cons_succ, List.getElem_cons_zero, Act.put, List.setIfInBounds_toArray, List.set_cons_zero, List.set_cons_succ]
  refine wpAnyH_take (i := 11) (v := ?_) rfl (by kernel_rfl) (by kernel_rfl) (by kernel_rfl) (fun _ _ _ h => h) (Or.inl ⟨by rfl, ?_⟩) hHeld ?_
  rotate_left
  · intro w hSw
    go_simp
    try rfl
  try simp only [List.getElem_toArray, List.getElem_cons_succ, List.getElem_cons_zero, Act.put, List.setIfInBounds_toArray, List.set_cons_zero, List.set_cons_succ]
  refine wpAnyH_take (i := 14) (v := ?_) rfl (by kernel_rfl) (by kernel_rfl) (by kernel_rfl) (fun _ _ _ h => h) (Or.inl ⟨by rfl, ?_⟩) hHeld ?_
  rotate_left
  · intro w hSw
    go_simp
    try rfl
  try simp only [List.getElem_toArray, List.getElem_cons_succ, List.getElem_cons_zero, Act.put, List.setIfInBounds_toArray, List.set_cons_zero, List.set_cons_succ]
  refine wpAnyH_ready (rs := [12, 15]) (by kernel_rfl) (by simp) ?_
  refine AllReadyH.cons rfl (fun K hK => ?_) ?_
  · skip
    go_simp
    refine hK.out _ (x00.alloc (.cells #[.slice a0 lo cap0, .slice A2 (hi - lo) (cap0 - lo), .slice none 0 0, .slice A3 (n - hi) (cap0 - hi)] 22)) ⟨hHeld.1.alloc _, hHeld.2.1.alloc _, hHeld.2.2.alloc hHeld.2.2.size _⟩ (fun hHeld => ?_)
    clear hK K
    try simp only [List.getElem_toArray, List.getElem_cons_succ, List.getElem_cons_zero, Act.put, List.setIfInBounds_toArray, List.set_cons_zero, List.set_cons_succ, Array.toArray_toList]
    have rP : Row (x00.alloc (.cells #[.slice a0 lo cap0, .slice A2 (hi - lo) (cap0 - lo), .slice none 0 0, .slice A3 (n - hi) (cap0 - hi)] 22)) x00.heap.size 22 #[.slice a0 lo cap0, .slice A2 (hi - lo) (cap0 - lo), .slice none 0 0, .slice A3 (n - hi) (cap0 - hi)] := Row.made _ _ _ (by simp)
    refine wpAnyH_ready (rs := [13, 15]) (by kernel_rfl) (by simp) ?_
    refine AllReadyH.cons rfl (fun K hK => ?_) ?_
    · skip
      go_simp
      refine (kP.out _ _ rP hHeld.2.2).mono ?_
      rintro e xx1 ⟨rfl, hb'⟩
      replace hb' : Below (x00.alloc (.cells #[.slice a0 lo cap0, .slice A2 (hi - lo) (cap0 - lo), .slice none 0 0, .slice A3 (n - hi) (cap0 - hi)] 22)).heap.size (x00.alloc (.cells #[.slice a0 lo cap0, .slice A2 (hi - lo) (cap0 - lo), .slice none 0 0, .slice A3 (n - hi) (cap0 - hi)] 22)) xx1 := hb'
      refine hK.out _ _ ⟨hHeld.1.below hb', hHeld.2.1.below hb', hHeld.2.2.trans (hb'.mono hHeld.2.2.size)⟩ (fun hHeld => ?_)
      clear hK K
      try simp only [List.getElem_toArray, List.getElem_cons_succ, List.getElem_cons_zero, Act.put, List.setIfInBounds_toArray, List.set_cons_zero, List.set_cons_succ, Array.toArray_toList]
      replace rP := rP.below hb'
      clear hb'
      refine wpAnyH_ready (rs := [15]) (by kernel_rfl) (by simp) ?_
      refine AllReadyH.cons rfl (fun K hK => ?_) AllReadyH.nil
      go_simp
      refine hK.out _ (xx1.alloc (.cells #[.slice a0 n cap0] 22)) ⟨hHeld.1.alloc _, hHeld.2.1.alloc _, hHeld.2.2.alloc hHeld.2.2.size _⟩ (fun hHeld => ?_)
      clear hK K
      try simp only [List.getElem_toArray, List.getElem_cons_succ, List.getElem_cons_zero, Act.put, List.setIfInBounds_toArray, List.set_cons_zero, List.set_cons_succ, Array.toArray_toList]
      have rX : Row (xx1.alloc (.cells #[.slice a0 n cap0] 22)) xx1.heap.size 22 #[.slice a0 n cap0] := Row.made _ _ _ (by simp)
      replace rP := rP.alloc (.cells #[.slice a0 n cap0] 22)
      refine wpAnyH_ready (rs := [16]) (by kernel_rfl) (by simp) ?_
      refine AllReadyH.cons rfl (fun K hK => ?_) AllReadyH.nil
      go_simp
      refine (kX.out _ _ rX hHeld.2.2).mono ?_
      rintro e xx2 ⟨rfl, hb'⟩
      replace hb' : Below (xx1.alloc (.cells #[.slice a0 n cap0] 22)).heap.size (xx1.alloc (.cells #[.slice a0 n cap0] 22)) xx2 := hb'
      refine hK.out _ _ ⟨hHeld.1.below hb', hHeld.2.1.below hb', hHeld.2.2.trans (hb'.mono hHeld.2.2.size)⟩ (fun hHeld => ?_)
      clear hK K
      try simp only [List.getElem_toArray, List.getElem_cons_succ, List.getElem_cons_zero, Act.put, List.setIfInBounds_toArray, List.set_cons_zero, List.set_cons_succ, Array.toArray_toList]
      replace rP := rP.below hb'
      replace rX := rX.below hb'
      clear hb'
      refine wpAnyH_take (i := 17) (v := ?_) rfl (by kernel_rfl) (by kernel_rfl) (by kernel_rfl) (fun _ _ _ h => h) (Or.inl ⟨by rfl, ?_⟩) hHeld ?_
      rotate_left
      · intro w hSw
        go_simp
        try rfl
      try simp only [List.getElem_toArray, List.getElem_cons_succ, List.getElem_cons_zero, Act.put, List.setIfInBounds_toArray, List.set_cons_zero, List.set_cons_succ]
      refine wpAnyH_take (i := 18) (v := ?_) rfl (by kernel_rfl) (by kernel_rfl) (by kernel_rfl) (fun _ _ _ h => h) (Or.inl ⟨by rfl, ?_⟩) hHeld ?_
      rotate_left
      · intro w hSw
        go_simp
        try rfl
      try simp only [List.getElem_toArray, List.getElem_cons_succ, List.getElem_cons_zero, Act.put, List.setIfInBounds_toArray, List.set_cons_zero, List.set_cons_succ]
      refine wpAnyH_take (i := 19) (v := ?_) rfl (by kernel_rfl) (by kernel_rfl) (by kernel_rfl) (fun _ _ _ h => h) (Or.inl ⟨by rfl, ?_⟩) hHeld ?_
      rotate_left
      · intro w hSw
        go_simp
        try rfl
      try simp only [List.getElem_toArray, List.getElem_cons_succ, List.getElem_cons_zero, Act.put, List.setIfInBounds_toArray, List.set_cons_zero, List.set_cons_succ]
      refine wpAnyH_take (i := 20) (v := ?_) rfl (by kernel_rfl) (by kernel_rfl) (by kernel_rfl) (fun _ _ _ h => h) (Or.inl ⟨by rfl, ?_⟩) hHeld ?_
      rotate_left
      · intro w hSw
        go_simp
        try rfl
      try simp only [List.getElem_toArray, List.getElem_cons_succ, List.getElem_cons_zero, Act.put, List.setIfInBounds_toArray, List.set_cons_zero, List.set_cons_succ]
      refine wpAnyH_take (i := 22) (v := ?_) rfl (by kernel_rfl) (by kernel_rfl) (by kernel_rfl) (fun _ _ _ h => h) (Or.inl ⟨by rfl, ?_⟩) hHeld ?_
      rotate_left
      · intro w hSw
        go_simp
        try rfl
      try simp only [List.getElem_toArray, List.getElem_cons_succ, List.getElem_cons_zero, Act.put, List.setIfInBounds_toArray, List.set_cons_zero, List.set_cons_succ]
      refine wpAnyH_ready (rs := [21, 23]) (by kernel_rfl) (by simp) ?_
      refine AllReadyH.cons rfl (fun K hK => ?_) ?_
      · skip
        go_simp
        refine (kS.out _ hHeld.1).mono ?_
        rintro e xx3 ⟨rfl, hb'⟩
        replace hb' : Below xx2.heap.size xx2 xx3 := hb'
        refine hK.out _ _ ⟨hHeld.1.below hb', hHeld.2.1.below hb', hHeld.2.2.trans (hb'.mono hHeld.2.2.size)⟩ (fun hHeld => ?_)
        clear hK K
        try simp only [List.getElem_toArray, List.getElem_cons_succ, List.getElem_cons_zero, Act.put, List.setIfInBounds_toArray, List.set_cons_zero, List.set_cons_succ, Array.toArray_toList]
        replace rP := rP.below hb'
        replace rX := rX.below hb'
        clear hb'
        refine wpAnyH_ready (rs := [23]) (by kernel_rfl) (by simp) ?_
        refine AllReadyH.cons rfl (fun K hK => ?_) AllReadyH.nil
        go_simp
        refine hK.out _ (xx3.alloc (.cells #[.slice a0 n cap0] 22)) ⟨hHeld.1.alloc _, hHeld.2.1.alloc _, hHeld.2.2.alloc hHeld.2.2.size _⟩ (fun hHeld => ?_)
        clear hK K
        try simp only [List.getElem_toArray, List.getElem_cons_succ, List.getElem_cons_zero, Act.put, List.setIfInBounds_toArray, List.set_cons_zero, List.set_cons_succ, Array.toArray_toList]
        have rY : Row (xx3.alloc (.cells #[.slice a0 n cap0] 22)) xx3.heap.size 22 #[.slice a0 n cap0] := Row.made _ _ _ (by simp)
        replace rP := rP.alloc (.cells #[.slice a0 n cap0] 22)
        replace rX := rX.alloc (.cells #[.slice a0 n cap0] 22)
        refine wpAnyH_ready (rs := [24]) (by kernel_rfl) (by simp) ?_
        refine AllReadyH.cons rfl (fun K hK => ?_) AllReadyH.nil
        go_simp
        refine (kX.out _ _ rY hHeld.2.2).mono ?_
        rintro e xx4 ⟨rfl, hb'⟩
        replace hb' : Below (xx3.alloc (.cells #[.slice a0 n cap0] 22)).heap.size (xx3.alloc (.cells #[.slice a0 n cap0] 22)) xx4 := hb'
        refine hK.out _ _ ⟨hHeld.1.below hb', hHeld.2.1.below hb', hHeld.2.2.trans (hb'.mono hHeld.2.2.size)⟩ (fun hHeld => ?_)
        clear hK K
        try simp only [List.getElem_toArray, List.getElem_cons_succ, List.getElem_cons_zero, Act.put, List.setIfInBounds_toArray, List.set_cons_zero, List.set_cons_succ, Array.toArray_toList]
        replace rP := rP.below hb'
        replace rX := rX.below hb'
        replace rY := rY.below hb'
        clear hb'
        refine wpAnyH_take (i := 25) (v := ?_) rfl (by kernel_rfl) (by kernel_rfl) (by kernel_rfl) (fun _ _ _ h => h) (Or.inl ⟨by rfl, ?_⟩) hHeld ?_
        rotate_left
        · intro w hSw
          go_simp
          try rfl
        try simp only [List.getElem_toArray, List.getElem_cons_succ, List.getElem_cons_zero, Act.put, List.setIfInBounds_toArray, List.set_cons_zero, List.set_cons_succ]
        refine wpAnyH_take (i := 26) (v := ?_) rfl (by kernel_rfl) (by kernel_rfl) (by kernel_rfl) (fun _ _ _ h => h) (Or.inl ⟨by rfl, ?_⟩) hHeld ?_
        rotate_left
        · intro w hSw
          go_simp
          try rfl
        try simp only [List.getElem_toArray, List.getElem_cons_succ, List.getElem_cons_zero, Act.put, List.setIfInBounds_toArray, List.set_cons_zero, List.set_cons_succ]
        refine wpAnyH_take (i := 27) (v := ?_) rfl (by kernel_rfl) (by kernel_rfl) (by kernel_rfl) (fun _ _ _ h => h) (Or.inl ⟨by rfl, ?_⟩) hHeld ?_
        rotate_left
        · intro w hSw
          go_simp
          try rfl
        try simp only [List.getElem_toArray, List.getElem_cons_succ, List.getElem_cons_zero, Act.put, List.setIfInBounds_toArray, List.set_cons_zero, List.set_cons_succ]
        refine wpAnyH_take (i := 28) rfl (by kernel_rfl) (by kernel_rfl) (by kernel_rfl) (fun _ _ _ h => h) (yieldsIf_load_mid (by rfl) _ _ rfl _ _ rfl (bsr F1 32).toList _ (fun _ h => row_range h.2.1) sumT rfl (by rw [Array.length_toList, bsr_size]; exact i32)) hHeld ?_
        try simp only [List.getElem_toArray, List.getElem_cons_succ, List.getElem_cons_zero, Act.put, List.setIfInBounds_toArray, List.set_cons_zero, List.set_cons_succ, Array.toArray_toList]
        refine wpAnyH_take (i := 29) (v := ?_) rfl (by kernel_rfl) (by kernel_rfl) (by kernel_rfl) (fun _ _ _ h => h) (Or.inl ⟨by rfl, ?_⟩) hHeld ?_
        rotate_left
        · intro w hSw
          go_simp
          try rfl
        try simp only [List.getElem_toArray, List.getElem_cons_succ, List.getElem_cons_zero, Act.put, List.setIfInBounds_toArray, List.set_cons_zero, List.set_cons_succ]
        refine wpAnyH_take (i := 30) (v := ?_) rfl (by kernel_rfl) (by kernel_rfl) (by kernel_rfl) (fun _ _ _ h => h) (Or.inl ⟨by rfl, ?_⟩) hHeld ?_
        rotate_left
        · intro w hSw
          go_simp
          try rfl
        try simp only [List.getElem_toArray, List.getElem_cons_succ, List.getElem_cons_zero, Act.put, List.setIfInBounds_toArray, List.set_cons_zero, List.set_cons_succ]
        refine wpAnyH_take (i := 31) (v := ?_) rfl (by kernel_rfl) (by kernel_rfl) (by kernel_rfl) (fun _ _ _ h => h) (Or.inl ⟨by rfl, ?_⟩) hHeld ?_
        rotate_left
        · intro w hSw
          go_simp
          try rfl
        try simp only [List.getElem_toArray, List.getElem_cons_succ, List.getElem_cons_zero, Act.put, List.setIfInBounds_toArray, List.set_cons_zero, List.set_cons_succ]
        refine wpAnyH_ready (rs := [32]) (by kernel_rfl) (by simp) ?_
        refine AllReadyH.cons rfl (fun K hK => ?_) AllReadyH.nil
        go_simp
        refine hK.out _ (xx4.alloc (.cells #[.slice a0 lo cap0] 22)) ⟨hHeld.1.alloc _, hHeld.2.1.alloc _, hHeld.2.2.alloc hHeld.2.2.size _⟩ (fun hHeld => ?_)
        clear hK K
        try simp only [List.getElem_toArray, List.getElem_cons_succ, List.getElem_cons_zero, Act.put, List.setIfInBounds_toArray, List.set_cons_zero, List.set_cons_succ, Array.toArray_toList]
        have rL : Row (xx4.alloc (.cells #[.slice a0 lo cap0] 22)) xx4.heap.size 22 #[.slice a0 lo cap0] := Row.made _ _ _ (by simp)
        replace rP := rP.alloc (.cells #[.slice a0 lo cap0] 22)
        replace rX := rX.alloc (.cells #[.slice a0 lo cap0] 22)
        replace rY := rY.alloc (.cells #[.slice a0 lo cap0] 22)
        refine wpAnyH_ready (rs := [33]) (by kernel_rfl) (by simp) ?_
        refine AllReadyH.cons rfl (fun K hK => ?_) AllReadyH.nil
        go_simp
        refine (kL.out _ _ rL hHeld.2.2).mono ?_
        rintro e xx5 ⟨rfl, hb'⟩
        replace hb' : Below (xx4.alloc (.cells #[.slice a0 lo cap0] 22)).heap.size (xx4.alloc (.cells #[.slice a0 lo cap0] 22)) xx5 := hb'
        refine hK.out _ _ ⟨hHeld.1.below hb', hHeld.2.1.below hb', hHeld.2.2.trans (hb'.mono hHeld.2.2.size)⟩ (fun hHeld => ?_)
        clear hK K
        try simp only [List.getElem_toArray, List.getElem_cons_succ, List.getElem_cons_zero, Act.put, List.setIfInBounds_toArray, List.set_cons_zero, List.set_cons_succ, Array.toArray_toList]
        replace rP := rP.below hb'
        replace rX := rX.below hb'
        replace rY := rY.below hb'
        replace rL := rL.below hb'
        clear hb'
        refine wpAnyH_take (i := 34) (v := ?_) rfl (by kernel_rfl) (by kernel_rfl) (by kernel_rfl) (fun _ _ _ h => h) (Or.inl ⟨by rfl, ?_⟩) hHeld ?_
        rotate_left
        · intro w hSw
          go_simp
          try rfl
        try simp only [List.getElem_toArray, List.getElem_cons_succ, List.getElem_cons_zero, Act.put, List.setIfInBounds_toArray, List.set_cons_zero, List.set_cons_succ]
        refine wpAnyH_take (i := 35) (v := ?_) rfl (by kernel_rfl) (by kernel_rfl) (by kernel_rfl) (fun _ _ _ h => h) (Or.inl ⟨by rfl, ?_⟩) hHeld ?_
        rotate_left
        · intro w hSw
          go_simp
          try rfl
        try simp only [List.getElem_toArray, List.getElem_cons_succ, List.getElem_cons_zero, Act.put, List.setIfInBounds_toArray, List.set_cons_zero, List.set_cons_succ]
        refine wpAnyH_take (i := 36) (v := ?_) rfl (by kernel_rfl) (by kernel_rfl) (by kernel_rfl) (fun _ _ _ h => h) (Or.inl ⟨by rfl, ?_⟩) hHeld ?_
        rotate_left
        · intro w hSw
          go_simp
          try rfl
        try simp only [List.getElem_toArray, List.getElem_cons_succ, List.getElem_cons_zero, Act.put, List.setIfInBounds_toArray, List.set_cons_zero, List.set_cons_succ]
        refine wpAnyH_done (by kernel_rfl) ?_ _
        go_wp2
        go_ret
        exact ⟨rfl, hHeld.2.2⟩
      refine AllReadyH.cons rfl (fun K hK => ?_) AllReadyH.nil
      go_simp
      refine hK.out _ (xx2.alloc (.cells #[.slice a0 n cap0] 22)) ⟨hHeld.1.alloc _, hHeld.2.1.alloc _, hHeld.2.2.alloc hHeld.2.2.size _⟩ (fun hHeld => ?_)
      clear hK K
      try simp only [List.getElem_toArray, List.getElem_cons_succ, List.getElem_cons_zero, Act.put, List.setIfInBounds_toArray, List.set_cons_zero, List.set_cons_succ, Array.toArray_toList]
      have rY : Row (xx2.alloc (.cells #[.slice a0 n cap0] 22)) xx2.heap.size 22 #[.slice a0 n cap0] := Row.made _ _ _ (by simp)
      replace rP := rP.alloc (.cells #[.slice a0 n cap0] 22)
      replace rX := rX.alloc (.cells #[.slice a0 n cap0] 22)
      refine wpAnyH_ready (rs := [21]) (by kernel_rfl) (by simp) ?_
      refine AllReadyH.cons rfl (fun K hK => ?_) AllReadyH.nil
      go_simp
      refine (kS.out _ hHeld.1).mono ?_
      rintro e xx6 ⟨rfl, hb'⟩
      replace hb' : Below (xx2.alloc (.cells #[.slice a0 n cap0] 22)).heap.size (xx2.alloc (.cells #[.slice a0 n cap0] 22)) xx6 := hb'
      refine hK.out _ _ ⟨hHeld.1.below hb', hHeld.2.1.below hb', hHeld.2.2.trans (hb'.mono hHeld.2.2.size)⟩ (fun hHeld => ?_)
      clear hK K
      try simp only [List.getElem_toArray, List.getElem_cons_succ, List.getElem_cons_zero, Act.put, List.setIfInBounds_toArray, List.set_cons_zero, List.set_cons_succ, Array.toArray_toList]
      replace rP := rP.below hb'
      replace rX := rX.below hb'
      replace rY := rY.below hb'
      clear hb'
      refine wpAnyH_ready (rs := [24]) (by kernel_rfl) (by simp) ?_
      refine AllReadyH.cons rfl (fun K hK => ?_) AllReadyH.nil
      go_simp
      refine (kX.out _ _ rY hHeld.2.2).mono ?_
      rintro e xx7 ⟨rfl, hb'⟩
      replace hb' : Below xx6.heap.size xx6 xx7 := hb'
      refine hK.out _ _ ⟨hHeld.1.below hb', hHeld.2.1.below hb', hHeld.2.2.trans (hb'.mono hHeld.2.2.size)⟩ (fun hHeld => ?_)
      clear hK K
      try simp only [List.getElem_toArray, List.getElem_cons_succ, List.getElem_cons_zero, Act.put, List.setIfInBounds_toArray, List.set_cons_zero, List.set_cons_succ, Array.toArray_toList]
      replace rP := rP.below hb'
      replace rX := rX.below hb'
      replace rY := rY.below hb'
      clear hb'
      refine wpAnyH_take (i := 25) (v := ?_) rfl (by kernel_rfl) (by kernel_rfl) (by kernel_rfl) (fun _ _ _ h => h) (Or.inl ⟨by rfl, ?_⟩) hHeld ?_
      rotate_left
      · intro w hSw
        go_simp
        try rfl
      try simp only [List.getElem_toArray, List.getElem_cons_succ, List.getElem_cons_zero, Act.put, List.setIfInBounds_toArray, List.set_cons_zero, List.set_cons_succ]
      refine wpAnyH_take (i := 26) (v := ?_) rfl (by kernel_rfl) (by kernel_rfl) (by kernel_rfl) (fun _ _ _ h => h) (Or.inl ⟨by rfl, ?_⟩) hHeld ?_
      rotate_left
      · intro w hSw
        go_simp
        try rfl
      try simp only [List.getElem_toArray, List.getElem_cons_succ, List.getElem_cons_zero, Act.put, List.setIfInBounds_toArray, List.set_cons_zero, List.set_cons_succ]
      refine wpAnyH_take (i := 27) (v := ?_) rfl (by kernel_rfl) (by kernel_rfl) (by kernel_rfl) (fun _ _ _ h => h) (Or.inl ⟨by rfl, ?_⟩) hHeld ?_
      rotate_left
      · intro w hSw
        go_simp
        try rfl
      try simp only [List.getElem_toArray, List.getElem_cons_succ, List.getElem_cons_zero, Act.put, List.setIfInBounds_toArray, List.set_cons_zero, List.set_cons_succ]
      refine wpAnyH_take (i := 28) rfl (by kernel_rfl) (by kernel_rfl) (by kernel_rfl) (fun _ _ _ h => h) (yieldsIf_load_mid (by rfl) _ _ rfl _ _ rfl (bsr F1 32).toList _ (fun _ h => row_range h.2.1) sumT rfl (by rw [Array.length_toList, bsr_size]; exact i32)) hHeld ?_
      try simp only [List.getElem_toArray, List.getElem_cons_succ, List.getElem_cons_zero, Act.put, List.setIfInBounds_toArray, List.set_cons_zero, List.set_cons_succ, Array.toArray_toList]
      refine wpAnyH_take (i := 29) (v := ?_) rfl (by kernel_rfl) (by kernel_rfl) (by kernel_rfl) (fun _ _ _ h => h) (Or.inl ⟨by rfl, ?_⟩) hHeld ?_
      rotate_left
      · intro w hSw
        go_simp
        try rfl
      try simp only [List.getElem_toArray, List.getElem_cons_succ, List.getElem_cons_zero, Act.put, List.setIfInBounds_toArray, List.set_cons_zero, List.set_cons_succ]
      refine wpAnyH_take (i := 30) (v := ?_) rfl (by kernel_rfl) (by kernel_rfl) (by kernel_rfl) (fun _ _ _ h => h) (Or.inl ⟨by rfl, ?_⟩) hHeld ?_
      rotate_left
      · intro w hSw
        go_simp
        try rfl
      try simp only [List.getElem_toArray, List.getElem_cons_succ, List.getElem_cons_zero, Act.put, List.setIfInBounds_toArray, List.set_cons_zero, List.set_cons_succ]
      refine wpAnyH_take (i := 31) (v := ?_) rfl (by kernel_rfl) (by kernel_rfl) (by kernel_rfl) (fun _ _ _ h => h) (Or.inl ⟨by rfl, ?_⟩) hHeld ?_
      rotate_left
      · intro w hSw
        go_simp
        try rfl
      try simp only [List.getElem_toArray, List.getElem_cons_succ, List.getElem_cons_zero, Act.put, List.setIfInBounds_toArray, List.set_cons_zero, List.set_cons_succ]
      refine wpAnyH_ready (rs := [32]) (by kernel_rfl) (by simp) ?_
      refine AllReadyH.cons rfl (fun K hK => ?_) AllReadyH.nil
      go_simp
      refine hK.out _ (xx7.alloc (.cells #[.slice a0 lo cap0] 22)) ⟨hHeld.1.alloc _, hHeld.2.1.alloc _, hHeld.2.2.alloc hHeld.2.2.size _⟩ (fun hHeld => ?_)
      clear hK K
      try simp only [List.getElem_toArray, List.getElem_cons_succ, List.getElem_cons_zero, Act.put, List.setIfInBounds_toArray, List.set_cons_zero, List.set_cons_succ, Array.toArray_toList]
      have rL : Row (xx7.alloc (.cells #[.slice a0 lo cap0] 22)) xx7.heap.size 22 #[.slice a0 lo cap0] := Row.made _ _ _ (by simp)
      replace rP := rP.alloc (.cells #[.slice a0 lo cap0] 22)
      replace rX := rX.alloc (.cells #[.slice a0 lo cap0] 22)
      replace rY := rY.alloc (.cells #[.slice a0 lo cap0] 22)
      refine wpAnyH_ready (rs := [33]) (by kernel_rfl) (by simp) ?_
      refine AllReadyH.cons rfl (fun K hK => ?_) AllReadyH.nil
      go_simp
      refine (kL.out _ _ rL hHeld.2.2).mono ?_
      rintro e xx8 ⟨rfl, hb'⟩
      replace hb' : Below (xx7.alloc (.cells #[.slice a0 lo cap0] 22)).heap.size (xx7.alloc (.cells #[.slice a0 lo cap0] 22)) xx8 := hb'
      refine hK.out _ _ ⟨hHeld.1.below hb', hHeld.2.1.below hb', hHeld.2.2.trans (hb'.mono hHeld.2.2.size)⟩ (fun hHeld => ?_)
      clear hK K
      try simp only [List.getElem_toArray, List.getElem_cons_succ, List.getElem_cons_zero, Act.put, List.setIfInBounds_toArray, List.set_cons_zero, List.set_cons_succ, Array.toArray_toList]
      replace rP := rP.below hb'
      replace rX := rX.below hb'
      replace rY := rY.below hb'
      replace rL := rL.below hb'
      clear hb'
      refine wpAnyH_take (i := 34) (v := ?_) rfl (by kernel_rfl) (by kernel_rfl) (by kernel_rfl) (fun _ _ _ h => h) (Or.inl ⟨by rfl, ?_⟩) hHeld ?_
      rotate_left
      · intro w hSw
        go_simp
        try rfl
      try simp only [List.getElem_toArray, List.getElem_cons_succ, List.getElem_cons_zero, Act.put, List.setIfInBounds_toArray, List.set_cons_zero, List.set_cons_succ]
      refine wpAnyH_take (i := 35) (v := ?_) rfl (by kernel_rfl) (by kernel_rfl) (by kernel_rfl) (fun _ _ _ h => h) (Or.inl ⟨by rfl, ?_⟩) hHeld ?_
      rotate_left
      · intro w hSw
        go_simp
        try rfl
      try simp only [List.getElem_toArray, List.getElem_cons_succ, List.getElem_cons_zero, Act.put, List.setIfInBounds_toArray, List.set_cons_zero, List.set_cons_succ]
      refine wpAnyH_take (i := 36) (v := ?_) rfl (by kernel_rfl) (by kernel_rfl) (by kernel_rfl) (fun _ _ _ h => h) (Or.inl ⟨by rfl, ?_⟩) hHeld ?_
      rotate_left
      · intro w hSw
        go_simp
        try rfl
      try simp only [List.getElem_toArray, List.getElem_cons_succ, List.getElem_cons_zero, Act.put, List.setIfInBounds_toArray, List.set_cons_zero, List.set_cons_succ]
      refine wpAnyH_done (by kernel_rfl) ?_ _
      go_wp2
      go_ret
      exact ⟨rfl, hHeld.2.2⟩
    refine AllReadyH.cons rfl (fun K hK => ?_) AllReadyH.nil
    go_simp
    refine hK.out _ ((x00.alloc (.cells #[.slice a0 lo cap0, .slice A2 (hi - lo) (cap0 - lo), .slice none 0 0, .slice A3 (n - hi) (cap0 - hi)] 22)).alloc (.cells #[.slice a0 n cap0] 22)) ⟨hHeld.1.alloc _, hHeld.2.1.alloc _, hHeld.2.2.alloc hHeld.2.2.size _⟩ (fun hHeld => ?_)
    clear hK K
    try simp only [List.getElem_toArray, List.getElem_cons_succ, List.getElem_cons_zero, Act.put, List.setIfInBounds_toArray, List.set_cons_zero, List.set_cons_succ, Array.toArray_toList]
    have rX : Row ((x00.alloc (.cells #[.slice a0 lo cap0, .slice A2 (hi - lo) (cap0 - lo), .slice none 0 0, .slice A3 (n - hi) (cap0 - hi)] 22)).alloc (.cells #[.slice a0 n cap0] 22)) (x00.heap.size + 1) 22 #[.slice a0 n cap0] := Row.made _ _ _ (by simp)
    replace rP := rP.alloc (.cells #[.slice a0 n cap0] 22)
    refine wpAnyH_ready (rs := [13]) (by kernel_rfl) (by simp) ?_
    refine AllReadyH.cons rfl (fun K hK => ?_) AllReadyH.nil
    go_simp
    refine (kP.out _ _ rP hHeld.2.2).mono ?_
    rintro e xx9 ⟨rfl, hb'⟩
    replace hb' : Below ((x00.alloc (.cells #[.slice a0 lo cap0, .slice A2 (hi - lo) (cap0 - lo), .slice none 0 0, .slice A3 (n - hi) (cap0 - hi)] 22)).alloc (.cells #[.slice a0 n cap0] 22)).heap.size ((x00.alloc (.cells #[.slice a0 lo cap0, .slice A2 (hi - lo) (cap0 - lo), .slice none 0 0, .slice A3 (n - hi) (cap0 - hi)] 22)).alloc (.cells #[.slice a0 n cap0] 22)) xx9 := hb'
    refine hK.out _ _ ⟨hHeld.1.below hb', hHeld.2.1.below hb', hHeld.2.2.trans (hb'.mono hHeld.2.2.size)⟩ (fun hHeld => ?_)
    clear hK K
    try simp only [List.getElem_toArray, List.getElem_cons_succ, List.getElem_cons_zero, Act.put, List.setIfInBounds_toArray, List.set_cons_zero, List.set_cons_succ, Array.toArray_toList]
    replace rP := rP.below hb'
    replace rX := rX.below hb'
    clear hb'
    refine wpAnyH_ready (rs := [16]) (by kernel_rfl) (by simp) ?_
    refine AllReadyH.cons rfl (fun K hK => ?_) AllReadyH.nil
    go_simp
    refine (kX.out _ _ rX hHeld.2.2).mono ?_
    rintro e xx10 ⟨rfl, hb'⟩
    replace hb' : Below xx9.heap.size xx9 xx10 := hb'
    refine hK.out _ _ ⟨hHeld.1.below hb', hHeld.2.1.below hb', hHeld.2.2.trans (hb'.mono hHeld.2.2.size)⟩ (fun hHeld => ?_)
    clear hK K
    try simp only [List.getElem_toArray, List.getElem_cons_succ, List.getElem_cons_zero, Act.put, List.setIfInBounds_toArray, List.set_cons_zero, List.set_cons_succ, Array.toArray_toList]
    replace rP := rP.below hb'
    replace rX := rX.below hb'
    clear hb'
    refine wpAnyH_take (i := 17) (v := ?_) rfl (by kernel_rfl) (by kernel_rfl) (by kernel_rfl) (fun _ _ _ h => h) (Or.inl ⟨by rfl, ?_⟩) hHeld ?_
    rotate_left
    · intro w hSw
      go_simp
      try rfl
    try simp only [List.getElem_toArray, List.getElem_cons_succ, List.getElem_cons_zero, Act.put, List.setIfInBounds_toArray, List.set_cons_zero, List.set_cons_succ]
    refine wpAnyH_take (i := 18) (v := ?_) rfl (by kernel_rfl) (by kernel_rfl) (by kernel_rfl) (fun _ _ _ h => h) (Or.inl ⟨by rfl, ?_⟩) hHeld ?_
    rotate_left
    · intro w hSw
      go_simp
      try rfl
    try simp only [List.getElem_toArray, List.getElem_cons_succ, List.getElem_cons_zero, Act.put, List.setIfInBounds_toArray, List.set_cons_zero, List.set_cons_succ]
    refine wpAnyH_take (i := 19) (v := ?_) rfl (by kernel_rfl) (by kernel_rfl) (by kernel_rfl) (fun _ _ _ h => h) (Or.inl ⟨by rfl, ?_⟩) hHeld ?_
    rotate_left
    · intro w hSw
      go_simp
      try rfl
    try simp only [List.getElem_toArray, List.getElem_cons_succ, List.getElem_cons_zero, Act.put, List.setIfInBounds_toArray, List.set_cons_zero, List.set_cons_succ]
    refine wpAnyH_take (i := 20) (v := ?_) rfl (by kernel_rfl) (by kernel_rfl) (by kernel_rfl) (fun _ _ _ h => h) (Or.inl ⟨by rfl, ?_⟩) hHeld ?_
    rotate_left
    · intro w hSw
      go_simp
      try rfl
    try simp only [List.getElem_toArray, List.getElem_cons_succ, List.getElem_cons_zero, Act.put, List.setIfInBounds_toArray, List.set_cons_zero, List.set_cons_succ]
    refine wpAnyH_take (i := 22) (v := ?_) rfl (by kernel_rfl) (by kernel_rfl) (by kernel_rfl) (fun _ _ _ h => h) (Or.inl ⟨by rfl, ?_⟩) hHeld ?_
    rotate_left
    · intro w hSw
      go_simp
      try rfl
    try simp only [List.getElem_toArray, List.getElem_cons_succ, List.getElem_cons_zero, Act.put, List.setIfInBounds_toArray, List.set_cons_zero, List.set_cons_succ]
    refine wpAnyH_ready (rs := [21, 23]) (by kernel_rfl) (by simp) ?_
    refine AllReadyH.cons rfl (fun K hK => ?_) ?_
    · skip
      go_simp
      refine (kS.out _ hHeld.1).mono ?_
      rintro e xx11 ⟨rfl, hb'⟩
      replace hb' : Below xx10.heap.size xx10 xx11 := hb'
      refine hK.out _ _ ⟨hHeld.1.below hb', hHeld.2.1.below hb', hHeld.2.2.trans (hb'.mono hHeld.2.2.size)⟩ (fun hHeld => ?_)
      clear hK K
      try simp only [List.getElem_toArray, List.getElem_cons_succ, List.getElem_cons_zero, Act.put, List.setIfInBounds_toArray, List.set_cons_zero, List.set_cons_succ, Array.toArray_toList]
      replace rP := rP.below hb'
      replace rX := rX.below hb'
      clear hb'
      refine wpAnyH_ready (rs := [23]) (by kernel_rfl) (by simp) ?_
      refine AllReadyH.cons rfl (fun K hK => ?_) AllReadyH.nil
      go_simp
      refine hK.out _ (xx11.alloc (.cells #[.slice a0 n cap0] 22)) ⟨hHeld.1.alloc _, hHeld.2.1.alloc _, hHeld.2.2.alloc hHeld.2.2.size _⟩ (fun hHeld => ?_)
      clear hK K
      try simp only [List.getElem_toArray, List.getElem_cons_succ, List.getElem_cons_zero, Act.put, List.setIfInBounds_toArray, List.set_cons_zero, List.set_cons_succ, Array.toArray_toList]
      have rY : Row (xx11.alloc (.cells #[.slice a0 n cap0] 22)) xx11.heap.size 22 #[.slice a0 n cap0] := Row.made _ _ _ (by simp)
      replace rP := rP.alloc (.cells #[.slice a0 n cap0] 22)
      replace rX := rX.alloc (.cells #[.slice a0 n cap0] 22)
      refine wpAnyH_ready (rs := [24]) (by kernel_rfl) (by simp) ?_
      refine AllReadyH.cons rfl (fun K hK => ?_) AllReadyH.nil
      go_simp
      refine (kX.out _ _ rY hHeld.2.2).mono ?_
      rintro e xx12 ⟨rfl, hb'⟩
      replace hb' : Below (xx11.alloc (.cells #[.slice a0 n cap0] 22)).heap.size (xx11.alloc (.cells #[.slice a0 n cap0] 22)) xx12 := hb'
      refine hK.out _ _ ⟨hHeld.1.below hb', hHeld.2.1.below hb', hHeld.2.2.trans (hb'.mono hHeld.2.2.size)⟩ (fun hHeld => ?_)
      clear hK K
      try simp only [List.getElem_toArray, List.getElem_cons_succ, List.getElem_cons_zero, Act.put, List.setIfInBounds_toArray, List.set_cons_zero, List.set_cons_succ, Array.toArray_toList]
      replace rP := rP.below hb'
      replace rX := rX.below hb'
      replace rY := rY.below hb'
      clear hb'
      refine wpAnyH_take (i := 25) (v := ?_) rfl (by kernel_rfl) (by kernel_rfl) (by kernel_rfl) (fun _ _ _ h => h) (Or.inl ⟨by rfl, ?_⟩) hHeld ?_
      rotate_left
      · intro w hSw
        go_simp
        try rfl
      try simp only [List.getElem_toArray, List.getElem_cons_succ, List.getElem_cons_zero, Act.put, List.setIfInBounds_toArray, List.set_cons_zero, List.set_cons_succ]
      refine wpAnyH_take (i := 26) (v := ?_) rfl (by kernel_rfl) (by kernel_rfl) (by kernel_rfl) (fun _ _ _ h => h) (Or.inl ⟨by rfl, ?_⟩) hHeld ?_
      rotate_left
      · intro w hSw
        go_simp
        try rfl
      try simp only [List.getElem_toArray, List.getElem_cons_succ, List.getElem_cons_zero, Act.put, List.setIfInBounds_toArray, List.set_cons_zero, List.set_cons_succ]
      refine wpAnyH_take (i := 27) (v := ?_) rfl (by kernel_rfl) (by kernel_rfl) (by kernel_rfl) (fun _ _ _ h => h) (Or.inl ⟨by rfl, ?_⟩) hHeld ?_
      rotate_left
      · intro w hSw
        go_simp
        try rfl
      try simp only [List.getElem_toArray, List.getElem_cons_succ, List.getElem_cons_zero, Act.put, List.setIfInBounds_toArray, List.set_cons_zero, List.set_cons_succ]
      refine wpAnyH_take (i := 28) rfl (by kernel_rfl) (by kernel_rfl) (by kernel_rfl) (fun _ _ _ h => h) (yieldsIf_load_mid (by rfl) _ _ rfl _ _ rfl (bsr F1 32).toList _ (fun _ h => row_range h.2.1) sumT rfl (by rw [Array.length_toList, bsr_size]; exact i32)) hHeld ?_
      try simp only [List.getElem_toArray, List.getElem_cons_succ, List.getElem_cons_zero, Act.put, List.setIfInBounds_toArray, List.set_cons_zero, List.set_cons_succ, Array.toArray_toList]
      refine wpAnyH_take (i := 29) (v := ?_) rfl (by kernel_rfl) (by kernel_rfl) (by kernel_rfl) (fun _ _ _ h => h) (Or.inl ⟨by rfl, ?_⟩) hHeld ?_
      rotate_left
      · intro w hSw
        go_simp
        try rfl
      try simp only [List.getElem_toArray, List.getElem_cons_succ, List.getElem_cons_zero, Act.put, List.setIfInBounds_toArray, List.set_cons_zero, List.set_cons_succ]
      refine wpAnyH_take (i := 30) (v := ?_) rfl (by kernel_rfl) (by kernel_rfl) (by kernel_rfl) (fun _ _ _ h => h) (Or.inl ⟨by rfl, ?_⟩) hHeld ?_
      rotate_left
      · intro w hSw
        go_simp
        try rfl
      try simp only [List.getElem_toArray, List.getElem_cons_succ, List.getElem_cons_zero, Act.put, List.setIfInBounds_toArray, List.set_cons_zero, List.set_cons_succ]
      refine wpAnyH_take (i := 31) (v := ?_) rfl (by kernel_rfl) (by kernel_rfl) (by kernel_rfl) (fun _ _ _ h => h) (Or.inl ⟨by rfl, ?_⟩) hHeld ?_
      rotate_left
      · intro w hSw
        go_simp
        try rfl
      try simp only [List.getElem_toArray, List.getElem_cons_succ, List.getElem_cons_zero, Act.put, List.setIfInBounds_toArray, List.set_cons_zero, List.set_cons_succ]
      refine wpAnyH_ready (rs := [32]) (by kernel_rfl) (by simp) ?_
      refine AllReadyH.cons rfl (fun K hK => ?_) AllReadyH.nil
      go_simp
      refine hK.out _ (xx12.alloc (.cells #[.slice a0 lo cap0] 22)) ⟨hHeld.1.alloc _, hHeld.2.1.alloc _, hHeld.2.2.alloc hHeld.2.2.size _⟩ (fun hHeld => ?_)
      clear hK K
      try simp only [List.getElem_toArray, List.getElem_cons_succ, List.getElem_cons_zero, Act.put, List.setIfInBounds_toArray, List.set_cons_zero, List.set_cons_succ, Array.toArray_toList]
      have rL : Row (xx12.alloc (.cells #[.slice a0 lo cap0] 22)) xx12.heap.size 22 #[.slice a0 lo cap0] := Row.made _ _ _ (by simp)
      replace rP := rP.alloc (.cells #[.slice a0 lo cap0] 22)
      replace rX := rX.alloc (.cells #[.slice a0 lo cap0] 22)
      replace rY := rY.alloc (.cells #[.slice a0 lo cap0] 22)
      refine wpAnyH_ready (rs := [33]) (by kernel_rfl) (by simp) ?_
      refine AllReadyH.cons rfl (fun K hK => ?_) AllReadyH.nil
      go_simp
      refine (kL.out _ _ rL hHeld.2.2).mono ?_
      rintro e xx13 ⟨rfl, hb'⟩
      replace hb' : Below (xx12.alloc (.cells #[.slice a0 lo cap0] 22)).heap.size (xx12.alloc (.cells #[.slice a0 lo cap0] 22)) xx13 := hb'
      refine hK.out _ _ ⟨hHeld.1.below hb', hHeld.2.1.below hb', hHeld.2.2.trans (hb'.mono hHeld.2.2.size)⟩ (fun hHeld => ?_)
      clear hK K
      try simp only [List.getElem_toArray, List.getElem_cons_succ, List.getElem_cons_zero, Act.put, List.setIfInBounds_toArray, List.set_cons_zero, List.set_cons_succ, Array.toArray_toList]
      replace rP := rP.below hb'
      replace rX := rX.below hb'
      replace rY := rY.below hb'
      replace rL := rL.below hb'
      clear hb'
      refine wpAnyH_take (i := 34) (v := ?_) rfl (by kernel_rfl) (by kernel_rfl) (by kernel_rfl) (fun _ _ _ h => h) (Or.inl ⟨by rfl, ?_⟩) hHeld ?_
      rotate_left
      · intro w hSw
        go_simp
        try rfl
      try simp only [List.getElem_toArray, List.getElem_cons_succ, List.getElem_cons_zero, Act.put, List.setIfInBounds_toArray, List.set_cons_zero, List.set_cons_succ]
      refine wpAnyH_take (i := 35) (v := ?_) rfl (by kernel_rfl) (by kernel_rfl) (by kernel_rfl) (fun _ _ _ h => h) (Or.inl ⟨by rfl, ?_⟩) hHeld ?_
      rotate_left
      · intro w hSw
        go_simp
        try rfl
      try simp only [List.getElem_toArray, List.getElem_cons_succ, List.getElem_cons_zero, Act.put, List.setIfInBounds_toArray, List.set_cons_zero, List.set_cons_succ]
      refine wpAnyH_take (i := 36) (v := ?_) rfl (by kernel_rfl) (by kernel_rfl) (by kernel_rfl) (fun _ _ _ h => h) (Or.inl ⟨by rfl, ?_⟩) hHeld ?_
      rotate_left
      · intro w hSw
        go_simp
        try rfl
      try simp only [List.getElem_toArray, List.getElem_cons_succ, List.getElem_cons_zero, Act.put, List.setIfInBounds_toArray, List.set_cons_zero, List.set_cons_succ]
      refine wpAnyH_done (by kernel_rfl) ?_ _
      go_wp2
      go_ret
      exact ⟨rfl, hHeld.2.2⟩
    refine AllReadyH.cons rfl (fun K hK => ?_) AllReadyH.nil
    go_simp
    refine hK.out _ (xx10.alloc (.cells #[.slice a0 n cap0] 22)) ⟨hHeld.1.alloc _, hHeld.2.1.alloc _, hHeld.2.2.alloc hHeld.2.2.size _⟩ (fun hHeld => ?_)
    clear hK K
    try simp only [List.getElem_toArray, List.getElem_cons_succ, List.getElem_cons_zero, Act.put, List.setIfInBounds_toArray, List.set_cons_zero, List.set_cons_succ, Array.toArray_toList]
    have rY : Row (xx10.alloc (.cells #[.slice a0 n cap0] 22)) xx10.heap.size 22 #[.slice a0 n cap0] := Row.made _ _ _ (by simp)
    replace rP := rP.alloc (.cells #[.slice a0 n cap0] 22)
    replace rX := rX.alloc (.cells #[.slice a0 n cap0] 22)
    refine wpAnyH_ready (rs := [21]) (by kernel_rfl) (by simp) ?_
    refine AllReadyH.cons rfl (fun K hK => ?_) AllReadyH.nil
    go_simp
    refine (kS.out _ hHeld.1).mono ?_
    rintro e xx14 ⟨rfl, hb'⟩
    replace hb' : Below (xx10.alloc (.cells #[.slice a0 n cap0] 22)).heap.size (xx10.alloc (.cells #[.slice a0 n cap0] 22)) xx14 := hb'
    refine hK.out _ _ ⟨hHeld.1.below hb', hHeld.2.1.below hb', hHeld.2.2.trans (hb'.mono hHeld.2.2.size)⟩ (fun hHeld => ?_)
    clear hK K
    try simp only [List.getElem_toArray, List.getElem_cons_succ, List.getElem_cons_zero, Act.put, List.setIfInBounds_toArray, List.set_cons_zero, List.set_cons_succ, Array.toArray_toList]
    replace rP := rP.below hb'
    replace rX := rX.below hb'
    replace rY := rY.below hb'
    clear hb'
    refine wpAnyH_ready (rs := [24]) (by kernel_rfl) (by simp) ?_
    refine AllReadyH.cons rfl (fun K hK => ?_) AllReadyH.nil
    go_simp
    refine (kX.out _ _ rY hHeld.2.2).mono ?_
    rintro e xx15 ⟨rfl, hb'⟩
    replace hb' : Below xx14.heap.size xx14 xx15 := hb'
    refine hK.out _ _ ⟨hHeld.1.below hb', hHeld.2.1.below hb', hHeld.2.2.trans (hb'.mono hHeld.2.2.size)⟩ (fun hHeld => ?_)
    clear hK K
    try simp only [List.getElem_toArray, List.getElem_cons_succ, List.getElem_cons_zero, Act.put, List.setIfInBounds_toArray, List.set_cons_zero, List.set_cons_succ, Array.toArray_toList]
    replace rP := rP.below hb'
    replace rX := rX.below hb'
    replace rY := rY.below hb'
    clear hb'
    refine wpAnyH_take (i := 25) (v := ?_) rfl (by kernel_rfl) (by kernel_rfl) (by kernel_rfl) (fun _ _ _ h => h) (Or.inl ⟨by rfl, ?_⟩) hHeld ?_
    rotate_left
    · intro w hSw
      go_simp
      try rfl
    try simp only [List.getElem_toArray, List.getElem_cons_succ, List.getElem_cons_zero, Act.put, List.setIfInBounds_toArray, List.set_cons_zero, List.set_cons_succ]
    refine wpAnyH_take (i := 26) (v := ?_) rfl (by kernel_rfl) (by kernel_rfl) (by kernel_rfl) (fun _ _ _ h => h) (Or.inl ⟨by rfl, ?_⟩) hHeld ?_
    rotate_left
    · intro w hSw
      go_simp
      try rfl
    try simp only [List.getElem_toArray, List.getElem_cons_succ, List.getElem_cons_zero, Act.put, List.setIfInBounds_toArray, List.set_cons_zero, List.set_cons_succ]
    refine wpAnyH_take (i := 27) (v := ?_) rfl (by kernel_rfl) (by kernel_rfl) (by kernel_rfl) (fun _ _ _ h => h) (Or.inl ⟨by rfl, ?_⟩) hHeld ?_
    rotate_left
    · intro w hSw
      go_simp
      try rfl
    try simp only [List.getElem_toArray, List.getElem_cons_succ, List.getElem_cons_zero, Act.put, List.setIfInBounds_toArray, List.set_cons_zero, List.set_cons_succ]
    refine wpAnyH_take (i := 28) rfl (by kernel_rfl) (by kernel_rfl) (by kernel_rfl) (fun _ _ _ h => h) (yieldsIf_load_mid (by rfl) _ _ rfl _ _ rfl (bsr F1 32).toList _ (fun _ h => row_range h.2.1) sumT rfl (by rw [Array.length_toList, bsr_size]; exact i32)) hHeld ?_
    try simp only [List.getElem_toArray, List.getElem_cons_succ, List.getElem_cons_zero, Act.put, List.setIfInBounds_toArray, List.set_cons_zero, List.set_cons_succ, Array.toArray_toList]
    refine wpAnyH_take (i := 29) (v := ?_) rfl (by kernel_rfl) (by kernel_rfl) (by kernel_rfl) (fun _ _ _ h => h) (Or.inl ⟨by rfl, ?_⟩) hHeld ?_
    rotate_left
    · intro w hSw
      go_simp
      try rfl
    try simp only [List.getElem_toArray, List.getElem_cons_succ, List.getElem_cons_zero, Act.put, List.setIfInBounds_toArray, List.set_cons_zero, List.set_cons_succ]
    refine wpAnyH_take (i := 30) (v := ?_) rfl (by kernel_rfl) (by kernel_rfl) (by kernel_rfl) (fun _ _ _ h => h) (Or.inl ⟨by rfl, ?_⟩) hHeld ?_
    rotate_left
    · intro w hSw
      go_simp
      try rfl
    try simp only [List.getElem_toArray, List.getElem_cons_succ, List.getElem_cons_zero, Act.put, List.setIfInBounds_toArray, List.set_cons_zero, List.set_cons_succ]
    refine wpAnyH_take (i := 31) (v := ?_) rfl (by kernel_rfl) (by kernel_rfl) (by kernel_rfl) (fun _ _ _ h => h) (Or.inl ⟨by rfl, ?_⟩) hHeld ?_
    rotate_left
    · intro w hSw
      go_simp
      try rfl
    try simp only [List.getElem_toArray, List.getElem_cons_succ, List.getElem_cons_zero, Act.put, List.setIfInBounds_toArray, List.set_cons_zero, List.set_cons_succ]
    refine wpAnyH_ready (rs := [32]) (by kernel_rfl) (by simp) ?_
    refine AllReadyH.cons rfl (fun K hK => ?_) AllReadyH.nil
    go_simp
    refine hK.out _ (xx15.alloc (.cells #[.slice a0 lo cap0] 22)) ⟨hHeld.1.alloc _, hHeld.2.1.alloc _, hHeld.2.2.alloc hHeld.2.2.size _⟩ (fun hHeld => ?_)
    clear hK K
    try simp only [List.getElem_toArray, List.getElem_cons_succ, List.getElem_cons_zero, Act.put, List.setIfInBounds_toArray, List.set_cons_zero, List.set_cons_succ, Array.toArray_toList]
    have rL : Row (xx15.alloc (.cells #[.slice a0 lo cap0] 22)) xx15.heap.size 22 #[.slice a0 lo cap0] := Row.made _ _ _ (by simp)
    replace rP := rP.alloc (.cells #[.slice a0 lo cap0] 22)
    replace rX := rX.alloc (.cells #[.slice a0 lo cap0] 22)
    replace rY := rY.alloc (.cells #[.slice a0 lo cap0] 22)
    refine wpAnyH_ready (rs := [33]) (by kernel_rfl) (by simp) ?_
    refine AllReadyH.cons rfl (fun K hK => ?_) AllReadyH.nil
    go_simp
    refine (kL.out _ _ rL hHeld.2.2).mono ?_
    rintro e xx16 ⟨rfl, hb'⟩
    replace hb' : Below (xx15.alloc (.cells #[.slice a0 lo cap0] 22)).heap.size (xx15.alloc (.cells #[.slice a0 lo cap0] 22)) xx16 := hb'
    refine hK.out _ _ ⟨hHeld.1.below hb', hHeld.2.1.below hb', hHeld.2.2.trans (hb'.mono hHeld.2.2.size)⟩ (fun hHeld => ?_)
    clear hK K
    try simp only [List.getElem_toArray, List.getElem_cons_succ, List.getElem_cons_zero, Act.put, List.setIfInBounds_toArray, List.set_cons_zero, List.set_cons_succ, Array.toArray_toList]
    replace rP := rP.below hb'
    replace rX := rX.below hb'
    replace rY := rY.below hb'
    replace rL := rL.below hb'
    clear hb'
    refine wpAnyH_take (i := 34) (v := ?_) rfl (by kernel_rfl) (by kernel_rfl) (by kernel_rfl) (fun _ _ _ h => h) (Or.inl ⟨by rfl, ?_⟩) hHeld ?_
    rotate_left
    · intro w hSw
      go_simp
      try rfl
    try simp only [List.getElem_toArray, List.getElem_cons_succ, List.getElem_cons_zero, Act.put, List.setIfInBounds_toArray, List.set_cons_zero, List.set_cons_succ]
    refine wpAnyH_take (i := 35) (v := ?_) rfl (by kernel_rfl) (by kernel_rfl) (by kernel_rfl) (fun _ _ _ h => h) (Or.inl ⟨by rfl, ?_⟩) hHeld ?_
    rotate_left
    · intro w hSw
      go_simp
      try rfl
    try simp only [List.getElem_toArray, List.getElem_cons_succ, List.getElem_cons_zero, Act.put, List.setIfInBounds_toArray, List.set_cons_zero, List.set_cons_succ]
    refine wpAnyH_take (i := 36) (v := ?_) rfl (by kernel_rfl) (by kernel_rfl) (by kernel_rfl) (fun _ _ _ h => h) (Or.inl ⟨by rfl, ?_⟩) hHeld ?_
    rotate_left
    · intro w hSw
      go_simp
      try rfl
    try simp only [List.getElem_toArray, List.getElem_cons_succ, List.getElem_cons_zero, Act.put, List.setIfInBounds_toArray, List.set_cons_zero, List.set_cons_succ]
    refine wpAnyH_done (by kernel_rfl) ?_ _
    go_wp2
    go_ret
    exact ⟨rfl, hHeld.2.2⟩
  refine AllReadyH.cons rfl (fun K hK => ?_) AllReadyH.nil
  go_simp
  refine hK.out _ (x00.alloc (.cells #[.slice a0 n cap0] 22)) ⟨hHeld.1.alloc _, hHeld.2.1.alloc _, hHeld.2.2.alloc hHeld.2.2.size _⟩ (fun hHeld => ?_)
  clear hK K
  try simp only [List.getElem_toArray, List.getElem_cons_succ, List.getElem_cons_zero, Act.put, List.setIfInBounds_toArray, List.set_cons_zero, List.set_cons_succ, Array.toArray_toList]
  have rX : Row (x00.alloc (.cells #[.slice a0 n cap0] 22)) x00.heap.size 22 #[.slice a0 n cap0] := Row.made _ _ _ (by simp)
  refine wpAnyH_ready (rs := [12]) (by kernel_rfl) (by simp) ?_
  refine AllReadyH.cons rfl (fun K hK => ?_) AllReadyH.nil
  go_simp
  refine hK.out _ ((x00.alloc (.cells #[.slice a0 n cap0] 22)).alloc (.cells #[.slice a0 lo cap0, .slice A2 (hi - lo) (cap0 - lo), .slice none 0 0, .slice A3 (n - hi) (cap0 - hi)] 22)) ⟨hHeld.1.alloc _, hHeld.2.1.alloc _, hHeld.2.2.alloc hHeld.2.2.size _⟩ (fun hHeld => ?_)
  clear hK K
  try simp only [List.getElem_toArray, List.getElem_cons_succ, List.getElem_cons_zero, Act.put, List.setIfInBounds_toArray, List.set_cons_zero, List.set_cons_succ, Array.toArray_toList]
  have rP : Row ((x00.alloc (.cells #[.slice a0 n cap0] 22)).alloc (.cells #[.slice a0 lo cap0, .slice A2 (hi - lo) (cap0 - lo), .slice none 0 0, .slice A3 (n - hi) (cap0 - hi)] 22)) (x00.heap.size + 1) 22 #[.slice a0 lo cap0, .slice A2 (hi - lo) (cap0 - lo), .slice none 0 0, .slice A3 (n - hi) (cap0 - hi)] := Row.made _ _ _ (by simp)
  replace rX := rX.alloc (.cells #[.slice a0 lo cap0, .slice A2 (hi - lo) (cap0 - lo), .slice none 0 0, .slice A3 (n - hi) (cap0 - hi)] 22)
  refine wpAnyH_ready (rs := [13]) (by kernel_rfl) (by simp) ?_
  refine AllReadyH.cons rfl (fun K hK => ?_) AllReadyH.nil
  go_simp
  refine (kP.out _ _ rP hHeld.2.2).mono ?_
  rintro e xx17 ⟨rfl, hb'⟩
  replace hb' : Below ((x00.alloc (.cells #[.slice a0 n cap0] 22)).alloc (.cells #[.slice a0 lo cap0, .slice A2 (hi - lo) (cap0 - lo), .slice none 0 0, .slice A3 (n - hi) (cap0 - hi)] 22)).heap.size ((x00.alloc (.cells #[.slice a0 n cap0] 22)).alloc (.cells #[.slice a0 lo cap0, .slice A2 (hi - lo) (cap0 - lo), .slice none 0 0, .slice A3 (n - hi) (cap0 - hi)] 22)) xx17 := hb'
  refine hK.out _ _ ⟨hHeld.1.below hb', hHeld.2.1.below hb', hHeld.2.2.trans (hb'.mono hHeld.2.2.size)⟩ (fun hHeld => ?_)
  clear hK K
  try simp only [List.getElem_toArray, List.getElem_cons_succ, List.getElem_cons_zero, Act.put, List.setIfInBounds_toArray, List.set_cons_zero, List.set_cons_succ, Array.toArray_toList]
  replace rX := rX.below hb'
  replace rP := rP.below hb'
  clear hb'
  refine wpAnyH_ready (rs := [16]) (by kernel_rfl) (by simp) ?_
  refine AllReadyH.cons rfl (fun K hK => ?_) AllReadyH.nil
  go_simp
  refine (kX.out _ _ rX hHeld.2.2).mono ?_
  rintro e xx18 ⟨rfl, hb'⟩
  replace hb' : Below xx17.heap.size xx17 xx18 := hb'
  refine hK.out _ _ ⟨hHeld.1.below hb', hHeld.2.1.below hb', hHeld.2.2.trans (hb'.mono hHeld.2.2.size)⟩ (fun hHeld => ?_)
  clear hK K
  try simp only [List.getElem_toArray, List.getElem_cons_succ, List.getElem_cons_zero, Act.put, List.setIfInBounds_toArray, List.set_cons_zero, List.set_cons_succ, Array.toArray_toList]
  replace rX := rX.below hb'
  replace rP := rP.below hb'
  clear hb'
  refine wpAnyH_take (i := 17) (v := ?_) rfl (by kernel_rfl) (by kernel_rfl) (by kernel_rfl) (fun _ _ _ h => h) (Or.inl ⟨by rfl, ?_⟩) hHeld ?_
  rotate_left
  · intro w hSw
    go_simp
    try rfl
  try simp only [List.getElem_toArray, List.getElem_cons_succ, List.getElem_cons_zero, Act.put, List.setIfInBounds_toArray, List.set_cons_zero, List.set_cons_succ]
  refine wpAnyH_take (i := 18) (v := ?_) rfl (by kernel_rfl) (by kernel_rfl) (by kernel_rfl) (fun _ _ _ h => h) (Or.inl ⟨by rfl, ?_⟩) hHeld ?_
  rotate_left
  · intro w hSw
    go_simp
    try rfl
  try simp only [List.getElem_toArray, List.getElem_cons_succ, List.getElem_cons_zero, Act.put, List.setIfInBounds_toArray, List.set_cons_zero, List.set_cons_succ]
  refine wpAnyH_take (i := 19) (v := ?_) rfl (by kernel_rfl) (by kernel_rfl) (by kernel_rfl) (fun _ _ _ h => h) (Or.inl ⟨by rfl, ?_⟩) hHeld ?_
  rotate_left
  · intro w hSw
    go_simp
    try rfl
  try simp only [List.getElem_toArray, List.getElem_cons_succ, List.getElem_cons_zero, Act.put, List.setIfInBounds_toArray, List.set_cons_zero, List.set_cons_succ]
  refine wpAnyH_take (i := 20) (v := ?_) rfl (by kernel_rfl) (by kernel_rfl) (by kernel_rfl) (fun _ _ _ h => h) (Or.inl ⟨by rfl, ?_⟩) hHeld ?_
  rotate_left
  · intro w hSw
    go_simp
    try rfl
  try simp only [List.getElem_toArray, List.getElem_cons_succ, List.getElem_cons_zero, Act.put, List.setIfInBounds_toArray, List.set_cons_zero, List.set_cons_succ]
  refine wpAnyH_take (i := 22) (v := ?_) rfl (by kernel_rfl) (by kernel_rfl) (by kernel_rfl) (fun _ _ _ h => h) (Or.inl ⟨by rfl, ?_⟩) hHeld ?_
  rotate_left
  · intro w hSw
    go_simp
    try rfl
  try simp only [List.getElem_toArray, List.getElem_cons_succ, List.getElem_cons_zero, Act.put, List.setIfInBounds_toArray, List.set_cons_zero, List.set_cons_succ]
  refine wpAnyH_ready (rs := [21, 23]) (by kernel_rfl) (by simp) ?_
  refine AllReadyH.cons rfl (fun K hK => ?_) ?_
  · skip
    go_simp
    refine (kS.out _ hHeld.1).mono ?_
    rintro e xx19 ⟨rfl, hb'⟩
    replace hb' : Below xx18.heap.size xx18 xx19 := hb'
    refine hK.out _ _ ⟨hHeld.1.below hb', hHeld.2.1.below hb', hHeld.2.2.trans (hb'.mono hHeld.2.2.size)⟩ (fun hHeld => ?_)
    clear hK K
    try simp only [List.getElem_toArray, List.getElem_cons_succ, List.getElem_cons_zero, Act.put, List.setIfInBounds_toArray, List.set_cons_zero, List.set_cons_succ, Array.toArray_toList]
    replace rX := rX.below hb'
    replace rP := rP.below hb'
    clear hb'
    refine wpAnyH_ready (rs := [23]) (by kernel_rfl) (by simp) ?_
    refine AllReadyH.cons rfl (fun K hK => ?_) AllReadyH.nil
    go_simp
    refine hK.out _ (xx19.alloc (.cells #[.slice a0 n cap0] 22)) ⟨hHeld.1.alloc _, hHeld.2.1.alloc _, hHeld.2.2.alloc hHeld.2.2.size _⟩ (fun hHeld => ?_)
    clear hK K
    try simp only [List.getElem_toArray, List.getElem_cons_succ, List.getElem_cons_zero, Act.put, List.setIfInBounds_toArray, List.set_cons_zero, List.set_cons_succ, Array.toArray_toList]
    have rY : Row (xx19.alloc (.cells #[.slice a0 n cap0] 22)) xx19.heap.size 22 #[.slice a0 n cap0] := Row.made _ _ _ (by simp)
    replace rX := rX.alloc (.cells #[.slice a0 n cap0] 22)
    replace rP := rP.alloc (.cells #[.slice a0 n cap0] 22)
    refine wpAnyH_ready (rs := [24]) (by kernel_rfl) (by simp) ?_
    refine AllReadyH.cons rfl (fun K hK => ?_) AllReadyH.nil
    go_simp
    refine (kX.out _ _ rY hHeld.2.2).mono ?_
    rintro e xx20 ⟨rfl, hb'⟩
    replace hb' : Below (xx19.alloc (.cells #[.slice a0 n cap0] 22)).heap.size (xx19.alloc (.cells #[.slice a0 n cap0] 22)) xx20 := hb'
    refine hK.out _ _ ⟨hHeld.1.below hb', hHeld.2.1.below hb', hHeld.2.2.trans (hb'.mono hHeld.2.2.size)⟩ (fun hHeld => ?_)
    clear hK K
    try simp only [List.getElem_toArray, List.getElem_cons_succ, List.getElem_cons_zero, Act.put, List.setIfInBounds_toArray, List.set_cons_zero, List.set_cons_succ, Array.toArray_toList]
    replace rX := rX.below hb'
    replace rP := rP.below hb'
    replace rY := rY.below hb'
    clear hb'
    refine wpAnyH_take (i := 25) (v := ?_) rfl (by kernel_rfl) (by kernel_rfl) (by kernel_rfl) (fun _ _ _ h => h) (Or.inl ⟨by rfl, ?_⟩) hHeld ?_
    rotate_left
    · intro w hSw
      go_simp
      try rfl
    try simp only [List.getElem_toArray, List.getElem_cons_succ, List.getElem_cons_zero, Act.put, List.setIfInBounds_toArray, List.set_cons_zero, List.set_cons_succ]
    refine wpAnyH_take (i := 26) (v := ?_) rfl (by kernel_rfl) (by kernel_rfl) (by kernel_rfl) (fun _ _ _ h => h) (Or.inl ⟨by rfl, ?_⟩) hHeld ?_
    rotate_left
    · intro w hSw
      go_simp
      try rfl
    try simp only [List.getElem_toArray, List.getElem_cons_succ, List.getElem_cons_zero, Act.put, List.setIfInBounds_toArray, List.set_cons_zero, List.set_cons_succ]
    refine wpAnyH_take (i := 27) (v := ?_) rfl (by kernel_rfl) (by kernel_rfl) (by kernel_rfl) (fun _ _ _ h => h) (Or.inl ⟨by rfl, ?_⟩) hHeld ?_
    rotate_left
    · intro w hSw
      go_simp
      try rfl
    try simp only [List.getElem_toArray, List.getElem_cons_succ, List.getElem_cons_zero, Act.put, List.setIfInBounds_toArray, List.set_cons_zero, List.set_cons_succ]
    refine wpAnyH_take (i := 28) rfl (by kernel_rfl) (by kernel_rfl) (by kernel_rfl) (fun _ _ _ h => h) (yieldsIf_load_mid (by rfl) _ _ rfl _ _ rfl (bsr F1 32).toList _ (fun _ h => row_range h.2.1) sumT rfl (by rw [Array.length_toList, bsr_size]; exact i32)) hHeld ?_
    try simp only [List.getElem_toArray, List.getElem_cons_succ, List.getElem_cons_zero, Act.put, List.setIfInBounds_toArray, List.set_cons_zero, List.set_cons_succ, Array.toArray_toList]
    refine wpAnyH_take (i := 29) (v := ?_) rfl (by kernel_rfl) (by kernel_rfl) (by kernel_rfl) (fun _ _ _ h => h) (Or.inl ⟨by rfl, ?_⟩) hHeld ?_
    rotate_left
    · intro w hSw
      go_simp
      try rfl
    try simp only [List.getElem_toArray, List.getElem_cons_succ, List.getElem_cons_zero, Act.put, List.setIfInBounds_toArray, List.set_cons_zero, List.set_cons_succ]
    refine wpAnyH_take (i := 30) (v := ?_) rfl (by kernel_rfl) (by kernel_rfl) (by kernel_rfl) (fun _ _ _ h => h) (Or.inl ⟨by rfl, ?_⟩) hHeld ?_
    rotate_left
    · intro w hSw
      go_simp
      try rfl
    try simp only [List.getElem_toArray, List.getElem_cons_succ, List.getElem_cons_zero, Act.put, List.setIfInBounds_toArray, List.set_cons_zero, List.set_cons_succ]
    refine wpAnyH_take (i := 31) (v := ?_) rfl (by kernel_rfl) (by kernel_rfl) (by kernel_rfl) (fun _ _ _ h => h) (Or.inl ⟨by rfl, ?_⟩) hHeld ?_
    rotate_left
    · intro w hSw
      go_simp
      try rfl
    try simp only [List.getElem_toArray, List.getElem_cons_succ, List.getElem_cons_zero, Act.put, List.setIfInBounds_toArray, List.set_cons_zero, List.set_cons_succ]
    refine wpAnyH_ready (rs := [32]) (by kernel_rfl) (by simp) ?_
    refine AllReadyH.cons rfl (fun K hK => ?_) AllReadyH.nil
    go_simp
    refine hK.out _ (xx20.alloc (.cells #[.slice a0 lo cap0] 22)) ⟨hHeld.1.alloc _, hHeld.2.1.alloc _, hHeld.2.2.alloc hHeld.2.2.size _⟩ (fun hHeld => ?_)
    clear hK K
    try simp only [List.getElem_toArray, List.getElem_cons_succ, List.getElem_cons_zero, Act.put, List.setIfInBounds_toArray, List.set_cons_zero, List.set_cons_succ, Array.toArray_toList]
    have rL : Row (xx20.alloc (.cells #[.slice a0 lo cap0] 22)) xx20.heap.size 22 #[.slice a0 lo cap0] := Row.made _ _ _ (by simp)
    replace rX := rX.alloc (.cells #[.slice a0 lo cap0] 22)
    replace rP := rP.alloc (.cells #[.slice a0 lo cap0] 22)
    replace rY := rY.alloc (.cells #[.slice a0 lo cap0] 22)
    refine wpAnyH_ready (rs := [33]) (by kernel_rfl) (by simp) ?_
    refine AllReadyH.cons rfl (fun K hK => ?_) AllReadyH.nil
    go_simp
    refine (kL.out _ _ rL hHeld.2.2).mono ?_
    rintro e xx21 ⟨rfl, hb'⟩
    replace hb' : Below (xx20.alloc (.cells #[.slice a0 lo cap0] 22)).heap.size (xx20.alloc (.cells #[.slice a0 lo cap0] 22)) xx21 := hb'
    refine hK.out _ _ ⟨hHeld.1.below hb', hHeld.2.1.below hb', hHeld.2.2.trans (hb'.mono hHeld.2.2.size)⟩ (fun hHeld => ?_)
    clear hK K
    try simp only [List.getElem_toArray, List.getElem_cons_succ, List.getElem_cons_zero, Act.put, List.setIfInBounds_toArray, List.set_cons_zero, List.set_cons_succ, Array.toArray_toList]
    replace rX := rX.below hb'
    replace rP := rP.below hb'
    replace rY := rY.below hb'
    replace rL := rL.below hb'
    clear hb'
    refine wpAnyH_take (i := 34) (v := ?_) rfl (by kernel_rfl) (by kernel_rfl) (by kernel_rfl) (fun _ _ _ h => h) (Or.inl ⟨by rfl, ?_⟩) hHeld ?_
    rotate_left
    · intro w hSw
      go_simp
      try rfl
    try simp only [List.getElem_toArray, List.getElem_cons_succ, List.getElem_cons_zero, Act.put, List.setIfInBounds_toArray, List.set_cons_zero, List.set_cons_succ]
    refine wpAnyH_take (i := 35) (v := ?_) rfl (by kernel_rfl) (by kernel_rfl) (by kernel_rfl) (fun _ _ _ h => h) (Or.inl ⟨by rfl, ?_⟩) hHeld ?_
    rotate_left
    · intro w hSw
      go_simp
      try rfl
    try simp only [List.getElem_toArray, List.getElem_cons_succ, List.getElem_cons_zero, Act.put, List.setIfInBounds_toArray, List.set_cons_zero, List.set_cons_succ]
    refine wpAnyH_take (i := 36) (v := ?_) rfl (by kernel_rfl) (by kernel_rfl) (by kernel_rfl) (fun _ _ _ h => h) (Or.inl ⟨by rfl, ?_⟩) hHeld ?_
    rotate_left
    · intro w hSw
      go_simp
      try rfl
    try simp only [List.getElem_toArray, List.getElem_cons_succ, List.getElem_cons_zero, Act.put, List.setIfInBounds_toArray, List.set_cons_zero, List.set_cons_succ]
    refine wpAnyH_done (by kernel_rfl) ?_ _
    go_wp2
    go_ret
    exact ⟨rfl, hHeld.2.2⟩
  refine AllReadyH.cons rfl (fun K hK => ?_) AllReadyH.nil
  go_simp
  refine hK.out _ (xx18.alloc (.cells #[.slice a0 n cap0] 22)) ⟨hHeld.1.alloc _, hHeld.2.1.alloc _, hHeld.2.2.alloc hHeld.2.2.size _⟩ (fun hHeld => ?_)
  clear hK K
  try simp only [List.getElem_toArray, List.getElem_cons_succ, List.getElem_cons_zero, Act.put, List.setIfInBounds_toArray, List.set_cons_zero, List.set_cons_succ, Array.toArray_toList]
  have rY : Row (xx18.alloc (.cells #[.slice a0 n cap0] 22)) xx18.heap.size 22 #[.slice a0 n cap0] := Row.made _ _ _ (by simp)
  replace rX := rX.alloc (.cells #[.slice a0 n cap0] 22)
  replace rP := rP.alloc (.cells #[.slice a0 n cap0] 22)
  refine wpAnyH_ready (rs := [21]) (by kernel_rfl) (by simp) ?_
  refine AllReadyH.cons rfl (fun K hK => ?_) AllReadyH.nil
  go_simp
  refine (kS.out _ hHeld.1).mono ?_
  rintro e xx22 ⟨rfl, hb'⟩
  replace hb' : Below (xx18.alloc (.cells #[.slice a0 n cap0] 22)).heap.size (xx18.alloc (.cells #[.slice a0 n cap0] 22)) xx22 := hb'
  refine hK.out _ _ ⟨hHeld.1.below hb', hHeld.2.1.below hb', hHeld.2.2.trans (hb'.mono hHeld.2.2.size)⟩ (fun hHeld => ?_)
  clear hK K
  try simp only [List.getElem_toArray, List.getElem_cons_succ, List.getElem_cons_zero, Act.put, List.setIfInBounds_toArray, List.set_cons_zero, List.set_cons_succ, Array.toArray_toList]
  replace rX := rX.below hb'
  replace rP := rP.below hb'
  replace rY := rY.below hb'
  clear hb'
  refine wpAnyH_ready (rs := [24]) (by kernel_rfl) (by simp) ?_
  refine AllReadyH.cons rfl (fun K hK => ?_) AllReadyH.nil
  go_simp
  refine (kX.out _ _ rY hHeld.2.2).mono ?_
  rintro e xx23 ⟨rfl, hb'⟩
  replace hb' : Below xx22.heap.size xx22 xx23 := hb'
  refine hK.out _ _ ⟨hHeld.1.below hb', hHeld.2.1.below hb', hHeld.2.2.trans (hb'.mono hHeld.2.2.size)⟩ (fun hHeld => ?_)
  clear hK K
  try simp only [List.getElem_toArray, List.getElem_cons_succ, List.getElem_cons_zero, Act.put, List.setIfInBounds_toArray, List.set_cons_zero, List.set_cons_succ, Array.toArray_toList]
  replace rX := rX.below hb'
  replace rP := rP.below hb'
  replace rY := rY.below hb'
  clear hb'
  refine wpAnyH_take (i := 25) (v := ?_) rfl (by kernel_rfl) (by kernel_rfl) (by kernel_rfl) (fun _ _ _ h => h) (Or.inl ⟨by rfl, ?_⟩) hHeld ?_
  rotate_left
  · intro w hSw
    go_simp
    try rfl
  try simp only [List.getElem_toArray, List.getElem_cons_succ, List.getElem_cons_zero, Act.put, List.setIfInBounds_toArray, List.set_cons_zero, List.set_cons_succ]
  refine wpAnyH_take (i := 26) (v := ?_) rfl (by kernel_rfl) (by kernel_rfl) (by kernel_rfl) (fun _ _ _ h => h) (Or.inl ⟨by rfl, ?_⟩) hHeld ?_
  rotate_left
  · intro w hSw
    go_simp
    try rfl
  try simp only [List.getElem_toArray, List.getElem_cons_succ, List.getElem_cons_zero, Act.put, List.setIfInBounds_toArray, List.set_cons_zero, List.set_cons_succ]
  refine wpAnyH_take (i := 27) (v := ?_) rfl (by kernel_rfl) (by kernel_rfl) (by kernel_rfl) (fun _ _ _ h => h) (Or.inl ⟨by rfl, ?_⟩) hHeld ?_
  rotate_left
  · intro w hSw
    go_simp
    try rfl
  try simp only [List.getElem_toArray, List.getElem_cons_succ, List.getElem_cons_zero, Act.put, List.setIfInBounds_toArray, List.set_cons_zero, List.set_cons_succ]
  refine wpAnyH_take (i := 28) rfl (by kernel_rfl) (by kernel_rfl) (by kernel_rfl) (fun _ _ _ h => h) (yieldsIf_load_mid (by rfl) _ _ rfl _ _ rfl (bsr F1 32).toList _ (fun _ h => row_range h.2.1) sumT rfl (by rw [Array.length_toList, bsr_size]; exact i32)) hHeld ?_
  try simp only [List.getElem_toArray, List.getElem_cons_succ, List.getElem_cons_zero, Act.put, List.setIfInBounds_toArray, List.set_cons_zero, List.set_cons_succ, Array.toArray_toList]
  refine wpAnyH_take (i := 29) (v := ?_) rfl (by kernel_rfl) (by kernel_rfl) (by kernel_rfl) (fun _ _ _ h => h) (Or.inl ⟨by rfl, ?_⟩) hHeld ?_
  rotate_left
  · intro w hSw
    go_simp
    try rfl
  try simp only [List.getElem_toArray, List.getElem_cons_succ, List.getElem_cons_zero, Act.put, List.setIfInBounds_toArray, List.set_cons_zero, List.set_cons_succ]
  refine wpAnyH_take (i := 30) (v := ?_) rfl (by kernel_rfl) (by kernel_rfl) (by kernel_rfl) (fun _ _ _ h => h) (Or.inl ⟨by rfl, ?_⟩) hHeld ?_
  rotate_left
  · intro w hSw
    go_simp
    try rfl
  try simp only [List.getElem_toArray, List.getElem_cons_succ, List.getElem_cons_zero, Act.put, List.setIfInBounds_toArray, List.set_cons_zero, List.set_cons_succ]
  refine wpAnyH_take (i := 31) (v := ?_) rfl (by kernel_rfl) (by kernel_rfl) (by kernel_rfl) (fun _ _ _ h => h) (Or.inl ⟨by rfl, ?_⟩) hHeld ?_
  rotate_left
  · intro w hSw
    go_simp
    try rfl
  try simp only [List.getElem_toArray, List.getElem_cons_succ, List.getElem_cons_zero, Act.put, List.setIfInBounds_toArray, List.set_cons_zero, List.set_cons_succ]
  refine wpAnyH_ready (rs := [32]) (by kernel_rfl) (by simp) ?_
  refine AllReadyH.cons rfl (fun K hK => ?_) AllReadyH.nil
  go_simp
  refine hK.out _ (xx23.alloc (.cells #[.slice a0 lo cap0] 22)) ⟨hHeld.1.alloc _, hHeld.2.1.alloc _, hHeld.2.2.alloc hHeld.2.2.size _⟩ (fun hHeld => ?_)
  clear hK K
  try simp only [List.getElem_toArray, List.getElem_cons_succ, List.getElem_cons_zero, Act.put, List.setIfInBounds_toArray, List.set_cons_zero, List.set_cons_succ, Array.toArray_toList]
  have rL : Row (xx23.alloc (.cells #[.slice a0 lo cap0] 22)) xx23.heap.size 22 #[.slice a0 lo cap0] := Row.made _ _ _ (by simp)
  replace rX := rX.alloc (.cells #[.slice a0 lo cap0] 22)
  replace rP := rP.alloc (.cells #[.slice a0 lo cap0] 22)
  replace rY := rY.alloc (.cells #[.slice a0 lo cap0] 22)
  refine wpAnyH_ready (rs := [33]) (by kernel_rfl) (by simp) ?_
  refine AllReadyH.cons rfl (fun K hK => ?_) AllReadyH.nil
  go_simp
  refine (kL.out _ _ rL hHeld.2.2).mono ?_
  rintro e xx24 ⟨rfl, hb'⟩
  replace hb' : Below (xx23.alloc (.cells #[.slice a0 lo cap0] 22)).heap.size (xx23.alloc (.cells #[.slice a0 lo cap0] 22)) xx24 := hb'
  refine hK.out _ _ ⟨hHeld.1.below hb', hHeld.2.1.below hb', hHeld.2.2.trans (hb'.mono hHeld.2.2.size)⟩ (fun hHeld => ?_)
  clear hK K
  try simp only [List.getElem_toArray, List.getElem_cons_succ, List.getElem_cons_zero, Act.put, List.setIfInBounds_toArray, List.set_cons_zero, List.set_cons_succ, Array.toArray_toList]
  replace rX := rX.below hb'
  replace rP := rP.below hb'
  replace rY := rY.below hb'
  replace rL := rL.below hb'
  clear hb'
  refine wpAnyH_take (i := 34) (v := ?_) rfl (by kernel_rfl) (by kernel_rfl) (by kernel_rfl) (fun _ _ _ h => h) (Or.inl ⟨by rfl, ?_⟩) hHeld ?_
  rotate_left
  · intro w hSw
    go_simp
    try rfl
  try simp only [List.getElem_toArray, List.getElem_cons_succ, List.getElem_cons_zero, Act.put, List.setIfInBounds_toArray, List.set_cons_zero, List.set_cons_succ]
  refine wpAnyH_take (i := 35) (v := ?_) rfl (by kernel_rfl) (by kernel_rfl) (by kernel_rfl) (fun _ _ _ h => h) (Or.inl ⟨by rfl, ?_⟩) hHeld ?_
  rotate_left
  · intro w hSw
    go_simp
    try rfl
  try simp only [List.getElem_toArray, List.getElem_cons_succ, List.getElem_cons_zero, Act.put, List.setIfInBounds_toArray, List.set_cons_zero, List.set_cons_succ]
  refine wpAnyH_take (i := 36) (v := ?_) rfl (by kernel_rfl) (by kernel_rfl) (by kernel_rfl) (fun _ _ _ h => h) (Or.inl ⟨by rfl, ?_⟩) hHeld ?_
  rotate_left
  · intro w hSw
    go_simp
    try rfl
  try simp only [List.getElem_toArray, List.getElem_cons_succ, List.getElem_cons_zero, Act.put, List.setIfInBounds_toArray, List.set_cons_zero, List.set_cons_succ]
  refine wpAnyH_done (by kernel_rfl) ?_ _
  go_wp2
  go_ret
  exact ⟨rfl, hHeld.2.2⟩

set_option maxRecDepth 100000 in
/-- The step of the row. -/
theorem lifted (os : Os) (started : os.Started) (H : Type) (enc : TypeId × Value → H) :
    ReturnsInHanded {} Try.checked os 5 .any (Rows.spongePartsSpec.pre6 enc Try.prog Try.f5 Rows.spongePartsRow.domain false) (Rows.spongePartsSpec.post enc Try.prog Try.f5 false true false false) := by
  refine returnsInHanded_of_change (C := Try.checked) own started (by kernel_rfl) Try.func5
    (ChangeSpec.witness6 (enc := enc) (C := Try.checked) false ⟨#[], #[.slice none 0 0, .int .u64 0, .int .u64 0], []⟩ 8 (by kernel_rfl) (by kernel_rfl) (by kernel_rfl) (by kernel_rfl)) ?_
  intro W base args ds gs before hval0 hW hcnd _
  have hval : ∀ (j : Nat) t v, Try.f5.params[j]? = some t → args[j]? = some v → Value.okWide Try.prog W .any base t v := hval0
  have hW' := hW
  obtain ⟨p, q, hA0, hV, rfl, hfz, hnd⟩ := hW
  have hA : DataW.TrodAll enc Try.prog W 0 (fun _ => true) true Try.f5.params.toList args.toList ds p := hA0
  rw [Try.params5] at hA hval
  obtain ⟨v0, vs0, d0, ds0, p0, q0, hargs, rfl, rfl, h0, r0⟩ := trodAll_cons hA
  obtain ⟨v1, vs1, d1, ds1, p1, q1, rfl, rfl, rfl, h1, r1⟩ := trodAll_cons r0
  obtain ⟨v2, vs2, d2, ds2, p2, q2, rfl, rfl, rfl, h2, r2⟩ := trodAll_cons r1
  obtain ⟨rfl, rfl, rfl⟩ := trodAll_nil r2
  obtain rfl : args = #[v0, v1, v2] := by cases args; simp_all
  obtain ⟨rfl, rfl⟩ := trodVars_none hV
  have k0 := h0
  have lt0 : ∀ x ∈ p0, x.block < W.heap.size := by obtain ⟨m, hm⟩ := k0; exact DataW.trod_lt m _ _ _ hm
  have k1 := h1
  have lt1 : ∀ x ∈ p1, x.block < W.heap.size := by obtain ⟨m, hm⟩ := k1; exact DataW.trod_lt m _ _ _ hm
  have k2 := h2
  have lt2 : ∀ x ∈ p2, x.block < W.heap.size := by obtain ⟨m, hm⟩ := k2; exact DataW.trod_lt m _ _ _ hm
  obtain ⟨a0, len0, cap0, rfl⟩ := okWide_slice Try.underlying22 (hval 0 22 v0 rfl rfl)
  obtain ⟨z0, w0⟩ : ∃ zs, IsRow .u8 W a0 len0 cap0 zs := by
    obtain ⟨fuel, hf⟩ := h0
    rcases open_ints Try.underlying22 Try.underlying5 (by kernel_rfl) hf with ⟨hcs, _⟩ | ⟨x, l, c, zs, hcs, _, hl, hm, hz, _, hcell, hwz⟩
    · simp [Value.cells] at hcs
      obtain ⟨rfl, rfl, rfl⟩ := hcs
      exact ⟨[], .inl ⟨rfl, rfl, rfl, rfl⟩⟩
    · simp [Value.cells] at hcs
      obtain ⟨rfl, rfl, rfl⟩ := hcs
      exact ⟨zs, .inr ⟨_, rfl, hl, hm, by simpa using hz, hcell, hwz⟩⟩
  obtain ⟨a1, rfl, rfl, rfl, w1⟩ := open_int Try.underlying36 (hval 1 36 v1 rfl rfl) h1
  obtain ⟨a2, rfl, rfl, rfl, w2⟩ := open_int Try.underlying36 (hval 2 36 v2 rfl rfl) h2
  clear hA0 hval0
  refine (walk a0 len0 cap0 z0 a1 a2 W w0 w1 w2).mono fun e W' ⟨he, bel⟩ => ?_
  subst he
  exact ⟨_, rfl, _, _, _, [], _, [], hW', trodAll_mk1 (shut_bool Try.underlying4 _), (trodAll_cons_mk (Below.trod laidOut (by kernel_rfl) (of_decide_eq_true (by kernel_rfl)) k0 bel lt0) (trodAll_cons_mk (Below.trod laidOut (by kernel_rfl) (of_decide_eq_true (by kernel_rfl)) k1 bel lt1) (trodAll_cons_mk (Below.trod laidOut (by kernel_rfl) (of_decide_eq_true (by kernel_rfl)) k2 bel lt2) trodAll_mk0))), rfl, bel.frame _, fun h => by cases h⟩

theorem over : Rows.spongePartsRow.holds Try.pinned (OpenSpec.ofChange Rows.spongePartsSpec) :=
  OpenClaim.holds_of_wide 5 Try.f5 rfl rfl rfl rfl rfl rfl rfl ⟨rfl, rfl, rfl, rfl, rfl⟩ rfl rfl rfl rfl rfl (by kernel_rfl) Try.func5 (by kernel_rfl)
    (of_decide_eq_true (by kernel_rfl)) (by unfold Func.isWrapper; first | (rw [if_pos (by decide +kernel)]; kernel_rfl) | (rw [if_neg (by decide +kernel)]; exact ⟨rfl, rfl⟩))
    (fun os started H enc _ => lifted os started H enc)

/-- The statement. -/
theorem proved : Rows.SpongePartsSaid := over
#print axioms proved
end Go.Proofs.Ytjpidkamgkpehaa.spongeParts
