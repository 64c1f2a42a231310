/-
  Layer 3, a round of the program.
-/
import Derived.Test.YtjpidkamgkpehaaKImpl
namespace Go.Proofs.Ytjpidkamgkpehaa
open Go.RowKit
set_option linter.unusedVariables false
set_option linter.unusedSimpArgs false

/-- One step of the turning. -/
theorem turned_step (g : St) {k : Nat} (hk : k < 25) :
    (ws 25 fun j => if whence j < k then turned g j else 0).setIfInBounds (pl k) (wv (rot (g k) (tn k))) = ws 25 fun j => if whence j < k + 1 then turned g j else 0 := by
  rw [ws_set]
  refine ws_congr fun j hj => ?_
  have h := pl_whence k hk j hj
  by_cases e : j = pl k
  · rw [if_pos e, if_pos (by rw [h.2 e]; omega), turned, h.2 e]
  · rw [if_neg e]
    have h2 : whence j ≠ k := fun e' => e (h.1 e')
    by_cases h3 : whence j < k
    · rw [if_pos h3, if_pos (by omega)]
    · rw [if_neg h3, if_neg (by omega)]
theorem chi_step (g a : St) {k : Nat} :
    (ws 25 fun i => if i < k then chi a i else g i).setIfInBounds k (wv (chi a k)) = ws 25 fun i => if i < k + 1 then chi a i else g i := by
  rw [ws_set]
  refine ws_congr fun i hi => ?_
  by_cases h : i = k
  · subst h; rw [if_pos rfl, if_pos (by omega)]
  · rw [if_neg h]
    by_cases h2 : i < k
    · rw [if_pos h2, if_pos (by omega)]
    · rw [if_neg h2, if_neg (by omega)]

set_option maxRecDepth 100000 in
set_option maxHeartbeats 4000000 in
theorem round_any (f : St) (gt : Nat) (m : W64) (w : World) (ht : Row w gt 48 tcells) :
    Calls Try.prog 20 #[.agg (ws 25 f), .pointer (some ⟨gt, 0, none⟩), wv m] w fun e w' => e = .returned (.agg (ws 25 (rnd f m))) ∧ Below w.heap.size w w' := by
  have hgt := ht.lt
  rw [show rnd f m = iota m (chi (turned (mixd f))) from rfl]
  go_enter Try.func20, Try.ntmps20
  go_wp2_with (first
    | (refine wpList_load_row rfl 41 _ rfl w.heap.size rfl 41 (ws 25 f) (0, 0) _ ((Row.new w 41 (ws 25 f)).alloc _) lanesT rfl (by rw [ws_size]; exact i5) ?_))
  refine (mixed_any f _).mono ?_
  rintro e w1 ⟨rfl, hb1⟩
  have hb0 : Below w.heap.size w w1 := (((Below.refl _ _).alloc (Nat.le_refl _) _).alloc (by simp) _).trans (hb1.mono (by simp; omega))
  have hs0 : Row w1 w.heap.size 41 (ws 25 f) := ((Row.new w 41 (ws 25 f)).alloc _).below hb1
  have hz0 : Row w1 (w.heap.size + 1) 41 (ws 25 fun _ => 0) := by
    refine Row.below ?_ hb1
    rw [zero25]
    exact Row.made (w.alloc _) _ _ (by simp)
  have hsz1 := hb1.size
  simp only [World.size_alloc] at hsz1
  clear hb1
  obtain ⟨g, hgg⟩ : ∃ g, mixd f = g := ⟨_, rfl⟩
  rw [hgg]
  replace hgg := Lib.hid hgg
  go_wp2_with (first
    | (refine wpList_store_row rfl 41 _ _ rfl w.heap.size (ws 25 g) rfl rfl 41 _ hs0 (by rw [ws_size]; exact i5) (by rw [ws_size, ws_size]) (ws_one _ _) ?_)
    | (refine wpList_load_row rfl 41 _ rfl w.heap.size rfl 41 (ws 25 g) (0, 0) _ ((Row.whole hs0 (ws 25 g)).alloc _) lanesT rfl (by rw [ws_size]; exact i5) ?_))
  have hs1 : Row ((w1.setRow w.heap.size (ws 25 g)).alloc (.cells (ws 25 fun _ => 0) 41)) w.heap.size 41 (ws 25 g) := (Row.whole hs0 _).alloc _
  have hz1 : Row ((w1.setRow w.heap.size (ws 25 g)).alloc (.cells (ws 25 fun _ => 0) 41)) (w.heap.size + 1) 41 (ws 25 fun _ => 0) := (Row.farRow hz0 (by simp) _).alloc _
  have ha1 : Row ((w1.setRow w.heap.size (ws 25 g)).alloc (.cells (ws 25 fun _ => 0) 41)) w1.heap.size 41 (ws 25 fun _ => 0) := Row.made _ _ _ (by simp)
  have hb1 : Below w.heap.size w ((w1.setRow w.heap.size (ws 25 g)).alloc (.cells (ws 25 fun _ => 0) 41)) := (below_row hb0 (Nat.le_refl _) _).alloc (by simp; omega) _
  rw [zero25] at hs1 hz1 ha1 hb1
  rw [← zero25] at hz1 ha1
  go_loopw [17] (fun v wr => ∃ k : Nat, v = .int .i64 k ∧ k ≤ 25 ∧ Row wr w.heap.size 41 (ws 25 g) ∧ Row wr (w.heap.size + 1) 41 (ws 25 fun _ => 0) ∧ Row wr w1.heap.size 41 (ws 25 fun j => if whence j < k then turned g j else 0) ∧ Below w.heap.size w wr) (fun v _ => 25 - (intOf v).toNat)
  case atStart => exact ⟨0, rfl, by omega, hs1, hz1, ha1, hb1⟩
  case round =>
    clear hs1 hz1 ha1 hb1 hs0 hz0 hb0
    obtain ⟨k, rfl, hk, hs, hz, ha, hb⟩ := hrel
    by_cases hlt : k < 25
    · have hT := Row.belowB ht hb hgt
      obtain ⟨x, hx⟩ : ∃ x : Nat, (k : Int) % 5 = x := ⟨k % 5, by omega⟩
      obtain ⟨y, hy⟩ : ∃ y : Nat, (k : Int) / 5 = y := ⟨k / 5, by omega⟩
      obtain ⟨z, hz5⟩ : ∃ z : Nat, (2 * (x : Int) + 3 * y) % 5 = z := ⟨(2 * x + 3 * y) % 5, by omega⟩
      have hj : y + 5 * z = pl k := by unfold pl; omega
      have hj25 : pl k < 25 := pl_lt k hlt
      have c0 := (hT.cell k).trans (tcells_get hlt)
      have ff := ha.free (pl k)
      have c3 := (ha.cell (pl k)).trans (ws_get _ hj25)
      have htn := tn_lt k
      have hi := fun w => run_index_ws lanesT Try.underlying39 iu w g k hlt
      have hnext := Lib.hid (turned_step g hlt)
      generalize pl k = j at *
      have a1 : IntKind.i64.wrap (2 * (x : Int)) = 2 * (x : Int) := IntWalk.i64_in _ (by omega)
      have a2 : IntKind.i64.wrap (3 * (y : Int)) = 3 * (y : Int) := IntWalk.i64_in _ (by omega)
      have a3 : IntKind.i64.wrap (2 * (x : Int) + 3 * (y : Int)) = 2 * (x : Int) + 3 * (y : Int) := IntWalk.i64_in _ (by omega)
      have a4 : (2 * (x : Int) + 3 * (y : Int)).tmod 5 = (z : Int) := by rw [Int.tmod_eq_emod_of_nonneg (by omega)]; exact hz5
      have a5 : IntKind.i64.wrap (5 * (z : Int)) = 5 * (z : Int) := IntWalk.i64_in _ (by omega)
      have a6 : IntKind.i64.wrap ((y : Int) + 5 * (z : Int)) = (j : Int) := by rw [IntWalk.i64_in _ (by omega)]; omega
      have lj : (j : Int) < 25 := by omega
      clear hz5 hj
      go_wp2_with ((with_reducible refine (rotate_any _ _ htn _).mono ?_); rintro e w' ⟨rfl, rfl⟩)
      go_roundw
      case rel =>
        have n1 : w.heap.size ≠ w1.heap.size := by omega
        have n2 : w.heap.size + 1 ≠ w1.heap.size := by omega
        refine ⟨k + 1, by go_num, by omega, hs.far n1 _, hz.far n2 _, ?_, Below.setCell hb (by simp; omega) _⟩
        rw [← hnext.out]
        exact ha.put j _
      case measure => simp [intOf]; omega
    · have hk25 : k = 25 := by omega
      have hall : (ws 25 fun j => if whence j < 25 then turned g j else 0) = ws 25 (turned g) := ws_congr fun i hi => if_pos (whence_lt i hi)
      rw [hk25, hall] at ha
      clear hk25 hall
      obtain ⟨a, haa⟩ : ∃ a, turned g = a := ⟨_, rfl⟩
      rw [haa] at ha
      replace haa := Lib.hid haa
      go_wp2
      go_loopw [43] (fun v wi => ∃ k : Nat, v = .int .i64 k ∧ k ≤ 25 ∧ Row wi w.heap.size 41 (ws 25 fun i => if i < k then chi a i else g i) ∧ Row wi (w.heap.size + 1) 41 (ws 25 fun _ => 0) ∧ Row wi w1.heap.size 41 (ws 25 a) ∧ Below w.heap.size w wi) (fun v _ => 25 - (intOf v).toNat)
      case atStart => exact ⟨0, rfl, by omega, hs, hz, ha, hb⟩
      case round =>
        clear hs hz ha hb
        obtain ⟨k, rfl, hk, hs, hz, ha, hb⟩ := hrel
        by_cases hlt : k < 25
        · obtain ⟨x, hx⟩ : ∃ x : Nat, (k : Int) % 5 = x := ⟨k % 5, by omega⟩
          obtain ⟨r, hr⟩ : ∃ r : Nat, (k : Int) - x = r := ⟨k - x, by omega⟩
          obtain ⟨m1, e1, _, f1, l1⟩ := mod_nat (k + 1) 5 (by decide)
          obtain ⟨m2, e2, _, f2, l2⟩ := mod_nat (k + 2) 5 (by decide)
          have hj1 : r + m1 < 25 := by omega
          have hj2 : r + m2 < 25 := by omega
          have er : k - k % 5 = r := by omega
          have c0 := (ha.cell k).trans (ws_get _ hlt)
          have c1 := (ha.cell (r + m1)).trans (ws_get _ hj1)
          have c2 := (ha.cell (r + m2)).trans (ws_get _ hj2)
          have ff := hs.free k
          have c3 := (hs.cell k).trans (ws_get _ hlt)
          rw [if_neg (Nat.lt_irrefl k)] at c3
          have hnext := Lib.hid (chi_step g a (k := k))
          have hchi : chi a k = a k ^^^ (~~~ a (r + m1) &&& a (r + m2)) := by unfold chi; rw [er, e1, e2]
          rw [hchi] at hnext
          clear hchi e1 e2 er
          have b1 : IntKind.i64.wrap ((k : Int) + 1) = (k : Int) + 1 := IntWalk.i64_in _ (by omega)
          have b2 : IntKind.i64.wrap ((k : Int) + 2) = (k : Int) + 2 := IntWalk.i64_in _ (by omega)
          obtain ⟨j1, ej1⟩ : ∃ j, r + m1 = j := ⟨_, rfl⟩
          obtain ⟨j2, ej2⟩ : ∃ j, r + m2 = j := ⟨_, rfl⟩
          have g1 : IntKind.i64.wrap ((r : Int) + m1) = (j1 : Int) := by rw [IntWalk.i64_in _ (by omega)]; omega
          have g2 : IntKind.i64.wrap ((r : Int) + m2) = (j2 : Int) := by rw [IntWalk.i64_in _ (by omega)]; omega
          rw [ej1] at c1 hj1 hnext
          rw [ej2] at c2 hj2 hnext
          have l3 : (j1 : Int) < 25 := by omega
          have l4 : (j2 : Int) < 25 := by omega
          simp only [Int.natCast_add, Int.cast_ofNat_Int] at f1 f2
          clear ej1 ej2
          go_wp2
          refine wp_region_still_tail 21 (by kernel_rfl) (by kernel_rfl) ?_
          simp only [List.take_succ_cons, List.take_zero, List.drop_succ_cons, List.drop_zero]
          repeat still_step
          refine wpStill_nil ?_
          clear b1 b2 g1 g2 f1 f2
          go_wp2
          go_roundw
          case rel =>
            have n1 : w1.heap.size ≠ w.heap.size := by omega
            refine ⟨k + 1, by go_num, by omega, ?_, hz.far (by simp) _, ha.far n1 _, Below.setCell (Below.drew hb) (by simp) _⟩
            rw [← hnext.out]
            exact hs.put k _
          case measure => simp [intOf]; omega
        · have hk25 : k = 25 := by omega
          have hall : (ws 25 fun i => if i < 25 then chi a i else g i) = ws 25 (chi a) := ws_congr fun i hi => if_pos hi
          rw [hk25, hall] at hs
          clear hall hk25
          obtain ⟨b, hbb⟩ : ∃ b, chi a = b := ⟨_, rfl⟩
          rw [hbb] at hs
          replace hbb := Lib.hid hbb
          have c0 := (hs.cell 0).trans (ws_get _ (by decide))
          have ff := hs.free 0
          have hio : (ws 25 b).setIfInBounds 0 (wv (b 0 ^^^ m)) = ws 25 (iota m b) := by rw [ws_set]; rfl
          have hs2 := hs.put 0 (wv (b 0 ^^^ m))
          rw [hio] at hs2
          have hz2 := hz.far (p := ⟨w.heap.size, 0, none⟩) (by simp) (wv (b 0 ^^^ m))
          have hb2 := Below.setCell (a := w) (p := ⟨w.heap.size, 0, none⟩) hb (by simp) (wv (b 0 ^^^ m))
          clear hio
          go_wp2_with (first
            | (refine wpList_load_row rfl 41 _ rfl w.heap.size rfl 41 (ws 25 (iota m b)) (0, 0) _ hs2 lanesT rfl (by rw [ws_size]; exact i5) ?_)
            | (refine wpList_store_row rfl 41 _ _ rfl (w.heap.size + 1) (ws 25 (iota m b)) rfl rfl 41 _ hz2 (by rw [ws_size]; exact i5) (by rw [ws_size, ws_size]) (ws_one _ _) ?_))
          refine bodyPost_row (t := 41) (g := w.heap.size + 1) Try.results20 (by kernel_rfl) (Row.whole hz2 _) lanesT (by rw [ws_size]; exact i5) rfl ⟨?_, ?_⟩
          · rw [hgg.out, haa.out, hbb.out]
          · exact below_row hb2 (by omega) _
end Go.Proofs.Ytjpidkamgkpehaa
