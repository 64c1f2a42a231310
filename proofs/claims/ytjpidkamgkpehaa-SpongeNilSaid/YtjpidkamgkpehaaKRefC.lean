/-
  Layer 3, the walk of the document's round.
-/
import Derived.Test.YtjpidkamgkpehaaKRefB
namespace Go.Proofs.Ytjpidkamgkpehaa
open Go.RowKit
set_option linter.unusedVariables false
set_option linter.unusedSimpArgs false

set_option maxRecDepth 100000 in
set_option maxHeartbeats 8000000 in
theorem rround_any (f : St) (n : Int) (hn : (Lit.int .i64 n).wf = true) (w : World) :
    Calls Try.prog 18 #[.agg (ws 25 f), .int .i64 n] w fun e w' => e = .returned (.agg (ws 25 (rnd f (mark n)))) ∧ Below w.heap.size w w' := by
  rw [show rnd f (mark n) = iota (mark n) (chi (turned (mixd f))) from rfl]
  have hm := Lib.hid (rmark_any n hn)
  go_enter Try.func18, Try.ntmps18
  go_wp2_with fail
  go_loopw [6] (fun v wr => ∃ x : Nat, v = .int .i64 x ∧ x ≤ 5 ∧ Row wr w.heap.size 41 (ws 25 f) ∧ Row wr (w.heap.size + 1) 41 (ws 25 fun _ => 0) ∧ Row wr (w.heap.size + 1 + 1) 52 (ws 5 fun i => if i < x then col f i else 0) ∧ Below w.heap.size w wr) (fun v _ => 5 - (intOf v).toNat)
  case atStart =>
    refine ⟨0, rfl, by omega, ((Row.new w _ _).alloc _).alloc _, ?_, ?_, ?_⟩
    · rw [zero25]
      exact (Row.made (w.alloc _) _ _ (by simp)).alloc _
    · rw [show (ws 5 fun i => if i < 0 then col f i else 0) = ws 5 (fun _ => 0) from ws_congr fun i _ => by simp, zero5]
      exact Row.made ((w.alloc _).alloc _) _ _ (by simp)
    · exact (((Below.refl _ _).alloc (Nat.le_refl _) _).alloc (by simp) _).alloc (by simp; omega) _
  case round =>
    obtain ⟨x, rfl, hx, hs, hz, hp, hb⟩ := hrel
    by_cases hlt : x < 5
    · rw [pcol_start] at hp
      have dx : decide ((x : Int) < 5) = true := by simp; omega
      go_wp2
      go_loopw [7] (fun v wi => ∃ y : Nat, v = .int .i64 y ∧ y ≤ 5 ∧ Row wi w.heap.size 41 (ws 25 f) ∧ Row wi (w.heap.size + 1) 41 (ws 25 fun _ => 0) ∧ Row wi (w.heap.size + 1 + 1) 52 (ws 5 fun i => if i < x then col f i else if i = x then pcol f x y else 0) ∧ Below w.heap.size w wi) (fun v _ => 5 - (intOf v).toNat)
      case atStart => exact ⟨0, rfl, by omega, hs, hz, hp, hb⟩
      case round =>
        clear hs hz hp hb
        obtain ⟨y, rfl, hy, hs, hz, hp, hb⟩ := hrel
        by_cases hly : y < 5
        · have hat := Lib.hid (at_nat x y x y (by unfold fv; omega) (by unfold fv; omega) (by omega) (by omega) (by omega) (by omega))
          have hk : x + 5 * y < 25 := by omega
          have c1 := (hp.cell x).trans (ws_get _ hlt)
          rw [if_neg (Nat.lt_irrefl x), if_pos rfl] at c1
          have f1 := hp.free x
          have c2 := (hs.cell (x + 5 * y)).trans (ws_get _ hk)
          have hnext := Lib.hid (pcol_step f (y := y) hlt)
          generalize x + 5 * y = j at *
          have lx : (x : Int) < 5 := by omega
          have lj : (j : Int) < 25 := by omega
          go_wp2
          refine wp_region_still_tail 10 (by kernel_rfl) (by kernel_rfl) ?_
          simp only [List.take_succ_cons, List.take_zero, List.drop_succ_cons, List.drop_zero]
          repeat (first | still_step | still_call ((hat.out _).mono fun _ _ h => ⟨h.1, h.2.symm⟩))
          refine wpStill_nil ?_
          go_wp2
          go_roundw
          case rel =>
            refine ⟨y + 1, by go_num, by omega, hs.far (by simp; omega) _, hz.far (by simp) _, ?_, Below.setCell (Below.drew hb) (by simp; omega) _⟩
            rw [← hnext.out]
            exact hp.put x _
          case measure => simp [intOf]; omega
        · have hy5 : y = 5 := by omega
          rw [hy5, pcol_end] at hp
          clear hy5
          go_wp2
          go_roundw
          case rel => exact ⟨x + 1, by go_num, by omega, hs, hz, hp, hb⟩
          case measure => simp [intOf]; omega
    · have hx5 : x = 5 := by omega
      have hall : (ws 5 fun i => if i < 5 then col f i else 0) = ws 5 (col f) := ws_congr fun i hi => if_pos hi
      rw [hx5, hall] at hp
      clear hx5 hall
      have dx5 : decide ((x : Int) < 5) = false := by simp; omega
      have hsz := hb.size
      have hs1 := hs.alloc (.cells (ws 25 fun _ => 0) 41)
      have hz1 := hz.alloc (.cells (ws 25 fun _ => 0) 41)
      have hp1 := hp.alloc (.cells (ws 25 fun _ => 0) 41)
      have ha1 := Row.new wr 41 (ws 25 fun _ => 0)
      have hb1 := hb.alloc hsz (.cells (ws 25 fun _ => 0) 41)
      have hga := hp.lt
      obtain ⟨ga, hga2⟩ : ∃ g, wr.heap.size = g := ⟨_, rfl⟩
      obtain ⟨g, hg⟩ : ∃ g, mixd f = g := ⟨_, rfl⟩
      clear hs hz hp hb
      go_wp2_with fail
      rw [hga2] at ha1 hga hsz
      clear hga2
      replace hg := Lib.hid hg
      go_loopw [9] (fun v wi => ∃ x : Nat, v = .int .i64 x ∧ x ≤ 5 ∧ Row wi w.heap.size 41 (ws 25 f) ∧ Row wi (w.heap.size + 1) 41 (ws 25 fun _ => 0) ∧ Row wi (w.heap.size + 1 + 1) 52 (ws 5 (col f)) ∧ Row wi ga 41 (ws 25 fun j => if ord (whence j) < 5 * x then turned g j else 0) ∧ Below w.heap.size w wi) (fun v _ => 5 - (intOf v).toNat)
      case atStart =>
        refine ⟨0, rfl, by omega, hs1, hz1, hp1, ?_, hb1⟩
        rw [show (ws 25 fun j => if ord (whence j) < 5 * 0 then turned g j else 0) = ws 25 (fun _ => 0) from ws_congr fun i _ => by simp]
        exact ha1
      case round =>
        clear hs1 hz1 hp1 ha1 hb1
        obtain ⟨x, rfl, hx, hs, hz, hp, ha, hb⟩ := hrel
        by_cases hlt : x < 5
        · have dx : decide ((x : Int) < 5) = true := by simp; omega
          go_wp2
          go_loopw [10] (fun v wi => ∃ y : Nat, v = .int .i64 y ∧ y ≤ 5 ∧ Row wi w.heap.size 41 (ws 25 f) ∧ Row wi (w.heap.size + 1) 41 (ws 25 fun _ => 0) ∧ Row wi (w.heap.size + 1 + 1) 52 (ws 5 (col f)) ∧ Row wi ga 41 (ws 25 fun j => if ord (whence j) < 5 * x + y then turned g j else 0) ∧ Below w.heap.size w wi) (fun v _ => 5 - (intOf v).toNat)
          case atStart => exact ⟨0, rfl, by omega, hs, hz, hp, ha, hb⟩
          case round =>
            clear hs hz hp ha hb
            obtain ⟨y, rfl, hy, hs, hz, hp, ha, hb⟩ := hrel
            by_cases hly : y < 5
            · have hat := Lib.hid (at_nat x y x y (by unfold fv; omega) (by unfold fv; omega) (by omega) (by omega) (by omega) (by omega))
              have hat2 := Lib.hid (at_nat y (2 * x + 3 * y) y ((2 * x + 3 * y) % 5) (by unfold fv; omega) (by unfold fv; omega) (by omega) (by omega) (by omega) (by omega))
              have htn := Lib.hid (turn_nat x y hlt hly)
              have hv1 := Lib.hid (five_nat ((x : Int) - 1) ((x + 4) % 5) (by unfold fv; omega) (by omega) (by omega))
              have hv2 := Lib.hid (five_nat ((x : Int) + 1) ((x + 1) % 5) (by unfold fv; omega) (by omega) (by omega))
              have hk : x + 5 * y < 25 := by omega
              have hpl : y + 5 * ((2 * x + 3 * y) % 5) = pl (x + 5 * y) := by
                have e1 : (x + 5 * y) / 5 = y := by omega
                have e2 : (x + 5 * y) % 5 = x := by omega
                unfold pl
                rw [e1, e2]
              have hpl25 := pl_lt _ hk
              have hmx := mixd_xy f (y := y) hlt
              rw [hpl] at hat2
              rw [hg.out] at hmx
              have hnext := Lib.hid (rturned_step g hlt hly)
              have htl := tn_lt (x + 5 * y)
              have cs := (hs.cell (x + 5 * y)).trans (ws_get _ hk)
              have l4 : (x + 4) % 5 < 5 := Nat.mod_lt _ (by decide)
              have l1 : (x + 1) % 5 < 5 := Nat.mod_lt _ (by decide)
              have c4 := (hp.cell ((x + 4) % 5)).trans (ws_get _ l4)
              have c1 := (hp.cell ((x + 1) % 5)).trans (ws_get _ l1)
              have ca := (ha.cell (pl (x + 5 * y))).trans (ws_get _ hpl25)
              have fa := ha.free (pl (x + 5 * y))
              clear hpl
              generalize pl (x + 5 * y) = jp at *
              generalize x + 5 * y = j at *
              generalize (x + 4) % 5 = m4 at *
              generalize (x + 1) % 5 = m1 at *
              have s1 : IntKind.i64.wrap ((x : Int) - 1) = (x : Int) - 1 := IntWalk.i64_in _ (by omega)
              have s2 : IntKind.i64.wrap ((x : Int) + 1) = (x : Int) + 1 := IntWalk.i64_in _ (by omega)
              have lj : (j : Int) < 25 := by omega
              have l4' : (m4 : Int) < 5 := by omega
              have l1' : (m1 : Int) < 5 := by omega
              have ljp : (jp : Int) < 25 := by omega
              have hsz2 := hb.size
              have hrt := Lib.hid fun q => Calls.quiet_of (P := Try.prog) (w := wr) (n := q) (rturn_any (col f m1) 1 (by decide) (wr.drewN q))
              go_wp2_with fail
              go_quiet ((first
                | (go_at_call 21; exact Calls.quiet_of_same ((hat.out _).mono fun _ _ h => ⟨h.1, h.2.symm⟩))
                | (go_at_call 22; first | exact Calls.quiet_of_same ((hv1.out _).mono fun _ _ h => ⟨h.1, h.2.symm⟩) | exact Calls.quiet_of_same ((hv2.out _).mono fun _ _ h => ⟨h.1, h.2.symm⟩))
                | (go_at_call 23; exact hrt.out _)))
              clear s1 s2 hv1 hv2 hrt hat c4 c1 cs
              go_wp2_with fail
              refine (hat2.out _).mono ?_
              rintro e w' ⟨rfl, rfl⟩
              go_wp2_with fail
              refine (htn.out _).mono ?_
              rintro e w' ⟨rfl, rfl⟩
              go_wp2_with fail
              refine (rturn_any _ _ htl _).mono ?_
              rintro e w' ⟨rfl, q2, rfl⟩
              go_wp2
              go_roundw
              case rel =>
                refine ⟨y + 1, by go_num, by omega, ?_, ?_, ?_, ?_, ?_⟩
                · exact hs.far (p := ⟨ga, jp, none⟩) (by simp; omega) _
                · exact hz.far (p := ⟨ga, jp, none⟩) (by simp; omega) _
                · exact hp.far (p := ⟨ga, jp, none⟩) (by simp; omega) _
                · rw [show 5 * x + (y + 1) = 5 * x + y + 1 by omega, ← hnext.out]
                  exact ha.put jp _
                · exact Below.setCell (a := w) (p := ⟨ga, jp, none⟩) (Below.drewN hb _) hsz _
              case measure => simp [intOf]; omega
            · have hy5 : y = 5 := by omega
              rw [hy5, show 5 * x + 5 = 5 * (x + 1) by omega] at ha
              clear hy5
              go_wp2
              go_roundw
              case rel => exact ⟨x + 1, by go_num, by omega, hs, hz, hp, ha, hb⟩
              case measure => simp [intOf]; omega
        · have hx5 : x = 5 := by omega
          have hall : (ws 25 fun j => if ord (whence j) < 5 * 5 then turned g j else 0) = ws 25 (turned g) := ws_congr fun i hi => if_pos (by have := ord_lt (whence_lt i hi); omega)
          rw [hx5, hall] at ha
          clear hx5 hall hs hp
          have dx5b : decide ((x : Int) < 5) = false := by simp; omega
          obtain ⟨a, haa⟩ : ∃ a, turned g = a := ⟨_, rfl⟩
          rw [haa] at ha
          replace haa := Lib.hid haa
          have hsz2 := hb.size
          have hz1 := hz.alloc (.cells (ws 25 fun _ => 0) 41)
          have ha1 := ha.alloc (.cells (ws 25 fun _ => 0) 41)
          have hc1 := Row.new wr 41 (ws 25 fun _ => 0)
          have hb1 := hb.alloc hsz2 (.cells (ws 25 fun _ => 0) 41)
          have hgb := ha.lt
          obtain ⟨gb, hgb2⟩ : ∃ g, wr.heap.size = g := ⟨_, rfl⟩
          clear hz ha hb
          go_wp2_with fail
          rw [hgb2] at hc1 hgb hsz2
          clear hgb2
          go_loopw [13] (fun v wi => ∃ x : Nat, v = .int .i64 x ∧ x ≤ 5 ∧ Row wi (w.heap.size + 1) 41 (ws 25 fun _ => 0) ∧ Row wi ga 41 (ws 25 a) ∧ Row wi gb 41 (ws 25 fun j => if ord j < 5 * x then chi a j else 0) ∧ Below w.heap.size w wi) (fun v _ => 5 - (intOf v).toNat)
          case atStart =>
            refine ⟨0, rfl, by omega, hz1, ha1, ?_, hb1⟩
            rw [show (ws 25 fun j => if ord j < 5 * 0 then chi a j else 0) = ws 25 (fun _ => 0) from ws_congr fun i _ => by simp]
            exact hc1
          case round =>
            clear hz1 ha1 hc1 hb1
            obtain ⟨x, rfl, hx, hz, ha, hc, hb⟩ := hrel
            by_cases hlt : x < 5
            · have dx : decide ((x : Int) < 5) = true := by simp; omega
              go_wp2
              go_loopw [14] (fun v wi => ∃ y : Nat, v = .int .i64 y ∧ y ≤ 5 ∧ Row wi (w.heap.size + 1) 41 (ws 25 fun _ => 0) ∧ Row wi ga 41 (ws 25 a) ∧ Row wi gb 41 (ws 25 fun j => if ord j < 5 * x + y then chi a j else 0) ∧ Below w.heap.size w wi) (fun v _ => 5 - (intOf v).toNat)
              case atStart => exact ⟨0, rfl, by omega, hz, ha, hc, hb⟩
              case round =>
                clear hz ha hc hb
                obtain ⟨y, rfl, hy, hz, ha, hc, hb⟩ := hrel
                by_cases hly : y < 5
                · obtain ⟨q1, hq1⟩ : ∃ q : Int, (x : Int) + 1 = q := ⟨_, rfl⟩
                  obtain ⟨q2, hq2⟩ : ∃ q : Int, (x : Int) + 2 = q := ⟨_, rfl⟩
                  have hat0 := Lib.hid (at_nat x y x y (by unfold fv; omega) (by unfold fv; omega) (by omega) (by omega) (by omega) (by omega))
                  have hat1 := Lib.hid (at_nat q1 y ((x + 1) % 5) y (by unfold fv; omega) (by unfold fv; omega) (by omega) (by omega) (by omega) (by omega))
                  have hat2 := Lib.hid (at_nat q2 y ((x + 2) % 5) y (by unfold fv; omega) (by unfold fv; omega) (by omega) (by omega) (by omega) (by omega))
                  have hnext := Lib.hid (rchi_step a hlt hly)
                  have hchi := chi_xy a (y := y) hlt
                  rw [hchi] at hnext
                  have k0 : x + 5 * y < 25 := by omega
                  have k1 : (x + 1) % 5 + 5 * y < 25 := by omega
                  have k2 : (x + 2) % 5 + 5 * y < 25 := by omega
                  have c0 := (ha.cell (x + 5 * y)).trans (ws_get _ k0)
                  have c1 := (ha.cell ((x + 1) % 5 + 5 * y)).trans (ws_get _ k1)
                  have c2 := (ha.cell ((x + 2) % 5 + 5 * y)).trans (ws_get _ k2)
                  have cc := (hc.cell (x + 5 * y)).trans (ws_get _ k0)
                  have ff := hc.free (x + 5 * y)
                  clear hchi
                  generalize (x + 1) % 5 + 5 * y = j1 at *
                  generalize (x + 2) % 5 + 5 * y = j2 at *
                  generalize x + 5 * y = j at *
                  have s1 : IntKind.i64.wrap ((x : Int) + 1) = q1 := by rw [IntWalk.i64_in _ (by omega)]; exact hq1
                  have s2 : IntKind.i64.wrap ((x : Int) + 2) = q2 := by rw [IntWalk.i64_in _ (by omega)]; exact hq2
                  clear hq1 hq2
                  have lj : (j : Int) < 25 := by omega
                  have l1 : (j1 : Int) < 25 := by omega
                  have l2 : (j2 : Int) < 25 := by omega
                  go_wp2_with fail
                  refine wp_region_still_tail 22 (by kernel_rfl) (by kernel_rfl) ?_
                  simp only [List.take_succ_cons, List.take_zero, List.drop_succ_cons, List.drop_zero]
                  repeat still_step
                  still_call ((hat0.out _).mono fun _ _ h => ⟨h.1, h.2.symm⟩)
                  repeat still_step
                  still_call ((hat0.out _).mono fun _ _ h => ⟨h.1, h.2.symm⟩)
                  repeat still_step
                  still_call ((hat2.out _).mono fun _ _ h => ⟨h.1, h.2.symm⟩)
                  repeat still_step
                  still_call ((hat1.out _).mono fun _ _ h => ⟨h.1, h.2.symm⟩)
                  repeat still_step
                  refine wpStill_nil ?_
                  clear s1 s2 c0 c1 c2 hat0 hat1 hat2
                  go_wp2
                  go_roundw
                  case rel =>
                    refine ⟨y + 1, by go_num, by omega, ?_, ?_, ?_, ?_⟩
                    · exact hz.far (p := ⟨gb, j, none⟩) (by simp; omega) _
                    · exact ha.far (p := ⟨gb, j, none⟩) (by simp; omega) _
                    · rw [show 5 * x + (y + 1) = 5 * x + y + 1 by omega, ← hnext.out]
                      exact hc.put j _
                    · exact Below.setCell (Below.drew hb) hsz2 _
                  case measure => simp [intOf]; omega
                · have hy5 : y = 5 := by omega
                  rw [hy5, show 5 * x + 5 = 5 * (x + 1) by omega] at hc
                  clear hy5
                  go_wp2
                  go_roundw
                  case rel => exact ⟨x + 1, by go_num, by omega, hz, ha, hc, hb⟩
                  case measure => simp [intOf]; omega
            · have hx5 : x = 5 := by omega
              have hall : (ws 25 fun j => if ord j < 5 * 5 then chi a j else 0) = ws 25 (chi a) := ws_congr fun i hi => if_pos (by have := ord_lt hi; omega)
              rw [hx5, hall] at hc
              clear hx5 hall ha
              obtain ⟨b, hbb⟩ : ∃ b, chi a = b := ⟨_, rfl⟩
              rw [hbb] at hc
              replace hbb := Lib.hid hbb
              obtain ⟨M, hM⟩ : ∃ M, mark n = M := ⟨_, rfl⟩
              rw [hM] at hm
              replace hM := Lib.hid hM
              have c0 := (hc.cell 0).trans (ws_get _ (by decide))
              have ff := hc.free 0
              go_wp2_with fail
              refine wp_region_still_tail 5 (by kernel_rfl) (by kernel_rfl) ?_
              simp only [List.take_succ_cons, List.take_zero, List.drop_succ_cons, List.drop_zero]
              repeat (first | still_step | still_call ((hm.out _).mono fun _ _ h => ⟨h.1, h.2.symm⟩))
              refine wpStill_nil ?_
              have hio : (ws 25 b).setIfInBounds 0 (wv (b 0 ^^^ M)) = ws 25 (iota M b) := by rw [ws_set]; rfl
              have hc2 := hc.put 0 (wv (b 0 ^^^ M))
              rw [hio] at hc2
              have hz2 := hz.far (p := ⟨gb, 0, none⟩) (by simp; omega) (wv (b 0 ^^^ M))
              have hb2 := Below.setCell (a := w) (p := ⟨gb, 0, none⟩) (Below.drew hb) hsz2 (wv (b 0 ^^^ M))
              clear hio
              go_wp2_with (first
                | (refine wpList_load_row rfl 41 _ rfl gb rfl 41 (ws 25 (iota M b)) (0, 0) _ hc2 lanesT rfl (by rw [ws_size]; exact i5) ?_)
                | (refine wpList_store_row rfl 41 _ _ rfl (w.heap.size + 1) (ws 25 (iota M b)) rfl rfl 41 _ hz2 (by rw [ws_size]; exact i5) (by rw [ws_size, ws_size]) (ws_one _ _) ?_))
              refine bodyPost_row (t := 41) (g := w.heap.size + 1) Try.results18 (by kernel_rfl) (Row.whole hz2 _) lanesT (by rw [ws_size]; exact i5) rfl ⟨?_, ?_⟩
              · rw [hg.out, haa.out, hbb.out, hM.out]
              · exact below_row hb2 (by omega) _
end Go.Proofs.Ytjpidkamgkpehaa
