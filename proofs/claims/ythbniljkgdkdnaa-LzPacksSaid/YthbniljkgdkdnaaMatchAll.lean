/-
  The walk of match.All: the longest match of each place.
-/
import Derived.Test.YthbniljkgdkdnaaMatchImpl
import Derived.Test.YthbniljkgdkdnaaChain
import Derived.Deep.DeepCutAuto
import Derived.Deep.CutBlock
import Derived.StillTailTactics
import Derived.Deep.RegionHeld3
import Derived.Deep.DrawnRows
import Derived.Maps.OwnRows
import Derived.Deep.RegionLaw
namespace Go.Proofs.Ythbniljkgdkdnaa
open Go.RowKit Go.Maps
open Go.WideMaps (ArrKey)
set_option linter.unusedVariables false
set_option linter.unusedSimpArgs false
attribute [local go_sem ↓] Go.wp_at_zero Go.wp_at_succ

theorem arr3 : ArrKey Try.prog 49 5 3 := ⟨Try.underlying49, by kernel_rfl, by kernel_rfl, by kernel_rfl⟩
theorem typesPos : ∃ m, Try.prog.types.size = m + 1 := ⟨Try.prog.types.size - 1, by
  have : 0 < Try.prog.types.size := of_decide_eq_true (by kernel_rfl)
  omega⟩
theorem keyed3 : Keyed Try.prog 49 := Keyed.of_law arr3.law
theorem infoInt : (Try.prog.info? 3).map (fun i => (i.zero, i.size, i.bytes)) = some (some (.int .i64 0), 1, 8) := by kernel_rfl
theorem i64_wf (n : Int) (h : -9223372036854775808 ≤ n) (h' : n ≤ 9223372036854775807) : (Lit.int .i64 n).wf = true := by
  have h1 : IntKind.i64.min = -9223372036854775808 := by rfl
  have h2 : IntKind.i64.max = 9223372036854775807 := by rfl
  simp [Lit.wf, h1, h2]
  omega
theorem infoPair : (Try.prog.info? 42).map (fun i => (i.zero, i.size, i.bytes)) = some (some (.agg #[.int .i64 0, .int .i64 0]), 2, 16) := by kernel_rfl
theorem zero_ints (w : World) : (zeroValue 50).run Try.prog w = .ok (.slice none 0 0) w := by kernel_rfl

/-- The matches of the first k places, as cells. -/
def flat (bs : List UInt8) (k : Nat) : List Value := (List.range k).flatMap fun i => [.int .i64 (best bs i).1, .int .i64 (best bs i).2]

theorem flat_succ (bs : List UInt8) (k : Nat) : flat bs (k + 1) = flat bs k ++ [.int .i64 (best bs k).1, .int .i64 (best bs k).2] := by
  unfold flat
  rw [List.range_succ, List.flatMap_append]
  simp

set_option maxRecDepth 100000 in
set_option maxHeartbeats 4000000 in
theorem all_any (A : Option Addr) (cap : Nat) (bs : List UInt8) (w : World) (hc : bs.length ≤ cap) (hm : cap ≤ maxLen) (h : Bs w A bs) (hlen : bs.length ≤ 100000) :
    Calls Try.prog 18 #[.slice A bs.length cap] w fun e w' =>
      ∃ v, e = .returned v ∧ w'.ownsRow w.heap.size 42 2 v bs.length (flat bs bs.length) ∧ Below w.heap.size w w' := by
  have hm' := hm
  unfold maxLen at hm
  have hmm := @run_makeMap Try.prog
  go_enter Try.func18, Try.ntmps18
  go_wp2_with fail
  go_loopw [3, 13] (fun v x wr => ∃ (k : Nat) (D : DataW Unit), x = .int .i64 k ∧ k ≤ bs.length ∧ wr.ownsRow (w.heap.size + 1) 42 2 v k (flat bs k) ∧
      wr.ownsGroups Try.prog 49 (w.heap.size + 1) 3 .i64 w.heap.size k D ∧ Holds D bs k ∧ Below w.heap.size w wr) (fun _ x _ => bs.length - (intOf x).toNat)
  case atStart => exact ⟨0, .map [], rfl, by omega, World.ownsRow_nil _ _ _ _, World.ownsGroups_made _ _ _ _ _, Holds.start bs, by (repeat (first | exact Below.refl _ _ | refine Below.setCell ?_ (by simp) _ | refine Below.drewN ?_ _ | refine Below.drew ?_ | refine Below.alloc ?_ (by simp) _))⟩
  case round =>
    obtain ⟨k, D, rfl, hk, hout, hgr, hD, hbel⟩ := hrel
    by_cases hlt : k < bs.length
    · obtain ⟨b3, hb3⟩ : ∃ b3 : Bool, decide ((k : Int) + 3 ≤ bs.length) = b3 := ⟨_, rfl⟩
      go_upto_if 20 with fail
      go_cut [] (fun wc => ∃ (d n : Nat) (D' : DataW Unit), clean (d, n) = best bs k ∧ Row wc wr.heap.size 42 #[.int .i64 d, .int .i64 n] ∧ wc.ownsRow (w.heap.size + 1) 42 2 u3 k (flat bs k) ∧
        wc.ownsGroups Try.prog 49 (w.heap.size + 1) 3 .i64 w.heap.size (k + 1) D' ∧ Holds D' bs (k + 1) ∧ Below w.heap.size w wc)
      case first =>
        have hx : Row (wr.alloc (.cells #[.int .i64 0, .int .i64 0] 42)) wr.heap.size 42 #[.int .i64 0, .int .i64 0] := Row.new _ _ _
        have hout' := hout.alloc (.cells #[.int .i64 0, .int .i64 0] 42)
        have hxo : u3.ownBlock ≠ some wr.heap.size := fun e => by have := (hout.lt _ e).2; omega
        have hgr' := hgr.kept (World.grownBy_alloc wr (.cells #[.int .i64 0, .int .i64 0] 42) none) (by simp) (fun _ _ _ x _ => by cases x.val.ownBlock <;> simp)
        have hbel' := hbel.alloc hbel.size (.cells #[.int .i64 0, .int .i64 0] 42)
        have hsz : wr.heap.size + 1 = (wr.alloc (.cells #[.int .i64 0, .int .i64 0] 42)).heap.size := by simp
        have hB : w.heap.size < wr.heap.size := by
          obtain ⟨es, clock, hb, _⟩ := hgr
          exact (Array.getElem?_eq_some_iff.1 hb).1
        have hDm := groups_isMap hgr
        generalize hW : wr.alloc (.cells #[.int .i64 0, .int .i64 0] 42) = W at *
        clear hW hout hgr hbel
        cases b3
        rotate_left
        · have h3 : k + 3 ≤ bs.length := by have := of_decide_eq_true hb3; omega
          have h3' : (k : Int) + 3 ≤ bs.length := by omega
          have h1 := (h.below hbel').cut k cap hc
          have r1 := fun w => run_slice_lo (P := Try.prog) (T := 22) (E := 5) Try.underlying22 (by kernel_rfl) w A bs.length cap k (by omega) hc
          generalize (if cap = k then A else A.map (·.add k)) = A1 at h1 r1
          obtain ⟨ad1, rfl, c0⟩ := h1.at_ 0 (by simp; omega)
          obtain ⟨ad2, e2, c1⟩ := h1.at_ 1 (by simp; omega)
          obtain rfl : ad1 = ad2 := Option.some.inj e2
          obtain ⟨ad2, e2', c2⟩ := h1.at_ 2 (by simp; omega)
          obtain rfl : ad1 = ad2 := Option.some.inj e2'
          clear e2 e2' h1
          simp only [List.getElem_drop] at c0 c1 c2
          have ha := fun w => run_arrayAt (P := Try.prog) (w := w) 49 5 3 (some ad1) (bs.length - k) (cap - k) Try.underlying49 (by omega)
          have hz : (ad1.add 0) = ad1 := by simp [Addr.add]
          have hz1 : (ad1.add 1) = ⟨ad1.block, ad1.off + 1, none⟩ := by simp [Addr.add]
          have hz2 : (ad1.add 2) = ⟨ad1.block, ad1.off + 2, none⟩ := by simp [Addr.add]
          rw [hz] at c0
          rw [hz1] at c1
          rw [hz2] at c2
          clear hz hz1 hz2
          generalize ha0 : bs[k + 0] = x0 at *
          generalize ha1 : bs[k + 1] = x1 at *
          generalize ha2 : bs[k + 2] = x2 at *
          have g0 := Lib.hid (show bs[k]? = some x0 by rw [← ha0]; exact List.getElem?_eq_getElem _)
          have g1 := Lib.hid (show bs[k + 1]? = some x1 by rw [← ha1]; exact List.getElem?_eq_getElem _)
          have g2 := Lib.hid (show bs[k + 2]? = some x2 by rw [← ha2]; exact List.getElem?_eq_getElem _)
          clear ha0 ha1 ha2
          have hx2 : Row (W.alloc (.cells #[bv x0, bv x1, bv x2] 49)) wr.heap.size 42 #[.int .i64 0, .int .i64 0] := hx.alloc _
          have hkey : Row (W.alloc (.cells #[bv x0, bv x1, bv x2] 49)) W.heap.size 49 #[bv x0, bv x1, bv x2] := Row.new _ _ _
          have hgr2 := hgr'.kept (World.grownBy_alloc W (.cells #[bv x0, bv x1, bv x2] 49) none) (by simp) (fun _ _ _ x _ => by cases x.val.ownBlock <;> simp)
          have hout2 := hout'.alloc (.cells #[bv x0, bv x1, bv x2] 49)
          have hbel2 := hbel'.alloc hbel'.size (.cells #[bv x0, bv x1, bv x2] 49)
          obtain ⟨v, zs, hrun, hat, hoi, hzl, hback⟩ := groups_at (H := Unit) hgr2 keyed3 Try.underlying47 (zero_ints _) (by unfold maxLen; omega) (keyOf_tri arr3 Try.underlying5 typesPos x0 x1 x2)
          rw [hD x0 x1 x2] at hat
          have hzs := pos_zs hoi hat.symm
          clear hat hgr' hout' hbel' hx
          obtain ⟨AC, cC, rfl⟩ : ∃ AC cC, v = .slice AC zs.length cC := by
            rcases hoi.1.2 with ⟨rfl, h0⟩ | ⟨g, cap', cur, rfl, _⟩
            · exact ⟨none, 0, by rw [h0]⟩
            · exact ⟨_, _, rfl⟩
          replace hzs := Lib.hid hzs
          replace hback := Lib.hid hback
          replace hgr2 := Lib.hid hgr2
          unfold tkey at hrun
          go_upto_block 2 with fail
          go_cut [] (fun wc => ∃ d n : Nat, clean (d, n) = best bs k ∧ Row wc wr.heap.size 42 #[.int .i64 d, .int .i64 n] ∧ (W.alloc (.cells #[bv x0, bv x1, bv x2] 49)).grownBy wc (some wr.heap.size))
          case first =>
            have hbs2 := h.below hbel2
            have hchk := hx2.lt
            generalize hl : posT bs k x0 x1 x2 = l at *
            have hlz := Lib.hid (show zs.length = l.length by rw [hzs.out]; simp)
            generalize W.alloc (.cells #[bv x0, bv x1, bv x2] 49) = W2 at *
            clear hout2 hrun
            obtain ⟨wo, rfl⟩ : ∃ wo : World, wo = wr := ⟨_, rfl⟩
            go_wp2_with fail
            go_loopw [9] (fun i wi => ∃ j d n : Nat, i = .int .i64 ((j : Int) - 1) ∧ j ≤ l.length ∧ (∀ i p, j ≤ i → l[i]? = some p → k ≤ p + 256) ∧ Best bs k (SetJ l k j) d n ∧ Row wi wo.heap.size 42 #[.int .i64 d, .int .i64 n] ∧ W2.grownBy wi (some wo.heap.size)) (fun i _ => (intOf i + 1).toNat)
            case atStart => exact ⟨l.length, 0, 0, by rw [hlz.out], Nat.le_refl _, fun i p h1 h2 => by have := (List.getElem?_eq_some_iff.1 h2).1; omega, chain_start _ _ _, hx2, ⟨rfl, rfl, rfl, Nat.le_refl _, fun _ _ _ => rfl⟩⟩
            case round =>
              obtain ⟨j, d, n, rfl, hj, hwin, hbest, hrow, hgrow⟩ := hrel
              have c0 := hrow.cell 0
              have c1 := hrow.cell 1
              simp only [List.getElem?_toArray, List.getElem?_cons_zero, List.getElem?_cons_succ] at c0 c1
              by_cases hj0 : j = 0
              · subst hj0
                have fin := Lib.hid (show clean (d, n) = best bs k by
                  subst hl
                  exact chain_end g0.out g1.out g2.out (fun i p _ h2 => hwin i p (by omega) h2) (fun i p h1 _ => by omega) hbest)
                clear hbest hwin
                go_wp2
                go_meet
                exact ⟨d, n, fin.out, hrow, hgrow⟩
              · obtain ⟨j, rfl⟩ : ∃ i, j = i + 1 := ⟨j - 1, by omega⟩
                have hjl : j < l.length := by omega
                have hjz : j < zs.length := by rw [hlz.out]; exact hjl
                obtain ⟨p, hp⟩ : ∃ p, l[j]? = some p := ⟨_, List.getElem?_eq_getElem hjl⟩
                have hpk : p < k := by subst hl; exact (posT_mem.1 (List.mem_of_getElem? hp)).1
                have hoi2 := (hback.out wr _ _ _ hx2 (by decide) hgrow).2
                obtain ⟨ac, rfl, cc⟩ := (Rd.of_own hoi2.1).at_ (k := j) (u := .int .i64 p) (by rw [hzs.out]; simp [hp])
                replace hp := Lib.hid hp
                clear hoi2 hj0
                have hbs3 := h.below (hbel2.grown hgrow hbel2.size (fun q e => by cases e; omega))
                by_cases hw : k ≤ p + 256
                · have hw' : (k : Int) - 256 ≤ p := by omega
                  have hb2 := Lib.hid (chain_step hbest hp.out hpk)
                  clear hbest
                  go_wp2_with fail
                  go_still_tail 7, (by kernel_rfl)
                  go_wp2_with fail
                  refine (better_any A cap d n k p bs _ hc hm' (Rd.drew hbs3) (by omega) (by unfold maxLen; omega)).mono ?_
                  rintro e w1 ⟨rfl, hb1⟩
                  have hr1 := (Row.drew hrow).below hb1
                  generalize better d n (k - p) (com bs p k) = r at *
                  have d0 := hr1.cell 0
                  have d1 := hr1.cell 1
                  have f0 := hr1.free 0
                  have f1 := hr1.free 1
                  simp only [List.getElem?_toArray, List.getElem?_cons_zero, List.getElem?_cons_succ] at d0 d1
                  go_wp2
                  go_roundw
                  case rel => exact ⟨j, r.1, r.2, rfl, by omega, fun i q h1 h2 => by
                    rcases Nat.lt_or_ge j i with h' | h'
                    · exact hwin i q h' h2
                    · obtain rfl : i = j := by omega
                      rw [hp.out] at h2
                      injection h2 with h2
                      omega, hb2.out, (hr1.put 0 _).put 1 _, ((World.grownBy.trans hgrow (grown_undrew (grown_below hb1 _))).trans (grown_set _ _ _)).trans (grown_set _ _ _)⟩
                  case measure => simp [intOf]
                · have hw' : ¬ (k : Int) - 256 ≤ p := by omega
                  go_wp2
                  go_meet
                  refine ⟨d, n, ?_, hrow, hgrow⟩
                  subst hl
                  exact chain_end g0.out g1.out g2.out hwin (fun i q h1 h2 => by have := posT_le h2 hp.out (by omega); omega) hbest
          case rest =>
            obtain ⟨d, n, hcl, hrow, hgrow⟩ := hcut
            obtain ⟨hb4, hoi4⟩ := hback.out wc _ _ _ hx2 (by decide) hgrow
            have hxw : wr.heap.size < W.heap.size := by omega
            have hxk : (some W.heap.size) ≠ some wr.heap.size := by simp; omega
            have hkey4 := hkey.grown hgrow hxk
            have k0 := hkey4.cell 0
            have k1 := hkey4.cell 1
            have k2 := hkey4.cell 2
            simp only [List.getElem?_toArray, List.getElem?_cons_zero, List.getElem?_cons_succ] at k0 k1 k2
            have hout4 := hout2.kept hgrow (.inr hxo)
            have hbel4 := hbel2.grown hgrow hbel2.size (fun q e => by cases e; omega)
            clear hrun hkey hx2 hout2 hbel2 hgrow hxk
            go_wp2_with fail
            obtain ⟨i0, hi, hz0, hz1, hz2⟩ := info_parts infoInt
            have hxw5 := hrow.lt
            unfold tkey at hb4
            have hAk : Value.ownBlock (.slice AC zs.length cC) ≠ some W.heap.size := by
              rcases ints_ne hoi4 hkey4 (by decide) with h' | h'
              · rw [h']; simp
              · exact h'
            have hwk := hkey4.lt
            have hwf : (Lit.int .i64 (k : Int)).wf = true := i64_wf _ (by omega) (by omega)
            go_region_held3 (fun w' => w'.cell? ⟨W.heap.size, 0, none⟩ = some (.int .u8 x0.toNat) ∧ w'.cell? ⟨W.heap.size, 1, none⟩ = some (.int .u8 x1.toNat) ∧ w'.cell? ⟨W.heap.size, 2, none⟩ = some (.int .u8 x2.toNat))
              (first
                | go_keep
                | (go_split_ands; refine ⟨?_, ?_, ?_⟩ <;> (rw [hg4.cell_far _ (by simp; omega) (Ne.symm hAk)]; assumption)))
              ((refine step_append_lies _ (by rfl) _ _ _ (by rfl) (w.heap.size + 1) 3 i0 (.int .i64 0) 1 8 Try.underlying50 hi hz0 hz1 hz2 rfl (by omega) (.slice AC zs.length cC) zs.length (zs.map (Value.int .i64)) (by rfl) (hoi4.1.alloc _)
                  ⟨wc.heap.size, 0, none⟩ 1 1 [.int .i64 (k : Int)] (by rfl) (by rfl) (cell_one_new _ _ _) (ints_oneCell .i64 [(k : Int)]) (by omega) (by unfold maxLen; omega) (by omega) (by simp; omega) (wc.heap.size + 1) (by simp) ?_; intro gn capn w4 hown4 hg4 hloc4 hlt4; have hg4' := grown_undrew hg4; obtain ⟨w5, hmu, hgr5, hg5⟩ := hb4 w4 (.slice (some ⟨gn, 0, none⟩) (zs.length + 1) capn) (zs ++ [(k : Int)]) ((World.grownBy_alloc _ _ _).trans hg4') (hoi4.appended hown4 hwf) (by simp; omega) (hloc4.elim (fun h' => .inl h'.symm) (fun h' => .inr ⟨gn, rfl, by omega⟩)); have hs4 := hg4'.size; simp only [World.size_alloc] at hs4; have far : ∀ i, w5.cell? ⟨W.heap.size, i, none⟩ = wc.cell? ⟨W.heap.size, i, none⟩ := fun i => (hg5.cell_far ⟨W.heap.size, i, none⟩ (by simp; omega) (by simp; omega)).trans ((hg4.cell_far ⟨W.heap.size, i, none⟩ (by simp; omega) (Ne.symm hAk)).trans (World.cell?_alloc_lt _ _ _ hwk)); have q0 := (far 0).trans k0; have q1 := (far 1).trans k1; have q2 := (far 2).trans k2; clear far))
            go_wp2_with fail
            go_meet
            have hx5 : Row w4 wr.heap.size 42 #[.int .i64 d, .int .i64 n] := Row.grown (hrow.alloc _) hg4' (by
              rcases ints_ne hoi4 hrow (by decide) with h' | h'
              · rw [h']; simp
              · exact Ne.symm h')
            have ho5 : w4.ownsRow (w.heap.size + 1) 42 2 u3 k (flat bs k) := (hout4.alloc _).kept hg4' (own_apart hout4 hoi4.1 (by decide))
            have hbl5 := (hbel4.alloc hbel4.size (.cells #[.int .i64 (k : Int)] 3)).grown hg4' (by have := hbel4.size; simp; omega) (fun q e => by have := (hoi4.1.lt q e).1; omega)
            refine ⟨d, n, _, hcl, hx5.grown hg5 (by simp; omega), ho5.kept hg5 ?_, hgr5, ?_, hbl5.grown hg5 hbl5.size (fun q e => by cases e; omega)⟩
            · cases hq : u3.ownBlock with
              | none => exact .inl rfl
              | some q => exact .inr (fun e => by have := (ho5.lt q hq).1; cases e; omega)
            · have hd : rowDatum (H := Unit) .i64 (.slice (some ⟨gn, 0, none⟩) (zs.length + 1) capn) (zs ++ [(k : Int)]) = posDatum (posT bs k x0 x1 x2 ++ [k]) := by
                unfold posDatum rowDatum
                rw [if_neg (by simp), hzs.out]
                simp
              rw [hd]
              exact hD.put arr3 Try.underlying5 typesPos hDm g0.out g1.out g2.out
        · have h3 : ¬ k + 3 ≤ bs.length := by have := of_decide_eq_false hb3; omega
          go_wp2
          go_meet
          refine ⟨0, 0, D, ?_, hx, hout', hgr'.more, hD.skip (by omega), hbel'⟩
          rw [best_short (by omega)]
          rfl
      case rest =>
        obtain ⟨d, n, D', hcl, hrow, hout, hgr, hD', hbel⟩ := hcut
        have c0 := hrow.cell 0
        have c1 := hrow.cell 1
        simp only [List.getElem?_toArray, List.getElem?_cons_zero, List.getElem?_cons_succ] at c0 c1
        obtain ⟨e1, e2⟩ := best_pair hcl
        replace e1 := Lib.hid e1
        replace e2 := Lib.hid e2
        go_wp2_with fail
        refine (clean_any d n wc).mono ?_
        rintro e w1 ⟨rfl, hb1⟩
        rw [e1.out, e2.out]
        obtain ⟨i0, hi, hz0, hz1, hz2⟩ := info_parts infoPair
        have hs1 := hb1.size
        have hout1 := hout.kept (grown_below hb1 none) (by cases u3.ownBlock <;> simp)
        have hbw := hbel.size
        go_wp2_with (at_builtin; refine wpList_append_own _ rfl _ _ 40 rfl (w.heap.size + 1) 42 i0 (.agg #[.int .i64 0, .int .i64 0]) 2 16 Try.underlying40 hi hz0 hz1 hz2 rfl (by decide) _ _ _ rfl (hout1.alloc _) ⟨w1.heap.size, 0, none⟩ 1 1 [.int .i64 (best bs k).1, .int .i64 (best bs k).2] rfl rfl (World.news_of_block (cs := #[.int .i64 (best bs k).1, .int .i64 (best bs k).2]) (t := 42) (fr := (0, 0)) (heap_alloc_new w1 _)) (by simp [Value.oneCell']) (by unfold maxLen; omega) (by omega) (by simp; omega) ?_; intro v' w2 hout2 hg2 hnil2)
        go_roundw
        case rel =>
          have hgr1 := hgr.kept (grown_below hb1 none) (by simp) (fun _ _ _ x _ => by cases x.val.ownBlock <;> simp)
          have hgr2 := hgr1.kept (World.grownBy_alloc w1 (.cells #[.int .i64 (best bs k).1, .int .i64 (best bs k).2] 42) none) (by simp) (fun _ _ _ x _ => by cases x.val.ownBlock <;> simp)
          have hout1' := hout1.alloc (.cells #[.int .i64 (best bs k).1, .int .i64 (best bs k).2] 42)
          refine ⟨k + 1, D', by go_num, by omega, ?_, hgr2.kept hg2 (fun e => by have := (hout1.lt w.heap.size e.symm).1; omega) (groups_off hgr2 hout1' (by decide)), hD', ?_⟩
          · rw [flat_succ]; exact hout2
          · exact ((hbel.trans (hb1.mono hbw)).alloc (by omega) _).grown hg2 (by simp; omega) (fun q e => by have := (hout1.lt q e).1; omega)
        case measure => simp [intOf]; omega
    · obtain rfl : k = bs.length := by omega
      go_wp2
      go_ret
      exact ⟨_, rfl, hout.lower (by omega), hbel⟩
end Go.Proofs.Ythbniljkgdkdnaa
