/-
  Layer 4, the document's fingerprint.
-/
import Derived.Test.YtjpidkamgkpehaaSSum
import Derived.Test.YtjpidkamgkpehaaOwn
import Derived.Test.YtjpidkamgkpehaaAppend
import Derived.Test.YtjpidkamgkpehaaKRefP
namespace Go.Proofs.Ytjpidkamgkpehaa
open Go.RowKit
set_option linter.unusedVariables false
set_option linter.unusedSimpArgs false

def lenOf : Value → Nat
  | .slice _ n _ => n
  | _ => 0
theorem xor128 (c : UInt8) : bits .xor .u8 (c.toNat : Int) 128 = (((c ^^^ 128).toNat : Nat) : Int) := by
  have h := u8_xor_nat c.toNat 128 c.toNat_lt (by decide)
  rw [UInt8.toNat_xor]
  exact h

/-- The last byte turned. -/
theorem padded_cells {bs : List UInt8} {N p : Nat} (hp : bs.length + zs bs.length = p) (hN : p + 1 = N) {cur : Array Value} (hs : N ≤ cur.size) (h : ∀ i, i < N → cur[i]? = ((pad0 bs (zs bs.length)).map bv)[i]?) :
    cur[p]? = some (bv ((pad0 bs (zs bs.length)).getD p 0)) ∧ ∀ i, i < N → (cur.setIfInBounds p (bv ((pad0 bs (zs bs.length)).getD p 0 ^^^ 128)))[i]? = some (bv ((padded bs).getD i 0)) := by
  have hlen := pad0_len bs (zs bs.length)
  have get : ∀ i, i < N → ((pad0 bs (zs bs.length)).map bv)[i]? = some (bv ((pad0 bs (zs bs.length)).getD i 0)) := fun i hi => by
    have h1 : i < (pad0 bs (zs bs.length)).length := by omega
    simp [List.getD, h1]
  refine ⟨by rw [h p (by omega), get p (by omega)], fun i hi => ?_⟩
  unfold padded
  rw [hp, Array.getElem?_setIfInBounds]
  by_cases e : p = i
  · subst e
    rw [if_pos rfl, if_pos (by omega)]
    simp [List.getD, List.getElem?_set, show p < (pad0 bs (zs bs.length)).length by omega]
  · rw [if_neg e, h i hi, get i hi]
    simp [List.getD, List.getElem?_set, e]

set_option maxRecDepth 100000 in
set_option maxHeartbeats 4000000 in
theorem rsum_any (A : Option Addr) (cap : Nat) (bs : List UInt8) (w : World) (hl : bs.length ≤ 10000000) (hbs : Bs w A bs) :
    Calls Try.prog 11 #[.slice A bs.length cap] w fun e w' => e = .returned (iv .u8 (sumOf bs)) ∧ Below w.heap.size w w' := by
  obtain ⟨M, hM⟩ : ∃ M, (padded bs).length = 136 * M := ⟨(padded bs).length / 136, by have := zs_len bs.length; rw [padded_len]; omega⟩
  obtain ⟨F, hF⟩ : ∃ F, blk (padded bs) M = F := ⟨_, rfl⟩
  have hsum : sumOf bs = dgl F := by rw [← sum_ref bs M hM, hF]
  rw [hsum, ← bsr_all]
  clear hsum
  replace hF := Lib.hid hF
  rw [padded_len] at hM
  replace hM := Lib.hid hM
  have infoB : (Try.prog.info? 5).map (fun i => (i.zero, i.size, i.bytes)) = some (some (.int .u8 0), 1, 1) := by kernel_rfl
  replace infoB := Lib.hid infoB
  have hr0 := Row.new w 25 (bsr F 0)
  have hb0 := (Below.refl w.heap.size w).alloc (Nat.le_refl _) (.cells (bsr F 0) 25)
  have hz0 : (w.alloc (.cells (bsr F 0) 25)).heap.size = w.heap.size + 1 := by simp
  have hnil := World.ownsRow_nil (w.alloc (.cells (bsr F 0) 25)) (w.heap.size + 1) 5 1
  go_enter Try.func11, Try.ntmps11
  go_wp2_with (first
    | (at_builtin; refine wpList_append_any rfl _ _ 22 rfl (w.heap.size + 1) 5 (.int .u8 0) 1 1 Try.underlying22 infoB.out rfl (by decide) (.slice none 0 0) 0 [] rfl hnil A bs.length cap (bs.map bv) rfl (Bs.alloc hbs _) (by rw [List.length_map]; omega) (bv_one bs) (by unfold maxLen; omega) (by omega) (by simp) ?_; intro v1 w1 ho1 hg1 _; replace hg1 : (w.alloc (.cells (bsr F 0) 25)).grownBy w1 none := hg1)
    | (at_builtin; refine wpList_append_any rfl _ _ 22 rfl (w.heap.size + 1) 5 (.int .u8 0) 1 1 Try.underlying22 infoB.out rfl (by decide) v1 _ _ rfl (ho1.alloc (.cells #[bv 6] 5)) _ 1 1 [bv 6] rfl (Bs.new w1 #[bv 6] 5 (0, 0) [6] rfl) rfl (by simp [Value.oneCell']) (by unfold maxLen; omega) (by omega) (by have := hg1.size; simp at this ⊢; omega) ?_; intro v2 w2 ho2 hg2 _))
  have hr1 := Row.grown hr0 hg1 (by simp)
  have hr2 := Row.grown (hr1.alloc (.cells #[bv 6] 5)) hg2 (fun e => by have := (ho1.lt _ e.symm).1; omega)
  have hz1 := hg1.size
  have hz2 := hg2.size
  rw [hz0] at hz1
  simp only [World.size_alloc] at hz2
  have hb1 : Below w.heap.size w w1 := hb0.grown hg1 (by omega) (fun q e => by cases e)
  have hb2 : Below w.heap.size w w2 := (hb1.alloc (by omega) (.cells #[bv 6] 5)).grown hg2 (by simp; omega) (fun q e => by have := (ho1.lt q e).1; omega)
  have ho3 : w2.ownsRow (w.heap.size + 1) 5 1 v2 (bs.length + 1 + 0) ((pad0 bs 0).map bv) := by
    simpa [pad0] using ho2
  clear hr0 hb0 hnil ho1 hg1 ho2 hg2 hr1 hb1
  go_loopw [3] (fun v wr => ∃ k : Nat, k ≤ zs bs.length ∧ wr.ownsRow (w.heap.size + 1) 5 1 v (bs.length + 1 + k) ((pad0 bs k).map bv) ∧ Row wr w.heap.size 25 (bsr F 0) ∧ Below w.heap.size w wr ∧ w.heap.size + 1 ≤ wr.heap.size) (fun v _ => bs.length + 200 - lenOf v)
  case atStart => exact ⟨0, Nat.zero_le _, ho3, hr2, hb2, by omega⟩
  case round =>
    clear ho3 hr2 hb2 hz2 hz1 hz0
    obtain ⟨k, hk, ho, hr, hb, hz⟩ := hrel
    have hzs : zs bs.length ≤ 135 := by unfold zs; omega
    obtain ⟨A2, c2, hv, hle, hmx, _⟩ := own_slice ho
    subst hv
    by_cases hlt : k < zs bs.length
    · have ht := zs_less bs.length k hlt
      have hne : (((bs.length + 1 + k : Nat) : Int) % 136 != 0) = true := by simp; omega
      generalize hN : bs.length + 1 + k = N at *
      go_wp2_with (at_builtin; refine wpList_append_any rfl _ _ 22 rfl (w.heap.size + 1) 5 (.int .u8 0) 1 1 Try.underlying22 infoB.out rfl (by decide) (.slice A2 N c2) _ _ rfl (ho.alloc (.cells #[bv 0] 5)) _ 1 1 [bv 0] rfl (Bs.new wr #[bv 0] 5 (0, 0) [0] rfl) rfl (by simp [Value.oneCell']) (by unfold maxLen; omega) (by omega) (by simp; omega) ?_; intro v2 w2 ho2 hg2 _)
      have hz2 := hg2.size
      simp only [World.size_alloc] at hz2
      have hr2 := Row.grown (hr.alloc (.cells #[bv 0] 5)) hg2 (fun e => by have := (ho.lt _ e.symm).1; omega)
      have hb2 : Below w.heap.size w w2 := (hb.alloc (by omega) (.cells #[bv 0] 5)).grown hg2 (by simp; omega) (fun q e => by have := (ho.lt q e).1; omega)
      have ho3 : w2.ownsRow (w.heap.size + 1) 5 1 v2 (bs.length + 1 + (k + 1)) ((pad0 bs (k + 1)).map bv) := by
        rw [← pad0_succ, List.map_append, show bs.length + 1 + (k + 1) = N + 1 by omega]
        exact ho2
      obtain ⟨A3, c3, hv3, _⟩ := own_slice ho3
      subst hv3
      clear ho2 hg2 hne
      go_wp2
      go_roundw
      case rel => exact ⟨k + 1, by omega, ho3, hr2, hb2, by omega⟩
      case measure => simp [lenOf]; omega
    · have hk : k = zs bs.length := by omega
      subst hk
      obtain ⟨g, c, cur, hv, hbg, hgl, hrow, hle', hmx', hcs, hcell⟩ := own_row ho (by omega)
      injection hv with hv1 hv2 hv3
      subst hv1 hv3
      clear hv2
      obtain ⟨p, hp⟩ : ∃ p, bs.length + zs bs.length = p := ⟨_, rfl⟩
      have hM2 := hM.out
      generalize hN' : bs.length + 1 + zs bs.length = N at *
      have hN := Lib.hid hN'
      clear hN'
      have hN' := hN.out
      have hpN : p + 1 = N := by omega
      have hp1 : (N : Int) - 1 = p := by omega
      have lpN : (p : Int) < N := by omega
      have hpb : (p : Int) ≤ 10000200 := by omega
      have hNb : N ≤ 10000200 := by omega
      have hNz : ((N : Int) % 136 != 0) = false := by simp; omega
      obtain ⟨cp0, hcell2⟩ := padded_cells hp hpN (by omega) hcell
      generalize (pad0 bs (zs bs.length)).getD p 0 = b0 at *
      have cp := (hrow.cell p).trans cp0
      have fp := hrow.free p
      have hx := xor128 b0
      have hrow2 := (hrow.put p (bv (b0 ^^^ 128))).alloc (.cells (ws 25 fun _ => 0) 41)
      generalize cur.setIfInBounds p (bv (b0 ^^^ 128)) = cur2 at *
      clear hM2 hpN hp hN'
      have hr2 := (hr.far (p := ⟨g, p, none⟩) (by simp; omega) (bv (b0 ^^^ 128))).alloc (.cells (ws 25 fun _ => 0) 41)
      have hs2 : Row ((wr.setCell ⟨g, p, none⟩ (bv (b0 ^^^ 128))).alloc (.cells (ws 25 fun _ => 0) 41)) wr.heap.size 41 (ws 25 fun _ => 0) := Row.made _ _ _ (by simp)
      have hb2 := (Below.setCell (p := ⟨g, p, none⟩) hb (by simp; omega) (bv (b0 ^^^ 128))).alloc (by simp; omega) (.cells (ws 25 fun _ => 0) 41)
      obtain ⟨gs, hgs⟩ : ∃ gs, wr.heap.size = gs := ⟨_, rfl⟩
      clear ho hr hb hrow cp0 hcell
      go_wp2_with fail
      rw [hgs] at hs2 hgl
      have hgs2 : w.heap.size + 1 < gs := by omega
      clear hgs hx cp fp hp1
      replace hcell2 := Lib.hid hcell2
      go_loopw [5] (fun v wr => ∃ b : Nat, v = .int .i64 ((136 * b : Nat) : Int) ∧ b ≤ M ∧ Row wr g 5 cur2 ∧ Row wr gs 41 (ws 25 (blk (padded bs) b)) ∧ Row wr w.heap.size 25 (bsr F 0) ∧ Below w.heap.size w wr) (fun v _ => 136 * M - (intOf v).toNat)
      case atStart => exact ⟨0, rfl, by omega, hrow2, hs2, hr2, hb2⟩
      case round =>
        clear hrow2 hs2 hr2 hb2
        obtain ⟨b, rfl, hbM, hx, hs, hr, hb⟩ := hrel
        by_cases hlt : b < M
        · have hM2 := hM.out
          have hlb : ((136 * b : Nat) : Int) < N := by omega
          have hnext := blk_succ (padded bs) b (by rw [padded_len, hN.out]; omega)
          replace hnext := Lib.hid hnext
          obtain ⟨xs, hxs⟩ : ∃ xs, (padded bs).drop (136 * b) = xs := ⟨_, rfl⟩
          have hget : ∀ i, i < 136 → cur2[136 * b + i]? = some (bv (xs.getD i 0)) := fun i hi => by
            rw [hcell2.out _ (by omega), ← hxs]
            simp [List.getD]
          rw [hxs] at hnext
          replace hget := Lib.hid hget
          clear hxs
          obtain ⟨f0, hf0⟩ : ∃ f0, blk (padded bs) b = f0 := ⟨_, rfl⟩
          rw [hf0] at hs hnext
          clear hf0
          obtain ⟨q0, hq0⟩ : ∃ q0, 136 * b = q0 := ⟨_, rfl⟩
          have hq1 : q0 + 136 ≤ N := by omega
          clear hM2
          rw [hq0] at hget hlb ⊢
          replace hq0 := Lib.hid hq0
          go_wp2_with fail
          go_loopw [6] (fun v wi => ∃ k : Nat, v = .int .i64 k ∧ k ≤ 136 ∧ Row wi g 5 cur2 ∧ Row wi gs 41 (ws 25 (mixk f0 xs k)) ∧ Row wi w.heap.size 25 (bsr F 0) ∧ Below w.heap.size w wi) (fun v _ => 136 - (intOf v).toNat)
          case atStart => exact ⟨0, rfl, by omega, hx, hs, hr, hb⟩
          case round =>
            clear hx hs hr hb
            obtain ⟨k, rfl, hk, hx, hs, hr, hb⟩ := hrel
            by_cases hlk : k < 136
            · obtain ⟨q, hq⟩ : ∃ q, k / 8 = q := ⟨_, rfl⟩
              have h1 : (k : Int) / 8 = q := by omega
              have h2 : q < 25 := by omega
              have h3 : (q : Int) < 25 := by omega
              obtain ⟨r, hr0⟩ : ∃ r, k % 8 = r := ⟨_, rfl⟩
              have h4 : (k : Int) % 8 = r := by omega
              have h5 : r < 8 := by omega
              have h1w : IntKind.i64.wrap (q : Int) = q := IntWalk.i64_in _ (by omega)
              have h4t : (k : Int).tmod 8 = r := by rw [Int.tmod_eq_emod_of_nonneg (by omega)]; exact h4
              have h6 : IntKind.i64.wrap (8 * (r : Int)) = ((8 * r : Nat) : Int) := by rw [IntWalk.i64_in _ (by omega)]; omega
              have h7 : min (((8 * r : Nat) : Int)).toNat 64 = 8 * r := by omega
              obtain ⟨j, hj⟩ : ∃ j, q0 + k = j := ⟨_, rfl⟩
              have h8 : IntKind.i64.wrap ((q0 : Int) + k) = (j : Int) := by rw [IntWalk.i64_in _ (by omega)]; omega
              have h9 : (j : Int) < N := by omega
              have hm := mixk_step f0 xs k
              have hcx := hget.out k hlk
              rw [hj] at hcx
              generalize xs.getD k 0 = ch at *
              have h10 := bw_val ch (8 * r)
              have hch := ch.toNat_lt
              have cx := (hx.cell j).trans hcx
              have cs := (hs.cell q).trans (ws_get _ h2)
              have fs := hs.free q
              have hset := ws_set 25 (mixk f0 xs k) q (mixk f0 xs k q ^^^ bw ch (8 * r))
              rw [show (fun j => if j = q then mixk f0 xs k q ^^^ bw ch (8 * r) else mixk f0 xs k j) = mixk f0 xs (k + 1) by rw [hm]; unfold mixw; rw [hq, hr0]] at hset
              replace hset := Lib.hid hset
              generalize mixk f0 xs k = mk at *
              clear hm hq hr0 hj hcx
              go_wp2_with fail
              refine wp_region_still_tail 19 (by kernel_rfl) (by kernel_rfl) ?_
              simp only [List.take_succ_cons, List.take_zero, List.drop_succ_cons, List.drop_zero]
              repeat still_step
              refine wpStill_nil ?_
              clear h1 h4 h1w h4t h6 h7 h8 cx
              go_wp2_with fail
              go_roundw
              case rel =>
                refine ⟨k + 1, by go_num, by omega, ?_, ?_, ?_, ?_⟩
                · exact Row.drew (hx.far (by simp; omega) _)
                · rw [← hset.out]
                  exact Row.drew (hs.put q _)
                · exact Row.drew (hr.far (by simp; omega) _)
                · exact Below.drew (Below.setCell hb (by simp; omega) _)
              case measure => simp [intOf]; omega
            · have hk : k = 136 := by omega
              rw [hk] at hs
              clear hk
              have kp := Lib.hid (rperm_any (mixk f0 xs 136))
              rw [← hnext.out] at kp
              generalize mixk f0 xs 136 = mk at *
              obtain ⟨f1, hf1⟩ : ∃ f1, blk (padded bs) (b + 1) = f1 := ⟨_, rfl⟩
              rw [hf1] at kp
              replace hf1 := Lib.hid hf1
              clear hnext
              go_wp2_with (first
                | (refine wpList_load_row rfl 41 _ rfl gs rfl 41 (ws 25 mk) (0, 0) _ hs lanesT rfl (by rw [ws_size]; exact i5) ?_))
              refine (kp.out _).mono ?_
              rintro e w2 ⟨rfl, hb2⟩
              have hs2 := hs.below hb2
              have hx2 := hx.below hb2
              have hr2 := hr.below hb2
              have hb3 := hb.trans (hb2.mono hb.size)
              clear kp hs hx hr hb hb2
              go_wp2_with (first
                | (refine wpList_store_row rfl 41 _ _ rfl gs (ws 25 f1) rfl rfl 41 _ hs2 (by rw [ws_size]; exact i5) (by rw [ws_size, ws_size]) (ws_one _ _) ?_))
              go_roundw
              case rel =>
                have h0 := hq0.out
                refine ⟨b + 1, ?_, by omega, hx2.farRow (by omega) _, ?_, hr2.farRow (by omega) _, below_row hb3 (by omega) _⟩
                · rw [show 136 * (b + 1) = q0 + 136 by omega]; go_num
                · rw [hf1.out]; exact hs2.whole _
              case measure => have h0 := hq0.out; simp [intOf]; omega
        · have hbM2 : b = M := by omega
          rw [hbM2, hF.out] at hs
          rw [hbM2]
          have hM2 := hM.out
          rw [← hM2]
          clear hbM2 hF hcell2 hx
          have hs1 := hs.alloc (.cells (bsr F 0) 25)
          have hr1 := hr.alloc (.cells (bsr F 0) 25)
          have hd1 := Row.new wr 25 (bsr F 0)
          have hz1 := hb.size
          have hb1 := hb.alloc hz1 (.cells (bsr F 0) 25)
          have hsl := hs.lt
          obtain ⟨gd, hgd⟩ : ∃ gd, wr.heap.size = gd := ⟨_, rfl⟩
          clear hs hr hb hM2
          go_wp2_with fail
          rw [hgd] at hd1 hsl hz1
          clear hgd
          go_loopw [8] (fun v wi => ∃ k : Nat, v = .int .i64 k ∧ k ≤ 32 ∧ Row wi gs 41 (ws 25 F) ∧ Row wi gd 25 (bsr F k) ∧ Row wi w.heap.size 25 (bsr F 0) ∧ Below w.heap.size w wi) (fun v _ => 32 - (intOf v).toNat)
          case atStart => exact ⟨0, rfl, by omega, hs1, hd1, hr1, hb1⟩
          case round =>
            clear hs1 hr1 hd1 hb1
            obtain ⟨k, rfl, hk, hs, hd, hr, hb⟩ := hrel
            by_cases hlk : k < 32
            · obtain ⟨q, hq⟩ : ∃ q, k / 8 = q := ⟨_, rfl⟩
              have h1 : (k : Int) / 8 = q := by omega
              have h2 : q < 25 := by omega
              have h3 : (q : Int) < 25 := by omega
              obtain ⟨r, hr0⟩ : ∃ r, k % 8 = r := ⟨_, rfl⟩
              have h4 : (k : Int) % 8 = r := by omega
              have h5 : r < 8 := by omega
              have h6 : IntKind.i64.wrap (8 * (r : Int)) = ((8 * r : Nat) : Int) := by rw [IntWalk.i64_in _ (by omega)]; omega
              have h7 : min (((8 * r : Nat) : Int)).toNat 64 = 8 * r := by omega
              have hv := dg_val F k
              rw [hq, hr0] at hv
              have c0 := (hs.cell q).trans (ws_get F h2)
              have c1 := (hd.cell k).trans (bsr_get F k hlk)
              have ff := hd.free k
              have hnext := Lib.hid (bsr_set F hlk)
              clear hq hr0
              go_wp2_with fail
              go_roundw
              case rel =>
                refine ⟨k + 1, by go_num, by omega, hs.far (by simp; omega) _, ?_, hr.far (by simp; omega) _, Below.setCell hb (by simp; omega) _⟩
                rw [← hnext.out]
                exact hd.put k _
              case measure => simp [intOf]; omega
            · have hk : k = 32 := by omega
              rw [hk] at hd
              clear hk
              go_wp2_with (first
                | (refine wpList_load_row rfl 25 _ rfl gd rfl 25 (bsr F 32) (0, 0) _ hd sumT rfl (by rw [bsr_size]; exact i32) ?_)
                | (refine wpList_store_row rfl 25 _ _ rfl w.heap.size (bsr F 32) rfl rfl 25 _ hr (by rw [bsr_size]; exact i32) (by rw [bsr_size, bsr_size]) (bsr_one _ _) ?_))
              exact bodyPost_row (t := 25) (g := w.heap.size) Try.results11 (by kernel_rfl) (Row.whole hr _) sumT (by rw [bsr_size]; exact i32) rfl ⟨rfl, below_row hb (Nat.le_refl _) _⟩
end Go.Proofs.Ytjpidkamgkpehaa
