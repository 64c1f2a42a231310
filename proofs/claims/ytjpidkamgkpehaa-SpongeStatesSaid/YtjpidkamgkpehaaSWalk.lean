/-
  Layer 4, the program: New, mix, Write, Sum.
-/
import Derived.Test.YtjpidkamgkpehaaSState
import Derived.Test.YtjpidkamgkpehaaKPerm
namespace Go.Proofs.Ytjpidkamgkpehaa
open Go.RowKit
set_option linter.unusedVariables false
set_option linter.unusedSimpArgs false

theorem zero26 : sc (fun _ => 0) 0 = #[.int .u64 0, .int .u64 0, .int .u64 0, .int .u64 0, .int .u64 0, .int .u64 0, .int .u64 0, .int .u64 0, .int .u64 0, .int .u64 0, .int .u64 0, .int .u64 0, .int .u64 0, .int .u64 0, .int .u64 0, .int .u64 0, .int .u64 0, .int .u64 0, .int .u64 0, .int .u64 0, .int .u64 0, .int .u64 0, .int .u64 0, .int .u64 0, .int .u64 0, .int .i64 0] := rfl
theorem new_any (w : World) :
    Calls Try.prog 12 #[] w fun e w' => e = .returned (.pointer (some ⟨w.heap.size, 0, none⟩)) ∧ w' = w.alloc (.cells (sc (fun _ => 0) 0) 44) := by
  rw [zero26]
  go_enter Try.func12, Try.ntmps12
  go_wp2
  go_ret
  exact ⟨rfl, rfl⟩

theorem bw_val (c : UInt8) (k : Nat) : IntKind.u64.wrap ((c.toNat : Int) * 2 ^ k) = nw (bw c k) := by
  unfold bw
  rw [← wv_shl, nw_nat _ (by have := c.toNat_lt; omega)]
theorem and7 (t : Nat) : bits .and .i64 (t : Int) 7 = ((t % 8 : Nat) : Int) := by
  have h7 : (BitVec.ofInt 64 7).toNat = 2 ^ 3 - 1 := by decide
  have key : (BitVec.ofInt 64 (t : Int) &&& BitVec.ofInt 64 7).toNat = ((t : Int) % ((2 ^ 64 : Nat) : Int)).toNat % 2 ^ 3 := by
    rw [BitVec.toNat_and, BitVec.toNat_ofInt, h7, Nat.and_two_pow_sub_one_eq_mod]
  show IntKind.i64.wrap ((BitVec.ofInt 64 (t : Int) &&& BitVec.ofInt 64 7).toNat : Nat) = _
  rw [key, IntKind.wrap_i64]
  omega
set_option maxHeartbeats 1000000 in
theorem mix_any (g : Nat) (f : St) (n t : Nat) (c : UInt8) (w : World) (hs : Row w g 44 (sc f n)) (ht : t < 136) :
    Calls Try.prog 16 #[.pointer (some ⟨g, 0, none⟩), .int .i64 (t : Int), bv c] w fun e w' => e = .returned (.tuple #[]) ∧ Row w' g 44 (sc (mixw f t c) n) ∧ w.grownBy w' (some g) := by
  obtain ⟨q, hq⟩ : ∃ q, t / 8 = q := ⟨_, rfl⟩
  have hq1 : (t : Int) / 8 = q := by omega
  have hq2 : q < 25 := by omega
  have hq3 : (q : Int) < 25 := by omega
  obtain ⟨r, hr⟩ : ∃ r, t % 8 = r := ⟨_, rfl⟩
  have hr1 := and7 t
  rw [hr] at hr1
  have hr2 : r < 8 := by omega
  have hr3 : IntKind.i64.wrap (8 * (r : Int)) = ((8 * r : Nat) : Int) := by rw [IntWalk.i64_in _ (by omega)]; omega
  have hr4 : min (((8 * r : Nat) : Int)).toNat 64 = 8 * r := by omega
  have hb := bw_val c (8 * r)
  have c0 := (hs.cell q).trans (sc_get f n hq2)
  have ff := hs.free q
  have hc := c.toNat_lt
  have hset := Lib.hid (sc_set f n q (f q ^^^ bw c (8 * r)) hq2)
  have hm : mixw f t c = fun j => if j = q then f q ^^^ bw c (8 * r) else f j := by unfold mixw; rw [hq, hr]
  rw [hm]
  clear hm hr hq
  go_enter Try.func16, Try.ntmps16
  go_wp2_with fail
  refine wp_region_still_tail 17 (by kernel_rfl) (by kernel_rfl) ?_
  simp only [List.take_succ_cons, List.take_zero, List.drop_succ_cons, List.drop_zero]
  repeat still_step
  refine wpStill_nil ?_
  go_wp2
  go_end0
  rw [hb, wv_xor]
  refine ⟨rfl, ?_, ?_⟩
  · rw [← hset.out]
    exact Row.drew (hs.put q _)
  · exact (grown_draw1 w _).trans' (grown_put _ g q _)
set_option maxHeartbeats 2000000 in
theorem write_any (g : Nat) (f : St) (n : Nat) (A : Option Addr) (cap : Nat) (bs : List UInt8) (w : World) (hs : Row w g 44 (sc f n)) (hn : n < 136) (hl : bs.length ≤ 140737488351232) (hbs : Bs w A bs) (hA : bs = [] ∨ ∀ ad, A = some ad → ad.block ≠ g) :
    Calls Try.prog 13 #[.pointer (some ⟨g, 0, none⟩), .slice A bs.length cap] w fun e w' => e = .returned (.tuple #[]) ∧ Row w' g 44 (sc (feed (f, n) bs).1 (feed (f, n) bs).2) ∧ w.grownBy w' (some g) := by
  have c25 := hs.cell 25
  go_enter Try.func13, Try.ntmps13
  go_wp2_with fail
  go_loopw [10] (fun v wr => ∃ k : Nat, v = .int .i64 k ∧ k ≤ bs.length ∧ Row wr g 44 (sc (feed (f, n) (bs.take k)).1 (feed (f, n) (bs.take k)).2) ∧ w.grownBy wr (some g)) (fun v _ => bs.length - (intOf v).toNat)
  case atStart => exact ⟨0, rfl, by omega, by simpa [feed] using hs, grown_refl _ _⟩
  case round =>
    clear hs c25
    obtain ⟨k, rfl, hk, hs, hg⟩ := hrel
    by_cases hlt : k < bs.length
    · replace hA := hA.resolve_left (by rintro rfl; simp at hlt)
      obtain ⟨ad, rfl, hc⟩ := (hbs.grownBy hg hA).at_ k hlt
      have hnext : feed (f, n) (bs.take (k + 1)) = eat (feed (f, n) (bs.take k)) bs[k] := by rw [List.take_succ_eq_append_getElem hlt, feed_append, feed_cons, feed_nil]
      have hst := feed_lt (f, n) (bs.take k) hn
      replace hnext := Lib.hid hnext
      generalize feed (f, n) (bs.take k) = s at *
      obtain ⟨F, T⟩ := s
      dsimp only at hs hst hnext
      generalize bs[k] = c at *
      have c25 := (hs.cell 25).trans (sc_taken F T)
      have f25 := hs.free 25
      go_wp2_with fail
      refine (mix_any g F T T c _ hs hst).mono ?_
      rintro e w1 ⟨rfl, hs1, hg1⟩
      have c25 := (hs1.cell 25).trans (sc_taken _ T)
      have f25 := hs1.free 25
      have r1 := hs1.put 25 (.int .i64 ((T : Int) + 1))
      rw [show (sc (mixw F T c) T).setIfInBounds 25 (.int .i64 ((T : Int) + 1)) = sc (mixw F T c) (T + 1) from sc_count _ _ _] at r1
      have hg2 := (hg.trans' hg1).trans' (grown_put w1 g 25 (.int .i64 ((T : Int) + 1)))
      by_cases hT : T = 135
      · have ht : ((T : Int) + 1 == 136) = true := by simp; omega
        have he : eat (F, T) c = (perm (mixw F T c) 24, 0) := by unfold eat; rw [if_pos (by show T + 1 = 136; omega)]
        rw [he] at hnext
        clear he hT
        generalize mixw F T c = m at *
        have kp := Lib.hid (kperm_any m)
        obtain ⟨pm, hpm⟩ : ∃ pm, perm m 24 = pm := ⟨_, rfl⟩
        rw [hpm] at kp hnext
        clear hpm
        have hi : (Try.prog.info? 41).map (·.size) = some (ws 25 m).toList.length := by rw [Array.length_toList, ws_size]; exact i5
        have hrg := sc_range r1
        go_wp2_with (refine wpList_load_mid rfl 41 _ rfl g 0 rfl (ws 25 m).toList _ hrg lanesT rfl hi ?_; rw [Array.toArray_toList])
        refine (kp.out _).mono ?_
        rintro e w2 ⟨rfl, hb2⟩
        have r2 := r1.below hb2
        have hg3 := hg2.trans' (grown_of_below hb2 _)
        have hth := sc_there r2 pm
        have r3 := sc_whole r2 pm
        have hg4 := hg3.trans' (grown_sets w2 g 0 (ws 25 pm).toList)
        have c25 := (r3.cell 25).trans (sc_taken _ _)
        have f25 := r3.free 25
        have r4 := r3.put 25 (.int .i64 0)
        rw [show (sc pm (T + 1)).setIfInBounds 25 (.int .i64 0) = sc pm 0 from sc_count _ _ 0] at r4
        go_wp2_with (refine wpList_store_mid rfl 41 _ _ rfl g 0 (ws 25 pm) rfl rfl (by with_reducible exact hth) (by rw [ws_size]; exact i5) (ws_one _ _) ?_)
        go_roundw
        case rel =>
          refine ⟨k + 1, by go_num, by omega, ?_, hg4.trans' (grown_put _ g 25 _)⟩
          rw [hnext.out]
          exact r4
        case measure => simp [intOf]; omega
      · have ht : ((T : Int) + 1 == 136) = false := by simp; omega
        have he : eat (F, T) c = (mixw F T c, T + 1) := by unfold eat; rw [if_neg (by show T + 1 ≠ 136; omega)]
        rw [he] at hnext
        clear he
        go_wp2_with fail
        go_roundw
        case rel =>
          refine ⟨k + 1, by go_num, by omega, ?_, hg2⟩
          rw [hnext.out]
          exact r1
        case measure => simp [intOf]; omega
    · have hk : k = bs.length := by omega
      rw [hk, List.take_length] at hs
      go_wp2_with fail
      go_end0
      exact ⟨rfl, hs, hg⟩
set_option maxHeartbeats 400000 in
theorem wnil_any (A : Option Addr) (len cap : Nat) (w : World) :
    Calls Try.prog 13 #[.pointer none, .slice A len cap] w fun e w' => e = .returned (.tuple #[]) ∧ w = w' := by
  go_enter Try.func13, Try.ntmps13
  go_wp2
  exact bodyPost_ret (v := .tuple #[]) (by simp [results, Try.results13, go_sem]) rfl ⟨rfl, rfl⟩
end Go.Proofs.Ytjpidkamgkpehaa
