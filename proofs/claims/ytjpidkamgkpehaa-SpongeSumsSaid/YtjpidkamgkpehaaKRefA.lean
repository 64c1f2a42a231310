/-
  Layer 3, the document's answer: five, At, Turn, bit, Mark, turn.
-/
import Derived.Test.YtjpidkamgkpehaaKImpl
import Derived.Deep.QuietTactic
import Derived.BigQuiet
namespace Go.Proofs.Ytjpidkamgkpehaa
open Go.RowKit
set_option linter.unusedVariables false
set_option linter.unusedSimpArgs false

set_option maxHeartbeats 400000 in
theorem rfive_any (n : Int) (hn : (Lit.int .i64 n).wf = true) (w : World) :
    Calls Try.prog 22 #[.int .i64 n] w fun e w' => e = .returned (.int .i64 (fv n)) ∧ w = w' := by
  have b := bounds_i64 hn
  have h1 := Int.tmod_lt_of_pos n (show (0 : Int) < 5 by decide)
  have h2 := Int.lt_tmod_of_pos n (show (0 : Int) < 5 by decide)
  have h3 := fv_cast n
  have h4 : n.tmod 5 = n % 5 ∨ (n.tmod 5 + 5 = n % 5 ∧ n % 5 ≠ 0) := by
    rw [Int.tmod_eq_emod]
    split
    · left; omega
    · right; omega
  have h5 : (n.tmod 5 + 5).tmod 5 = fv n := by rw [Int.tmod_eq_emod_of_nonneg (by omega)]; omega
  go_enter Try.func22, Try.ntmps22
  go_wp2
  go_ret
  exact ⟨by rw [h3]; rfl, rfl⟩

theorem i64_wf (n : Int) (h1 : -9223372036854775808 ≤ n) (h2 : n ≤ 9223372036854775807) : (Lit.int .i64 n).wf = true := by
  simp [Lit.wf, IntKind.min, IntKind.max, IntKind.signed, IntKind.bits]; omega
theorem seq_val : ∀ t : Nat, t < 24 → ((wrap64 ((wrap64 (((t : Int) + 1) * ((t : Int) + 2))).tdiv 2)).tmod 64) = (((t + 1) * (t + 2) / 2 % 64 : Nat) : Int) := by decide +kernel

set_option maxHeartbeats 400000 in
theorem at_any (x y : Int) (hx : (Lit.int .i64 x).wf = true) (hy : (Lit.int .i64 y).wf = true) (w : World) :
    Calls Try.prog 21 #[.int .i64 x, .int .i64 y] w fun e w' => e = .returned (.int .i64 ((fv x + 5 * fv y : Nat) : Int)) ∧ w = w' := by
  have b1 := fv_lt x
  have b2 := fv_lt y
  go_enter Try.func21, Try.ntmps21
  go_wp2_with fail
  refine (rfive_any _ hx _).mono ?_
  rintro e w' ⟨rfl, rfl⟩
  go_wp2_with fail
  refine (rfive_any _ hy _).mono ?_
  rintro e w' ⟨rfl, rfl⟩
  go_wp2
  go_ret
  exact ⟨by simp, rfl⟩

set_option maxHeartbeats 400000 in
theorem rturn_any (x : W64) (k : Nat) (hk : k < 64) (w : World) :
    Calls Try.prog 23 #[wv x, .int .i64 k] w fun e w' => e = .returned (wv (rot x k)) ∧ ∃ n, w' = w.drewN n := by
  have hk2 : IntKind.i64.wrap ((64 : Int) - k) = ((64 - k : Nat) : Int) := by rw [IntWalk.i64_in _ (by omega)]; omega
  have h0 : (0 : Int) ≤ k := by omega
  have h1 : (0 : Int) ≤ ((64 - k : Nat) : Int) := by omega
  have e1 := wv_shl x k
  have e2 := wv_shr x (64 - k)
  have n1 : min ((k : Int)).toNat 64 = k := by omega
  have n2 : min (((64 - k : Nat) : Int)).toNat 64 = 64 - k := by omega
  go_enter Try.func23, Try.ntmps23
  go_wp2_with fail
  go_quiet (fail)
  go_wp2
  go_ret
  exact ⟨rfl, _, rfl⟩

set_option maxHeartbeats 1000000 in
theorem rturns_any (x y : Int) (hx : (Lit.int .i64 x).wf = true) (hy : (Lit.int .i64 y).wf = true) (w : World) :
    Calls Try.prog 24 #[.int .i64 x, .int .i64 y] w fun e w' => e = .returned (.int .i64 (tn (fv x + 5 * fv y))) ∧ w = w' := by
  have b1 := fv_lt x
  have b2 := fv_lt y
  have fx := Lib.hid fun w => rfive_any x hx w
  have fy := Lib.hid fun w => rfive_any y hy w
  have hall := Lib.hid (seq_all (fv x) b1 (fv y) b2)
  clear hx hy
  generalize fv x = X at *
  generalize fv y = Y at *
  go_enter Try.func24, Try.ntmps24
  go_wp2_with fail
  go_loopw [5, 6, 7] (fun a b v wr => ∃ t : Nat, v = .int .i64 t ∧ t ≤ 24 ∧ a = .int .i64 (seqA t).1 ∧ b = .int .i64 (seqA t).2 ∧ (∀ s, s < t → ¬ ((seqA s).1 = X ∧ (seqA s).2 = Y)) ∧ wr = w) (fun _ _ v _ => 24 - (intOf v).toNat)
  case atStart => exact ⟨0, rfl, by omega, rfl, rfl, fun s h => by omega, rfl⟩
  case round =>
    obtain ⟨t, rfl, ht, rfl, rfl, hno, rfl⟩ := hrel
    replace hno := Lib.hid hno
    by_cases hlt : t < 24
    · obtain ⟨l1, l2⟩ := seq_lt t (by omega)
      have hhit := Lib.hid (seq_hit t hlt)
      have hnext : seqA (t + 1) = ((seqA t).2, (2 * (seqA t).1 + 3 * (seqA t).2) % 5) := rfl
      replace hnext := Lib.hid hnext
      obtain ⟨A, hA⟩ : ∃ A, (seqA t).1 = A := ⟨_, rfl⟩
      obtain ⟨B, hB⟩ : ∃ B, (seqA t).2 = B := ⟨_, rfl⟩
      rw [hA] at l1
      rw [hB] at l2
      rw [hA, hB] at hhit hnext ⊢
      have hst : fv (2 * (A : Int) + 3 * B) = (2 * A + 3 * B) % 5 := by unfold fv; omega
      have f3 := Lib.hid fun w => rfive_any (2 * (A : Int) + 3 * B) (i64_wf _ (by omega) (by omega)) w
      rw [hst] at f3
      clear hst
      by_cases h1 : A = X
      · have d1 : ((A : Int) == X) = true := by simp; omega
        by_cases h2 : B = Y
        · have d2 : ((B : Int) == Y) = true := by simp; omega
          go_wp2_with fail
          refine (fx.out _).mono ?_
          rintro e w' ⟨rfl, rfl⟩
          go_wp2_with fail
          refine (fy.out _).mono ?_
          rintro e w' ⟨rfl, rfl⟩
          go_wp2
          go_ret
          refine ⟨congrArg Ending.returned (congrArg (Value.int .i64) ?_), rfl⟩
          rw [seq_val t hlt, hhit.out, h1, h2]
        · have d2 : ((B : Int) == Y) = false := by simp; omega
          rw [h1] at f3 hnext hA
          go_wp2_with fail
          refine (fx.out _).mono ?_
          rintro e w' ⟨rfl, rfl⟩
          go_wp2_with fail
          refine (fy.out _).mono ?_
          rintro e w' ⟨rfl, rfl⟩
          go_wp2_with fail
          refine (f3.out _).mono ?_
          rintro e w' ⟨rfl, rfl⟩
          go_wp2
          go_roundw
          case rel =>
            refine ⟨t + 1, by go_num, by omega, by simp [hnext.out], by simp [hnext.out], fun s hs => ?_, by trivial⟩
            by_cases h3 : s < t
            · exact hno.out s h3
            · obtain rfl : s = t := by omega
              rw [hA, hB]
              exact fun h => h2 h.2
          case measure => simp [intOf]; omega
      · have d1 : ((A : Int) == X) = false := by simp; omega
        go_wp2_with fail
        refine (fx.out _).mono ?_
        rintro e w' ⟨rfl, rfl⟩
        go_wp2_with fail
        refine (f3.out _).mono ?_
        rintro e w' ⟨rfl, rfl⟩
        go_wp2
        go_roundw
        case rel =>
          refine ⟨t + 1, by go_num, by omega, by simp [hnext.out], by simp [hnext.out], fun s hs => ?_, by trivial⟩
          by_cases h3 : s < t
          · exact hno.out s h3
          · obtain rfl : s = t := by omega
            rw [hA, hB]
            exact fun h => h1 h.1
        case measure => simp [intOf]; omega
    · have h24 : t = 24 := by omega
      have h0 := hall.out (by rw [h24] at hno; exact hno.out)
      clear hall hno
      go_wp2
      go_ret
      refine ⟨?_, rfl⟩
      rw [h0]
      rfl

set_option maxHeartbeats 1000000 in
theorem bit_any (n : Nat) (hn : n ≤ 100000) (w : World) :
    Calls Try.prog 28 #[.int .i64 n] w fun e w' => e = .returned (.int .u64 ((rg n % 2 : Nat) : Int)) ∧ w = w' := by
  rw [← rg_mod]
  obtain ⟨N, hN⟩ : ∃ N : Nat, n % 255 = N := ⟨_, rfl⟩
  have hm : (n : Int) % 255 = (N : Int) := by omega
  rw [hN]
  have hq : N < 255 := by omega
  clear hN
  go_enter Try.func28, Try.ntmps28
  go_wp2_with fail
  go_loopw [3, 4] (fun r v wr => ∃ k : Nat, v = .int .i64 k ∧ k ≤ N ∧ r = .int .u64 (rg k) ∧ wr = w) (fun _ v _ => N - (intOf v).toNat)
  case atStart => exact ⟨0, rfl, by omega, rfl, rfl⟩
  case round =>
    obtain ⟨k, rfl, hk, rfl, rfl⟩ := hrel
    have hr := rg_lt k
    have hs : rg (k + 1) = stp (rg k) := rfl
    by_cases hlt : k < N
    · have hlt' : (k : Int) < (n : Int) % 255 := by omega
      obtain ⟨r, hrr⟩ : ∃ r, rg k = r := ⟨_, rfl⟩
      rw [hrr] at hr hs ⊢
      by_cases h2 : 256 ≤ r * 2
      · have hw := u64_xor_nat (r * 2) 369 (by omega) (by omega)
        rw [stp, if_pos h2] at hs
        rw [← hs] at hw
        replace hs := Lib.hid hs
        replace hw := Lib.hid hw
        replace hrr := Lib.hid hrr
        have h2' : (256 : Int) ≤ (r : Int) * 2 := by omega
        clear h2 hm
        go_wp2
        refine ⟨⟨k + 1, by go_num, by omega, congrArg _ ?_, trivial⟩, by simp [intOf]; omega⟩
        rw [← hw.out, Int.natCast_mul]
        rfl
      · rw [stp, if_neg h2] at hs
        replace hs := Lib.hid hs
        replace hrr := Lib.hid hrr
        have h2' : ¬ (256 : Int) ≤ (r : Int) * 2 := by omega
        clear h2 hm
        go_wp2
        refine ⟨⟨k + 1, by go_num, by omega, congrArg _ ?_, trivial⟩, by simp [intOf]; omega⟩
        rw [hs.out, Int.natCast_mul]
        rfl
    · have hkN : k = N := by omega
      rw [hkN] at hr ⊢
      clear hs hkN hlt
      go_wp2
      go_ret
      exact ⟨by simp, rfl⟩

theorem rmark_step (q : Nat) {j : Nat} (hj : j < 7) :
    IntKind.u64.wrap ((mk q j : Int) + IntKind.u64.wrap (((rg (7 * q + j) % 2 : Nat) : Int) * 2 ^ (2 ^ j - 1))) = (mk q (j + 1) : Int) := by
  have h6 := mk_64 q (show j + 1 ≤ 7 by omega)
  have h7 : mk q (j + 1) = mk q j + rg (7 * q + j) % 2 * 2 ^ (2 ^ j - 1) := rfl
  have h8 : (((rg (7 * q + j) % 2 : Nat) : Int) * 2 ^ (2 ^ j - 1)) = ((rg (7 * q + j) % 2 * 2 ^ (2 ^ j - 1) : Nat) : Int) := by
    rw [Int.natCast_mul, Int.natCast_pow]; rfl
  rw [h8, u64_wrap, u64_wrap]
  omega

set_option maxHeartbeats 2000000 in
theorem rmark_any (n : Int) (hn : (Lit.int .i64 n).wf = true) (w : World) :
    Calls Try.prog 25 #[.int .i64 n] w fun e w' => e = .returned (wv (mark n)) ∧ w = w' := by
  have b := bounds_i64 hn
  by_cases h0 : n < 0
  · go_enter Try.func25, Try.ntmps25
    go_wp2
    go_ret
    exact ⟨by rw [mark, if_pos h0]; rfl, rfl⟩
  · obtain ⟨q, hq⟩ : ∃ q : Nat, n % 255 = q := ⟨(n % 255).toNat, by omega⟩
    have hq2 : q < 255 := by omega
    have t1 : n.tmod 255 = q := by rw [Int.tmod_eq_emod_of_nonneg (by omega), hq]
    have hfin : mark n = BitVec.ofNat 64 (mk q 7) := by
      rw [mark, if_neg h0, hq]; rfl
    rw [hfin, wv, nw_nat _ (mk_64 q (Nat.le_refl 7))]
    clear hfin hq
    go_enter Try.func25, Try.ntmps25
    go_wp2_with fail
    go_loopw [3, 4] (fun m v wr => ∃ j : Nat, v = .int .i64 j ∧ j ≤ 7 ∧ m = .int .u64 (mk q j) ∧ wr = w) (fun _ v _ => 7 - (intOf v).toNat)
    case atStart => exact ⟨0, rfl, by omega, rfl, rfl⟩
    case round =>
      obtain ⟨j, rfl, hj, rfl, rfl⟩ := hrel
      by_cases hlt : j < 7
      · have hstep := Lib.hid (rmark_step q hlt)
        go_wp2_with fail
        go_loopw [5, 6] (fun p v wi => ∃ k : Nat, v = .int .i64 k ∧ k ≤ j ∧ p = .int .i64 ((2 ^ k : Nat) : Int) ∧ wi = wr) (fun _ v _ => j - (intOf v).toNat)
        case atStart => exact ⟨0, rfl, by omega, rfl, rfl⟩
        case round =>
          obtain ⟨k, rfl, hk, rfl, rfl⟩ := hrel
          have hp : 2 ^ k ≤ 2 ^ 6 := Nat.pow_le_pow_right (by decide) (by omega)
          have hp1 : 1 ≤ 2 ^ k := Nat.one_le_two_pow
          have hp2 : 2 ^ (k + 1) = 2 ^ k * 2 := Nat.pow_succ ..
          by_cases hlk : k < j
          · obtain ⟨p, hpp⟩ : ∃ p, 2 ^ k = p := ⟨_, rfl⟩
            rw [hpp] at hp hp1 hp2 ⊢
            replace hpp := Lib.hid hpp
            replace hp2 := Lib.hid hp2
            simp only [Nat.reducePow] at hp
            go_wp2
            go_roundw
            case rel => exact ⟨k + 1, by go_num, by omega, by rw [hp2.out, Int.natCast_mul]; rfl, by trivial⟩
            case measure => simp [intOf]; omega
          · have hkj : k = j := by omega
            rw [hkj] at hp hp1 ⊢
            clear hp2
            obtain ⟨p, hpp⟩ : ∃ p, 2 ^ j = p := ⟨_, rfl⟩
            rw [hpp] at hp hp1 hstep ⊢
            replace hpp := Lib.hid hpp
            simp only [Nat.reducePow] at hp
            have hbit := bit_any (7 * q + j) (by omega) wr
            rw [show ((7 * q + j : Nat) : Int) = (j : Int) + 7 * q by omega] at hbit
            replace hbit := Lib.hid hbit
            have hbl : rg (7 * q + j) % 2 < 2 := Nat.mod_lt _ (by decide)
            generalize rg (7 * q + j) % 2 = b at *
            have n1 : ((p : Int) - 1).toNat = p - 1 := by omega
            have n2 : min (p - 1) 64 = p - 1 := by omega
            have l0 : (0 : Int) ≤ (p : Int) - 1 := by omega
            go_wp2_with fail
            refine hbit.out.mono ?_
            rintro e w' ⟨rfl, rfl⟩
            go_wp2
            refine ⟨⟨j + 1, by go_num, by omega, congrArg _ hstep.out, trivial⟩, ?_⟩
            simp [intOf]; omega
      · have hj7 : j = 7 := by omega
        rw [hj7]
        clear hj7
        go_wp2
        go_ret
        exact ⟨rfl, rfl⟩
end Go.Proofs.Ytjpidkamgkpehaa
