/-
  The walks of the document's answer for matches: Common, Longest.
-/
import Derived.Test.YthbniljkgdkdnaaProg
import Derived.Test.YthbniljkgdkdnaaBase
import Derived.Test.YthbniljkgdkdnaaMatchMath
namespace Go.Proofs.Ythbniljkgdkdnaa
open Go.RowKit
set_option linter.unusedVariables false
set_option linter.unusedSimpArgs false

theorem com_next {bs : List UInt8} {i k n : Nat} (h1 : i + n < bs.length) (h2 : k + n < bs.length) (hn : n < 130) (hl : n ≤ com bs i k) (e : (bs[i + n].toNat : Int) = bs[k + n].toNat) : n + 1 ≤ com bs i k :=
  com_ge (by omega) fun j hj => by
    by_cases hjn : j < n
    · exact com_lt (Nat.lt_of_lt_of_le hjn hl)
    · obtain rfl : j = n := by omega
      exact ⟨bs[i + j], List.getElem?_eq_getElem h1, by rw [List.getElem?_eq_getElem h2, UInt8.toNat_inj.1 (Int.ofNat_inj.1 e)]⟩
theorem com_last {bs : List UInt8} {i k n : Nat} (h1 : i + n < bs.length) (h2 : k + n < bs.length) (hl : n ≤ com bs i k) (e : (bs[i + n].toNat : Int) ≠ bs[k + n].toNat) : com bs i k = n := by
  rcases Nat.lt_or_ge n (com bs i k) with hlt | hge
  · obtain ⟨c, e1, e2⟩ := com_lt hlt
    rw [List.getElem?_eq_getElem h1] at e1
    rw [List.getElem?_eq_getElem h2] at e2
    rw [Option.some.inj e1, Option.some.inj e2] at e
    exact (e rfl).elim
  · omega

set_option maxRecDepth 100000 in
set_option maxHeartbeats 2000000 in
theorem rcommon_in (A : Option Addr) (cap i k : Nat) (bs : List UInt8) (w : World) (hc : bs.length ≤ cap) (hm : cap ≤ maxLen) (h : Bs w A bs) (hi : i < bs.length) (hk : k < bs.length) :
    Calls Try.prog 26 #[.slice A bs.length cap, .int .i64 i, .int .i64 k] w fun e w' => e = .returned (.int .i64 (com bs i k)) ∧ ∃ n, w' = w.drewN n := by
  unfold maxLen at hm
  have i0 : decide ((i : Int) < 0) = false := by simp
  have k0 : decide ((k : Int) < 0) = false := by simp
  have i1 : decide (bs.length ≤ i) = false := by simp; omega
  have k1 : decide (bs.length ≤ k) = false := by simp; omega
  go_enter Try.func26, Try.ntmps26
  go_wp2
  go_loopw [7] (fun v wr => ∃ n : Nat, v = .int .i64 n ∧ n ≤ 130 ∧ i + n ≤ bs.length ∧ k + n ≤ bs.length ∧ n ≤ com bs i k ∧ ∃ m, wr = w.drewN m) (fun v _ => 130 - (intOf v).toNat)
  case atStart => exact ⟨0, rfl, by omega, by omega, by omega, by omega, 0, rfl⟩
  case round =>
    obtain ⟨n, rfl, hn, hin, hkn, hl, m, rfl⟩ := hrel
    have h3 := com_le bs i k
    have h4 := com_len bs i k
    by_cases l1 : n < 130
    · have d1 : decide ((n : Int) < 130) = true := by simp; omega
      by_cases l2 : i + n < bs.length
      · by_cases l3 : k + n < bs.length
        · obtain ⟨ad1, rfl, c1⟩ := h.at_ (i + n) l2
          obtain ⟨ad2, e2, c2⟩ := h.at_ (k + n) l3
          obtain rfl : ad1 = ad2 := Option.some.inj e2
          have same := Lib.hid (com_next l2 l3 l1 hl)
          have diff := Lib.hid (com_last l2 l3 hl)
          clear h h3 h4
          have l2' : (i : Int) + n < bs.length := by omega
          have l3' : (k : Int) + n < bs.length := by omega
          have d2 : decide ((i : Int) + n < bs.length) = true := by simp; omega
          have d3 : decide ((k : Int) + n < bs.length) = true := by simp; omega
          have s1 : (0 : Int) ≤ (i : Int) + n := by omega
          have s2 : (0 : Int) ≤ (k : Int) + n := by omega
          have t1 : ((i : Int) + n).toNat = i + n := by omega
          have t2 : ((k : Int) + n).toNat = k + n := by omega
          have w1 : IntKind.i64.wrap ((i : Int) + n) = (i : Int) + n := IntWalk.i64_in _ (by omega)
          have w2 : IntKind.i64.wrap ((k : Int) + n) = (k : Int) + n := IntWalk.i64_in _ (by omega)
          go_wp2
          go_quiet (fail)
          go_wp2
          · rename_i hd
            go_roundw
            case rel => exact ⟨n + 1, by go_num, by omega, by omega, by omega, same.out (by simpa using hd), _, rfl⟩
            case measure => simp [intOf]; omega
          · rename_i hd
            go_ret
            exact ⟨by have := diff.out (by simpa using hd); rw [this]; simp, _, World.drewN_drewN ..⟩
        · have fin := Lib.hid (show com bs i k = n by omega)
          have hd : decide ((k : Int) + n < bs.length) = false := by simp; omega
          have d2 : decide ((i : Int) + n < bs.length) = true := by simp; omega
          have w1 : IntKind.i64.wrap ((i : Int) + n) = (i : Int) + n := IntWalk.i64_in _ (by omega)
          have w2 : IntKind.i64.wrap ((k : Int) + n) = (k : Int) + n := IntWalk.i64_in _ (by omega)
          clear h h3 h4
          go_wp2
          go_quiet (fail)
          go_wp2
          go_ret
          exact ⟨by have := fin.out; rw [this]; simp, _, World.drewN_drewN ..⟩
      · have fin := Lib.hid (show com bs i k = n by omega)
        have hd : decide ((i : Int) + n < bs.length) = false := by simp; omega
        have w1 : IntKind.i64.wrap ((i : Int) + n) = (i : Int) + n := IntWalk.i64_in _ (by omega)
        clear h h3 h4
        go_wp2
        go_quiet (fail)
        go_wp2
        go_ret
        exact ⟨by have := fin.out; rw [this]; simp, _, World.drewN_drewN ..⟩
    · have fin := Lib.hid (show com bs i k = n by omega)
      have hd : decide ((n : Int) < 130) = false := by simp; omega
      clear h h3 h4
      go_wp2
      go_quiet (fail)
      go_wp2
      go_ret
      exact ⟨by have := fin.out; rw [this]; simp, _, World.drewN_drewN ..⟩

set_option maxHeartbeats 400000 in
theorem rcommon_any (A : Option Addr) (cap : Nat) (i k : Int) (bs : List UInt8) (w : World) (hc : bs.length ≤ cap) (hm : cap ≤ maxLen) (h : Bs w A bs) :
    Calls Try.prog 26 #[.slice A bs.length cap, .int .i64 i, .int .i64 k] w fun e w' => e = .returned (.int .i64 (comZ bs i k)) ∧ ∃ n, w' = w.drewN n := by
  by_cases hi : (0 ≤ i ∧ i < bs.length) ∧ (0 ≤ k ∧ k < bs.length)
  · obtain ⟨⟨i0, i1⟩, k0, k1⟩ := hi
    obtain ⟨i, rfl⟩ := Int.eq_ofNat_of_zero_le i0
    obtain ⟨k, rfl⟩ := Int.eq_ofNat_of_zero_le k0
    have hz : comZ bs i k = com bs i k := by unfold comZ; rw [if_pos ⟨i0, k0⟩]; rfl
    rw [hz]
    exact rcommon_in A cap i k bs w hc hm h (by omega) (by omega)
  · have hz : comZ bs i k = 0 := by
      unfold comZ
      split
      · have := com_len bs i.toNat k.toNat; omega
      · rfl
    rw [hz]
    unfold maxLen at hm
    clear h hz
    by_cases i0 : i < 0
    · clear hi
      go_enter Try.func26, Try.ntmps26
      go_wp2
      go_ret
      exact ⟨rfl, 0, rfl⟩
    · by_cases k0 : k < 0
      · clear hi
        go_enter Try.func26, Try.ntmps26
        go_wp2
        go_ret
        exact ⟨rfl, 0, rfl⟩
      · obtain ⟨i, rfl⟩ := Int.eq_ofNat_of_zero_le (by omega : 0 ≤ i)
        obtain ⟨k, rfl⟩ := Int.eq_ofNat_of_zero_le (by omega : 0 ≤ k)
        have hh : Hid (bs.length ≤ i ∨ bs.length ≤ k) := by show _ ∨ _; omega
        clear hi
        by_cases i1 : bs.length ≤ i
        · go_enter Try.func26, Try.ntmps26
          go_wp2
          go_ret
          exact ⟨rfl, 0, rfl⟩
        · have k1 : bs.length ≤ k := by have := hh.out; omega
          go_enter Try.func26, Try.ntmps26
          go_wp2
          go_ret
          exact ⟨rfl, 0, rfl⟩

theorem bestTo_succ (bs : List UInt8) (k e : Nat) : bestTo bs k (e + 1) = if (bestTo bs k e).2 < com bs (k - (e + 1)) k then (e + 1, com bs (k - (e + 1)) k) else bestTo bs k e := rfl
theorem best_pair' (bs : List UInt8) (k : Nat) :
    best bs k = if (bestTo bs k (min 256 k)).2 < 3 then (0, 0) else bestTo bs k (min 256 k) := rfl

set_option maxRecDepth 100000 in
set_option maxHeartbeats 1000000 in
theorem rlongest_in (A : Option Addr) (cap k : Nat) (bs : List UInt8) (w : World) (hc : bs.length ≤ cap) (hm : cap ≤ maxLen) (h : Bs w A bs) (hk : k < bs.length) :
    Calls Try.prog 21 #[.slice A bs.length cap, .int .i64 k] w fun e w' =>
      e = .returned (.tuple #[.int .i64 (best bs k).1, .int .i64 (best bs k).2]) ∧ ∃ n, w' = w.drewN n := by
  have hm' := hm
  unfold maxLen at hm
  go_enter Try.func21, Try.ntmps21
  go_wp2
  go_loopw [6, 7, 8, 9] (fun u v x _ wr => ∃ e : Nat, x = .int .i64 (e + 1 : Nat) ∧ e ≤ min 256 k ∧ u = .int .i64 (bestTo bs k e).1 ∧ v = .int .i64 (bestTo bs k e).2 ∧ ∃ m, wr = w.drewN m) (fun _ _ x _ _ => 300 - (intOf x).toNat)
  case atStart => exact ⟨0, rfl, by omega, rfl, rfl, 0, rfl⟩
  case round =>
    obtain ⟨e, rfl, he, rfl, rfl, m, rfl⟩ := hrel
    have hbe := bestTo_le bs k e
    by_cases h1 : e + 1 ≤ 256
    · by_cases h2 : e + 1 ≤ k
      · have hz := Lib.hid (show comZ bs ((k : Int) - ((e : Int) + 1)) k = com bs (k - (e + 1)) k by
          unfold comZ
          rw [if_pos ⟨by omega, by omega⟩]
          congr 1
          omega)
        go_wp2_with fail
        refine (rcommon_any A cap _ _ bs _ hc hm' (h.drewN m)).mono ?_
        rintro e' w1 ⟨rfl, m', rfl⟩
        rw [hz.out]
        clear hz
        by_cases hgt : (bestTo bs k e).2 < com bs (k - (e + 1)) k
        · go_wp2
          go_roundw
          case rel => exact ⟨e + 1, by go_num, by omega, by rw [bestTo_succ, if_pos hgt]; rfl, by rw [bestTo_succ, if_pos hgt], _, rfl⟩
          case measure => simp [intOf]; omega
        · go_wp2
          go_roundw
          case rel => exact ⟨e + 1, by go_num, by omega, by rw [bestTo_succ, if_neg hgt], by rw [bestTo_succ, if_neg hgt], _, rfl⟩
          case measure => simp [intOf]; omega
      · have fin := Lib.hid (show best bs k = clean (bestTo bs k e) by unfold best; rw [show min 256 k = e by omega])
        by_cases h3 : (bestTo bs k e).2 < 3
        · have fin2 := Lib.hid (show best bs k = (0, 0) by rw [fin.out]; unfold clean; rw [if_pos h3])
          go_wp2
          go_ret2
          exact ⟨by rw [fin2.out]; rfl, _, rfl⟩
        · have fin2 := Lib.hid (show best bs k = bestTo bs k e by rw [fin.out]; unfold clean; rw [if_neg h3])
          go_wp2
          go_ret2
          exact ⟨by rw [fin2.out]; rfl, _, rfl⟩
    · have fin := Lib.hid (show best bs k = clean (bestTo bs k e) by unfold best; rw [show min 256 k = e by omega])
      by_cases h3 : (bestTo bs k e).2 < 3
      · have fin2 := Lib.hid (show best bs k = (0, 0) by rw [fin.out]; unfold clean; rw [if_pos h3])
        go_wp2
        go_ret2
        exact ⟨by rw [fin2.out]; rfl, _, rfl⟩
      · have fin2 := Lib.hid (show best bs k = bestTo bs k e by rw [fin.out]; unfold clean; rw [if_neg h3])
        go_wp2
        go_ret2
        exact ⟨by rw [fin2.out]; rfl, _, rfl⟩

set_option maxHeartbeats 400000 in
theorem rlongest_any (A : Option Addr) (cap : Nat) (k : Int) (bs : List UInt8) (w : World) (hc : bs.length ≤ cap) (hm : cap ≤ maxLen) (h : Bs w A bs) :
    Calls Try.prog 21 #[.slice A bs.length cap, .int .i64 k] w fun e w' =>
      e = .returned (.tuple #[.int .i64 (if 0 ≤ k then best bs k.toNat else (0, 0)).1, .int .i64 (if 0 ≤ k then best bs k.toNat else (0, 0)).2]) ∧ ∃ n, w' = w.drewN n := by
  by_cases k0 : k < 0
  · have hz := Lib.hid (show (if 0 ≤ k then best bs k.toNat else (0, 0)) = (0, 0) by rw [if_neg (by omega)])
    have k1 : k < 1 := by omega
    clear h
    go_enter Try.func21, Try.ntmps21
    go_wp2
    refine wp_loop_once ?_
    go_wp2
    go_ret2
    exact ⟨rfl, 0, rfl⟩
  · obtain ⟨k, rfl⟩ := Int.eq_ofNat_of_zero_le (by omega : 0 ≤ k)
    rw [if_pos (by omega)]
    by_cases hi : k < bs.length
    · exact rlongest_in A cap k bs w hc hm h hi
    · have hz := Lib.hid (show best bs k = (0, 0) from best_behind _ _ (by omega))
      have hk : ¬ ((k : Int) < bs.length) := by omega
      clear h
      unfold maxLen at hm
      by_cases k1 : (1 : Int) ≤ k
      · go_enter Try.func21, Try.ntmps21
        go_wp2
        refine wp_loop_once ?_
        go_wp2
        go_ret2
        exact ⟨by simp only [Int.toNat_natCast]; rw [hz.out]; rfl, 0, rfl⟩
      · go_enter Try.func21, Try.ntmps21
        go_wp2
        refine wp_loop_once ?_
        go_wp2
        go_ret2
        exact ⟨by simp only [Int.toNat_natCast]; rw [hz.out]; rfl, 0, rfl⟩
end Go.Proofs.Ythbniljkgdkdnaa
