/-
  The walks of package match: what Common, better, clean and Longest answer.
-/
import Derived.Test.YthbniljkgdkdnaaProg
import Derived.Test.YthbniljkgdkdnaaBase
import Derived.Test.YthbniljkgdkdnaaMatchMath
namespace Go.Proofs.Ythbniljkgdkdnaa
open Go.RowKit
set_option linter.unusedVariables false
set_option linter.unusedSimpArgs false

set_option maxHeartbeats 400000 in
theorem place_any (A : Option Addr) (len cap : Nat) (i : Int) (w : World) (hl : len ≤ maxLen) :
    Calls Try.prog 28 #[.slice A len cap, .int .i64 i] w fun e w' => e = .returned (.bool (decide (0 ≤ i) && decide (i < len))) ∧ w = w' := by
  unfold maxLen at hl
  by_cases h : 0 ≤ i
  all_goals
    go_enter Try.func28, Try.ntmps28
    go_wp2
    go_ret
    exact ⟨by simp; omega, rfl⟩

set_option maxHeartbeats 1000000 in
theorem common_in (A : Option Addr) (cap i k : Nat) (bs : List UInt8) (w : World) (hc : bs.length ≤ cap) (hm : cap ≤ maxLen) (h : Bs w A bs) (hi : i < bs.length) (hk : k < bs.length) :
    Calls Try.prog 27 #[.slice A bs.length cap, .int .i64 i, .int .i64 k] w fun e w' => e = .returned (.int .i64 (com bs i k)) ∧ ∃ n, w' = w.drewN n := by
  have hm' := hm
  unfold maxLen at hm
  have h1 := h.cut i cap hc
  have h2 := h.cut k cap hc
  have r1 := fun w => run_slice_lo (P := Try.prog) (T := 22) (E := 5) Try.underlying22 (by kernel_rfl) w A bs.length cap i (by omega) hc
  have r2 := fun w => run_slice_lo (P := Try.prog) (T := 22) (E := 5) Try.underlying22 (by kernel_rfl) w A bs.length cap k (by omega) hc
  generalize (if cap = i then A else A.map (·.add i)) = A1 at h1 r1
  generalize (if cap = k then A else A.map (·.add k)) = A2 at h2 r2
  go_enter Try.func27, Try.ntmps27
  go_wp2_with ((with_reducible refine (place_any _ _ _ _ _ (by omega)).mono ?_); rintro e w' ⟨rfl, rfl⟩)
  clear h
  go_quiet (fail)
  clear r1 r2
  go_wp2
  go_loopw [10, 33] (fun _ v wr => ∃ n : Nat, v = .int .i64 n ∧ n ≤ 130 ∧ i + n ≤ bs.length ∧ k + n ≤ bs.length ∧ n ≤ com bs i k ∧ ∃ m, wr = w.drewN m) (fun _ v _ => 130 - (intOf v).toNat)
  case atStart => exact ⟨0, rfl, by omega, by omega, by omega, by omega, _, rfl⟩
  case round =>
    obtain ⟨n, rfl, hn, hin, hkn, hl, m, rfl⟩ := hrel
    by_cases hlt : n < 130 ∧ i + n < bs.length ∧ k + n < bs.length
    · obtain ⟨l1, l2, l3⟩ := hlt
      obtain ⟨ad1, rfl, c1⟩ := h1.at_ n (by simp; omega)
      obtain ⟨ad2, rfl, c2⟩ := h2.at_ n (by simp; omega)
      have same : Hid ((bs[i + n].toNat : Int) = bs[k + n].toNat → n + 1 ≤ com bs i k) := fun e => com_ge (by omega) fun j hj => by
        by_cases hjn : j < n
        · exact com_lt (Nat.lt_of_lt_of_le hjn hl)
        · obtain rfl : j = n := by omega
          exact ⟨bs[i + j], List.getElem?_eq_getElem l2, by rw [List.getElem?_eq_getElem l3, UInt8.toNat_inj.1 (Int.ofNat_inj.1 e)]⟩
      have diff : Hid ((bs[i + n].toNat : Int) ≠ bs[k + n].toNat → com bs i k = n) := fun e => by
        rcases Nat.lt_or_ge n (com bs i k) with hlt | hge
        · obtain ⟨c, e1, e2⟩ := com_lt hlt
          rw [List.getElem?_eq_getElem l2] at e1
          rw [List.getElem?_eq_getElem l3] at e2
          rw [Option.some.inj e1, Option.some.inj e2] at e
          exact (e rfl).elim
        · omega
      go_wp2
      go_quiet (fail)
      go_wp2
      · rename_i hd
        go_ret
        exact ⟨by have := diff.out (by simpa using hd); rw [this]; simp, _, World.drewN_drewN ..⟩
      · rename_i hd
        go_roundw
        case rel => exact ⟨n + 1, by go_num, by omega, by omega, by omega, same.out (by simpa using hd), _, rfl⟩
        case measure => simp [intOf]; omega
    · have fin : Hid (com bs i k = n) := by
        have h3 := com_le bs i k
        have h4 := com_len bs i k
        show com bs i k = n
        omega
      go_wp2
      go_ret
      exact ⟨by have := fin.out; rw [this]; simp; omega, _, rfl⟩

set_option maxHeartbeats 400000 in
theorem common_any (A : Option Addr) (cap : Nat) (i k : Int) (bs : List UInt8) (w : World) (hc : bs.length ≤ cap) (hm : cap ≤ maxLen) (h : Bs w A bs) :
    Calls Try.prog 27 #[.slice A bs.length cap, .int .i64 i, .int .i64 k] w fun e w' => e = .returned (.int .i64 (comZ bs i k)) ∧ ∃ n, w' = w.drewN n := by
  by_cases hi : (0 ≤ i ∧ i < bs.length) ∧ (0 ≤ k ∧ k < bs.length)
  · obtain ⟨⟨i0, i1⟩, k0, k1⟩ := hi
    obtain ⟨i, rfl⟩ := Int.eq_ofNat_of_zero_le i0
    obtain ⟨k, rfl⟩ := Int.eq_ofNat_of_zero_le k0
    have hz : comZ bs i k = com bs i k := by unfold comZ; rw [if_pos ⟨i0, k0⟩]; rfl
    rw [hz]
    exact common_in A cap i k bs w hc hm h (by omega) (by omega)
  · have hz : comZ bs i k = 0 := by
      unfold comZ
      split
      · have := com_len bs i.toNat k.toNat; omega
      · rfl
    rw [hz]
    have hm' := hm
    unfold maxLen at hm
    clear h
    by_cases hi1 : 0 ≤ i ∧ i < bs.length
    · obtain ⟨i0, i1⟩ := hi1
      have hk : (decide (0 ≤ k) && decide (k < (bs.length : Int))) = false := by simp; omega
      clear hi hz
      go_enter Try.func27, Try.ntmps27
      go_wp2_with ((with_reducible refine (place_any _ _ _ _ _ (by omega)).mono ?_); rintro e w' ⟨rfl, rfl⟩)
      go_ret
      exact ⟨rfl, 0, rfl⟩
    · have hk : (decide (0 ≤ i) && decide (i < (bs.length : Int))) = false := by simp; omega
      clear hi hz hi1
      go_enter Try.func27, Try.ntmps27
      go_wp2_with ((with_reducible refine (place_any _ _ _ _ _ (by omega)).mono ?_); rintro e w' ⟨rfl, rfl⟩)
      go_ret
      exact ⟨rfl, 0, rfl⟩

/-- A pair of ints. -/
abbrev pv (d n : Int) : Value := .agg #[.int .i64 d, .int .i64 n]

set_option maxHeartbeats 400000 in
theorem clean_any (d n : Int) (w : World)  :
    Calls Try.prog 25 #[pv d n] w fun e w' => e = .returned (pv (if n < 3 then 0 else d) (if n < 3 then 0 else n)) ∧ Below w.heap.size w w' := by
  by_cases hn : n < 3
  · rw [if_pos hn, if_pos hn]
    go_enter Try.func25, Try.ntmps25
    go_wp2
    exact bodyPost_ret (v := pv 0 0) (by simp [results, Try.results25, go_sem]) rfl ⟨rfl, by (repeat (first | exact Below.refl _ _ | refine Below.setCell ?_ (by simp) _ | refine Below.drewN ?_ _ | refine Below.drew ?_ | refine Below.alloc ?_ (by simp) _))⟩
  · rw [if_neg hn, if_neg hn]
    go_enter Try.func25, Try.ntmps25
    go_wp2
    exact bodyPost_ret (v := pv d n) (by simp [results, Try.results25, go_sem]) rfl ⟨rfl, by (repeat (first | exact Below.refl _ _ | refine Below.setCell ?_ (by simp) _ | refine Below.drewN ?_ _ | refine Below.drew ?_ | refine Below.alloc ?_ (by simp) _))⟩

set_option maxHeartbeats 1000000 in
theorem better_any (A : Option Addr) (cap : Nat) (d n at_ from_ : Nat) (bs : List UInt8) (w : World) (hc : bs.length ≤ cap) (hm : cap ≤ maxLen) (h : Bs w A bs) (hf : from_ ≤ at_) (ha : at_ ≤ maxLen) :
    Calls Try.prog 24 #[.slice A bs.length cap, .int .i64 at_, .int .i64 from_, pv d n] w fun e w' =>
      e = .returned (pv (better d n (at_ - from_) (com bs from_ at_)).1 (better d n (at_ - from_) (com bs from_ at_)).2) ∧ Below w.heap.size w w' := by
  have hz : comZ bs from_ at_ = com bs from_ at_ := by unfold comZ; rw [if_pos ⟨by omega, by omega⟩]; rfl
  have hcm : Hid (Calls Try.prog 27 #[.slice A bs.length cap, .int .i64 from_, .int .i64 at_] ((w.alloc (.cells #[.int .i64 d, .int .i64 n] 42)).alloc (.cells #[.int .i64 0, .int .i64 0] 42))
      fun e w' => e = .returned (.int .i64 (com bs from_ at_)) ∧ ∃ k, w' = (((w.alloc (.cells #[.int .i64 d, .int .i64 n] 42)).alloc (.cells #[.int .i64 0, .int .i64 0] 42)).drewN k)) := by
    have := common_any A cap from_ at_ bs _ hc hm ((h.alloc (.cells #[.int .i64 d, .int .i64 n] 42)).alloc (.cells #[.int .i64 0, .int .i64 0] 42))
    rw [hz] at this
    exact this
  clear hz h
  unfold maxLen at hm ha
  generalize com bs from_ at_ = c at *
  have hsub : ((at_ - from_ : Nat) : Int) = (at_ : Int) - from_ := by omega
  have hB : better d n (at_ - from_) c = if n < c ∨ (c = n ∧ 0 < c ∧ at_ - from_ < d) then (at_ - from_, c) else (d, n) := rfl
  by_cases h1 : n < c
  · rw [if_pos (.inl h1)] at hB
    rw [hB]; simp only [hsub]; clear hB hsub
    go_enter Try.func24, Try.ntmps24
    go_wp2_with ((with_reducible refine (hcm.out).mono ?_); rintro e w' ⟨rfl, nq, rfl⟩)
    exact bodyPost_ret (v := pv ((at_ : Int) - from_) c) (by simp [results, Try.results24, go_sem]) rfl ⟨rfl, by (repeat (first | exact Below.refl _ _ | refine Below.setCell ?_ (by simp) _ | refine Below.drewN ?_ _ | refine Below.drew ?_ | refine Below.alloc ?_ (by simp) _))⟩
  · by_cases h2 : c = n
    · subst h2
      by_cases h3 : 0 < c ∧ at_ - from_ < d
      · rw [if_pos (.inr ⟨rfl, h3⟩)] at hB
        rw [hB]; simp only [hsub]; clear hB hsub
        obtain ⟨h3, h4⟩ := h3
        have h4' : (at_ : Int) - from_ < d := by omega
        clear h4
        go_enter Try.func24, Try.ntmps24
        go_wp2_with ((with_reducible refine (hcm.out).mono ?_); rintro e w' ⟨rfl, nq, rfl⟩)
        exact bodyPost_ret (v := pv ((at_ : Int) - from_) c) (by simp [results, Try.results24, go_sem]) rfl ⟨rfl, by (repeat (first | exact Below.refl _ _ | refine Below.setCell ?_ (by simp) _ | refine Below.drewN ?_ _ | refine Below.drew ?_ | refine Below.alloc ?_ (by simp) _))⟩
      · rw [if_neg (by omega)] at hB
        rw [hB]; clear hB
        by_cases h0 : 0 < c
        · have h4' : (d : Int) ≤ (at_ : Int) - from_ := by omega
          clear hsub h3
          go_enter Try.func24, Try.ntmps24
          go_wp2_with ((with_reducible refine (hcm.out).mono ?_); rintro e w' ⟨rfl, nq, rfl⟩)
          exact bodyPost_ret (v := pv d c) (by simp [results, Try.results24, go_sem]) rfl ⟨rfl, by (repeat (first | exact Below.refl _ _ | refine Below.setCell ?_ (by simp) _ | refine Below.drewN ?_ _ | refine Below.drew ?_ | refine Below.alloc ?_ (by simp) _))⟩
        · clear hsub h3 h1
          go_enter Try.func24, Try.ntmps24
          go_wp2_with ((with_reducible refine (hcm.out).mono ?_); rintro e w' ⟨rfl, nq, rfl⟩)
          exact bodyPost_ret (v := pv d c) (by simp [results, Try.results24, go_sem]) rfl ⟨rfl, by (repeat (first | exact Below.refl _ _ | refine Below.setCell ?_ (by simp) _ | refine Below.drewN ?_ _ | refine Below.drew ?_ | refine Below.alloc ?_ (by simp) _))⟩
    · rw [if_neg (by omega)] at hB
      rw [hB]; clear hB hsub
      have h2' : ((c : Int) == (n : Int)) = false := by simp; omega
      have h1' : (c : Int) ≤ n := by omega
      clear h2 h1
      go_enter Try.func24, Try.ntmps24
      go_wp2_with ((with_reducible refine (hcm.out).mono ?_); rintro e w' ⟨rfl, nq, rfl⟩)
      exact bodyPost_ret (v := pv d n) (by simp [results, Try.results24, go_sem]) rfl ⟨rfl, by (repeat (first | exact Below.refl _ _ | refine Below.setCell ?_ (by simp) _ | refine Below.drewN ?_ _ | refine Below.drew ?_ | refine Below.alloc ?_ (by simp) _))⟩

/-- The distances that Longest has tried when it comes to a place. -/
theorem tried_step {k f : Nat} (hf : k - 256 ≤ f) (hk : f < k) (x : Nat) : (k - (f + 1) < x ∧ 1 ≤ x ∧ x ≤ min 256 k) ↔ (k - f < x ∧ 1 ≤ x ∧ x ≤ min 256 k) ∨ x = k - f := by omega
theorem best_pair {bs : List UInt8} {k d n : Nat} (h : clean (d, n) = best bs k) :
    ((if (n : Int) < 3 then (0 : Int) else d) = (best bs k).1) ∧ ((if (n : Int) < 3 then (0 : Int) else n) = (best bs k).2) := by
  rw [← h]
  unfold clean
  by_cases h3 : n < 3
  · have h3' : (n : Int) < 3 := by omega
    simp [h3, h3']
  · have h3' : ¬ (n : Int) < 3 := by omega
    simp [h3, h3']

end Go.Proofs.Ythbniljkgdkdnaa
