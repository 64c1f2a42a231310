/-
  Layer 6, the document's answer: bytes laid as such.
-/
import Derived.Test.YthbniljkgdkdnaaLzPack
import Derived.Test.YthbniljkgdkdnaaMatchRef
namespace Go.Proofs.Ythbniljkgdkdnaa
open Go.RowKit
set_option linter.unusedVariables false
set_option linter.unusedSimpArgs false

set_option maxRecDepth 100000 in
set_option maxHeartbeats 2000000 in
theorem rplain_any (A : Option Addr) (cap : Nat) (bs : List UInt8) (w : World) (hc : bs.length ≤ cap) (hm : cap ≤ maxLen) (hbs : Bs w A bs) (hlen : bs.length ≤ 100000) :
    Calls Try.prog 22 #[.slice A bs.length cap] w fun e w' => ∃ v, e = .returned v ∧ w'.ownsRow w.heap.size 5 1 v (plainE bs).length ((plainE bs).map bv) ∧ Below w.heap.size w w' := by
  unfold maxLen at hm
  have infoB' := Lib.hid infoB
  go_enter Try.func22, Try.ntmps22
  go_wp2_with fail
  go_loopw [0, 3] (fun u v' wr => ∃ (r o : List UInt8) (A' : Option Addr) (c' : Nat), u = .slice A' r.length c' ∧ r.length ≤ c' ∧ c' ≤ cap ∧ r.length ≤ bs.length ∧ Bs w A' r ∧ o ++ plainE r = plainE bs ∧ o.length + 2 * r.length ≤ 1000000 ∧ wr.ownsRow w.heap.size 5 1 v' o.length (o.map bv) ∧ Below w.heap.size w wr) (fun u _ _ => lenOf u)
  case atStart =>
    exact ⟨bs, [], A, cap, rfl, hc, Nat.le_refl _, Nat.le_refl _, hbs, rfl, by simp; omega, World.ownsRow_nil _ _ _ _, Below.refl _ _⟩
  case round =>
    clear hbs
    obtain ⟨r, o, A', c', rfl, hrc, hcc, hrb, hbs, hcat, hol, hown, hb⟩ := hrel
    by_cases hlt : 0 < r.length
    · have hlt2 : (0 : Int) < (r.length : Int) := by omega
      have hpl := plainE_step r hlt
      obtain ⟨n, hn⟩ : ∃ n, min r.length 128 = n + 1 := ⟨min r.length 128 - 1, by omega⟩
      have hmin : min (r.length : Int) 128 = ((n + 1 : Nat) : Int) := by omega
      rw [hn] at hpl
      simp only [Nat.add_sub_cancel] at hpl
      have r1 := fun w => run_slice_hi (P := Try.prog) (T := 22) (E := 5) Try.underlying22 (by kernel_rfl) w A' r.length c' (n + 1) (by omega)
      have r2 := fun w => run_slice_lo (P := Try.prog) (T := 22) (E := 5) Try.underlying22 (by kernel_rfl) w A' r.length c' (n + 1) (by omega) hrc
      have hcut := Bs.cut hbs (n + 1) c' hrc
      obtain ⟨A2, hA2⟩ : ∃ A2, (if c' = n + 1 then A' else A'.map (·.add (n + 1))) = A2 := ⟨_, rfl⟩
      rw [hA2] at r2 hcut
      clear hA2
      have hb1 := byteLo n
      have hb2 : (n : Int) % 256 = ((UInt8.ofNat n).toNat : Int) := by rw [UInt8.toNat_ofNat']; omega
      generalize UInt8.ofNat n = cb at *
      have hlen2 : (r.take (n + 1)).length = n + 1 := by simp; omega
      obtain ⟨n1, hn1⟩ : ∃ n1, n + 1 = n1 := ⟨_, rfl⟩
      have hn2 : (n1 : Int) - 1 = (n : Int) := by omega
      rw [hn1] at hmin r1 r2 hlen2 hcut hpl hn
      have hn3 : (n1 : Int) ≤ 128 := by omega
      have hrd2 := Bs.take hbs n1
      have hs1 := hb.size
      go_wp2_with (first
        | (at_builtin; refine wpList_append_any rfl _ _ 22 rfl w.heap.size 5 (.int .u8 0) 1 1 Try.underlying22 infoB'.out rfl (by decide) u3 o.length (o.map bv) rfl (hown.alloc (.cells #[bv cb] 5)) (some ⟨wr.heap.size, 0, none⟩) 1 1 [bv cb] rfl (Bs.new wr #[bv cb] 5 (0, 0) [cb] rfl) rfl (by simp [Value.oneCell']) (by unfold maxLen; omega) (by omega) (by simp; omega) ?_; intro v2 w2 ho2 hg2 _; have hb2 : Below w.heap.size w w2 := (hb.alloc hs1 (.cells #[bv cb] 5)).grown hg2 (by simp; omega) (fun q e => (hown.lt q e).1))
        | (at_builtin; refine wpList_append_any rfl _ _ 22 rfl w.heap.size 5 (.int .u8 0) 1 1 Try.underlying22 infoB'.out rfl (by decide) v2 (o.length + 1) (o.map bv ++ [bv cb]) rfl ho2 A' n1 c' ((r.take n1).map bv) rfl (Rd.below hrd2 hb2) (by rw [List.length_map]; omega) (bv_one _) (by unfold maxLen; omega) (by omega) hb2.size ?_; intro v3 w3 ho3 hg3 _))
      have hb3 : Below w.heap.size w w3 := hb2.grown hg3 hb2.size (fun q e => (ho2.lt q e).1)
      have hl3 : r.length - n1 = (r.drop n1).length := by simp
      have ho4 : w3.ownsRow w.heap.size 5 1 v3 (o ++ (cb :: r.take n1)).length ((o ++ (cb :: r.take n1)).map bv) := by
        have e1 : (o ++ (cb :: r.take n1)).length = o.length + 1 + n1 := by simp; omega
        have e2 : (o ++ (cb :: r.take n1)).map bv = o.map bv ++ [bv cb] ++ (r.take n1).map bv := by simp
        rw [e1, e2]
        exact ho3
      rw [hl3]
      clear hl3
      go_roundw
      case rel =>
        refine ⟨r.drop n1, o ++ (cb :: r.take n1), A2, c' - n1, rfl, by simp; omega, by omega, by simp; omega, hcut, ?_, by simp; omega, ho4, hb3⟩
        rw [← hcat, hpl]
        simp
      case measure => simp [lenOf]; omega
    · have hr0 : r = [] := List.eq_nil_of_length_eq_zero (by omega)
      subst hr0
      have hlt2 : ¬ (0 : Int) < (([] : List UInt8).length : Int) := by simp
      go_wp2_with fail
      go_ret
      rw [plainE_nil, List.append_nil] at hcat
      rw [hcat] at hown
      exact ⟨_, rfl, hown, hb⟩
theorem rlong_nat (A : Option Addr) (cap i : Nat) (k : Int) (hk : k = (i : Int)) (bs : List UInt8) (w : World) (hc : bs.length ≤ cap) (hm : cap ≤ maxLen) (h : Bs w A bs) :
    Calls Try.prog 21 #[.slice A bs.length cap, .int .i64 k] w fun e w' => e = .returned (.tuple #[.int .i64 ((best bs i).1 : Int), .int .i64 ((best bs i).2 : Int)]) ∧ ∃ n, w' = w.drewN n := by
  subst hk
  refine (rlongest_any A cap (i : Int) bs w hc hm h).mono ?_
  rintro e w' ⟨rfl, h⟩
  rw [if_pos (by omega), show (i : Int).toNat = i by omega]
  exact ⟨rfl, h⟩

set_option maxRecDepth 100000 in
set_option maxHeartbeats 2000000 in
theorem rsteps_any (A : Option Addr) (cap : Nat) (bs : List UInt8) (w : World) (hc : bs.length ≤ cap) (hm : cap ≤ maxLen) (hbs : Bs w A bs) (hlen : bs.length ≤ 100000) :
    Calls Try.prog 16 #[.slice A bs.length cap] w fun e w' => ∃ v, e = .returned v ∧ w'.ownsRow w.heap.size 5 1 v (enc bs).length ((enc bs).map bv) ∧ Below w.heap.size w w' := by
  have infoB' := Lib.hid infoB
  obtain ⟨E, hE⟩ : ∃ E, enc bs = E := ⟨_, rfl⟩
  rw [hE]
  have hstart : [] ++ encF bs bs.length 0 0 = E := by rw [← hE]; rfl
  clear hE
  go_enter Try.func16, Try.ntmps16
  go_wp2_with fail
  go_loopw [3, 4, 5] (fun x u v wr => ∃ (fr i f : Nat) (o : List UInt8), u = .int .i64 fr ∧ v = .int .i64 i ∧ fr ≤ i ∧ i ≤ bs.length ∧ bs.length ≤ i + f ∧ o ++ encF bs f i fr = E ∧ o.length ≤ 2 * fr + 1 ∧ wr.ownsRow w.heap.size 5 1 x o.length (o.map bv) ∧ Below w.heap.size w wr) (fun _ _ v _ => bs.length - (intOf v).toNat)
  case atStart => exact ⟨0, 0, bs.length, [], rfl, rfl, by omega, by omega, by omega, hstart, by simp, World.ownsRow_nil _ _ _ _, Below.refl _ _⟩
  case round =>
    clear hstart
    obtain ⟨fr, i, f, o, rfl, rfl, hfi, hil, hif, hcat, hol, hown, hb⟩ := hrel
    have hm' := hm
    unfold maxLen at hm'
    by_cases hlt : i < bs.length
    · have hb1 := best_le bs i
      have hb2 := best_le bs (i + 1)
      obtain ⟨f, rfl⟩ : ∃ f', f = f' + 1 := ⟨f - 1, by omega⟩
      have hskip := Lib.hid (encF_skip bs f i fr hlt)
      have hmat := Lib.hid (encF_match bs f i fr hlt)
      have hspec := Lib.hid (best_zero_or bs i)
      have kl1 := fun W h => rlong_nat A cap i (i : Int) rfl bs W hc hm h
      have kl2 := fun W h => rlong_nat A cap (i + 1) ((i : Int) + 1) (by omega) bs W hc hm h
      obtain ⟨D, hD⟩ : ∃ D, (best bs i).1 = D := ⟨_, rfl⟩
      obtain ⟨n, hn⟩ : ∃ n, (best bs i).2 = n := ⟨_, rfl⟩
      obtain ⟨nx, hnx⟩ : ∃ nx, (best bs (i + 1)).2 = nx := ⟨_, rfl⟩
      rw [hD, hn] at hspec hmat hb1 kl1
      rw [hn, hnx] at hskip
      rw [hnx] at hmat hb2 kl2
      clear hD hn hnx
      replace kl1 := Lib.hid kl1
      replace kl2 := Lib.hid kl2
      have n1 : (n : Int) ≤ 130 := by omega
      have n2 : (nx : Int) ≤ 130 := by omega
      go_wp2_with fail
      refine (kl1.out _ (hbs.below hb)).mono ?_
      rintro e wx ⟨rfl, q1, rfl⟩
      have hb3 := hb.drewN q1
      have ho3 : (wr.drewN q1).ownsRow w.heap.size 5 1 u3 o.length (o.map bv) := hown
      clear hb hown
      generalize wr.drewN q1 = wy at *
      go_wp2_with fail
      refine (kl2.out _ (hbs.below hb3)).mono ?_
      rintro e wx ⟨rfl, q2, rfl⟩
      have hbx := hb3.drewN q2
      have hox : (wy.drewN q2).ownsRow w.heap.size 5 1 u3 o.length (o.map bv) := ho3
      clear hb3 ho3
      generalize wy.drewN q2 = x at *
      clear kl1 kl2
      by_cases h0 : n = 0
      · have e0 : ((n : Int) == 0) = true := by simp; omega
        rw [hskip.out (.inl h0)] at hcat
        clear hskip hmat hspec h0
        go_wp2_with fail
        go_roundw
        case rel => exact ⟨fr, i + 1, f, o, rfl, by go_num, by omega, by omega, by omega, hcat, hol, hox, hbx⟩
        case measure => simp [intOf]; omega
      · have e0 : ((n : Int) == 0) = false := by simp; omega
        by_cases h1 : n < nx
        · have e1 : decide ((n : Int) < (nx : Int)) = true := by simp; omega
          rw [hskip.out (.inr h1)] at hcat
          clear hskip hmat hspec h0
          go_wp2_with fail
          go_roundw
          case rel => exact ⟨fr, i + 1, f, o, rfl, by go_num, by omega, by omega, by omega, hcat, hol, hox, hbx⟩
          case measure => simp [intOf]; omega
        · have e1 : decide ((n : Int) < (nx : Int)) = false := by simp; omega
          rw [hmat.out (by omega)] at hcat
          obtain ⟨s1, s2, s3, s4, _⟩ := hspec.out h0
          clear hskip hmat hspec
          have r1 := fun w => run_slice_mid (P := Try.prog) (T := 22) (E := 5) Try.underlying22 (by kernel_rfl) w A bs.length cap fr i hfi (by omega)
          have hsl := seg_len bs hfi hil
          have hsb := seg_bs (i := fr) (k := i) (hbs.below hbx) hc
          obtain ⟨A1, hA1⟩ : ∃ A1, (if cap = fr then A else A.map (·.add fr)) = A1 := ⟨_, rfl⟩
          rw [hA1] at r1 hsb
          clear hA1
          have kp := fun W h => rplain_any A1 (cap - fr) (seg bs fr i) W (by omega) (by unfold maxLen; omega) h (by omega)
          have hpl := plainE_len _ (seg bs fr i) (Nat.le_refl _)
          rw [hsl] at kp hpl
          obtain ⟨P, hP⟩ : ∃ P, plainE (seg bs fr i) = P := ⟨_, rfl⟩
          rw [hP] at kp hcat hpl
          obtain ⟨Pl, hPl⟩ : ∃ m, P.length = m := ⟨_, rfl⟩
          rw [hPl] at kp hpl
          have hpl2 : Pl ≤ 2 * (i - fr) := by omega
          replace hPl := Lib.hid hPl
          clear hpl
          replace kp := Lib.hid kp
          clear hP hsl
          obtain ⟨rest, hrest⟩ : ∃ r, encF bs f (i + n) (i + n) = r := ⟨_, rfl⟩
          rw [hrest] at hcat
          replace hrest := Lib.hid hrest
          unfold laidM at hcat
          have t2a : IntKind.i64.wrap (128 + (n : Int)) = 128 + (n : Int) := IntWalk.i64_in _ (by omega)
          have t2 : 128 + (n : Int) - 3 = ((UInt8.ofNat (128 + n - 3)).toNat : Int) := by rw [UInt8.toNat_ofNat']; omega
          have t3 : (D : Int) - 1 = ((UInt8.ofNat (D - 1)).toNat : Int) := by rw [UInt8.toNat_ofNat']; omega
          generalize UInt8.ofNat (128 + n - 3) = c2 at *
          generalize UInt8.ofNat (D - 1) = c3 at *
          have c2l := c2.toNat_lt
          have c3l := c3.toNat_lt
          have Db : (D : Int) ≤ 256 := by omega
          go_wp2_with fail
          refine (kp.out _ hsb).mono ?_
          rintro e w2 ⟨v2, rfl, ho2, hb2⟩
          obtain ⟨Ap, cp, hv2, _, _, hrp⟩ := own_slice ho2
          subst hv2
          have hb4 := hbx.trans (hb2.mono hbx.size)
          have ho4 := (Kept.of_below (M := fun _ => False) hb2).own hox (fun _ _ e => e)
          clear ho2 hb2 kp hsb hox hbx
          go_wp2_with (first
            | (at_builtin; refine wpList_append_any rfl _ _ 22 rfl w.heap.size 5 (.int .u8 0) 1 1 Try.underlying22 infoB'.out rfl (by decide) u3 o.length (o.map bv) rfl ho4 Ap Pl cp (P.map bv) rfl hrp (by rw [List.length_map, hPl.out]; omega) (bv_one _) (by unfold maxLen; omega) (by omega) hb4.size ?_; intro v5 w5 ho5 hg5 _; have hb5 : Below w.heap.size w w5 := hb4.grown hg5 hb4.size (fun q e => (ho4.lt q e).1))
            | (at_builtin; refine wpList_append_any rfl _ _ 22 rfl w.heap.size 5 (.int .u8 0) 1 1 Try.underlying22 infoB'.out rfl (by decide) v5 (o.length + Pl) (o.map bv ++ P.map bv) rfl (ho5.alloc (.cells #[bv c2, bv c3] 5)) (some ⟨w5.heap.size, 0, none⟩) 2 2 [bv c2, bv c3] rfl (Bs.new w5 #[bv c2, bv c3] 5 (0, 0) [c2, c3] rfl) rfl (by simp [Value.oneCell']) (by unfold maxLen; omega) (by omega) (by have := hb5.size; simp; omega) ?_; intro v6 w6 ho6 hg6 _; have hb6 : Below w.heap.size w w6 := (hb5.alloc hb5.size (.cells #[bv c2, bv c3] 5)).grown hg6 (by have := hb5.size; simp; omega) (fun q e => (ho5.lt q e).1)))
          have ho7 : w6.ownsRow w.heap.size 5 1 v6 (o ++ P ++ [c2, c3]).length ((o ++ P ++ [c2, c3]).map bv) := by
            have e1 : (o ++ P ++ [c2, c3]).length = o.length + Pl + 2 := by rw [← hPl.out]; simp; omega
            have e2 : (o ++ P ++ [c2, c3]).map bv = o.map bv ++ P.map bv ++ [bv c2, bv c3] := by simp
            rw [e1, e2]
            exact ho6
          go_roundw
          case rel =>
            refine ⟨i + n, i + n, f, o ++ P ++ [c2, c3], by go_num, by go_num, by omega, by omega, by omega, ?_, ?_, ho7, hb6⟩
            · rw [hrest.out, ← hcat]; simp
            · simp only [List.length_append, List.length_cons, List.length_nil, hPl.out]; omega
          case measure => simp [intOf]; omega
    · have hi : i = bs.length := by omega
      rw [encF_end bs f i fr (by omega)] at hcat
      have i1 : ¬ (i : Int) < (bs.length : Int) := by omega
      have r1 := fun w => run_slice_lo (P := Try.prog) (T := 22) (E := 5) Try.underlying22 (by kernel_rfl) w A bs.length cap fr (by omega) hc
      have hsb := Bs.cut (hbs.below hb) fr cap hc
      have hsl : (bs.drop fr).length = bs.length - fr := by simp
      obtain ⟨A1, hA1⟩ : ∃ A1, (if cap = fr then A else A.map (·.add fr)) = A1 := ⟨_, rfl⟩
      rw [hA1] at r1 hsb
      clear hA1
      have kp := fun W h => rplain_any A1 (cap - fr) (bs.drop fr) W (by omega) (by unfold maxLen; omega) h (by omega)
      have hpl := plainE_len _ (bs.drop fr) (Nat.le_refl _)
      rw [hsl] at kp hpl
      obtain ⟨P, hP⟩ : ∃ P, plainE (bs.drop fr) = P := ⟨_, rfl⟩
      rw [hP] at kp hcat hpl
      obtain ⟨Pl, hPl⟩ : ∃ m, P.length = m := ⟨_, rfl⟩
      rw [hPl] at kp hpl
      have hpl2 : Pl ≤ 2 * (bs.length - fr) := by omega
      replace hPl := Lib.hid hPl
      clear hpl
      replace kp := Lib.hid kp
      clear hP hsl
      go_wp2_with fail
      refine (kp.out _ hsb).mono ?_
      rintro e w2 ⟨v2, rfl, ho2, hb2⟩
      obtain ⟨Ap, cp, hv2, _, _, hrp⟩ := own_slice ho2
      subst hv2
      have hb4 := hb.trans (hb2.mono hb.size)
      have ho4 := (Kept.of_below (M := fun _ => False) hb2).own hown (fun _ _ e => e)
      clear ho2 hb2 kp hsb hown hb
      go_wp2_with (at_builtin; refine wpList_append_any rfl _ _ 22 rfl w.heap.size 5 (.int .u8 0) 1 1 Try.underlying22 infoB'.out rfl (by decide) u3 o.length (o.map bv) rfl ho4 Ap Pl cp (P.map bv) rfl hrp (by rw [List.length_map, hPl.out]; omega) (bv_one _) (by unfold maxLen; omega) (by omega) hb4.size ?_; intro v5 w5 ho5 hg5 _; have hb5 : Below w.heap.size w w5 := hb4.grown hg5 hb4.size (fun q e => (ho4.lt q e).1))
      go_ret
      refine ⟨v5, rfl, ?_, hb5⟩
      rw [← hcat, List.length_append, List.map_append, hPl.out]
      exact ho5

set_option maxHeartbeats 1000000 in
theorem rpack_rd (A : Option Addr) (n cap : Nat) (bs : List UInt8) (w : World) (hn : bs.length = n) (hc : n ≤ cap) (hm : cap ≤ maxLen) (hbs : Bs w A bs) (hlen : n ≤ 100000) :
    Calls Try.prog 12 #[.slice A n cap] w fun e w' => ∃ A' c', e = .returned (.slice A' (packB bs).length c') ∧ Bs w' A' (packB bs) ∧ Below w.heap.size w w' := by
  subst hn
  have hs := rsteps_any A cap bs w hc hm hbs hlen
  unfold packB
  obtain ⟨E, hE⟩ : ∃ E, enc bs = E := ⟨_, rfl⟩
  rw [hE] at hs ⊢
  clear hE
  obtain ⟨m, hel⟩ : ∃ m, E.length = m := ⟨_, rfl⟩
  rw [hel] at hs
  replace hs := Lib.hid hs
  unfold maxLen at hm
  have infoB' := Lib.hid infoB
  by_cases h : m < bs.length
  · have h2 : (m : Int) < (bs.length : Int) := by omega
    rw [if_pos (show E.length < bs.length by omega), List.length_cons]
    go_enter Try.func12, Try.ntmps12
    go_wp2_with fail
    refine hs.out.mono ?_
    rintro e w1 ⟨v1, rfl, ho1, hb1⟩
    obtain ⟨A1, c1, hv1, hle1, hmx1, hrd1⟩ := own_slice ho1
    subst hv1
    have hs1 := hb1.size
    have hb2 := hb1.alloc hs1 (.cells #[bv 1] 5)
    have hbs2 : Bs (w1.alloc (.cells #[bv 1] 5)) A1 E := Bs.alloc hrd1 _
    have hown : (w1.alloc (.cells #[bv 1] 5)).ownsRow w.heap.size 5 1 (.slice (some ⟨w1.heap.size, 0, none⟩) 1 1) 1 [bv 1] := ⟨rfl, .inr ⟨w1.heap.size, 1, #[bv 1], rfl, hs1, heap_alloc_new w1 _, Nat.le_refl _, by unfold maxLen; omega, rfl, rfl⟩⟩
    clear hrd1 ho1
    go_wp2_with (at_builtin; refine wpList_append_any rfl _ _ 22 rfl w.heap.size 5 (.int .u8 0) 1 1 Try.underlying22 infoB'.out rfl (by decide) (.slice (some ⟨w1.heap.size, 0, none⟩) 1 1) 1 [bv 1] rfl hown A1 m c1 (E.map bv) rfl hbs2 (by rw [List.length_map]; omega) (bv_one E) (by unfold maxLen; omega) (by omega) (by simp; omega) ?_; intro v2 w2 ho2 hg2 _; have hb3 : Below w.heap.size w w2 := hb2.grown hg2 hb2.size (fun q e => by have e1 : w1.heap.size = q := Option.some.inj e; omega))
    obtain ⟨A3, c3, hv3, _, _, hrd3⟩ := own_slice ho2
    subst hv3
    go_ret
    refine ⟨A3, c3, ?_, ?_, hb3⟩
    · rw [show E.length + 1 = 1 + m by omega]; rfl
    · unfold Bs
      simpa using hrd3
  · have h2 : ¬ (m : Int) < (bs.length : Int) := by omega
    rw [if_neg (show ¬ E.length < bs.length by omega)]
    go_enter Try.func12, Try.ntmps12
    go_wp2_with fail
    refine hs.out.mono ?_
    rintro e w1 ⟨v1, rfl, ho1, hb1⟩
    obtain ⟨A1, c1, hv1, hle1, hmx1, _⟩ := own_slice ho1
    subst hv1
    have hs1 := hb1.size
    have hb2 := hb1.alloc hs1 (.cells #[bv 0] 5)
    have hbs2 : Bs (w1.alloc (.cells #[bv 0] 5)) A bs := (hbs.below hb1).alloc _
    have hown : (w1.alloc (.cells #[bv 0] 5)).ownsRow w.heap.size 5 1 (.slice (some ⟨w1.heap.size, 0, none⟩) 1 1) 1 [bv 0] := ⟨rfl, .inr ⟨w1.heap.size, 1, #[bv 0], rfl, hs1, heap_alloc_new w1 _, Nat.le_refl _, by unfold maxLen; omega, rfl, rfl⟩⟩
    clear ho1
    go_wp2_with (at_builtin; refine wpList_append_any rfl _ _ 22 rfl w.heap.size 5 (.int .u8 0) 1 1 Try.underlying22 infoB'.out rfl (by decide) (.slice (some ⟨w1.heap.size, 0, none⟩) 1 1) 1 [bv 0] rfl hown A bs.length cap (bs.map bv) rfl hbs2 (by rw [List.length_map]; omega) (bv_one bs) (by unfold maxLen; omega) (by omega) (by simp; omega) ?_; intro v2 w2 ho2 hg2 _; have hb3 : Below w.heap.size w w2 := hb2.grown hg2 hb2.size (fun q e => by have e1 : w1.heap.size = q := Option.some.inj e; omega))
    obtain ⟨A3, c3, hv3, _, _, hrd3⟩ := own_slice ho2
    subst hv3
    go_ret
    refine ⟨A3, c3, ?_, ?_, hb3⟩
    · rw [show bs.length + 1 = 1 + bs.length by omega]; rfl
    · unfold Bs
      simpa using hrd3
end Go.Proofs.Ythbniljkgdkdnaa
