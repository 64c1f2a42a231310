/-
  Layer 6, the document's answer: what is unpacked.
-/
import Derived.Test.YthbniljkgdkdnaaLzRef
import Derived.Test.YthbniljkgdkdnaaLzUnpack
namespace Go.Proofs.Ythbniljkgdkdnaa
open Go.RowKit
set_option linter.unusedVariables false
set_option linter.unusedSimpArgs false

set_option maxRecDepth 100000 in
set_option maxHeartbeats 2000000 in
theorem runpack_in (ad : Addr) (cap : Nat) (c : UInt8) (rest : List UInt8) (most : Int) (w : World) (hc : rest.length + 1 ≤ cap) (hm : cap ≤ maxLen) (hbs : Bs w (some ad) (c :: rest)) (hl : rest.length ≤ 100000) (h1 : c.toNat = 1) (hlo : -9223372036854775808 ≤ most) (hhi : most ≤ 1000000) :
    Calls Try.prog 14 #[.slice (some ad) (rest.length + 1) cap, .int .i64 most] w fun e w' => ∃ v, e = .returned (.tuple #[v, .int .i64 (decF (max most 0).toNat rest.length [] rest).2]) ∧ w'.ownsRow w.heap.size 5 1 v (decF (max most 0).toNat rest.length [] rest).1.length ((decF (max most 0).toNat rest.length [] rest).1.map bv) ∧ Below w.heap.size w w' := by
  unfold maxLen at hm
  have infoB' := Lib.hid infoB
  obtain ⟨ad1, e1, hc0⟩ := hbs.at_ 0 (by simp)
  obtain rfl := Option.some.inj e1
  clear e1
  have ead : ad.add 0 = ad := by unfold Addr.add; simp
  rw [ead] at hc0
  clear ead
  replace hc0 : w.cell? ad = some (.int .u8 (c.toNat : Int)) := hc0
  rw [h1] at hc0
  have hadb := World.block_lt_of_cell? w _ hc0
  obtain ⟨R, hR⟩ : ∃ R, decF (max most 0).toNat rest.length [] rest = R := ⟨_, rfl⟩
  rw [hR]
  obtain ⟨M, hM⟩ : ∃ M : Nat, max most 0 = M := ⟨(max most 0).toNat, by omega⟩
  rw [hM, Int.toNat_natCast] at hR
  have hMb : M ≤ 1000000 := by omega
  replace hR := Lib.hid hR
  obtain ⟨L, hL⟩ : ∃ L, rest.length + 1 = L := ⟨_, rfl⟩
  rw [hL] at hc ⊢
  have hLl : (c :: rest).length = L := by simpa using hL
  have L1 : 1 ≤ L := by omega
  have Lb : L ≤ 100001 := by omega
  have hLr : rest.length + 1 = L ∧ rest.length = L - 1 := by omega
  have hR2 := hR.out
  rw [hLr.2] at hR2
  replace hR2 := Lib.hid hR2
  clear hR hLr hL
  have hdr1 : (c :: rest).drop 1 = rest := rfl
  rw [← hdr1] at hR2
  clear hdr1 hl
  obtain ⟨p, hp⟩ : ∃ p, c :: rest = p := ⟨_, rfl⟩
  rw [hp] at hLl hR2 hbs
  clear hp
  have dl' : ((L : Int) == 0) = false := beq_false_of_ne (by omega)
  have dl0 : (0 : Int) < (L : Int) := by omega
  have dl1 : 0 < L := by omega
  go_enter Try.func14, Try.ntmps14
  go_wp2_with fail
  go_loopw [6, 7] (fun x u wr => ∃ (i f : Nat) (o : List UInt8), u = .int .i64 i ∧ 1 ≤ i ∧ i ≤ L ∧ L ≤ i + f ∧ o.length ≤ M ∧ decF M f o (p.drop i) = R ∧ wr.ownsRow w.heap.size 5 1 x o.length (o.map bv) ∧ Below w.heap.size w wr) (fun _ u _ => L - (intOf u).toNat)
  case atStart => exact ⟨1, L - 1, [], rfl, by omega, by omega, by omega, by simp, hR2.out, World.ownsRow_nil _ _ _ _, Below.refl _ _⟩
  case round =>
    clear hR2 hc0 dl'
    obtain ⟨i, f, o, rfl, hi1, hil, hif, hoM, hR, hown, hb⟩ := hrel
    obtain ⟨Ao, co, hvo, hoc, hom, hro⟩ := own_slice hown
    subst hvo
    by_cases hlt : i < L
    · obtain ⟨f, rfl⟩ : ∃ f', f = f' + 1 := ⟨f - 1, by omega⟩
      obtain ⟨c2, hc2⟩ : ∃ c2, p[i]? = some c2 := ⟨_, List.getElem?_eq_getElem (by omega)⟩
      have hdrop : p.drop i = c2 :: p.drop (i + 1) := by
        have := List.drop_eq_getElem_cons (l := p) (i := i) (by omega)
        rw [this]
        congr 1
        exact (List.getElem_eq_iff (by omega)).2 hc2
      obtain ⟨ad2, e2, hcell⟩ := Rd.at_ (Rd.below hbs hb) (k := i) (u := bv c2) (by rw [List.getElem?_map, hc2]; rfl)
      obtain rfl := Option.some.inj e2
      clear e2
      have hcl := c2.toNat_lt
      rw [hdrop] at hR
      clear hdrop hc2
      obtain ⟨j, hj⟩ : ∃ j, i + 1 = j := ⟨_, rfl⟩
      rw [hj] at hR
      have hj2 : (i : Int) + 1 = (j : Int) := by omega
      have hrl : (p.drop j).length = L - j := by simp; omega
      by_cases h : c2.toNat < 128
      · have d1 : decide ((c2.toNat : Int) < 128) = true := by simp; omega
        rw [decF_lit _ _ _ _ _ h] at hR
        obtain ⟨n, hn⟩ : ∃ n, c2.toNat + 1 = n := ⟨_, rfl⟩
        rw [hn, hrl] at hR
        have hn2 : (c2.toNat : Int) + 1 = (n : Int) := by omega
        have nb : (n : Int) ≤ 128 := by omega
        by_cases h2 : L - j < n
        · rw [if_pos h2] at hR
          have d2 : decide ((L : Int) - (j : Int) < (n : Int)) = true := by simp; omega
          clear hbs
          go_wp2_with fail
          go_ret2
          rw [← hR]
          exact ⟨_, rfl, World.ownsRow_nil _ _ _ _, hb⟩
        · rw [if_neg h2] at hR
          have d2 : decide ((L : Int) - (j : Int) < (n : Int)) = false := by simp; omega
          by_cases h3 : M - o.length < n
          · rw [if_pos h3] at hR
            have d3 : decide ((M : Int) - (o.length : Int) < (n : Int)) = true := by simp; omega
            clear hbs
            go_wp2_with fail
            go_ret2
            rw [← hR]
            exact ⟨_, rfl, World.ownsRow_nil _ _ _ _, hb⟩
          · rw [if_neg h3] at hR
            have d3 : decide ((M : Int) - (o.length : Int) < (n : Int)) = false := by simp; omega
            obtain ⟨k, hk⟩ : ∃ k, j + n = k := ⟨_, rfl⟩
            have hk2 : (j : Int) + (n : Int) = (k : Int) := by omega
            have r1 := fun w => run_slice_mid (P := Try.prog) (T := 22) (E := 5) Try.underlying22 (by kernel_rfl) w (some ad) L cap j k (by omega) (by omega)
            have hkj : k - j = n := by omega
            rw [hkj] at r1
            have hcut := Rd.below ((Bs.cut hbs j cap (by omega)).take n) hb
            obtain ⟨A1, hA1⟩ : ∃ A1, (if cap = j then some ad else (some ad).map (·.add j)) = A1 := ⟨_, rfl⟩
            rw [hA1] at r1 hcut
            clear hA1
            have htl : ((p.drop j).take n).length = n := by rw [List.length_take]; omega
            obtain ⟨xs, hxs⟩ : ∃ xs, (p.drop j).take n = xs := ⟨_, rfl⟩
            rw [hxs] at hR hcut htl
            replace htl := Lib.hid htl
            replace hxs := Lib.hid hxs
            rw [List.drop_drop, hk] at hR
            clear hro
            go_wp2_with (at_builtin; refine wpList_append_any rfl _ _ 22 rfl w.heap.size 5 (.int .u8 0) 1 1 Try.underlying22 infoB'.out rfl (by decide) (.slice Ao o.length co) o.length (o.map bv) rfl hown A1 n (cap - j) (xs.map bv) rfl hcut (by rw [List.length_map, htl.out]; omega) (bv_one xs) (by unfold maxLen; omega) (by omega) hb.size ?_; intro v2 w2 ho2 hg2 _; have hb2 : Below w.heap.size w w2 := hb.grown hg2 hb.size (fun q e => (hown.lt q e).1))
            go_roundw
            case rel =>
              refine ⟨k, f, o ++ xs, by go_num, by omega, by omega, by omega, ?_, hR, ?_, hb2⟩
              · rw [List.length_append, htl.out]; omega
              · rw [List.length_append, htl.out, List.map_append]; exact ho2
            case measure => simp [intOf]; omega
      · have d1 : decide ((c2.toNat : Int) < 128) = false := by simp; omega
        obtain ⟨N, hN⟩ : ∃ N, c2.toNat - 128 + 3 = N := ⟨_, rfl⟩
        have hN2 : (c2.toNat : Int) - 128 + 3 = (N : Int) := by omega
        have Nb : (N : Int) ≤ 130 := by omega
        by_cases hjl : j = L
        · have e0 : ((j : Int) == (L : Int)) = true := beq_iff_eq.2 (by omega)
          have e1 : (j == L) = true := beq_iff_eq.2 hjl
          rw [List.drop_of_length_le (by omega), decF_end _ _ _ _ h] at hR
          clear hbs
          go_wp2_with fail
          go_ret2
          rw [← hR]
          exact ⟨_, rfl, World.ownsRow_nil _ _ _ _, hb⟩
        · have e0 : ((j : Int) == (L : Int)) = false := beq_false_of_ne (by omega)
          have e1 : (j == L) = false := beq_false_of_ne hjl
          have hjL : j < L := by omega
          obtain ⟨c3, hc3⟩ : ∃ c3, p[j]? = some c3 := ⟨_, List.getElem?_eq_getElem (by omega)⟩
          have hdrop : p.drop j = c3 :: p.drop (j + 1) := by
            have := List.drop_eq_getElem_cons (l := p) (i := j) (by omega)
            rw [this]
            congr 1
            exact (List.getElem_eq_iff (by omega)).2 hc3
          obtain ⟨ad2, e2, hcell3⟩ := Rd.at_ (Rd.below hbs hb) (k := j) (u := bv c3) (by rw [List.getElem?_map, hc3]; rfl)
          obtain rfl := Option.some.inj e2
          clear e2 hc3
          have hc3l := c3.toNat_lt
          rw [hdrop, decF_far _ _ _ _ _ _ h, hN] at hR
          clear hdrop hrl
          obtain ⟨D, hD⟩ : ∃ D, c3.toNat + 1 = D := ⟨_, rfl⟩
          rw [hD] at hR
          have hD2 : (c3.toNat : Int) + 1 = (D : Int) := by omega
          have Db : (D : Int) ≤ 256 := by omega
          by_cases h2 : o.length < D
          · rw [if_pos h2] at hR
            have d2 : decide (o.length < D) = true := by simp; omega
            clear hbs
            go_wp2_with fail
            go_ret2
            rw [← hR]
            exact ⟨_, rfl, World.ownsRow_nil _ _ _ _, hb⟩
          · rw [if_neg h2] at hR
            have d2 : decide (o.length < D) = false := by simp; omega
            by_cases h3 : M - o.length < N
            · rw [if_pos h3] at hR
              have d3 : decide ((M : Int) - (o.length : Int) < (N : Int)) = true := by simp; omega
              clear hbs
              go_wp2_with fail
              go_ret2
              rw [← hR]
              exact ⟨_, rfl, World.ownsRow_nil _ _ _ _, hb⟩
            · rw [if_neg h3] at hR
              have d3 : decide ((M : Int) - (o.length : Int) < (N : Int)) = false := by simp; omega
              replace hR := Lib.hid hR
              have hDp : 1 ≤ D := by omega
              obtain ⟨j1, hj1⟩ : ∃ j1, j + 1 = j1 := ⟨_, rfl⟩
              have hj3 : (j : Int) + 1 = (j1 : Int) := by omega
              rw [hj1] at hR
              clear hro
              obtain ⟨wo, rfl⟩ : ∃ wo : World, wo = wr := ⟨_, rfl⟩
              go_wp2_with fail
              clear hcell hcell3
              go_loopw [6, 12] (fun x u wr => ∃ k : Nat, u = .int .i64 k ∧ k ≤ N ∧ wr.ownsRow w.heap.size 5 1 x (o.length + k) ((rep o D k).map bv) ∧ Below w.heap.size w wr) (fun _ u _ => N - (intOf u).toNat)
              case atStart => exact ⟨0, rfl, by omega, hown, hb⟩
              case round =>
                clear hown hb
                obtain ⟨k, rfl, hkN, hown, hb⟩ := hrel
                obtain ⟨Ax, cx, hvx, hxc, hxm, hrx⟩ := own_slice hown
                subst hvx
                by_cases hkl : k < N
                · have hrl := rep_len o D k
                  obtain ⟨P, hP⟩ : ∃ P, o.length + k = P := ⟨_, rfl⟩
                  obtain ⟨q, hq⟩ : ∃ q, P - D = q := ⟨_, rfl⟩
                  have hq2 : (P : Int) - (D : Int) = (q : Int) := by omega
                  have hqP : q < P := by omega
                  obtain ⟨c4, hc4⟩ : ∃ c4, (rep o D k)[q]? = some c4 := ⟨_, List.getElem?_eq_getElem (by omega)⟩
                  have hrs : rep o D (k + 1) = rep o D k ++ [c4] := by
                    rw [rep, List.getD_eq_getElem?_getD, show (rep o D k).length - D = q by omega, hc4]
                    rfl
                  obtain ⟨ad4, e4, hcell4⟩ := Rd.at_ hrx (k := q) (u := bv c4) (by rw [List.getElem?_map, hc4]; rfl)
                  subst e4
                  have Pb : P ≤ 1000000 := by omega
                  rw [hP] at hown hxc ⊢
                  rw [hP] at hrl
                  generalize rep o D k = ys at *
                  replace hrl := Lib.hid hrl
                  replace hrs := Lib.hid hrs
                  clear hrx hq hc4
                  have hs1 := hb.size
                  go_wp2_with (at_builtin; refine wpList_append_any rfl _ _ 22 rfl w.heap.size 5 (.int .u8 0) 1 1 Try.underlying22 infoB'.out rfl (by decide) (.slice (some ad4) P cx) P (ys.map bv) rfl (hown.alloc (.cells #[bv c4] 5)) (some ⟨wr.heap.size, 0, none⟩) 1 1 [bv c4] rfl (Bs.new wr #[bv c4] 5 (0, 0) [c4] rfl) rfl (by simp [Value.oneCell']) (by unfold maxLen; omega) (by omega) (by simp; omega) ?_; intro v2 w2 ho2 hg2 _; have hb2 : Below w.heap.size w w2 := (hb.alloc hs1 (.cells #[bv c4] 5)).grown hg2 (by simp; omega) (fun q e => (hown.lt q e).1))
                  go_roundw
                  case rel =>
                    refine ⟨k + 1, by go_num, by omega, ?_, hb2⟩
                    rw [hrs.out, List.map_append, show o.length + (k + 1) = P + 1 by omega]
                    exact ho2
                  case measure => simp [intOf]; omega
                · have hk : k = N := by omega
                  have hkl2 : ¬ (k : Int) < (N : Int) := by omega
                  have hrl := rep_len o D N
                  rw [hk] at hown hrx hxc ⊢
                  clear hrx
                  go_wp2_with fail
                  go_roundw
                  case rel =>
                    refine ⟨j1, f, rep o D N, by go_num, by omega, by omega, by omega, by omega, hR.out, ?_, hb⟩
                    rw [hrl]
                    exact hown
                  case measure => simp [intOf]; omega
    · have hi : i = L := by omega
      have hlt2 : ¬ (i : Int) < (L : Int) := by omega
      rw [List.drop_of_length_le (by omega), decF_nil] at hR
      clear hbs
      go_wp2_with fail
      go_ret2
      rw [← hR]
      exact ⟨_, rfl, hown, hb⟩

theorem runpack_rd (A : Option Addr) (n cap : Nat) (p : List UInt8) (most : Int) (w : World) (hn : p.length = n) (hc : n ≤ cap) (hm : cap ≤ maxLen) (hbs : Bs w A p) (hl : n ≤ 100000) (hlo : -9223372036854775808 ≤ most) (hhi : most ≤ 1000000) :
    Calls Try.prog 14 #[.slice A n cap, .int .i64 most] w fun e w' => ∃ A' c', e = .returned (.tuple #[.slice A' (unpB p most).1.length c', .int .i64 (unpB p most).2]) ∧ Bs w' A' (unpB p most).1 ∧ Below w.heap.size w w' := by
  subst hn
  have hm' := hm
  unfold maxLen at hm
  cases p with
  | nil =>
    have hu : unpB [] most = ([], 60) := rfl
    rw [hu]
    have e0 : ((0 : Int) == 0) = true := rfl
    go_enter Try.func14, Try.ntmps14
    go_wp2_with fail
    go_ret2
    exact ⟨none, 0, rfl, Rd.nil, Below.refl _ _⟩
  | cons c rest =>
    rw [List.length_cons] at *
    obtain ⟨ad, e1, hc0⟩ := hbs.at_ 0 (by simp)
    subst e1
    have ead : ad.add 0 = ad := by unfold Addr.add; simp
    rw [ead] at hc0
    clear ead
    replace hc0 : w.cell? ad = some (.int .u8 (c.toNat : Int)) := hc0
    have cb := c.toNat_lt
    have dl' : ((rest.length : Int) + 1 == 0) = false := beq_false_of_ne (by omega)
    unfold unpB
    dsimp only
    by_cases h1 : 1 < c.toNat
    · rw [if_pos h1]
      have d1 : decide (1 < (c.toNat : Int)) = true := by simp; omega
      clear hbs
      go_enter Try.func14, Try.ntmps14
      go_wp2_with fail
      go_ret2
      exact ⟨none, 0, rfl, Rd.nil, Below.refl _ _⟩
    · rw [if_neg h1]
      by_cases h0 : c.toNat = 0
      · rw [if_pos h0]
        rw [h0] at hc0
        obtain ⟨M, hM⟩ : ∃ M : Nat, max most 0 = M := ⟨(max most 0).toNat, by omega⟩
        rw [hM]
        by_cases h2 : (M : Int) < (rest.length : Int)
        · rw [if_pos h2]
          have d2 : decide ((M : Int) < (rest.length : Int)) = true := by simp; omega
          clear hbs
          go_enter Try.func14, Try.ntmps14
          go_wp2_with fail
          go_ret2
          exact ⟨none, 0, rfl, Rd.nil, Below.refl _ _⟩
        · rw [if_neg h2]
          have d2 : decide ((M : Int) < (rest.length : Int)) = false := by simp; omega
          have hcut := Bs.cut hbs 1 cap (by simpa using hc)
          have r1 : ∀ w, (Instr.slice 22 (.slice (some ad) (rest.length + 1) cap) (some (.int .i64 1)) none none).run Try.prog w = .ok (.slice (if cap = 1 then some ad else (some ad).map (·.add 1)) rest.length (cap - 1)) w := fun w => run_slice_lo (P := Try.prog) (T := 22) (E := 5) Try.underlying22 (by kernel_rfl) w (some ad) (rest.length + 1) cap 1 (by omega) hc
          obtain ⟨A1, hA1⟩ : ∃ A1, (if cap = 1 then some ad else (some ad).map (·.add 1)) = A1 := ⟨_, rfl⟩
          rw [hA1] at r1 hcut
          replace hcut : Bs w A1 rest := hcut
          clear hA1 hbs
          go_enter Try.func14, Try.ntmps14
          go_wp2_with fail
          go_ret2
          exact ⟨A1, ⟨cap - 1, rfl⟩, hcut, Below.refl _ _⟩
      · rw [if_neg h0]
        refine (runpack_in ad cap c rest most w hc hm' hbs (by omega) (by omega) hlo hhi).mono ?_
        rintro e w' ⟨v, rfl, ho, hb⟩
        obtain ⟨A', c', rfl, _, _, h3⟩ := own_slice ho
        exact ⟨A', c', rfl, h3, hb⟩
end Go.Proofs.Ythbniljkgdkdnaa
