/-
  Layer 6, the program: what bytes are packed into.
-/
import Derived.Test.YthbniljkgdkdnaaLzWalk
import Derived.Test.YthbniljkgdkdnaaMatchFlat
namespace Go.Proofs.Ythbniljkgdkdnaa
open Go.RowKit
set_option linter.unusedVariables false
set_option linter.unusedSimpArgs false

set_option maxHeartbeats 1000000 in
theorem lmatch_any (B g : Nat) (v : Value) (out : List UInt8) (d n : Nat) (w : World) (hbuf : Buf B w g 39 5 [] v out) (hd1 : 1 ≤ d) (hd2 : d ≤ 256) (hn1 : 3 ≤ n) (hn2 : n ≤ 130) (hsz : out.length ≤ 1000000) :
    Calls Try.prog 20 #[.pointer (some ⟨g, 0, none⟩), .int .i64 (d : Int), .int .i64 (n : Int)] w fun e w' => e = .returned (.tuple #[]) ∧ ∃ v', Grew w w' B g 39 5 [] v v' (out ++ laidM d n) := by
  obtain ⟨hrow, hown, hap, hbase⟩ := hbuf
  have c0 := (hrow.cell 0).trans (show #[v][0]? = some v from rfl)
  have f0 := hrow.free 0
  have hg := hrow.lt
  have h1 : IntKind.i64.wrap (128 + (n : Int)) = 128 + (n : Int) := IntWalk.i64_in _ (by omega)
  have h2 : 128 + (n : Int) - 3 = ((UInt8.ofNat (128 + n - 3)).toNat : Int) := by rw [UInt8.toNat_ofNat']; omega
  have h3 : (d : Int) - 1 = ((UInt8.ofNat (d - 1)).toNat : Int) := by rw [UInt8.toNat_ofNat']; omega
  unfold laidM
  generalize UInt8.ofNat (128 + n - 3) = c1 at *
  generalize UInt8.ofNat (d - 1) = c2 at *
  have hc1 := c1.toNat_lt
  have hc2 := c2.toNat_lt
  have hgr0 : Grew w (w.alloc (.cells #[bv c1, bv c2] 5)) B g 39 5 [] v v out := (Grew.refl ⟨hrow, hown, hap, hbase⟩).on ((Kept.refl _ _).alloc _)
  go_enter Try.func20, Try.ntmps20
  go_wp2_with (at_builtin; refine wpList_append_any rfl _ _ 22 rfl B 5 (.int .u8 0) 1 1 Try.underlying22 infoB rfl (by decide) v out.length (out.map bv) rfl (hown.alloc (.cells #[bv c1, bv c2] 5)) (some ⟨w.heap.size, 0, none⟩) 2 2 [bv c1, bv c2] rfl (Bs.new w #[bv c1, bv c2] 5 (0, 0) [c1, c2] rfl) rfl (by simp [Value.oneCell']) (by unfold maxLen; omega) (by omega) (by simp; omega) ?_; intro v2 w2 ho2 hg2 hn2; obtain ⟨A3, c3, hv2, _, _, _⟩ := own_slice ho2; subst hv2; have cc2 : w2.cell? ⟨g, 0, none⟩ = some v := (hg2.cell ((World.cell?_alloc_lt w _ ⟨g, 0, none⟩ hg).trans c0) (Ne.symm hap)); have f2 : w2.frozen? ⟨g, 0, none⟩ = false := (World.frozen?_of_block (a := ⟨g, 0, none⟩) ((hg2.block g (by simp; omega) (Ne.symm hap)).trans (Below.heap_alloc w _ g hg))).trans f0)
  rw [World.size_alloc] at hn2
  have hk1 : Kept (w.alloc (.cells #[bv c1, bv c2] 5)) w2 (fun k => v.ownBlock = some k) := Kept.of_grown hg2 (fun k _ e => e)
  have hfin := hgr0.store (o2 := out ++ [c1, c2]) hk1 (by simpa using ho2) (by
    rcases hn2 with h | h
    · exact .inl h
    · exact .inr ⟨_, h, by simp⟩)
  go_end0
  exact ⟨rfl, _, hfin⟩

theorem seg_bs {w : World} {A : Option Addr} {bs : List UInt8} {i k cap : Nat} (h : Bs w A bs) (hc : bs.length ≤ cap) : Bs w (if cap = i then A else A.map (·.add i)) (seg bs i k) := Bs.take (Bs.cut h i cap hc) (k - i)
theorem cut_block {A : Option Addr} {i cap : Nat} {ad : Addr} (h : (if cap = i then A else A.map (·.add i)) = some ad) : ∃ a', A = some a' ∧ a'.block = ad.block := by
  split at h
  · exact ⟨ad, h, rfl⟩
  · cases A with
    | none => cases h
    | some a' => exact ⟨a', rfl, by rw [← Option.some.inj h]; exact (add_blk _ _).symm⟩

set_option maxRecDepth 100000 in
set_option maxHeartbeats 4000000 in
theorem steps_any (A : Option Addr) (cap : Nat) (bs : List UInt8) (w : World) (hc : bs.length ≤ cap) (hm : cap ≤ maxLen) (hbs : Bs w A bs) (hlen : bs.length ≤ 100000) :
    Calls Try.prog 15 #[.slice A bs.length cap] w fun e w' => ∃ v, e = .returned v ∧ w'.ownsRow w.heap.size 5 1 v (1 :: enc bs).length ((1 :: enc bs).map bv) ∧ Below w.heap.size w w' := by
  have hm' := hm
  unfold maxLen at hm
  have hlo := hbs.lo
  have info2 : (Try.prog.info? 42).map (fun i => (i.zero, i.size, i.bytes)) = some (some (.agg #[.int .i64 0, .int .i64 0]), 2, 16) := by kernel_rfl
  replace info2 := Lib.hid info2
  obtain ⟨E, hE⟩ : ∃ E, enc bs = E := ⟨_, rfl⟩
  rw [hE]
  replace hE := Lib.hid hE
  -- the two blocks of what is laid
  have hb0 := ((Below.refl w.heap.size w).alloc (Nat.le_refl _) (.cells #[.int .u8 1] 5)).alloc (by simp) (.cells #[.slice (some ⟨w.heap.size, 0, none⟩) 1 1] 39)
  have hrow0 : Row ((w.alloc (.cells #[.int .u8 1] 5)).alloc (.cells #[.slice (some ⟨w.heap.size, 0, none⟩) 1 1] 39)) (w.heap.size + 1) 39 #[.slice (some ⟨w.heap.size, 0, none⟩) 1 1] := row_made _ _ _ (by simp)
  have hown0 : ((w.alloc (.cells #[.int .u8 1] 5)).alloc (.cells #[.slice (some ⟨w.heap.size, 0, none⟩) 1 1] 39)).ownsRow w.heap.size 5 1 (.slice (some ⟨w.heap.size, 0, none⟩) 1 1) [(1 : UInt8)].length ([(1 : UInt8)].map bv) := by
    refine World.ownsRow.alloc ⟨rfl, .inr ⟨w.heap.size, 1, #[.int .u8 1], rfl, Nat.le_refl _, heap_alloc_new w _, Nat.le_refl _, by unfold maxLen; omega, rfl, rfl⟩⟩ _
  have hbuf0 : Buf w.heap.size _ (w.heap.size + 1) 39 5 [] _ [1] := ⟨hrow0, hown0, by simp [Value.ownBlock], by omega⟩
  have hz0 : ((w.alloc (.cells #[.int .u8 1] 5)).alloc (.cells #[.slice (some ⟨w.heap.size, 0, none⟩) 1 1] 39)).heap.size = w.heap.size + 2 := by simp
  clear hrow0 hown0
  go_enter Try.func15, Try.ntmps15
  go_wp2_with fail
  refine (all_any A cap bs _ hc hm' (hbs.below (hb0.mono (Nat.le_refl _))) hlen).mono ?_
  rintro e w1 ⟨va, rfl, hoa, hb1⟩
  rw [hz0] at hoa hb1
  have hbuf1 : Buf w.heap.size w1 (w.heap.size + 1) 39 5 [] _ [1] := hbuf0.keep (Kept.of_below (M := fun _ => False) (by rw [hz0]; exact hb1)) (fun e => e) (fun _ _ e => e)
  have hb2 := hb0.trans (hb1.mono (by omega))
  have hz1 := hb1.size
  rw [hz0] at hz1
  clear hbuf0 hb0 hb1 hz0
  go_wp2_with (at_builtin; refine wpList_append_any rfl _ _ 40 rfl (w.heap.size + 2) 42 (.agg #[.int .i64 0, .int .i64 0]) 2 16 Try.underlying40 info2.out rfl (by decide) va bs.length (flat bs bs.length) rfl (hoa.alloc (.cells #[.int .i64 0, .int .i64 0] 42)) (some ⟨w1.heap.size, 0, none⟩) 1 1 [.int .i64 0, .int .i64 0] rfl (Row.new w1 42 #[.int .i64 0, .int .i64 0]).rd rfl (by simp [Value.oneCell']) (by unfold maxLen; omega) (by omega) (by simp; omega) ?_; intro vb w2 hob hgb hnb)
  have hzb := hgb.size
  simp only [World.size_alloc] at hzb
  have hflat : flat bs bs.length ++ [.int .i64 0, .int .i64 0] = flat bs (bs.length + 1) := by rw [flat_succ, best_behind bs bs.length (Nat.le_refl _)]; rfl
  rw [hflat] at hob
  obtain ⟨Ab, cb, hvb, _, _, _⟩ := own_slice hob
  subst hvb
  obtain ⟨ga, hga⟩ := own_addr hob (by omega)
  subst hga
  have hgab := (hob.lt ga rfl)
  have hkb : Kept w1 w2 (fun k => va.ownBlock = some k) := ((Kept.refl w1 _).alloc _).grownBy hgb (fun k _ e => e)
  have hva := fun q h => hoa.lt q h
  have hbuf2 := hbuf1.keep hkb (fun e => by have := (hva _ e).1; omega) (fun q e e2 => by
    have e3 : w.heap.size = q := Option.some.inj e
    have := (hva _ e2).1
    omega)
  have hb3 := hkb.below hb2 (fun k _ e => by have := (hva _ e).1; omega) hb2.size
  have hz2 := hkb.size
  have hgr2 := Grew.refl hbuf2
  have hstart : [1] ++ encF bs bs.length 0 0 = 1 :: E := by rw [← hE.out]; rfl
  clear hflat hgb hnb hoa hkb hva hbuf1 hbuf2 hb2
  go_loopw [5, 6] (fun u v wr => ∃ (fr i f : Nat) (v' : Value) (o : List UInt8), u = .int .i64 fr ∧ v = .int .i64 i ∧ fr ≤ i ∧ i ≤ bs.length ∧ bs.length ≤ i + f ∧ o ++ encF bs f i fr = 1 :: E ∧ o.length ≤ 2 * fr + 1 ∧ Grew w2 wr w.heap.size (w.heap.size + 1) 39 5 [] (.slice (some ⟨w.heap.size, 0, none⟩) 1 1) v' o) (fun _ v _ => bs.length - (intOf v).toNat)
  case atStart => exact ⟨0, 0, bs.length, _, [1], rfl, rfl, by omega, by omega, by omega, hstart, by simp, hgr2⟩
  case round =>
    clear hgr2 hstart
    obtain ⟨fr, i, f, v', o, rfl, rfl, hfi, hil, hif, hcat, hol, hgr⟩ := hrel
    have hnm : ∀ q, q ≠ w.heap.size + 1 → q ≠ w.heap.size → ¬ Mine (w.heap.size + 1) (.slice (some ⟨w.heap.size, 0, none⟩) 1 1) q := fun q h1 h2 hm => by
      rcases hm with h | h
      · exact h1 h
      · exact h2 (Option.some.inj h).symm
    have hbr : Bs wr A bs := hgr.kept.bs (hbs.below hb3) (hlo.imp_right fun h ad e => hnm _ (by have := h ad e; omega) (by have := h ad e; omega))
    have hapart : bs = [] ∨ ∀ ad, A = some ad → ad.block ≠ w.heap.size + 1 ∧ v'.ownBlock ≠ some ad.block := hgr.apart_ (A := A) (cs := bs) (hlo.imp_right fun h ad e => by have := h ad e; omega) (hlo.imp_right fun h ad e => ⟨by have := h ad e; omega, fun e2 => by have e3 : w.heap.size = ad.block := Option.some.inj e2; have := h ad e; omega⟩)
    by_cases hlt : i < bs.length
    · have hor := hgr.kept.own hob (fun q e => by
        have e3 : ga = q := Option.some.inj e
        exact hnm q (by omega) (by omega))
      obtain ⟨d0, d1⟩ := own_pair hor (show i < bs.length + 1 by omega)
      obtain ⟨_, d2⟩ := own_pair hor (show i + 1 < bs.length + 1 by omega)
      have hb1 := best_le bs i
      have hb2 := best_le bs (i + 1)
      obtain ⟨f, rfl⟩ : ∃ f', f = f' + 1 := ⟨f - 1, by omega⟩
      have hskip := Lib.hid (encF_skip bs f i fr hlt)
      have hmat := Lib.hid (encF_match bs f i fr hlt)
      have hspec := Lib.hid (best_zero_or bs i)
      obtain ⟨D, hD⟩ : ∃ D, (best bs i).1 = D := ⟨_, rfl⟩
      obtain ⟨n, hn⟩ : ∃ n, (best bs i).2 = n := ⟨_, rfl⟩
      obtain ⟨nx, hnx⟩ : ∃ nx, (best bs (i + 1)).2 = nx := ⟨_, rfl⟩
      rw [hD, hn] at hspec hmat hb1
      rw [hn, hnx] at hskip
      rw [hnx] at hmat hb2 d2
      rw [hD] at d0
      rw [hn] at d1
      clear hD hn hnx hor
      have i1 : (i : Int) < (bs.length : Int) := by omega
      have i2 : (i : Int) < ((bs.length + 1 : Nat) : Int) := by omega
      have i3 : ((i : Int) + 1) < ((bs.length + 1 : Nat) : Int) := by omega
      have n1 : (n : Int) ≤ 130 := by omega
      have n2 : (nx : Int) ≤ 130 := by omega
      go_wp2_with fail
      go_quiet (fail)
      have hgr1 := hgr.on ((Kept.refl wr (fun _ => False)).drawN nq)
      have hbr1 : Bs (wr.drewN nq) A bs := hbr
      have d2' : (wr.drewN nq).cell? ⟨ga, (i + 1) * 2 + 1, none⟩ = some (.int .i64 (nx : Int)) := d2
      clear hgr hbr d0 d1 d2
      generalize wr.drewN nq = x at *
      have i4 : IntKind.i64.wrap ((i : Int) + 1) = ((i + 1 : Nat) : Int) := by rw [IntWalk.i64_in _ (by omega)]; omega
      have i5 : (((i : Int) + 1)).toNat = i + 1 := by omega
      by_cases h0 : n = 0
      · have e0 : ((n : Int) == 0) = true := by simp; omega
        rw [hskip.out (.inl h0)] at hcat
        clear hskip hmat hspec h0
        go_wp2_with fail
        go_roundw
        case rel => exact ⟨fr, i + 1, f, v', o, rfl, by go_num, by omega, by omega, by omega, hcat, hol, hgr1⟩
        case measure => simp [intOf]; omega
      · have e0 : ((n : Int) == 0) = false := by simp; omega
        by_cases h1 : n < nx
        · have e1 : decide ((n : Int) < (nx : Int)) = true := by simp; omega
          rw [hskip.out (.inr h1)] at hcat
          clear hskip hmat hspec h0
          go_wp2_with fail
          go_roundw
          case rel => exact ⟨fr, i + 1, f, v', o, rfl, by go_num, by omega, by omega, by omega, hcat, hol, hgr1⟩
          case measure => simp [intOf]; omega
        · have e1 : decide ((n : Int) < (nx : Int)) = false := by simp; omega
          rw [hmat.out (by omega)] at hcat
          obtain ⟨s1, s2, s3, s4, _⟩ := hspec.out h0
          clear hskip hmat hspec
          have r1 := fun w => run_slice_mid (P := Try.prog) (T := 22) (E := 5) Try.underlying22 (by kernel_rfl) w A bs.length cap fr i hfi (by omega)
          have hsl := seg_len bs hfi hil
          have hsb := seg_bs (i := fr) (k := i) hbr1 hc
          have hsa : seg bs fr i = [] ∨ ∀ ad, (if cap = fr then A else A.map (·.add fr)) = some ad → ad.block ≠ w.heap.size + 1 ∧ v'.ownBlock ≠ some ad.block := by
            rcases hapart with h | h
            · left; subst h; simp [seg]
            · right
              intro ad e
              obtain ⟨a', e1, e2⟩ := cut_block e
              rw [← e2]
              exact h a' e1
          obtain ⟨A1, hA1⟩ : ∃ A1, (if cap = fr then A else A.map (·.add fr)) = A1 := ⟨_, rfl⟩
          rw [hA1] at r1 hsb hsa
          clear hA1
          have kp := fun W v1 hbuf hb ha => lplain_any w.heap.size (w.heap.size + 1) v1 o (seg bs fr i) A1 (cap - fr) W hbuf hb ha (by omega) (by omega) (by omega)
          have hpl := plainE_len _ (seg bs fr i) (Nat.le_refl _)
          rw [hsl] at kp hpl
          replace kp := Lib.hid kp
          have hlm : (laidM D n).length = 2 := rfl
          obtain ⟨P, hP⟩ : ∃ P, plainE (seg bs fr i) = P := ⟨_, rfl⟩
          rw [hP] at kp hcat hpl
          clear hP hsl
          obtain ⟨rest, hrest⟩ : ∃ r, encF bs f (i + n) (i + n) = r := ⟨_, rfl⟩
          rw [hrest] at hcat
          replace hrest := Lib.hid hrest
          have i6 : IntKind.i64.wrap ((i : Int) + n) = ((i + n : Nat) : Int) := by rw [IntWalk.i64_in _ (by omega)]; omega
          go_wp2_with fail
          refine (kp.out _ v' hgr1.buf hsb hsa).mono ?_
          rintro e x1 ⟨rfl, v1, hg1⟩
          have hgrA := hgr1.trans hg1
          clear hg1 hgr1 hsb hsa kp
          go_wp2_with fail
          refine (lmatch_any _ _ v1 _ D n _ hgrA.buf s2 s3 s1 (by omega) (by simp; omega)).mono ?_
          rintro e x2 ⟨rfl, v2, hg2⟩
          have hgrB := hgrA.trans hg2
          clear hg2 hgrA
          go_wp2_with fail
          go_roundw
          case rel =>
            refine ⟨i + n, i + n, f, v2, o ++ P ++ laidM D n, by go_num, by go_num, by omega, by omega, by omega, ?_, ?_, hgrB⟩
            · rw [hrest.out, ← hcat]; simp
            · simp only [List.length_append, hlm, hpl]; omega
          case measure => simp [intOf]; omega
    · have hi : i = bs.length := by omega
      rw [encF_end bs f i fr (by omega)] at hcat
      have i1 : ¬ (i : Int) < (bs.length : Int) := by omega
      have r1 := fun w => run_slice_lo (P := Try.prog) (T := 22) (E := 5) Try.underlying22 (by kernel_rfl) w A bs.length cap fr (by omega) hc
      have hsb := Bs.cut hbr fr cap hc
      have hsl : (bs.drop fr).length = bs.length - fr := by simp
      have hsa : bs.drop fr = [] ∨ ∀ ad, (if cap = fr then A else A.map (·.add fr)) = some ad → ad.block ≠ w.heap.size + 1 ∧ v'.ownBlock ≠ some ad.block := by
        rcases hapart with h | h
        · left; subst h; simp
        · right
          intro ad e
          obtain ⟨a', e1, e2⟩ := cut_block e
          rw [← e2]
          exact h a' e1
      obtain ⟨A1, hA1⟩ : ∃ A1, (if cap = fr then A else A.map (·.add fr)) = A1 := ⟨_, rfl⟩
      rw [hA1] at r1 hsb hsa
      clear hA1
      have kp := fun W v1 hbuf hb ha => lplain_any w.heap.size (w.heap.size + 1) v1 o (bs.drop fr) A1 (cap - fr) W hbuf hb ha (by omega) (by omega) (by omega)
      rw [hsl] at kp
      replace kp := Lib.hid kp
      clear hsl
      go_wp2_with fail
      refine (kp.out _ v' hgr.buf hsb hsa).mono ?_
      rintro e x1 ⟨rfl, v1, hg1⟩
      have hgrA := hgr.trans hg1
      rw [hcat] at hgrA
      have hb4 := hgrA.kept.below hb3 (fun k _ hm => by
        rcases hm with h | h
        · omega
        · have e3 : w.heap.size = k := Option.some.inj h
          omega) hb3.size
      have c0 := (hgrA.buf.row.cell 0).trans (show #[v1][0]? = some v1 from rfl)
      have ho := hgrA.buf.own
      clear hg1 hgr hsb hsa kp hcat
      go_wp2_with fail
      go_ret
      exact ⟨v1, rfl, ho, hb4⟩

set_option maxHeartbeats 1000000 in
theorem pack_any (A : Option Addr) (cap : Nat) (bs : List UInt8) (w : World) (hc : bs.length ≤ cap) (hm : cap ≤ maxLen) (hbs : Bs w A bs) (hlen : bs.length ≤ 100000) :
    Calls Try.prog 10 #[.slice A bs.length cap] w fun e w' => ∃ v, e = .returned v ∧ w'.ownsRow w.heap.size 5 1 v (packB bs).length ((packB bs).map bv) ∧ Below w.heap.size w w' := by
  have hs := steps_any A cap bs w hc hm hbs hlen
  unfold packB
  obtain ⟨E, hE⟩ : ∃ E, enc bs = E := ⟨_, rfl⟩
  rw [hE] at hs ⊢
  clear hE
  have hel : ∃ m, E.length + 1 = m := ⟨_, rfl⟩
  obtain ⟨m, hel⟩ := hel
  rw [List.length_cons, hel] at hs
  replace hs := Lib.hid hs
  unfold maxLen at hm
  by_cases h : m ≤ bs.length
  · have h2 : (m : Int) ≤ (bs.length : Int) := by omega
    rw [if_pos (show E.length < bs.length by omega)]
    go_enter Try.func10, Try.ntmps10
    go_wp2_with fail
    refine hs.out.mono ?_
    rintro e w1 ⟨v1, rfl, ho1, hb1⟩
    obtain ⟨A1, c1, hv1, hle1, hmx1, _⟩ := own_slice ho1
    subst hv1
    go_wp2_with fail
    go_ret
    refine ⟨_, rfl, ?_, hb1⟩
    rw [hel]
    exact ho1
  · have h2 : ¬ (m : Int) ≤ (bs.length : Int) := by omega
    rw [if_neg (show ¬ E.length < bs.length by omega)]
    go_enter Try.func10, Try.ntmps10
    go_wp2_with fail
    refine hs.out.mono ?_
    rintro e w1 ⟨v1, rfl, ho1, hb1⟩
    obtain ⟨A1, c1, hv1, hle1, hmx1, _⟩ := own_slice ho1
    subst hv1
    have hs1 := hb1.size
    have hb2 := hb1.alloc hs1 (.cells #[bv 0] 5)
    have hbs2 : Bs (w1.alloc (.cells #[bv 0] 5)) A bs := (hbs.below hb1).alloc _
    have hown : (w1.alloc (.cells #[bv 0] 5)).ownsRow w.heap.size 5 1 (.slice (some ⟨w1.heap.size, 0, none⟩) 1 1) 1 [bv 0] := ⟨rfl, .inr ⟨w1.heap.size, 1, #[bv 0], rfl, hs1, heap_alloc_new w1 _, Nat.le_refl _, by unfold maxLen; omega, rfl, rfl⟩⟩
    go_wp2_with (at_builtin; refine wpList_append_any rfl _ _ 22 rfl w.heap.size 5 (.int .u8 0) 1 1 Try.underlying22 infoB rfl (by decide) (.slice (some ⟨w1.heap.size, 0, none⟩) 1 1) 1 [bv 0] rfl hown A bs.length cap (bs.map bv) rfl hbs2 (by rw [List.length_map]; omega) (bv_one bs) (by unfold maxLen; omega) (by omega) (by simp; omega) ?_; intro v2 w2 ho2 hg2 _)
    go_ret
    refine ⟨v2, rfl, ?_, hb2.grown hg2 (by simp; omega) (fun q e => by have e1 : w1.heap.size = q := Option.some.inj e; omega)⟩
    rw [show bs.length + 1 = 1 + bs.length by omega]
    exact ho2
end Go.Proofs.Ythbniljkgdkdnaa
