/-
  Layer 6, the program: bytes laid as such, a match laid.
-/
import Derived.Test.YthbniljkgdkdnaaProg
import Derived.Test.YthbniljkgdkdnaaLzMath
import Derived.Test.YthbniljkgdkdnaaKept
import Derived.Deep.RegionHeld3
namespace Go.Proofs.Ythbniljkgdkdnaa
open Go.RowKit
set_option linter.unusedVariables false
set_option linter.unusedSimpArgs false

def lenOf : Value → Nat
  | .slice _ n _ => n
  | _ => 0
theorem infoB : (Try.prog.info? 5).map (fun i => (i.zero, i.size, i.bytes)) = some (some (.int .u8 0), 1, 1) := by kernel_rfl
theorem cut_block_ {A : Option Addr} {i cap : Nat} {ad : Addr} (h : (if cap = i then A else A.map (·.add i)) = some ad) : ∃ a', A = some a' ∧ a'.block = ad.block := by
  split at h
  · exact ⟨ad, h, rfl⟩
  · cases A with
    | none => cases h
    | some a' => exact ⟨a', rfl, by rw [← Option.some.inj h]; exact (add_blk _ _).symm⟩
theorem byteLo (n : Nat) : IntKind.u8.wrap (n : Int) = ((UInt8.ofNat n).toNat : Int) := by
  rw [UInt8.toNat_ofNat']
  simp [IntKind.wrap, IntKind.bits, IntKind.signed]

set_option maxRecDepth 100000 in
set_option maxHeartbeats 2000000 in
theorem lplain_any (B g : Nat) (v : Value) (out bs : List UInt8) (A : Option Addr) (cap : Nat) (w : World) (hbuf : Buf B w g 39 5 [] v out) (hbs : Bs w A bs) (hA : bs = [] ∨ ∀ ad, A = some ad → ad.block ≠ g ∧ v.ownBlock ≠ some ad.block) (hc : bs.length ≤ cap) (hm : cap ≤ maxLen) (hsz : out.length + 2 * bs.length ≤ 1000000) :
    Calls Try.prog 19 #[.pointer (some ⟨g, 0, none⟩), .slice A bs.length cap] w fun e w' => e = .returned (.tuple #[]) ∧ ∃ v', Grew w w' B g 39 5 [] v v' (out ++ plainE bs) := by
  unfold maxLen at hm
  have hlo := hbs.lo
  have hBw := hbuf.row.lt
  have hBg := hbuf.base
  go_enter Try.func19, Try.ntmps19
  go_wp2_with fail
  go_loopw [1] (fun u wr => ∃ (r o : List UInt8) (A' : Option Addr) (c' : Nat) (v' : Value), u = .slice A' r.length c' ∧ r.length ≤ c' ∧ c' ≤ cap ∧ r.length ≤ bs.length ∧ Bs wr A' r ∧ (r = [] ∨ ∀ ad, A' = some ad → ad.block < w.heap.size ∧ ad.block ≠ g ∧ v.ownBlock ≠ some ad.block ∧ v'.ownBlock ≠ some ad.block) ∧ o ++ plainE r = out ++ plainE bs ∧ o.length + 2 * r.length ≤ 1000000 ∧ Grew w wr B g 39 5 [] v v' o) (fun u _ => lenOf u)
  case atStart =>
    refine ⟨bs, out, A, cap, v, rfl, hc, Nat.le_refl _, Nat.le_refl _, hbs, ?_, rfl, hsz, Grew.refl hbuf⟩
    rcases hlo with hlo | hlo
    · exact .inl hlo
    · exact hA.imp_right fun h ad e => ⟨hlo ad e, (h ad e).1, (h ad e).2, (h ad e).2⟩
  case round =>
    clear hbs hlo hA hbuf
    obtain ⟨r, o, A', c', v', rfl, hrc, hcc, hrb, hbs, hA, hcat, hol, hgr⟩ := hrel
    by_cases hlt : 0 < r.length
    · have hlt2 : (0 : Int) < (r.length : Int) := by omega
      have hpl := plainE_step r hlt
      obtain ⟨n, hn⟩ : ∃ n, min r.length 128 = n + 1 := ⟨min r.length 128 - 1, by omega⟩
      have hmin : min (r.length : Int) 128 = ((n + 1 : Nat) : Int) := by omega
      rw [hn] at hpl
      simp only [Nat.add_sub_cancel] at hpl
      have hA1 := hA.resolve_left (by rintro rfl; simp at hlt)
      have r1 := fun w => run_slice_hi (P := Try.prog) (T := 22) (E := 5) Try.underlying22 (by kernel_rfl) w A' r.length c' (n + 1) (by omega)
      have r2 := fun w => run_slice_lo (P := Try.prog) (T := 22) (E := 5) Try.underlying22 (by kernel_rfl) w A' r.length c' (n + 1) (by omega) hrc
      have hcut := Bs.cut hbs (n + 1) c' hrc
      obtain ⟨A2, hA2⟩ : ∃ A2, (if c' = n + 1 then A' else A'.map (·.add (n + 1))) = A2 := ⟨_, rfl⟩
      have hA2b : ∀ ad, A2 = some ad → ∃ ad', A' = some ad' ∧ ad'.block = ad.block := fun ad e => by
        rw [← hA2] at e
        split at e
        · exact ⟨ad, e, rfl⟩
        · cases A' with
          | none => cases e
          | some a' => exact ⟨a', rfl, by rw [← Option.some.inj e]; exact (add_blk _ _).symm⟩
      rw [hA2] at r2 hcut
      clear hA2
      have hb1 := byteLo n
      have hb2 : (n : Int) % 256 = ((UInt8.ofNat n).toNat : Int) := by rw [UInt8.toNat_ofNat']; omega
      generalize UInt8.ofNat n = cb at *
      obtain ⟨hrow, hown, hap, hbase⟩ := hgr.buf
      have c0 := (hrow.cell 0).trans (show #[v'][0]? = some v' from rfl)
      have f0 := hrow.free 0
      have hne := Lib.hid hA1
      have hlen2 : (r.take (n + 1)).length = n + 1 := by simp; omega
      obtain ⟨n1, hn1⟩ : ∃ n1, n + 1 = n1 := ⟨_, rfl⟩
      have hn2 : IntKind.i64.wrap ((n1 : Int) - 1) = (n : Int) := by rw [IntWalk.i64_in _ (by omega)]; omega
      rw [hn1] at hmin r1 r2 hlen2 hcut hpl hn
      have hn3 : (n1 : Int) ≤ 128 := by omega
      have hrd2 := Bs.take hbs n1
      go_wp2_with fail
      refine wp_region_held_drew (S := fun _ => True) (by kernel_rfl) trivial (fun hHeld => ?_)
      obtain ⟨x, hx⟩ : ∃ x, wr.drew = x := ⟨_, rfl⟩
      have hgr' : Grew w x B g 39 5 [] v v' o := by
        rw [← hx]
        exact hgr.on ((Kept.refl _ _).draw)
      have hrd3 : Bs x A' (r.take n1) := by rw [← hx]; exact hrd2
      have hcut3 : Bs x A2 (r.drop n1) := by rw [← hx]; exact hcut
      rw [← World.cell?_drew, hx] at c0
      rw [← World.frozen?_drew, hx] at f0
      have hgx : g < x.heap.size := hgr'.buf.row.lt
      have hwx := hgr'.kept.size
      rw [hx]
      clear hx hgr hrow hown hap hbase hbs hcut hrd2
      have hown := hgr'.buf.own
      have hap := hgr'.buf.apart
      have hBg' := hgr'.buf.base
      have c0a : (x.alloc (.cells #[bv cb] 5)).cell? ⟨g, 0, none⟩ = some v' := (World.cell?_alloc_lt x _ ⟨g, 0, none⟩ hgx).trans c0
      refine wpAnyH_take (i := 0) (v := ?_) rfl (by kernel_rfl) (by kernel_rfl) (by kernel_rfl) (fun _ _ _ h => h) (Or.inl ⟨by rfl, ?_⟩) hHeld ?_
      rotate_left
      · intro w hSw
        go_simp
        try rfl
      try simp only [List.getElem_toArray, List.getElem_cons_succ, List.getElem_cons_zero, Act.put, List.setIfInBounds_toArray, List.set_cons_zero, List.set_cons_succ]
      refine wpAnyH_take (i := 1) (v := ?_) rfl (by kernel_rfl) (by kernel_rfl) (by kernel_rfl) (fun _ _ _ h => h) (Or.inl ⟨by rfl, ?_⟩) hHeld ?_
      rotate_left
      · intro w hSw
        go_simp
        try rfl
      try simp only [List.getElem_toArray, List.getElem_cons_succ, List.getElem_cons_zero, Act.put, List.setIfInBounds_toArray, List.set_cons_zero, List.set_cons_succ]
      refine wpAnyH_take (i := 2) (v := ?_) rfl (by kernel_rfl) (by kernel_rfl) (by kernel_rfl) (fun _ _ _ h => h) (Or.inl ⟨by rfl, ?_⟩) hHeld ?_
      rotate_left
      · intro w hSw
        go_simp
        try rfl
      try simp only [List.getElem_toArray, List.getElem_cons_succ, List.getElem_cons_zero, Act.put, List.setIfInBounds_toArray, List.set_cons_zero, List.set_cons_succ]
      refine wpAnyH_take (i := 3) (v := ?_) rfl (by kernel_rfl) (by kernel_rfl) (by kernel_rfl) (fun _ _ _ h => h) (Or.inl ⟨by rfl, ?_⟩) hHeld ?_
      rotate_left
      · intro w hSw
        go_simp
        try rfl
      try simp only [List.getElem_toArray, List.getElem_cons_succ, List.getElem_cons_zero, Act.put, List.setIfInBounds_toArray, List.set_cons_zero, List.set_cons_succ]
      refine wpAnyH_take (i := 5) (v := ?_) rfl (by kernel_rfl) (by kernel_rfl) (by kernel_rfl) (fun _ _ _ h => h) (Or.inl ⟨by rfl, ?_⟩) hHeld ?_
      rotate_left
      · intro w hSw
        go_simp
        try rfl
      try simp only [List.getElem_toArray, List.getElem_cons_succ, List.getElem_cons_zero, Act.put, List.setIfInBounds_toArray, List.set_cons_zero, List.set_cons_succ]
      refine wpAnyH_take (i := 6) (v := ?_) rfl (by kernel_rfl) (by kernel_rfl) (by kernel_rfl) (fun _ _ _ h => h) (Or.inl ⟨by rfl, ?_⟩) hHeld ?_
      rotate_left
      · intro w hSw
        go_simp
        try rfl
      try simp only [List.getElem_toArray, List.getElem_cons_succ, List.getElem_cons_zero, Act.put, List.setIfInBounds_toArray, List.set_cons_zero, List.set_cons_succ]
      refine wpAnyH_take (i := 7) (v := ?_) rfl (by kernel_rfl) (by kernel_rfl) (by kernel_rfl) (fun _ _ _ h => h) (Or.inl ⟨by rfl, ?_⟩) hHeld ?_
      rotate_left
      · intro w hSw
        go_simp
        try rfl
      try simp only [List.getElem_toArray, List.getElem_cons_succ, List.getElem_cons_zero, Act.put, List.setIfInBounds_toArray, List.set_cons_zero, List.set_cons_succ]
      refine wpAnyH_take (i := 10) (v := ?_) rfl (by kernel_rfl) (by kernel_rfl) (by kernel_rfl) (fun _ _ _ h => h) (Or.inl ⟨by rfl, ?_⟩) hHeld ?_
      rotate_left
      · intro w hSw
        go_simp
        try rfl
      try simp only [List.getElem_toArray, List.getElem_cons_succ, List.getElem_cons_zero, Act.put, List.setIfInBounds_toArray, List.set_cons_zero, List.set_cons_succ]
      refine wpAnyH_take (i := 11) (v := ?_) rfl (by kernel_rfl) (by kernel_rfl) (by kernel_rfl) (fun _ _ _ h => h) (Or.inl ⟨by rfl, ?_⟩) hHeld ?_
      rotate_left
      · intro w hSw
        go_simp
        try rfl
      try simp only [List.getElem_toArray, List.getElem_cons_succ, List.getElem_cons_zero, Act.put, List.setIfInBounds_toArray, List.set_cons_zero, List.set_cons_succ]
      refine wpAnyH_take (i := 12) (v := ?_) rfl (by kernel_rfl) (by kernel_rfl) (by kernel_rfl) (fun _ _ _ h => h) (Or.inl ⟨by rfl, ?_⟩) hHeld ?_
      rotate_left
      · intro w hSw
        go_simp
        try rfl
      try simp only [List.getElem_toArray, List.getElem_cons_succ, List.getElem_cons_zero, Act.put, List.setIfInBounds_toArray, List.set_cons_zero, List.set_cons_succ]
      refine wpAnyH_ready (rs := [4, 8]) (by kernel_rfl) (by simp) ?_
      refine AllReadyH.cons rfl (fun K hK => ?_) ?_
      · skip
        go_simp
        refine hK.out _ _ trivial (fun hHeld => ?_)
        clear hK K
        try simp only [List.getElem_toArray, List.getElem_cons_succ, List.getElem_cons_zero, Act.put, List.setIfInBounds_toArray, List.set_cons_zero, List.set_cons_succ]
        refine wpAnyH_ready (rs := [8]) (by kernel_rfl) (by simp) ?_
        refine AllReadyH.cons rfl (fun K hK => ?_) AllReadyH.nil
        go_simp
        refine hK.out _ _ trivial (fun hHeld => ?_)
        clear hK K
        try simp only [List.getElem_toArray, List.getElem_cons_succ, List.getElem_cons_zero, Act.put, List.setIfInBounds_toArray, List.set_cons_zero, List.set_cons_succ]
        refine wpAnyH_ready (rs := [9]) (by kernel_rfl) (by simp) ?_
        refine AllReadyH.cons rfl (fun K hK => ?_) AllReadyH.nil
        refine step_append_any rfl _ _ 22 rfl B 5 (.int .u8 0) 1 1 Try.underlying22 infoB rfl (by decide) v' o.length (o.map bv) rfl (hown.alloc _) (some ⟨x.heap.size, 0, none⟩) 1 1 [bv cb] rfl (Bs.new x #[bv cb] 5 (0, 0) [cb] rfl) rfl (by simp [Value.oneCell']) (by unfold maxLen; omega) (by omega) (by simp; omega) ?_
        intro v1 w1 ho1 hg1 hn1
        refine hK.out _ _ trivial (fun hHeld => ?_)
        clear hK K
        try simp only [List.getElem_toArray, List.getElem_cons_succ, List.getElem_cons_zero, Act.put, List.setIfInBounds_toArray, List.set_cons_zero, List.set_cons_succ]
        replace hg1 : (x.alloc (.cells #[bv cb] 5)).grownBy w1 v'.ownBlock := hg1
        rw [World.size_alloc] at hn1
        have hk1 : Kept x w1 (fun k => v'.ownBlock = some k) := ((Kept.refl x _).alloc _).grownBy hg1 (fun k _ e => e)
        have hz1 := hk1.size
        have hz1' := hg1.size
        rw [World.size_alloc] at hz1'
        have hrd4 : Bs w1 A' (r.take n1) := hk1.bs hrd3 (.inr fun ad e => (hA1 ad e).2.2.2)
        refine wpAnyH_ready (rs := [13]) (by kernel_rfl) (by simp) ?_
        refine AllReadyH.cons rfl (fun K hK => ?_) AllReadyH.nil
        refine step_append_any rfl _ _ 22 rfl B 5 (.int .u8 0) 1 1 Try.underlying22 infoB rfl (by decide) v1 (o.length + 1) (o.map bv ++ [bv cb]) rfl ho1 A' n1 c' ((r.take n1).map bv) rfl hrd4 (by rw [List.length_map]; omega) (bv_one _) (by unfold maxLen; omega) (by omega) (by omega) ?_
        intro v2 w2 ho2 hg2 hn2
        obtain ⟨A3, c3, hv2, _, _, _⟩ := own_slice ho2
        subst hv2
        refine hK.out _ _ trivial (fun hHeld => ?_)
        clear hK K
        try simp only [List.getElem_toArray, List.getElem_cons_succ, List.getElem_cons_zero, Act.put, List.setIfInBounds_toArray, List.set_cons_zero, List.set_cons_succ]
        have hk2 : Kept x w2 (fun k => v'.ownBlock = some k) := hk1.grownBy hg2 (fun k hk e => by
          rcases hn1 with h | h
          · rw [← h]; exact e
          · rw [h] at e; have := Option.some.inj e; omega)
        have hz2 := hg2.size
        have hf2 : (Value.slice A3 (o.length + 1 + n1) c3).ownBlock = v'.ownBlock ∨ ∃ q, (Value.slice A3 (o.length + 1 + n1) c3).ownBlock = some q ∧ x.heap.size ≤ q := by
          rcases hn2 with h | h
          · rw [h]
            rcases hn1 with h1 | h1
            · exact .inl h1
            · exact .inr ⟨_, h1, by omega⟩
          · exact .inr ⟨_, h, by omega⟩
        have ho3 : w2.ownsRow B 5 1 (.slice A3 (o.length + 1 + n1) c3) (o ++ (cb :: r.take n1)).length ((o ++ (cb :: r.take n1)).map bv) := by
          have e1 : (o ++ (cb :: r.take n1)).length = o.length + 1 + n1 := by simp; omega
          have e2 : (o ++ (cb :: r.take n1)).map bv = o.map bv ++ [bv cb] ++ (r.take n1).map bv := by simp
          rw [e1, e2]
          exact ho2
        have hfin := hgr'.store hk2 ho3 hf2
        have hrow2 := hk2.row hgr'.buf.row hap
        have c2 := (hrow2.cell 0).trans (show #[v'][0]? = some v' from rfl)
        have f2 := hrow2.free 0
        have hcut4 : Bs (w2.setCell ⟨g, 0, none⟩ (.slice A3 (o.length + 1 + n1) c3)) A2 (r.drop n1) := by
          refine Rd.set_ (hk2.bs hcut3 (.inr fun ad e => ?_)) (fun ad e => ?_) _
          · obtain ⟨a', e1, e2⟩ := hA2b ad e
            rw [← e2]; exact (hA1 a' e1).2.2.2
          · obtain ⟨a', e1, e2⟩ := hA2b ad e
            rw [← e2]; exact (hA1 a' e1).2.1
        refine wpAnyH_take (i := 14) (v := ?_) rfl (by kernel_rfl) (by kernel_rfl) (by kernel_rfl) (fun _ _ _ h => h) (Or.inl ⟨by rfl, ?_⟩) hHeld ?_
        rotate_left
        · intro w hSw
          go_simp
          try rfl
        try simp only [List.getElem_toArray, List.getElem_cons_succ, List.getElem_cons_zero, Act.put, List.setIfInBounds_toArray, List.set_cons_zero, List.set_cons_succ]
        refine wpAnyH_take (i := 15) (v := ?_) rfl (by kernel_rfl) (by kernel_rfl) (by kernel_rfl) (fun _ _ _ h => h) (Or.inl ⟨by rfl, ?_⟩) hHeld ?_
        rotate_left
        · intro w hSw
          go_simp
          try rfl
        try simp only [List.getElem_toArray, List.getElem_cons_succ, List.getElem_cons_zero, Act.put, List.setIfInBounds_toArray, List.set_cons_zero, List.set_cons_succ]
        refine wpAnyH_ready (rs := [16]) (by kernel_rfl) (by simp) ?_
        refine AllReadyH.cons rfl (fun K hK => ?_) AllReadyH.nil
        go_simp
        refine hK.out _ _ trivial (fun hHeld => ?_)
        clear hK K
        try simp only [List.getElem_toArray, List.getElem_cons_succ, List.getElem_cons_zero, Act.put, List.setIfInBounds_toArray, List.set_cons_zero, List.set_cons_succ]
        refine wpAnyH_done (by kernel_rfl) ?_ _
        clear c2 f2 hk1 hk2 ho1 ho2 ho3 hg1 hg2 hrow2 hgr'
        have hl3 : r.length - n1 = (r.drop n1).length := by simp
        rw [hl3] at r2
        clear hl3
        obtain ⟨r', hr'⟩ : ∃ r', r.drop n1 = r' := ⟨_, rfl⟩
        rw [hr'] at r2 hcut4 hpl
        have hrl : r'.length + n1 ≤ r.length ∧ r.length ≤ r'.length + n1 := by rw [← hr']; simp; omega
        clear hr'
        replace hpl := Lib.hid hpl
        go_wp2_with fail
        go_roundw
        case rel =>
          refine ⟨r', o ++ (cb :: r.take n1), A2, c' - n1, _, rfl, by omega, by omega, by omega, hcut4, .inr fun ad e => ?_, ?_, ?_, hfin⟩
          · obtain ⟨a', e1, e2⟩ := hA2b ad e
            rw [← e2]
            refine ⟨(hA1 a' e1).1, (hA1 a' e1).2.1, (hA1 a' e1).2.2.1, ?_⟩
            rcases hf2 with h | ⟨q, h, hq⟩
            · rw [h]; exact (hA1 a' e1).2.2.2
            · rw [h]; intro e3; have := Option.some.inj e3; have := (hA1 a' e1).1; omega
          · rw [← hcat, hpl.out]
            simp
          · simp; omega
        case measure => simp [lenOf]; omega
      refine AllReadyH.cons rfl (fun K hK => ?_) AllReadyH.nil
      go_simp
      refine hK.out _ _ trivial (fun hHeld => ?_)
      clear hK K
      try simp only [List.getElem_toArray, List.getElem_cons_succ, List.getElem_cons_zero, Act.put, List.setIfInBounds_toArray, List.set_cons_zero, List.set_cons_succ]
      refine wpAnyH_ready (rs := [4]) (by kernel_rfl) (by simp) ?_
      refine AllReadyH.cons rfl (fun K hK => ?_) AllReadyH.nil
      go_simp
      refine hK.out _ _ trivial (fun hHeld => ?_)
      clear hK K
      try simp only [List.getElem_toArray, List.getElem_cons_succ, List.getElem_cons_zero, Act.put, List.setIfInBounds_toArray, List.set_cons_zero, List.set_cons_succ]
      refine wpAnyH_ready (rs := [9]) (by kernel_rfl) (by simp) ?_
      refine AllReadyH.cons rfl (fun K hK => ?_) AllReadyH.nil
      refine step_append_any rfl _ _ 22 rfl B 5 (.int .u8 0) 1 1 Try.underlying22 infoB rfl (by decide) v' o.length (o.map bv) rfl (hown.alloc _) (some ⟨x.heap.size, 0, none⟩) 1 1 [bv cb] rfl (Bs.new x #[bv cb] 5 (0, 0) [cb] rfl) rfl (by simp [Value.oneCell']) (by unfold maxLen; omega) (by omega) (by simp; omega) ?_
      intro v1 w1 ho1 hg1 hn1
      refine hK.out _ _ trivial (fun hHeld => ?_)
      clear hK K
      try simp only [List.getElem_toArray, List.getElem_cons_succ, List.getElem_cons_zero, Act.put, List.setIfInBounds_toArray, List.set_cons_zero, List.set_cons_succ]
      replace hg1 : (x.alloc (.cells #[bv cb] 5)).grownBy w1 v'.ownBlock := hg1
      rw [World.size_alloc] at hn1
      have hk1 : Kept x w1 (fun k => v'.ownBlock = some k) := ((Kept.refl x _).alloc _).grownBy hg1 (fun k _ e => e)
      have hz1 := hk1.size
      have hz1' := hg1.size
      rw [World.size_alloc] at hz1'
      have hrd4 : Bs w1 A' (r.take n1) := hk1.bs hrd3 (.inr fun ad e => (hA1 ad e).2.2.2)
      refine wpAnyH_ready (rs := [13]) (by kernel_rfl) (by simp) ?_
      refine AllReadyH.cons rfl (fun K hK => ?_) AllReadyH.nil
      refine step_append_any rfl _ _ 22 rfl B 5 (.int .u8 0) 1 1 Try.underlying22 infoB rfl (by decide) v1 (o.length + 1) (o.map bv ++ [bv cb]) rfl ho1 A' n1 c' ((r.take n1).map bv) rfl hrd4 (by rw [List.length_map]; omega) (bv_one _) (by unfold maxLen; omega) (by omega) (by omega) ?_
      intro v2 w2 ho2 hg2 hn2
      obtain ⟨A3, c3, hv2, _, _, _⟩ := own_slice ho2
      subst hv2
      refine hK.out _ _ trivial (fun hHeld => ?_)
      clear hK K
      try simp only [List.getElem_toArray, List.getElem_cons_succ, List.getElem_cons_zero, Act.put, List.setIfInBounds_toArray, List.set_cons_zero, List.set_cons_succ]
      have hk2 : Kept x w2 (fun k => v'.ownBlock = some k) := hk1.grownBy hg2 (fun k hk e => by
        rcases hn1 with h | h
        · rw [← h]; exact e
        · rw [h] at e; have := Option.some.inj e; omega)
      have hz2 := hg2.size
      have hf2 : (Value.slice A3 (o.length + 1 + n1) c3).ownBlock = v'.ownBlock ∨ ∃ q, (Value.slice A3 (o.length + 1 + n1) c3).ownBlock = some q ∧ x.heap.size ≤ q := by
        rcases hn2 with h | h
        · rw [h]
          rcases hn1 with h1 | h1
          · exact .inl h1
          · exact .inr ⟨_, h1, by omega⟩
        · exact .inr ⟨_, h, by omega⟩
      have ho3 : w2.ownsRow B 5 1 (.slice A3 (o.length + 1 + n1) c3) (o ++ (cb :: r.take n1)).length ((o ++ (cb :: r.take n1)).map bv) := by
        have e1 : (o ++ (cb :: r.take n1)).length = o.length + 1 + n1 := by simp; omega
        have e2 : (o ++ (cb :: r.take n1)).map bv = o.map bv ++ [bv cb] ++ (r.take n1).map bv := by simp
        rw [e1, e2]
        exact ho2
      have hfin := hgr'.store hk2 ho3 hf2
      have hrow2 := hk2.row hgr'.buf.row hap
      have c2 := (hrow2.cell 0).trans (show #[v'][0]? = some v' from rfl)
      have f2 := hrow2.free 0
      have hcut4 : Bs (w2.setCell ⟨g, 0, none⟩ (.slice A3 (o.length + 1 + n1) c3)) A2 (r.drop n1) := by
        refine Rd.set_ (hk2.bs hcut3 (.inr fun ad e => ?_)) (fun ad e => ?_) _
        · obtain ⟨a', e1, e2⟩ := hA2b ad e
          rw [← e2]; exact (hA1 a' e1).2.2.2
        · obtain ⟨a', e1, e2⟩ := hA2b ad e
          rw [← e2]; exact (hA1 a' e1).2.1
      refine wpAnyH_take (i := 14) (v := ?_) rfl (by kernel_rfl) (by kernel_rfl) (by kernel_rfl) (fun _ _ _ h => h) (Or.inl ⟨by rfl, ?_⟩) hHeld ?_
      rotate_left
      · intro w hSw
        go_simp
        try rfl
      try simp only [List.getElem_toArray, List.getElem_cons_succ, List.getElem_cons_zero, Act.put, List.setIfInBounds_toArray, List.set_cons_zero, List.set_cons_succ]
      refine wpAnyH_take (i := 15) (v := ?_) rfl (by kernel_rfl) (by kernel_rfl) (by kernel_rfl) (fun _ _ _ h => h) (Or.inl ⟨by rfl, ?_⟩) hHeld ?_
      rotate_left
      · intro w hSw
        go_simp
        try rfl
      try simp only [List.getElem_toArray, List.getElem_cons_succ, List.getElem_cons_zero, Act.put, List.setIfInBounds_toArray, List.set_cons_zero, List.set_cons_succ]
      refine wpAnyH_ready (rs := [16]) (by kernel_rfl) (by simp) ?_
      refine AllReadyH.cons rfl (fun K hK => ?_) AllReadyH.nil
      go_simp
      refine hK.out _ _ trivial (fun hHeld => ?_)
      clear hK K
      try simp only [List.getElem_toArray, List.getElem_cons_succ, List.getElem_cons_zero, Act.put, List.setIfInBounds_toArray, List.set_cons_zero, List.set_cons_succ]
      refine wpAnyH_done (by kernel_rfl) ?_ _
      clear c2 f2 hk1 hk2 ho1 ho2 ho3 hg1 hg2 hrow2 hgr'
      have hl3 : r.length - n1 = (r.drop n1).length := by simp
      rw [hl3] at r2
      clear hl3
      obtain ⟨r', hr'⟩ : ∃ r', r.drop n1 = r' := ⟨_, rfl⟩
      rw [hr'] at r2 hcut4 hpl
      have hrl : r'.length + n1 ≤ r.length ∧ r.length ≤ r'.length + n1 := by rw [← hr']; simp; omega
      clear hr'
      replace hpl := Lib.hid hpl
      go_wp2_with fail
      go_roundw
      case rel =>
        refine ⟨r', o ++ (cb :: r.take n1), A2, c' - n1, _, rfl, by omega, by omega, by omega, hcut4, .inr fun ad e => ?_, ?_, ?_, hfin⟩
        · obtain ⟨a', e1, e2⟩ := hA2b ad e
          rw [← e2]
          refine ⟨(hA1 a' e1).1, (hA1 a' e1).2.1, (hA1 a' e1).2.2.1, ?_⟩
          rcases hf2 with h | ⟨q, h, hq⟩
          · rw [h]; exact (hA1 a' e1).2.2.2
          · rw [h]; intro e3; have := Option.some.inj e3; have := (hA1 a' e1).1; omega
        · rw [← hcat, hpl.out]
          simp
        · simp; omega
      case measure => simp [lenOf]; omega
    · have hr0 : r = [] := List.eq_nil_of_length_eq_zero (by omega)
      subst hr0
      have hlt2 : ¬ (0 : Int) < (([] : List UInt8).length : Int) := by simp
      go_wp2_with fail
      go_end0
      rw [plainE_nil, List.append_nil] at hcat
      rw [hcat] at hgr
      exact ⟨rfl, v', hgr⟩
end Go.Proofs.Ythbniljkgdkdnaa
