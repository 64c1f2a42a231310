/-
  Layer 6, the program: what is unpacked.
-/
import Derived.Test.YthbniljkgdkdnaaLzOpen
namespace Go.Proofs.Ythbniljkgdkdnaa
open Go.RowKit
set_option linter.unusedVariables false
set_option linter.unusedSimpArgs false

theorem item_ok {most : Nat} {out rest o r : List UInt8} {c : UInt8} (h : item most out (c :: rest) = .ok (o, r)) (hm : out.length ≤ most) : r.length ≤ rest.length ∧ o.length ≤ most := by
  unfold item at h
  by_cases h0 : c.toNat < 128
  · simp only [if_pos h0] at h
    by_cases h1 : rest.length < c.toNat + 1
    · simp only [if_pos h1] at h; cases h
    · by_cases h2 : most - out.length < c.toNat + 1
      · simp only [if_neg h1, if_pos h2] at h; cases h
      · simp only [if_neg h1, if_neg h2] at h
        injection h with h
        injection h with h3 h4
        subst h3 h4
        simp
        omega
  · simp only [if_neg h0] at h
    cases rest with
    | nil => cases h
    | cons e rest =>
      simp only at h
      by_cases h1 : out.length < e.toNat + 1
      · simp only [if_pos h1] at h; cases h
      · by_cases h2 : most - out.length < c.toNat - 128 + 3
        · simp only [if_neg h1, if_pos h2] at h; cases h
        · simp only [if_neg h1, if_neg h2] at h
          injection h with h
          injection h with h3 h4
          subst h3 h4
          rw [rep_len]
          simp
          omega
theorem item_err {most : Nat} {out rest : List UInt8} {c : UInt8} {k : Int} (h : item most out (c :: rest) = .error k) : k = 60 ∨ k = 4 := by
  unfold item at h
  by_cases h0 : c.toNat < 128
  · simp only [if_pos h0] at h
    by_cases h1 : rest.length < c.toNat + 1
    · simp only [if_pos h1] at h; injection h with h; exact .inl h.symm
    · by_cases h2 : most - out.length < c.toNat + 1
      · simp only [if_neg h1, if_pos h2] at h; injection h with h; exact .inr h.symm
      · simp only [if_neg h1, if_neg h2] at h; cases h
  · simp only [if_neg h0] at h
    cases rest with
    | nil => injection h with h; exact .inl h.symm
    | cons e rest =>
      simp only at h
      by_cases h1 : out.length < e.toNat + 1
      · simp only [if_pos h1] at h; injection h with h; exact .inl h.symm
      · by_cases h2 : most - out.length < c.toNat - 128 + 3
        · simp only [if_neg h1, if_pos h2] at h; injection h with h; exact .inr h.symm
        · simp only [if_neg h1, if_neg h2] at h; cases h
theorem decF_nil (most f : Nat) (out : List UInt8) : decF most f out [] = (out, 0) := by cases f <;> rfl

/-- Bytes in memory of the call's own, and an error's number. -/
def Told (B : Nat) (t : TypeId) (res : List UInt8 × Int) (w : World) (e : Ending) (w' : World) : Prop := ∃ v, e = .returned (.tuple #[v, .int .i64 res.2]) ∧ w'.ownsRow B t 1 v res.1.length (res.1.map bv) ∧ Below w.heap.size w w'
theorem Told.err {B : Nat} {t : TypeId} {w w' : World} {k : Int} (hb : Below w.heap.size w w') : Told B t ([], k) w (.returned (.tuple #[.slice none 0 0, .int .i64 k])) w' := ⟨_, rfl, World.ownsRow_nil _ _ _ _, hb⟩

set_option maxHeartbeats 2000000 in
theorem unpack_packed (ad : Addr) (cap : Nat) (c : UInt8) (rest : List UInt8) (most : Int) (w : World) (hc : rest.length + 1 ≤ cap) (hm : cap ≤ maxLen) (hbs : Bs w (some ad) (c :: rest)) (h1 : c.toNat = 1) (hlo : -9223372036854775808 ≤ most) (hhi : most ≤ 1000000) :
    Calls Try.prog 13 #[.slice (some ad) (rest.length + 1) cap, .int .i64 most] w (Told w.heap.size 5 (decF (max most 0).toNat rest.length [] rest) w) := by
  have hm' := hm
  unfold maxLen at hm
  obtain ⟨ad1, e1, hc0⟩ := hbs.at_ 0 (by simp)
  obtain rfl := Option.some.inj e1
  clear e1
  have ead : ad.add 0 = ad := by unfold Addr.add; simp
  rw [ead] at hc0
  clear ead
  replace hc0 : w.cell? ad = some (.int .u8 (c.toNat : Int)) := hc0
  rw [h1] at hc0
  have hadb := World.block_lt_of_cell? w _ hc0
  have hcut := Bs.cut hbs 1 cap (by simpa using hc)
  have r1 : ∀ w, (Instr.slice 22 (.slice (some ad) (rest.length + 1) cap) (some (.int .i64 1)) none none).run Try.prog w = .ok (.slice (if cap = 1 then some ad else (some ad).map (·.add 1)) rest.length (cap - 1)) w := fun w => run_slice_lo (P := Try.prog) (T := 22) (E := 5) Try.underlying22 (by kernel_rfl) w (some ad) (rest.length + 1) cap 1 (by omega) hc
  obtain ⟨A1, hA1⟩ : ∃ A1, (if cap = 1 then some ad else (some ad).map (·.add 1)) = A1 := ⟨_, rfl⟩
  have hA1b : ∀ a, A1 = some a → a.block = ad.block := fun a e => by
    rw [← hA1] at e
    obtain ⟨a', e1, e2⟩ := cut_block_ e
    rw [← e2, Option.some.inj e1]
  rw [hA1] at r1 hcut
  replace hcut : Bs w A1 rest := hcut
  clear hA1
  obtain ⟨R, hR⟩ : ∃ R, decF (max most 0).toNat rest.length [] rest = R := ⟨_, rfl⟩
  rw [hR]
  obtain ⟨M, hM⟩ : ∃ M : Nat, max most 0 = M := ⟨(max most 0).toNat, by omega⟩
  rw [hM, Int.toNat_natCast] at hR
  have hMb : M ≤ 1000000 := by omega
  replace hR := Lib.hid hR
  have dl : (((rest.length + 1 : Nat) : Int) == 0) = false := beq_false_of_ne (by omega)
  have dl' : ((rest.length : Int) + 1 == 0) = false := beq_false_of_ne (by omega)
  have hbuf0 : Buf w.heap.size (w.alloc (.cells #[.slice none 0 0, .int .i64 (M : Int)] 35)) w.heap.size 35 5 [.int .i64 (M : Int)] (.slice none 0 0) [] := ⟨Row.new _ _ _, World.ownsRow_nil _ _ _ _, by simp [Value.ownBlock], Nat.le_refl _⟩
  have hgr0 := Grew.refl hbuf0
  have hb0 := (Below.refl w.heap.size w).alloc (Nat.le_refl _) (.cells #[.slice none 0 0, .int .i64 (M : Int)] 35)
  have hcut1 : Bs (w.alloc (.cells #[.slice none 0 0, .int .i64 (M : Int)] 35)) A1 rest := hcut.alloc _
  have hz0 : (w.alloc (.cells #[.slice none 0 0, .int .i64 (M : Int)] 35)).heap.size = w.heap.size + 1 := by simp
  go_enter Try.func13, Try.ntmps13
  go_wp2_with fail
  generalize hW0 : w.alloc (.cells #[.slice none 0 0, .int .i64 (M : Int)] 35) = W0 at *
  clear hW0 hcut hbuf0 dl dl'
  go_loopw [7] (fun u wr => ∃ (r o : List UInt8) (A' : Option Addr) (c' f : Nat) (v' : Value), u = .slice A' r.length c' ∧ r.length ≤ c' ∧ c' ≤ cap ∧ Bs wr A' r ∧ (∀ a, A' = some a → a.block = ad.block) ∧ o.length ≤ M ∧ r.length ≤ f ∧ decF M f o r = R ∧ Grew W0 wr w.heap.size w.heap.size 35 5 [.int .i64 (M : Int)] (.slice none 0 0) v' o) (fun u _ => lenOf u)
  case atStart => exact ⟨rest, [], A1, cap - 1, rest.length, _, rfl, by omega, by omega, hcut1, hA1b, by simp, Nat.le_refl _, hR.out, hgr0⟩
  case round =>
    clear hcut1 hgr0 hR r1
    obtain ⟨r, o, A', c', f, v', rfl, hrc, hcc, hbr, hAb, hoM, hrf, hR, hgr⟩ := hrel
    have hvb : ∀ q, v'.ownBlock = some q → w.heap.size + 1 ≤ q := fun q e => by
      rcases hgr.fresh with e2 | ⟨q2, e2, hq⟩
      · rw [e2] at e; cases e
      · rw [e2] at e
        have := Option.some.inj e
        omega
    have hbel := hgr.kept.below hb0 (fun k _ hmm => by
      rcases hmm with h | h
      · omega
      · cases h) hb0.size
    cases hr : r with
    | nil =>
      subst hr
      rw [decF_nil] at hR
      have d1 : ¬ (0 : Int) < (([] : List UInt8).length : Int) := by simp
      have c0 := (hgr.buf.row.cell 0).trans (show #[v', .int .i64 (M : Int)][0]? = some v' from rfl)
      have ho := hgr.buf.own
      clear hbr hAb hgr
      go_wp2_with fail
      go_ret2
      exact ⟨v', by rw [← hR]; rfl, by rw [← hR]; exact ho, hbel⟩
    | cons c2 r2 =>
      subst hr
      obtain ⟨ad2, hA2⟩ : ∃ a, A' = some a := by
        obtain ⟨a, e, _⟩ := hbr.at_ 0 (by simp)
        exact ⟨a, e⟩
      subst hA2
      have hadb2 := hAb ad2 rfl
      have hst := ostep_any w.heap.size w.heap.size M v' o c2 r2 ad2 c' wr hgr.buf hbr ⟨by omega, fun e => by have := hvb _ e; omega⟩ (by simpa using hrc) (by unfold maxLen; omega) hoM hMb
      obtain ⟨f, rfl⟩ : ∃ f', f = f' + 1 := ⟨f - 1, by simp at hrf; omega⟩
      rw [decF_item] at hR
      unfold Stepped at hst
      have d1 : (0 : Int) < ((c2 :: r2).length : Int) := by simp
      cases hi : item M o (c2 :: r2) with
      | error k =>
        rw [hi] at hst hR
        have hk0 : ((k : Int) != 0) = true := by rcases item_err hi with rfl | rfl <;> rfl
        replace hst := Lib.hid hst
        replace hR := Lib.hid hR
        clear hi hbr hAb
        go_wp2_with fail
        refine hst.out.mono ?_
        rintro e w2 ⟨rfl, hk2⟩
        have hb2 := hk2.below hbel (fun _ _ e => e.elim) hbel.size
        clear hst
        go_wp2_with fail
        go_ret2
        rw [← hR.out]
        exact Told.err hb2
      | ok or =>
        obtain ⟨o2, r3⟩ := or
        rw [hi] at hst hR
        obtain ⟨hl3, ho3⟩ := item_ok hi hoM
        replace hst := Lib.hid hst
        replace hR := Lib.hid hR
        clear hi
        go_wp2_with fail
        refine hst.out.mono ?_
        rintro e w2 ⟨A3, c3, v3, rfl, hr3, hcc3, hb3, hA3, hg3⟩
        have hgr2 := hgr.trans hg3
        clear hst hgr hg3 hbr
        go_wp2_with fail
        go_roundw
        case rel =>
          refine ⟨r3, o2, A3, c3, f, v3, rfl, hr3, by omega, hb3, fun a e => ?_, ho3, by simp at hrf; omega, hR.out, hgr2⟩
          obtain ⟨a', e1, e2⟩ := hA3 a e
          rw [← e2, hAb a' e1]
        case measure => simp [lenOf]; omega

theorem empty_rd {A : Option Addr} (p : List UInt8) {w : World} (h : Bs w A p) (hp : 0 < p.length) : ∃ ad, A = some ad := by
  obtain ⟨a, e, _⟩ := h.at_ 0 hp
  exact ⟨a, e⟩

set_option maxHeartbeats 1000000 in
theorem unpack_bad (ad : Addr) (cap : Nat) (c : UInt8) (rest : List UInt8) (most : Int) (w : World) (hc : rest.length + 1 ≤ cap) (hm : cap ≤ maxLen) (hbs : Bs w (some ad) (c :: rest)) (h1 : 1 < c.toNat) (hlo : -9223372036854775808 ≤ most) (hhi : most ≤ 1000000) :
    Calls Try.prog 13 #[.slice (some ad) (rest.length + 1) cap, .int .i64 most] w (Told w.heap.size 5 ([], 60) w) := by
  have hm' := hm
  unfold maxLen at hm
  obtain ⟨ad1, e1, hc0⟩ := hbs.at_ 0 (by simp)
  obtain rfl := Option.some.inj e1
  clear e1
  have ead : ad.add 0 = ad := by unfold Addr.add; simp
  rw [ead] at hc0
  clear ead
  replace hc0 : w.cell? ad = some (.int .u8 (c.toNat : Int)) := hc0
  have hcl := c.toNat_lt
  obtain ⟨M, hM⟩ : ∃ M : Nat, max most 0 = M := ⟨(max most 0).toNat, by omega⟩
  have dl : (((rest.length + 1 : Nat) : Int) == 0) = false := beq_false_of_ne (by omega)
  have dl' : ((rest.length : Int) + 1 == 0) = false := beq_false_of_ne (by omega)
  have d1 : decide ((1 : Int) < (c.toNat : Int)) = true := by simp; omega
  go_enter Try.func13, Try.ntmps13
  go_wp2_with fail
  go_ret2
  exact Told.err (Below.refl _ _)
set_option maxHeartbeats 1000000 in
theorem unpack_none (A : Option Addr) (cap : Nat) (most : Int) (w : World) (hlo : -9223372036854775808 ≤ most) (hhi : most ≤ 1000000) :
    Calls Try.prog 13 #[.slice A 0 cap, .int .i64 most] w (Told w.heap.size 5 ([], 60) w) := by
  obtain ⟨M, hM⟩ : ∃ M : Nat, max most 0 = M := ⟨(max most 0).toNat, by omega⟩
  go_enter Try.func13, Try.ntmps13
  go_wp2_with fail
  go_ret2
  exact Told.err (Below.refl _ _)
set_option maxHeartbeats 1000000 in
theorem unpack_raw (ad : Addr) (cap : Nat) (c : UInt8) (rest : List UInt8) (most : Int) (w : World) (hc : rest.length + 1 ≤ cap) (hm : cap ≤ maxLen) (hbs : Bs w (some ad) (c :: rest)) (h1 : c.toNat = 0) (hlo : -9223372036854775808 ≤ most) (hhi : most ≤ 1000000) (hl : rest.length ≤ 1000000) :
    Calls Try.prog 13 #[.slice (some ad) (rest.length + 1) cap, .int .i64 most] w (Told w.heap.size 5 (if max most 0 < rest.length then ([], 4) else (rest, 0)) w) := by
  have hm' := hm
  unfold maxLen at hm
  obtain ⟨ad1, e1, hc0⟩ := hbs.at_ 0 (by simp)
  obtain rfl := Option.some.inj e1
  clear e1
  have ead : ad.add 0 = ad := by unfold Addr.add; simp
  rw [ead] at hc0
  clear ead
  replace hc0 : w.cell? ad = some (.int .u8 (c.toNat : Int)) := hc0
  have hcl := c.toNat_lt
  obtain ⟨M, hM⟩ : ∃ M : Nat, max most 0 = M := ⟨(max most 0).toNat, by omega⟩
  have dl : (((rest.length + 1 : Nat) : Int) == 0) = false := beq_false_of_ne (by omega)
  have dl' : ((rest.length : Int) + 1 == 0) = false := beq_false_of_ne (by omega)
  rw [h1] at hc0
  rw [hM]
  by_cases h : M < rest.length
  · rw [if_pos (by omega)]
    have d2 : decide ((M : Int) < (rest.length : Int)) = true := by simp; omega
    have d3 : decide (M < rest.length) = true := by simp; omega
    go_enter Try.func13, Try.ntmps13
    go_wp2_with fail
    go_ret2
    exact Told.err (Below.refl _ _)
  · rw [if_neg (by omega)]
    have d2 : decide ((M : Int) < (rest.length : Int)) = false := by simp; omega
    have d3 : decide (M < rest.length) = false := by simp; omega
    have hcut := Bs.cut hbs 1 cap (by simpa using hc)
    have r1 : ∀ w, (Instr.slice 22 (.slice (some ad) (rest.length + 1) cap) (some (.int .i64 1)) none none).run Try.prog w = .ok (.slice (if cap = 1 then some ad else (some ad).map (·.add 1)) rest.length (cap - 1)) w := fun w => run_slice_lo (P := Try.prog) (T := 22) (E := 5) Try.underlying22 (by kernel_rfl) w (some ad) (rest.length + 1) cap 1 (by omega) hc
    obtain ⟨A1, hA1⟩ : ∃ A1, (if cap = 1 then some ad else (some ad).map (·.add 1)) = A1 := ⟨_, rfl⟩
    rw [hA1] at r1 hcut
    replace hcut : Bs w A1 rest := hcut
    clear hA1
    go_enter Try.func13, Try.ntmps13
    go_wp2_with (at_builtin; refine wpList_append_any rfl _ _ 22 rfl w.heap.size 5 (.int .u8 0) 1 1 Try.underlying22 infoB rfl (by decide) (.slice none 0 0) 0 [] rfl (World.ownsRow_nil w w.heap.size 5 1) A1 rest.length (cap - 1) (rest.map bv) rfl hcut (by rw [List.length_map]; omega) (bv_one rest) (by unfold maxLen; omega) (by omega) (Nat.le_refl _) ?_; intro v2 w2 ho2 hg2 _)
    go_ret2
    refine ⟨v2, rfl, ?_, ⟨hg2.os, hg2.tape, hg2.output, hg2.size, fun k hk => hg2.block k hk (fun e => by cases e)⟩⟩
    simpa using ho2
/-- P6.2, in memory. -/
theorem unpack_any (A : Option Addr) (cap : Nat) (p : List UInt8) (most : Int) (w : World) (hc : p.length ≤ cap) (hm : cap ≤ maxLen) (hbs : Bs w A p) (hl : p.length ≤ 1000000) (hlo : -9223372036854775808 ≤ most) (hhi : most ≤ 1000000) :
    Calls Try.prog 13 #[.slice A p.length cap, .int .i64 most] w (Told w.heap.size 5 (unpB p most) w) := by
  cases p with
  | nil => exact unpack_none A cap most w hlo hhi
  | cons c rest =>
    obtain ⟨ad, rfl⟩ := empty_rd _ hbs (by simp)
    have hl' : rest.length ≤ 1000000 := by simp at hl; omega
    have hu : unpB (c :: rest) most = if 1 < c.toNat then ([], 60) else if c.toNat = 0 then (if max most 0 < rest.length then ([], 4) else (rest, 0)) else decF (max most 0).toNat rest.length [] rest := rfl
    rw [hu]
    by_cases h1 : 1 < c.toNat
    · rw [if_pos h1]
      exact unpack_bad ad cap c rest most w hc hm hbs h1 hlo hhi
    · rw [if_neg h1]
      by_cases h0 : c.toNat = 0
      · rw [if_pos h0]
        exact unpack_raw ad cap c rest most w hc hm hbs h0 hlo hhi hl'
      · rw [if_neg h0]
        exact unpack_packed ad cap c rest most w hc hm hbs (by omega) hlo hhi
end Go.Proofs.Ythbniljkgdkdnaa
