/-
  Layer 6, the program: an item is unpacked.
-/
import Derived.Test.YthbniljkgdkdnaaLzAgain
namespace Go.Proofs.Ythbniljkgdkdnaa
open Go.RowKit
set_option linter.unusedVariables false
set_option linter.unusedSimpArgs false

/-- One item: what came of it, what is left; or the error's number. -/
def item (most : Nat) (out : List UInt8) : List UInt8 → Except Int (List UInt8 × List UInt8)
  | [] => .ok (out, [])
  | c :: rest =>
    if c.toNat < 128 then (if rest.length < c.toNat + 1 then .error 60 else if most - out.length < c.toNat + 1 then .error 4 else .ok (out ++ rest.take (c.toNat + 1), rest.drop (c.toNat + 1)))
    else match rest with
      | [] => .error 60
      | e :: rest => if out.length < e.toNat + 1 then .error 60 else if most - out.length < c.toNat - 128 + 3 then .error 4 else .ok (rep out (e.toNat + 1) (c.toNat - 128 + 3), rest)
theorem decF_item (most f : Nat) (out : List UInt8) (c : UInt8) (rest : List UInt8) : decF most (f + 1) out (c :: rest) = match item most out (c :: rest) with
    | .error e => ([], e)
    | .ok (o, r) => decF most f o r := by
  unfold item
  by_cases h : c.toNat < 128
  · rw [decF_lit _ _ _ _ _ h]
    simp only [if_pos h]
    by_cases h1 : rest.length < c.toNat + 1
    · simp only [if_pos h1]
    · by_cases h2 : most - out.length < c.toNat + 1
      · simp only [if_neg h1, if_pos h2]
      · simp only [if_neg h1, if_neg h2]
  · simp only [if_neg h]
    cases rest with
    | nil => rw [decF_end _ _ _ _ h]
    | cons e rest =>
      rw [decF_far _ _ _ _ _ _ h]
      by_cases h1 : out.length < e.toNat + 1
      · simp only [if_pos h1]
      · by_cases h2 : most - out.length < c.toNat - 128 + 3
        · simp only [if_neg h1, if_pos h2]
        · simp only [if_neg h1, if_neg h2]
/-- What an item's step leaves. -/
def Stepped (B g most : Nat) (v : Value) (out p : List UInt8) (A : Option Addr) (cap : Nat) (w : World) (e : Ending) (w' : World) : Prop :=
  match item most out p with
  | .error k => e = .returned (.tuple #[.slice none 0 0, .int .i64 k]) ∧ Kept w w' (fun _ => False)
  | .ok (o, r) => ∃ (A' : Option Addr) (c' : Nat) (v' : Value), e = .returned (.tuple #[.slice A' r.length c', .int .i64 0]) ∧ r.length ≤ c' ∧ c' ≤ cap ∧ Bs w' A' r ∧ (∀ ad, A' = some ad → ∃ ad', A = some ad' ∧ ad'.block = ad.block) ∧ Grew w w' B g 35 5 [.int .i64 (most : Int)] v v' o
theorem item_lit_short {most : Nat} {out rest : List UInt8} {c : UInt8} (h : c.toNat < 128) (h1 : rest.length < c.toNat + 1) : item most out (c :: rest) = .error 60 := by unfold item; simp only [if_pos h, if_pos h1]
theorem item_lit_long {most : Nat} {out rest : List UInt8} {c : UInt8} (h : c.toNat < 128) (h1 : ¬ rest.length < c.toNat + 1) (h2 : most - out.length < c.toNat + 1) : item most out (c :: rest) = .error 4 := by unfold item; simp only [if_pos h, if_neg h1, if_pos h2]
theorem item_lit {most : Nat} {out rest : List UInt8} {c : UInt8} (h : c.toNat < 128) (h1 : ¬ rest.length < c.toNat + 1) (h2 : ¬ most - out.length < c.toNat + 1) : item most out (c :: rest) = .ok (out ++ rest.take (c.toNat + 1), rest.drop (c.toNat + 1)) := by unfold item; simp only [if_pos h, if_neg h1, if_neg h2]
theorem item_end {most : Nat} {out : List UInt8} {c : UInt8} (h : ¬ c.toNat < 128) : item most out [c] = .error 60 := by unfold item; simp only [if_neg h]
theorem item_far {most : Nat} {out rest : List UInt8} {c e : UInt8} (h : ¬ c.toNat < 128) (h1 : out.length < e.toNat + 1) : item most out (c :: e :: rest) = .error 60 := by unfold item; simp only [if_neg h, if_pos h1]
theorem item_far_long {most : Nat} {out rest : List UInt8} {c e : UInt8} (h : ¬ c.toNat < 128) (h1 : ¬ out.length < e.toNat + 1) (h2 : most - out.length < c.toNat - 128 + 3) : item most out (c :: e :: rest) = .error 4 := by unfold item; simp only [if_neg h, if_neg h1, if_pos h2]
theorem item_match {most : Nat} {out rest : List UInt8} {c e : UInt8} (h : ¬ c.toNat < 128) (h1 : ¬ out.length < e.toNat + 1) (h2 : ¬ most - out.length < c.toNat - 128 + 3) : item most out (c :: e :: rest) = .ok (rep out (e.toNat + 1) (c.toNat - 128 + 3), rest) := by unfold item; simp only [if_neg h, if_neg h1, if_neg h2]


set_option maxHeartbeats 2000000 in
theorem ostep_lit_short
    (B g most : Nat) (v : Value) (out : List UInt8) (c : UInt8) (rest : List UInt8) (ad : Addr) (cap : Nat) (w : World)
    (hbuf : Buf B w g 35 5 [.int .i64 (most : Int)] v out) (hbs : Bs w (some ad) (c :: rest)) (hA : ad.block ≠ g ∧ v.ownBlock ≠ some ad.block) (hc : rest.length + 1 ≤ cap) (hm : cap ≤ maxLen) (hmo : out.length ≤ most) (hmm : most ≤ 1000000)
    (h : c.toNat < 128) (h1 : rest.length < c.toNat + 1) :
    Calls Try.prog 17 #[.pointer (some ⟨g, 0, none⟩), .slice (some ad) (rest.length + 1) cap] w fun e w' => e = .returned (.tuple #[.slice none 0 0, .int .i64 60]) ∧ Kept w w' (fun _ => False) := by
  have d1 : decide (128 ≤ (c.toNat : Int)) = false := by simp; omega
  have d2 : decide ((rest.length : Int) < (c.toNat : Int) + 1) = true := by simp; omega
  unfold maxLen at hm
  obtain ⟨ad1, e1, hc0⟩ := hbs.at_ 0 (by simp)
  obtain rfl := Option.some.inj e1
  clear e1
  have ead : ad.add 0 = ad := by unfold Addr.add; simp
  rw [ead] at hc0
  clear ead
  replace hc0 : w.cell? ad = some (.int .u8 (c.toNat : Int)) := hc0
  have hcut := Bs.cut hbs 1 cap (by simpa using hc)
  have r1 : ∀ w, (Instr.slice 22 (.slice (some ad) (rest.length + 1) cap) (some (.int .i64 1)) none none).run Try.prog w = .ok (.slice (if cap = 1 then some ad else (some ad).map (·.add 1)) rest.length (cap - 1)) w := fun w => run_slice_lo (P := Try.prog) (T := 22) (E := 5) Try.underlying22 (by kernel_rfl) w (some ad) (rest.length + 1) cap 1 (by omega) hc
  obtain ⟨A1, hA1⟩ : ∃ A1, (if cap = 1 then some ad else (some ad).map (·.add 1)) = A1 := ⟨_, rfl⟩
  have hA1b : ∀ a, A1 = some a → a.block = ad.block := fun a e => by
    rw [← hA1] at e
    split at e
    · rw [← Option.some.inj e]
    · rw [← Option.some.inj e]; exact add_blk _ _
  rw [hA1] at r1 hcut
  replace hcut : Bs w A1 rest := hcut
  clear hA1
  have hcl := c.toNat_lt
  obtain ⟨hrow, hown, hap, hbase⟩ := id hbuf
  have cc0 := (hrow.cell 0).trans (show #[v, .int .i64 (most : Int)][0]? = some v from rfl)
  have cc1 := (hrow.cell 1).trans (show #[v, .int .i64 (most : Int)][1]? = some (.int .i64 (most : Int)) from rfl)
  have ff0 := hrow.free 0
  obtain ⟨Av, cv, hv, _, _, _⟩ := own_slice hown
  subst hv
  go_enter Try.func17, Try.ntmps17
  go_wp2_with fail
  go_quiet (fail)
  generalize nq = n1 at *
  go_wp2_with fail
  go_ret2
  exact ⟨rfl, (Kept.refl _ _).drawN _⟩

set_option maxHeartbeats 2000000 in
theorem ostep_lit_long
    (B g most : Nat) (v : Value) (out : List UInt8) (c : UInt8) (rest : List UInt8) (ad : Addr) (cap : Nat) (w : World)
    (hbuf : Buf B w g 35 5 [.int .i64 (most : Int)] v out) (hbs : Bs w (some ad) (c :: rest)) (hA : ad.block ≠ g ∧ v.ownBlock ≠ some ad.block) (hc : rest.length + 1 ≤ cap) (hm : cap ≤ maxLen) (hmo : out.length ≤ most) (hmm : most ≤ 1000000)
    (h : c.toNat < 128) (h1 : ¬ rest.length < c.toNat + 1) (h2 : most - out.length < c.toNat + 1) :
    Calls Try.prog 17 #[.pointer (some ⟨g, 0, none⟩), .slice (some ad) (rest.length + 1) cap] w fun e w' => e = .returned (.tuple #[.slice none 0 0, .int .i64 4]) ∧ Kept w w' (fun _ => False) := by
  have d1 : decide (128 ≤ (c.toNat : Int)) = false := by simp; omega
  have d2 : decide ((rest.length : Int) < (c.toNat : Int) + 1) = false := by simp; omega
  have d3 : decide (((most - out.length : Nat) : Int) < (c.toNat : Int) + 1) = true := by simp; omega
  have s9 : IntKind.i64.wrap ((most : Int) - (out.length : Int)) = ((most - out.length : Nat) : Int) := by rw [IntWalk.i64_in _ (by omega)]; omega
  generalize most - out.length = room at *
  unfold maxLen at hm
  obtain ⟨ad1, e1, hc0⟩ := hbs.at_ 0 (by simp)
  obtain rfl := Option.some.inj e1
  clear e1
  have ead : ad.add 0 = ad := by unfold Addr.add; simp
  rw [ead] at hc0
  clear ead
  replace hc0 : w.cell? ad = some (.int .u8 (c.toNat : Int)) := hc0
  have hcut := Bs.cut hbs 1 cap (by simpa using hc)
  have r1 : ∀ w, (Instr.slice 22 (.slice (some ad) (rest.length + 1) cap) (some (.int .i64 1)) none none).run Try.prog w = .ok (.slice (if cap = 1 then some ad else (some ad).map (·.add 1)) rest.length (cap - 1)) w := fun w => run_slice_lo (P := Try.prog) (T := 22) (E := 5) Try.underlying22 (by kernel_rfl) w (some ad) (rest.length + 1) cap 1 (by omega) hc
  obtain ⟨A1, hA1⟩ : ∃ A1, (if cap = 1 then some ad else (some ad).map (·.add 1)) = A1 := ⟨_, rfl⟩
  have hA1b : ∀ a, A1 = some a → a.block = ad.block := fun a e => by
    rw [← hA1] at e
    split at e
    · rw [← Option.some.inj e]
    · rw [← Option.some.inj e]; exact add_blk _ _
  rw [hA1] at r1 hcut
  replace hcut : Bs w A1 rest := hcut
  clear hA1
  have hcl := c.toNat_lt
  obtain ⟨hrow, hown, hap, hbase⟩ := id hbuf
  have cc0 := (hrow.cell 0).trans (show #[v, .int .i64 (most : Int)][0]? = some v from rfl)
  have cc1 := (hrow.cell 1).trans (show #[v, .int .i64 (most : Int)][1]? = some (.int .i64 (most : Int)) from rfl)
  have ff0 := hrow.free 0
  obtain ⟨Av, cv, hv, _, _, _⟩ := own_slice hown
  subst hv
  go_enter Try.func17, Try.ntmps17
  go_wp2_with fail
  go_quiet (fail)
  generalize nq = n1 at *
  go_wp2_with fail
  go_quiet (fail)
  go_wp2_with fail
  go_ret2
  exact ⟨rfl, ((Kept.refl _ _).drawN _).drawN _⟩
set_option maxHeartbeats 4000000 in
theorem ostep_lit
    (B g most : Nat) (v : Value) (out : List UInt8) (c : UInt8) (rest : List UInt8) (ad : Addr) (cap : Nat) (w : World)
    (hbuf : Buf B w g 35 5 [.int .i64 (most : Int)] v out) (hbs : Bs w (some ad) (c :: rest)) (hA : ad.block ≠ g ∧ v.ownBlock ≠ some ad.block) (hc : rest.length + 1 ≤ cap) (hm : cap ≤ maxLen) (hmo : out.length ≤ most) (hmm : most ≤ 1000000)
    (h : c.toNat < 128) (h1 : ¬ rest.length < c.toNat + 1) (h2 : ¬ most - out.length < c.toNat + 1) :
    Calls Try.prog 17 #[.pointer (some ⟨g, 0, none⟩), .slice (some ad) (rest.length + 1) cap] w fun e w' => ∃ (A' : Option Addr) (c' : Nat) (v' : Value), e = .returned (.tuple #[.slice A' (rest.drop (c.toNat + 1)).length c', .int .i64 0]) ∧ (rest.drop (c.toNat + 1)).length ≤ c' ∧ c' ≤ cap ∧ Bs w' A' (rest.drop (c.toNat + 1)) ∧ (∀ a, A' = some a → a.block = ad.block) ∧ Grew w w' B g 35 5 [.int .i64 (most : Int)] v v' (out ++ rest.take (c.toNat + 1)) := by
  have d1 : decide (128 ≤ (c.toNat : Int)) = false := by simp; omega
  have d2 : decide ((rest.length : Int) < (c.toNat : Int) + 1) = false := by simp; omega
  have d3 : decide (((most - out.length : Nat) : Int) < (c.toNat : Int) + 1) = false := by simp; omega
  have s9 : IntKind.i64.wrap ((most : Int) - (out.length : Int)) = ((most - out.length : Nat) : Int) := by rw [IntWalk.i64_in _ (by omega)]; omega
  obtain ⟨r, hr⟩ : ∃ r, rest.drop (c.toNat + 1) = r := ⟨_, rfl⟩
  have hrl : r.length + (c.toNat + 1) ≤ rest.length := by rw [← hr]; simp; omega
  have hrl2 : rest.length - (c.toNat + 1) = r.length := by rw [← hr]; simp
  rw [hr]
  replace hr := Lib.hid hr
  replace hrl2 := Lib.hid hrl2
  obtain ⟨room, hroom⟩ : ∃ r, most - out.length = r := ⟨_, rfl⟩
  rw [hroom] at d3 s9
  clear hroom
  unfold maxLen at hm
  obtain ⟨ad1, e1, hc0⟩ := hbs.at_ 0 (by simp)
  obtain rfl := Option.some.inj e1
  clear e1
  have ead : ad.add 0 = ad := by unfold Addr.add; simp
  rw [ead] at hc0
  clear ead
  replace hc0 : w.cell? ad = some (.int .u8 (c.toNat : Int)) := hc0
  have hcut := Bs.cut hbs 1 cap (by simpa using hc)
  have r1 : ∀ w, (Instr.slice 22 (.slice (some ad) (rest.length + 1) cap) (some (.int .i64 1)) none none).run Try.prog w = .ok (.slice (if cap = 1 then some ad else (some ad).map (·.add 1)) rest.length (cap - 1)) w := fun w => run_slice_lo (P := Try.prog) (T := 22) (E := 5) Try.underlying22 (by kernel_rfl) w (some ad) (rest.length + 1) cap 1 (by omega) hc
  obtain ⟨A1, hA1⟩ : ∃ A1, (if cap = 1 then some ad else (some ad).map (·.add 1)) = A1 := ⟨_, rfl⟩
  have hA1b : ∀ a, A1 = some a → a.block = ad.block := fun a e => by
    rw [← hA1] at e
    split at e
    · rw [← Option.some.inj e]
    · rw [← Option.some.inj e]; exact add_blk _ _
  rw [hA1] at r1 hcut
  replace hcut : Bs w A1 rest := hcut
  clear hA1
  have hcl := c.toNat_lt
  obtain ⟨hrow, hown, hap, hbase⟩ := id hbuf
  have cc0 := (hrow.cell 0).trans (show #[v, .int .i64 (most : Int)][0]? = some v from rfl)
  have cc1 := (hrow.cell 1).trans (show #[v, .int .i64 (most : Int)][1]? = some (.int .i64 (most : Int)) from rfl)
  have ff0 := hrow.free 0
  obtain ⟨Av, cv, hv, _, _, _⟩ := own_slice hown
  subst hv
  go_enter Try.func17, Try.ntmps17
  go_wp2_with fail
  go_quiet (fail)
  generalize nq = n1 at *
  go_wp2_with fail
  go_quiet (fail)
  go_wp2_with fail
  refine wp_region_held_drew (S := fun _ => True) (by kernel_rfl) trivial (fun hHeld => ?_)
  have hgr0 := (Grew.refl hbuf).on ((Kept.refl w (fun _ => False)).drawN (n1 + nq)).draw
  have hcut1 : Bs (w.drewN (n1 + nq)).drew A1 rest := hcut
  have cx : (w.drewN (n1 + nq)).drew.cell? ⟨g, 0, none⟩ = some _ := cc0
  have fx : (w.drewN (n1 + nq)).drew.frozen? ⟨g, 0, none⟩ = false := ff0
  change wpAnyH _ _ _ _ _ _ _ _ (w.drewN (n1 + nq)).drew
  obtain ⟨x, hx⟩ : ∃ x, (w.drewN (n1 + nq)).drew = x := ⟨_, rfl⟩
  rw [hx] at hgr0 hcut1 cx fx ⊢
  clear hx
  have hown1 := hgr0.buf.own
  have hgx := hgr0.buf.row.lt
  have hcut2 := Bs.take hcut1 (c.toNat + 1)
  have hcut3 := Bs.cut hcut1 (c.toNat + 1) (cap - 1) (by omega)
  have hl2 : (rest.take (c.toNat + 1)).length = c.toNat + 1 := by simp; omega
  have r2 : ∀ w, (Instr.slice 22 (.slice A1 rest.length (cap - 1)) none (some (.int .i64 ((c.toNat : Int) + 1))) none).run Try.prog w = .ok (.slice A1 (c.toNat + 1) (cap - 1)) w := fun w => run_slice_hi (P := Try.prog) (T := 22) (E := 5) Try.underlying22 (by kernel_rfl) w A1 rest.length (cap - 1) (c.toNat + 1) (by omega)
  have r3 : ∀ w, (Instr.slice 22 (.slice A1 rest.length (cap - 1)) (some (.int .i64 ((c.toNat : Int) + 1))) none none).run Try.prog w = .ok (.slice (if cap - 1 = c.toNat + 1 then A1 else A1.map (·.add (c.toNat + 1))) (rest.length - (c.toNat + 1)) (cap - 1 - (c.toNat + 1))) w := fun w => run_slice_lo (P := Try.prog) (T := 22) (E := 5) Try.underlying22 (by kernel_rfl) w A1 rest.length (cap - 1) (c.toNat + 1) (by omega) (by omega)
  obtain ⟨A2, hA2⟩ : ∃ A2, (if cap - 1 = c.toNat + 1 then A1 else A1.map (·.add (c.toNat + 1))) = A2 := ⟨_, rfl⟩
  have hA2b : ∀ a, A2 = some a → a.block = ad.block := fun a e => by
    rw [← hA2] at e
    obtain ⟨a', e1, e2⟩ := cut_block_ e
    rw [← e2]; exact hA1b a' e1
  rw [hA2] at r3 hcut3
  rw [hrl2.out] at r3
  rw [hr.out] at hcut3
  clear hA2
  have hAx : ∀ a, A1 = some a → Av.map (·.block) ≠ some a.block := fun a e e2 => hA.2 (by
    rw [← hA1b a e, ← e2]
    cases Av <;> rfl)
  refine wpAnyH_take (i := 0) (v := ?_) rfl (by kernel_rfl) (by kernel_rfl) (by kernel_rfl) (fun _ _ _ h => h) (Or.inl ⟨by rfl, ?_⟩) hHeld ?_
  rotate_left
  · intro w hSw
    go_simp
    try rfl
  try simp only [List.getElem_toArray, List.getElem_cons_succ, List.getElem_cons_zero, Act.put, List.setIfInBounds_toArray, List.set_cons_zero, List.set_cons_succ]
  refine wpAnyH_take (i := 1) (v := ?_) rfl (by kernel_rfl) (by kernel_rfl) (by kernel_rfl) (fun _ _ _ h => h) (Or.inl ⟨by rfl, ?_⟩) hHeld ?_
  rotate_left
  · intro w hSw
    go_simp
    try rfl
  try simp only [List.getElem_toArray, List.getElem_cons_succ, List.getElem_cons_zero, Act.put, List.setIfInBounds_toArray, List.set_cons_zero, List.set_cons_succ]
  refine wpAnyH_take (i := 2) (v := ?_) rfl (by kernel_rfl) (by kernel_rfl) (by kernel_rfl) (fun _ _ _ h => h) (Or.inl ⟨by rfl, ?_⟩) hHeld ?_
  rotate_left
  · intro w hSw
    go_simp
    try rfl
  try simp only [List.getElem_toArray, List.getElem_cons_succ, List.getElem_cons_zero, Act.put, List.setIfInBounds_toArray, List.set_cons_zero, List.set_cons_succ]
  refine wpAnyH_take (i := 3) (v := ?_) rfl (by kernel_rfl) (by kernel_rfl) (by kernel_rfl) (fun _ _ _ h => h) (Or.inl ⟨by rfl, ?_⟩) hHeld ?_
  rotate_left
  · intro w hSw
    go_simp
    try rfl
  try simp only [List.getElem_toArray, List.getElem_cons_succ, List.getElem_cons_zero, Act.put, List.setIfInBounds_toArray, List.set_cons_zero, List.set_cons_succ]
  refine wpAnyH_take (i := 5) (v := ?_) rfl (by kernel_rfl) (by kernel_rfl) (by kernel_rfl) (fun _ _ _ h => h) (Or.inl ⟨by rfl, ?_⟩) hHeld ?_
  rotate_left
  · intro w hSw
    go_simp
    try rfl
  try simp only [List.getElem_toArray, List.getElem_cons_succ, List.getElem_cons_zero, Act.put, List.setIfInBounds_toArray, List.set_cons_zero, List.set_cons_succ]
  refine wpAnyH_take (i := 6) (v := ?_) rfl (by kernel_rfl) (by kernel_rfl) (by kernel_rfl) (fun _ _ _ h => h) (Or.inl ⟨by rfl, ?_⟩) hHeld ?_
  rotate_left
  · intro w hSw
    go_simp
    try rfl
  try simp only [List.getElem_toArray, List.getElem_cons_succ, List.getElem_cons_zero, Act.put, List.setIfInBounds_toArray, List.set_cons_zero, List.set_cons_succ]
  refine wpAnyH_take (i := 7) (v := ?_) rfl (by kernel_rfl) (by kernel_rfl) (by kernel_rfl) (fun _ _ _ h => h) (Or.inl ⟨by rfl, ?_⟩) hHeld ?_
  rotate_left
  · intro w hSw
    go_simp
    try rfl
  try simp only [List.getElem_toArray, List.getElem_cons_succ, List.getElem_cons_zero, Act.put, List.setIfInBounds_toArray, List.set_cons_zero, List.set_cons_succ]
  refine wpAnyH_ready (rs := [4]) (by kernel_rfl) (by simp) ?_
  refine AllReadyH.cons rfl (fun K hK => ?_) AllReadyH.nil
  go_simp
  refine hK.out _ _ trivial (fun hHeld => ?_)
  clear hK K
  try simp only [List.getElem_toArray, List.getElem_cons_succ, List.getElem_cons_zero, Act.put, List.setIfInBounds_toArray, List.set_cons_zero, List.set_cons_succ]
  refine wpAnyH_ready (rs := [8]) (by kernel_rfl) (by simp) ?_
  refine AllReadyH.cons rfl (fun K hK => ?_) AllReadyH.nil
  refine step_append_any rfl _ _ 22 rfl B 5 (.int .u8 0) 1 1 Try.underlying22 infoB rfl (by decide) (.slice Av out.length cv) out.length (out.map bv) rfl hown1 A1 (c.toNat + 1) (cap - 1) ((rest.take (c.toNat + 1)).map bv) rfl hcut2 (by rw [List.length_map]; omega) (bv_one _) (by unfold maxLen; omega) (by omega) (by omega) ?_
  intro v2 w2 ho2 hg2 hn2
  obtain ⟨A3, c3, hv2, _, _, _⟩ := own_slice ho2
  subst hv2
  refine hK.out _ _ trivial (fun hHeld => ?_)
  clear hK K
  try simp only [List.getElem_toArray, List.getElem_cons_succ, List.getElem_cons_zero, Act.put, List.setIfInBounds_toArray, List.set_cons_zero, List.set_cons_succ]
  have hap2 := hgr0.buf.apart
  have hk2 : Kept x w2 (fun k => (Value.slice Av out.length cv).ownBlock = some k) := Kept.of_grown hg2 (fun k _ e => e)
  have ho3 : w2.ownsRow B 5 1 (.slice A3 (out.length + (c.toNat + 1)) c3) (out ++ rest.take (c.toNat + 1)).length ((out ++ rest.take (c.toNat + 1)).map bv) := by
    rw [List.map_append, List.length_append, hl2]
    exact ho2
  have hfin := hgr0.store hk2 ho3 (by
    rcases hn2 with h | h
    · exact .inl h
    · exact .inr ⟨_, h, Nat.le_refl _⟩)
  have hrow2 := hk2.row hgr0.buf.row hap2
  have c2 := (hrow2.cell 0).trans (show #[Value.slice Av out.length cv, .int .i64 (most : Int)][0]? = some _ from rfl)
  have f2 := hrow2.free 0
  have hcut4 : Bs (w2.setCell ⟨g, 0, none⟩ (.slice A3 (out.length + (c.toNat + 1)) c3)) A2 r := by
    refine Rd.set_ (hk2.bs hcut3 (.inr fun a e => ?_)) (fun a e => ?_) _
    · rw [hA2b a e]; exact hA.2
    · show a.block ≠ g
      rw [hA2b a e]; exact hA.1
  refine wpAnyH_take (i := 9) (v := ?_) rfl (by kernel_rfl) (by kernel_rfl) (by kernel_rfl) (fun _ _ _ h => h) (Or.inl ⟨by rfl, ?_⟩) hHeld ?_
  rotate_left
  · intro w hSw
    go_simp
    try rfl
  try simp only [List.getElem_toArray, List.getElem_cons_succ, List.getElem_cons_zero, Act.put, List.setIfInBounds_toArray, List.set_cons_zero, List.set_cons_succ]
  refine wpAnyH_take (i := 10) (v := ?_) rfl (by kernel_rfl) (by kernel_rfl) (by kernel_rfl) (fun _ _ _ h => h) (Or.inl ⟨by rfl, ?_⟩) hHeld ?_
  rotate_left
  · intro w hSw
    go_simp
    try rfl
  try simp only [List.getElem_toArray, List.getElem_cons_succ, List.getElem_cons_zero, Act.put, List.setIfInBounds_toArray, List.set_cons_zero, List.set_cons_succ]
  refine wpAnyH_ready (rs := [11]) (by kernel_rfl) (by simp) ?_
  refine AllReadyH.cons rfl (fun K hK => ?_) AllReadyH.nil
  go_simp
  refine hK.out _ _ trivial (fun hHeld => ?_)
  clear hK K
  try simp only [List.getElem_toArray, List.getElem_cons_succ, List.getElem_cons_zero, Act.put, List.setIfInBounds_toArray, List.set_cons_zero, List.set_cons_succ]
  refine wpAnyH_done (by kernel_rfl) ?_ _
  clear c2 f2 hk2 ho2 ho3 hg2 hrow2 hgr0 hcut3 hcut2 hcut1
  go_wp2_with fail
  go_ret2
  exact ⟨A2, cap - 1 - (c.toNat + 1), _, rfl, by omega, by omega, hcut4, hA2b, hfin⟩

set_option maxHeartbeats 2000000 in
theorem ostep_end
    (B g most : Nat) (v : Value) (out : List UInt8) (c : UInt8) (rest : List UInt8) (ad : Addr) (cap : Nat) (w : World)
    (hbuf : Buf B w g 35 5 [.int .i64 (most : Int)] v out) (hbs : Bs w (some ad) (c :: rest)) (hA : ad.block ≠ g ∧ v.ownBlock ≠ some ad.block) (hc : rest.length + 1 ≤ cap) (hm : cap ≤ maxLen) (hmo : out.length ≤ most) (hmm : most ≤ 1000000)
    (h : ¬ c.toNat < 128) (h1 : rest.length = 0) :
    Calls Try.prog 17 #[.pointer (some ⟨g, 0, none⟩), .slice (some ad) (rest.length + 1) cap] w fun e w' => e = .returned (.tuple #[.slice none 0 0, .int .i64 60]) ∧ Kept w w' (fun _ => False) := by
  have d1 : decide (128 ≤ (c.toNat : Int)) = true := by simp; omega
  have d2 : ((rest.length : Int) == 0) = true := beq_iff_eq.2 (by omega)
  clear h1
  unfold maxLen at hm
  obtain ⟨ad1, e1, hc0⟩ := hbs.at_ 0 (by simp)
  obtain rfl := Option.some.inj e1
  clear e1
  have ead : ad.add 0 = ad := by unfold Addr.add; simp
  rw [ead] at hc0
  clear ead
  replace hc0 : w.cell? ad = some (.int .u8 (c.toNat : Int)) := hc0
  have hcut := Bs.cut hbs 1 cap (by simpa using hc)
  have r1 : ∀ w, (Instr.slice 22 (.slice (some ad) (rest.length + 1) cap) (some (.int .i64 1)) none none).run Try.prog w = .ok (.slice (if cap = 1 then some ad else (some ad).map (·.add 1)) rest.length (cap - 1)) w := fun w => run_slice_lo (P := Try.prog) (T := 22) (E := 5) Try.underlying22 (by kernel_rfl) w (some ad) (rest.length + 1) cap 1 (by omega) hc
  obtain ⟨A1, hA1⟩ : ∃ A1, (if cap = 1 then some ad else (some ad).map (·.add 1)) = A1 := ⟨_, rfl⟩
  have hA1b : ∀ a, A1 = some a → a.block = ad.block := fun a e => by
    rw [← hA1] at e
    split at e
    · rw [← Option.some.inj e]
    · rw [← Option.some.inj e]; exact add_blk _ _
  rw [hA1] at r1 hcut
  replace hcut : Bs w A1 rest := hcut
  clear hA1
  have hcl := c.toNat_lt
  obtain ⟨hrow, hown, hap, hbase⟩ := id hbuf
  have cc0 := (hrow.cell 0).trans (show #[v, .int .i64 (most : Int)][0]? = some v from rfl)
  have cc1 := (hrow.cell 1).trans (show #[v, .int .i64 (most : Int)][1]? = some (.int .i64 (most : Int)) from rfl)
  have ff0 := hrow.free 0
  obtain ⟨Av, cv, hv, _, _, _⟩ := own_slice hown
  subst hv
  go_enter Try.func17, Try.ntmps17
  go_wp2_with fail
  go_quiet (fail)
  generalize nq = n1 at *
  go_wp2_with fail
  go_ret2
  exact ⟨rfl, (Kept.refl _ _).drawN _⟩

set_option maxRecDepth 100000 in
set_option maxHeartbeats 2000000 in
theorem ostep_far
    (B g most : Nat) (v : Value) (out : List UInt8) (c : UInt8) (rest : List UInt8) (ad : Addr) (cap : Nat) (w : World)
    (hbuf : Buf B w g 35 5 [.int .i64 (most : Int)] v out) (hbs : Bs w (some ad) (c :: rest)) (hA : ad.block ≠ g ∧ v.ownBlock ≠ some ad.block) (hc : rest.length + 1 ≤ cap) (hm : cap ≤ maxLen) (hmo : out.length ≤ most) (hmm : most ≤ 1000000)
    (e : UInt8) (r : List UInt8) (hrest : rest = e :: r) (h : ¬ c.toNat < 128) (h1 : out.length < e.toNat + 1) :
    Calls Try.prog 17 #[.pointer (some ⟨g, 0, none⟩), .slice (some ad) (rest.length + 1) cap] w fun e w' => e = .returned (.tuple #[.slice none 0 0, .int .i64 60]) ∧ Kept w w' (fun _ => False) := by
  have d1 : decide (128 ≤ (c.toNat : Int)) = true := by simp; omega
  have hrl : rest.length = r.length + 1 := by rw [hrest]; rfl
  have d2 : ((rest.length : Int) == 0) = false := beq_false_of_ne (by omega)
  have hel := e.toNat_lt
  unfold maxLen at hm
  obtain ⟨ad1, e1, hc0⟩ := hbs.at_ 0 (by simp)
  obtain rfl := Option.some.inj e1
  clear e1
  have ead : ad.add 0 = ad := by unfold Addr.add; simp
  rw [ead] at hc0
  clear ead
  replace hc0 : w.cell? ad = some (.int .u8 (c.toNat : Int)) := hc0
  have hcut := Bs.cut hbs 1 cap (by simpa using hc)
  have r1 : ∀ w, (Instr.slice 22 (.slice (some ad) (rest.length + 1) cap) (some (.int .i64 1)) none none).run Try.prog w = .ok (.slice (if cap = 1 then some ad else (some ad).map (·.add 1)) rest.length (cap - 1)) w := fun w => run_slice_lo (P := Try.prog) (T := 22) (E := 5) Try.underlying22 (by kernel_rfl) w (some ad) (rest.length + 1) cap 1 (by omega) hc
  obtain ⟨A1, hA1⟩ : ∃ A1, (if cap = 1 then some ad else (some ad).map (·.add 1)) = A1 := ⟨_, rfl⟩
  have hA1b : ∀ a, A1 = some a → a.block = ad.block := fun a e => by
    rw [← hA1] at e
    split at e
    · rw [← Option.some.inj e]
    · rw [← Option.some.inj e]; exact add_blk _ _
  rw [hA1] at r1 hcut
  replace hcut : Bs w A1 rest := hcut
  clear hA1
  have hcl := c.toNat_lt
  obtain ⟨hrow, hown, hap, hbase⟩ := id hbuf
  have cc0 := (hrow.cell 0).trans (show #[v, .int .i64 (most : Int)][0]? = some v from rfl)
  have cc1 := (hrow.cell 1).trans (show #[v, .int .i64 (most : Int)][1]? = some (.int .i64 (most : Int)) from rfl)
  have ff0 := hrow.free 0
  obtain ⟨Av, cv, hv, _, _, _⟩ := own_slice hown
  subst hv
  obtain ⟨k, hk⟩ : ∃ k, c.toNat - 128 = k := ⟨_, rfl⟩
  obtain ⟨n, hn⟩ : ∃ n, k + 3 = n := ⟨_, rfl⟩
  obtain ⟨D, hD⟩ : ∃ D, e.toNat + 1 = D := ⟨_, rfl⟩
  have t1 : IntKind.i64.wrap ((c.toNat : Int) - 128) = (k : Int) := by rw [IntWalk.i64_in _ (by omega)]; omega
  have t2 : IntKind.i64.wrap ((k : Int) + 3) = (n : Int) := by rw [IntWalk.i64_in _ (by omega)]; omega
  have t3 : IntKind.i64.wrap ((e.toNat : Int) + 1) = (D : Int) := by rw [IntWalk.i64_in _ (by omega)]; omega
  have nD : (D : Int) ≤ 256 := by omega
  have nn : (n : Int) ≤ 130 := by omega
  have d5 : ((D : Int) == 0) = false := by simp; omega
  obtain ⟨a1, e1, he0⟩ := hcut.at_ 0 (by omega)
  have ee0 : rest[0]'(by omega) = e := by simp [hrest]
  rw [ee0] at he0
  have ead : a1.add 0 = a1 := by unfold Addr.add; simp
  rw [ead] at he0
  clear ead ee0
  subst e1
  have hcut5 := Bs.cut hcut 1 (cap - 1) (by omega)
  have r4 : ∀ w, (Instr.slice 22 (.slice (some a1) rest.length (cap - 1)) (some (.int .i64 1)) none none).run Try.prog w = .ok (.slice (if cap - 1 = 1 then some a1 else (some a1).map (·.add 1)) (rest.length - 1) (cap - 1 - 1)) w := fun w => run_slice_lo (P := Try.prog) (T := 22) (E := 5) Try.underlying22 (by kernel_rfl) w (some a1) rest.length (cap - 1) 1 (by omega) (by omega)
  obtain ⟨A2, hA2⟩ : ∃ A2, (if cap - 1 = 1 then some a1 else (some a1).map (·.add 1)) = A2 := ⟨_, rfl⟩
  have hA2b : ∀ a, A2 = some a → a.block = ad.block := fun a e => by
    rw [← hA2] at e
    obtain ⟨a', e1, e2⟩ := cut_block_ e
    rw [← e2]; exact hA1b a' e1
  rw [hA2, show rest.length - 1 = r.length by omega] at r4
  rw [hA2] at hcut5
  have hcut6 : Bs w A2 r := by rw [hrest] at hcut5; exact hcut5
  clear hA2 hcut5 hcut
  have hr1 : r.length + 1 ≤ rest.length := by omega
  replace hrest := Lib.hid hrest
  clear hrl
  replace hk := Lib.hid hk
  replace hn := Lib.hid hn
  replace hD := Lib.hid hD
  have d3 : decide (out.length < D) = true := by have := hD.out; simp; omega
  clear h1
  go_enter Try.func17, Try.ntmps17
  go_wp2_with fail
  go_quiet (fail)
  generalize nq = n1 at *
  go_wp2_with fail
  go_quiet (fail)
  generalize nq = n2 at *
  clear t1 t2 t3
  go_wp2_with fail
  go_ret2
  exact ⟨rfl, (Kept.refl _ _).drawN _⟩
set_option maxRecDepth 100000 in
set_option maxHeartbeats 2000000 in
theorem ostep_far_long
    (B g most : Nat) (v : Value) (out : List UInt8) (c : UInt8) (rest : List UInt8) (ad : Addr) (cap : Nat) (w : World)
    (hbuf : Buf B w g 35 5 [.int .i64 (most : Int)] v out) (hbs : Bs w (some ad) (c :: rest)) (hA : ad.block ≠ g ∧ v.ownBlock ≠ some ad.block) (hc : rest.length + 1 ≤ cap) (hm : cap ≤ maxLen) (hmo : out.length ≤ most) (hmm : most ≤ 1000000)
    (e : UInt8) (r : List UInt8) (hrest : rest = e :: r) (h : ¬ c.toNat < 128) (h1 : ¬ out.length < e.toNat + 1) (h2 : most - out.length < c.toNat - 128 + 3) :
    Calls Try.prog 17 #[.pointer (some ⟨g, 0, none⟩), .slice (some ad) (rest.length + 1) cap] w fun e w' => e = .returned (.tuple #[.slice none 0 0, .int .i64 4]) ∧ Kept w w' (fun _ => False) := by
  have d1 : decide (128 ≤ (c.toNat : Int)) = true := by simp; omega
  have hrl : rest.length = r.length + 1 := by rw [hrest]; rfl
  have d2 : ((rest.length : Int) == 0) = false := beq_false_of_ne (by omega)
  have hel := e.toNat_lt
  unfold maxLen at hm
  obtain ⟨ad1, e1, hc0⟩ := hbs.at_ 0 (by simp)
  obtain rfl := Option.some.inj e1
  clear e1
  have ead : ad.add 0 = ad := by unfold Addr.add; simp
  rw [ead] at hc0
  clear ead
  replace hc0 : w.cell? ad = some (.int .u8 (c.toNat : Int)) := hc0
  have hcut := Bs.cut hbs 1 cap (by simpa using hc)
  have r1 : ∀ w, (Instr.slice 22 (.slice (some ad) (rest.length + 1) cap) (some (.int .i64 1)) none none).run Try.prog w = .ok (.slice (if cap = 1 then some ad else (some ad).map (·.add 1)) rest.length (cap - 1)) w := fun w => run_slice_lo (P := Try.prog) (T := 22) (E := 5) Try.underlying22 (by kernel_rfl) w (some ad) (rest.length + 1) cap 1 (by omega) hc
  obtain ⟨A1, hA1⟩ : ∃ A1, (if cap = 1 then some ad else (some ad).map (·.add 1)) = A1 := ⟨_, rfl⟩
  have hA1b : ∀ a, A1 = some a → a.block = ad.block := fun a e => by
    rw [← hA1] at e
    split at e
    · rw [← Option.some.inj e]
    · rw [← Option.some.inj e]; exact add_blk _ _
  rw [hA1] at r1 hcut
  replace hcut : Bs w A1 rest := hcut
  clear hA1
  have hcl := c.toNat_lt
  obtain ⟨hrow, hown, hap, hbase⟩ := id hbuf
  have cc0 := (hrow.cell 0).trans (show #[v, .int .i64 (most : Int)][0]? = some v from rfl)
  have cc1 := (hrow.cell 1).trans (show #[v, .int .i64 (most : Int)][1]? = some (.int .i64 (most : Int)) from rfl)
  have ff0 := hrow.free 0
  obtain ⟨Av, cv, hv, _, _, _⟩ := own_slice hown
  subst hv
  obtain ⟨k, hk⟩ : ∃ k, c.toNat - 128 = k := ⟨_, rfl⟩
  obtain ⟨n, hn⟩ : ∃ n, k + 3 = n := ⟨_, rfl⟩
  obtain ⟨D, hD⟩ : ∃ D, e.toNat + 1 = D := ⟨_, rfl⟩
  have t1 : IntKind.i64.wrap ((c.toNat : Int) - 128) = (k : Int) := by rw [IntWalk.i64_in _ (by omega)]; omega
  have t2 : IntKind.i64.wrap ((k : Int) + 3) = (n : Int) := by rw [IntWalk.i64_in _ (by omega)]; omega
  have t3 : IntKind.i64.wrap ((e.toNat : Int) + 1) = (D : Int) := by rw [IntWalk.i64_in _ (by omega)]; omega
  have nD : (D : Int) ≤ 256 := by omega
  have nn : (n : Int) ≤ 130 := by omega
  have d5 : ((D : Int) == 0) = false := by simp; omega
  obtain ⟨a1, e1, he0⟩ := hcut.at_ 0 (by omega)
  have ee0 : rest[0]'(by omega) = e := by simp [hrest]
  rw [ee0] at he0
  have ead : a1.add 0 = a1 := by unfold Addr.add; simp
  rw [ead] at he0
  clear ead ee0
  subst e1
  have hcut5 := Bs.cut hcut 1 (cap - 1) (by omega)
  have r4 : ∀ w, (Instr.slice 22 (.slice (some a1) rest.length (cap - 1)) (some (.int .i64 1)) none none).run Try.prog w = .ok (.slice (if cap - 1 = 1 then some a1 else (some a1).map (·.add 1)) (rest.length - 1) (cap - 1 - 1)) w := fun w => run_slice_lo (P := Try.prog) (T := 22) (E := 5) Try.underlying22 (by kernel_rfl) w (some a1) rest.length (cap - 1) 1 (by omega) (by omega)
  obtain ⟨A2, hA2⟩ : ∃ A2, (if cap - 1 = 1 then some a1 else (some a1).map (·.add 1)) = A2 := ⟨_, rfl⟩
  have hA2b : ∀ a, A2 = some a → a.block = ad.block := fun a e => by
    rw [← hA2] at e
    obtain ⟨a', e1, e2⟩ := cut_block_ e
    rw [← e2]; exact hA1b a' e1
  rw [hA2, show rest.length - 1 = r.length by omega] at r4
  rw [hA2] at hcut5
  have hcut6 : Bs w A2 r := by rw [hrest] at hcut5; exact hcut5
  clear hA2 hcut5 hcut
  have hr1 : r.length + 1 ≤ rest.length := by omega
  replace hrest := Lib.hid hrest
  clear hrl
  replace hk := Lib.hid hk
  replace hn := Lib.hid hn
  replace hD := Lib.hid hD
  have d3 : decide (out.length < D) = false := by have := hD.out; simp; omega
  have s9 : IntKind.i64.wrap ((most : Int) - (out.length : Int)) = ((most - out.length : Nat) : Int) := by rw [IntWalk.i64_in _ (by omega)]; omega
  have d6 : decide (most - out.length < n) = true := by have := hk.out; have := hn.out; simp; omega
  obtain ⟨room, hroom⟩ : ∃ r, most - out.length = r := ⟨_, rfl⟩
  rw [hroom] at d6 s9
  clear hroom h1 h2
  go_enter Try.func17, Try.ntmps17
  go_wp2_with fail
  go_quiet (fail)
  generalize nq = n1 at *
  go_wp2_with fail
  go_quiet (fail)
  generalize nq = n2 at *
  clear t1 t2 t3
  go_wp2_with fail
  go_quiet (fail)
  go_wp2_with fail
  go_ret2
  exact ⟨rfl, ((Kept.refl _ _).drawN _).drawN _⟩
set_option maxRecDepth 100000 in
set_option maxHeartbeats 2000000 in
theorem ostep_match
    (B g most : Nat) (v : Value) (out : List UInt8) (c : UInt8) (rest : List UInt8) (ad : Addr) (cap : Nat) (w : World)
    (hbuf : Buf B w g 35 5 [.int .i64 (most : Int)] v out) (hbs : Bs w (some ad) (c :: rest)) (hA : ad.block ≠ g ∧ v.ownBlock ≠ some ad.block) (hc : rest.length + 1 ≤ cap) (hm : cap ≤ maxLen) (hmo : out.length ≤ most) (hmm : most ≤ 1000000)
    (e : UInt8) (r : List UInt8) (hrest : rest = e :: r) (h : ¬ c.toNat < 128) (h1 : ¬ out.length < e.toNat + 1) (h2 : ¬ most - out.length < c.toNat - 128 + 3) :
    Calls Try.prog 17 #[.pointer (some ⟨g, 0, none⟩), .slice (some ad) (rest.length + 1) cap] w fun e_ w' => ∃ (A' : Option Addr) (c' : Nat) (v' : Value), e_ = .returned (.tuple #[.slice A' r.length c', .int .i64 0]) ∧ r.length ≤ c' ∧ c' ≤ cap ∧ Bs w' A' r ∧ (∀ a, A' = some a → a.block = ad.block) ∧ Grew w w' B g 35 5 [.int .i64 (most : Int)] v v' (rep out (e.toNat + 1) (c.toNat - 128 + 3)) := by
  have d1 : decide (128 ≤ (c.toNat : Int)) = true := by simp; omega
  have hrl : rest.length = r.length + 1 := by rw [hrest]; rfl
  have d2 : ((rest.length : Int) == 0) = false := beq_false_of_ne (by omega)
  have hel := e.toNat_lt
  unfold maxLen at hm
  obtain ⟨ad1, e1, hc0⟩ := hbs.at_ 0 (by simp)
  obtain rfl := Option.some.inj e1
  clear e1
  have ead : ad.add 0 = ad := by unfold Addr.add; simp
  rw [ead] at hc0
  clear ead
  replace hc0 : w.cell? ad = some (.int .u8 (c.toNat : Int)) := hc0
  have hcut := Bs.cut hbs 1 cap (by simpa using hc)
  have r1 : ∀ w, (Instr.slice 22 (.slice (some ad) (rest.length + 1) cap) (some (.int .i64 1)) none none).run Try.prog w = .ok (.slice (if cap = 1 then some ad else (some ad).map (·.add 1)) rest.length (cap - 1)) w := fun w => run_slice_lo (P := Try.prog) (T := 22) (E := 5) Try.underlying22 (by kernel_rfl) w (some ad) (rest.length + 1) cap 1 (by omega) hc
  obtain ⟨A1, hA1⟩ : ∃ A1, (if cap = 1 then some ad else (some ad).map (·.add 1)) = A1 := ⟨_, rfl⟩
  have hA1b : ∀ a, A1 = some a → a.block = ad.block := fun a e => by
    rw [← hA1] at e
    split at e
    · rw [← Option.some.inj e]
    · rw [← Option.some.inj e]; exact add_blk _ _
  rw [hA1] at r1 hcut
  replace hcut : Bs w A1 rest := hcut
  clear hA1
  have hcl := c.toNat_lt
  obtain ⟨hrow, hown, hap, hbase⟩ := id hbuf
  have cc0 := (hrow.cell 0).trans (show #[v, .int .i64 (most : Int)][0]? = some v from rfl)
  have cc1 := (hrow.cell 1).trans (show #[v, .int .i64 (most : Int)][1]? = some (.int .i64 (most : Int)) from rfl)
  have ff0 := hrow.free 0
  obtain ⟨Av, cv, hv, _, _, _⟩ := own_slice hown
  subst hv
  obtain ⟨k, hk⟩ : ∃ k, c.toNat - 128 = k := ⟨_, rfl⟩
  obtain ⟨n, hn⟩ : ∃ n, k + 3 = n := ⟨_, rfl⟩
  obtain ⟨D, hD⟩ : ∃ D, e.toNat + 1 = D := ⟨_, rfl⟩
  have t1 : IntKind.i64.wrap ((c.toNat : Int) - 128) = (k : Int) := by rw [IntWalk.i64_in _ (by omega)]; omega
  have t2 : IntKind.i64.wrap ((k : Int) + 3) = (n : Int) := by rw [IntWalk.i64_in _ (by omega)]; omega
  have t3 : IntKind.i64.wrap ((e.toNat : Int) + 1) = (D : Int) := by rw [IntWalk.i64_in _ (by omega)]; omega
  have nD : (D : Int) ≤ 256 := by omega
  have nn : (n : Int) ≤ 130 := by omega
  have d5 : ((D : Int) == 0) = false := by simp; omega
  obtain ⟨a1, e1, he0⟩ := hcut.at_ 0 (by omega)
  have ee0 : rest[0]'(by omega) = e := by simp [hrest]
  rw [ee0] at he0
  have ead : a1.add 0 = a1 := by unfold Addr.add; simp
  rw [ead] at he0
  clear ead ee0
  subst e1
  have hcut5 := Bs.cut hcut 1 (cap - 1) (by omega)
  have r4 : ∀ w, (Instr.slice 22 (.slice (some a1) rest.length (cap - 1)) (some (.int .i64 1)) none none).run Try.prog w = .ok (.slice (if cap - 1 = 1 then some a1 else (some a1).map (·.add 1)) (rest.length - 1) (cap - 1 - 1)) w := fun w => run_slice_lo (P := Try.prog) (T := 22) (E := 5) Try.underlying22 (by kernel_rfl) w (some a1) rest.length (cap - 1) 1 (by omega) (by omega)
  obtain ⟨A2, hA2⟩ : ∃ A2, (if cap - 1 = 1 then some a1 else (some a1).map (·.add 1)) = A2 := ⟨_, rfl⟩
  have hA2b : ∀ a, A2 = some a → a.block = ad.block := fun a e => by
    rw [← hA2] at e
    obtain ⟨a', e1, e2⟩ := cut_block_ e
    rw [← e2]; exact hA1b a' e1
  rw [hA2, show rest.length - 1 = r.length by omega] at r4
  rw [hA2] at hcut5
  have hcut6 : Bs w A2 r := by rw [hrest] at hcut5; exact hcut5
  clear hA2 hcut5 hcut
  have hr1 : r.length + 1 ≤ rest.length := by omega
  replace hrest := Lib.hid hrest
  clear hrl
  replace hk := Lib.hid hk
  replace hn := Lib.hid hn
  replace hD := Lib.hid hD
  have d3 : decide (out.length < D) = false := by have := hD.out; simp; omega
  have s9 : IntKind.i64.wrap ((most : Int) - (out.length : Int)) = ((most - out.length : Nat) : Int) := by rw [IntWalk.i64_in _ (by omega)]; omega
  have d6 : decide (most - out.length < n) = false := by have := hk.out; have := hn.out; simp; omega
  have D1 : 1 ≤ D ∧ D ≤ out.length ∧ D ≤ 256 := by have := hD.out; omega
  have n1_ : 3 ≤ n ∧ n ≤ 130 := by have := hn.out; have := hk.out; omega
  obtain ⟨room, hroom⟩ : ∃ r, most - out.length = r := ⟨_, rfl⟩
  rw [hroom] at d6 s9
  rw [hk.out, hn.out, hD.out]
  clear hroom h1 h2
  go_enter Try.func17, Try.ntmps17
  go_wp2_with fail
  go_quiet (fail)
  generalize nq = n1 at *
  go_wp2_with fail
  go_quiet (fail)
  generalize nq = n2 at *
  clear t1 t2 t3
  go_wp2_with fail
  go_quiet (fail)
  generalize nq = n3 at *
  go_wp2_with fail
  have hgr0 := (Grew.refl hbuf).on ((Kept.refl w (fun _ => False)).drawN (n1 + n2 + n3))
  have hcut7 : Bs (w.drewN (n1 + n2 + n3)) A2 r := hcut6
  refine (again_any B g most _ out D n _ hgr0.buf D1.1 D1.2.1 (by omega) (by omega) (by omega) (by omega)).mono ?_
  rintro e2 w2 ⟨rfl, v2, hg2⟩
  have hgr1 := hgr0.trans hg2
  have hcut8 : Bs w2 A2 r := hg2.bs_ hcut7 (.inr fun a e => by rw [hA2b a e]; exact hA)
  clear hg2 hgr0 hcut7
  go_wp2_with fail
  go_ret2
  exact ⟨A2, cap - 1 - 1, v2, rfl, by omega, by omega, hcut8, hA2b, hgr1⟩

/-- An item's step. -/
theorem ostep_any
    (B g most : Nat) (v : Value) (out : List UInt8) (c : UInt8) (rest : List UInt8) (ad : Addr) (cap : Nat) (w : World)
    (hbuf : Buf B w g 35 5 [.int .i64 (most : Int)] v out) (hbs : Bs w (some ad) (c :: rest)) (hA : ad.block ≠ g ∧ v.ownBlock ≠ some ad.block) (hc : rest.length + 1 ≤ cap) (hm : cap ≤ maxLen) (hmo : out.length ≤ most) (hmm : most ≤ 1000000)
    : Calls Try.prog 17 #[.pointer (some ⟨g, 0, none⟩), .slice (some ad) (rest.length + 1) cap] w (Stepped B g most v out (c :: rest) (some ad) cap w) := by
  have conv : ∀ (o r : List UInt8) (e_ : Ending) (w' : World), item most out (c :: rest) = .ok (o, r) → (∃ (A' : Option Addr) (c' : Nat) (v' : Value), e_ = .returned (.tuple #[.slice A' r.length c', .int .i64 0]) ∧ r.length ≤ c' ∧ c' ≤ cap ∧ Bs w' A' r ∧ (∀ a, A' = some a → a.block = ad.block) ∧ Grew w w' B g 35 5 [.int .i64 (most : Int)] v v' o) → Stepped B g most v out (c :: rest) (some ad) cap w e_ w' := by
    rintro o r e_ w' hi ⟨A', c', v', h1, h2, h3, h4, h5, h6⟩
    unfold Stepped
    rw [hi]
    exact ⟨A', c', v', h1, h2, h3, h4, fun a e => ⟨ad, rfl, (h5 a e).symm⟩, h6⟩
  have err : ∀ (k : Int) (e_ : Ending) (w' : World), item most out (c :: rest) = .error k → (e_ = .returned (.tuple #[.slice none 0 0, .int .i64 k]) ∧ Kept w w' (fun _ => False)) → Stepped B g most v out (c :: rest) (some ad) cap w e_ w' := by
    intro k e_ w' hi h
    unfold Stepped
    rw [hi]
    exact h
  by_cases h : c.toNat < 128
  · by_cases h1 : rest.length < c.toNat + 1
    · exact (ostep_lit_short B g most v out c rest ad cap w hbuf hbs hA hc hm hmo hmm h h1).mono fun _ _ hh => err _ _ _ (item_lit_short h h1) hh
    · by_cases h2 : most - out.length < c.toNat + 1
      · exact (ostep_lit_long B g most v out c rest ad cap w hbuf hbs hA hc hm hmo hmm h h1 h2).mono fun _ _ hh => err _ _ _ (item_lit_long h h1 h2) hh
      · exact (ostep_lit B g most v out c rest ad cap w hbuf hbs hA hc hm hmo hmm h h1 h2).mono fun _ _ hh => conv _ _ _ _ (item_lit h h1 h2) hh
  · cases hr : rest with
    | nil =>
      subst hr
      exact (ostep_end B g most v out c [] ad cap w hbuf hbs hA hc hm hmo hmm h rfl).mono fun _ _ hh => err _ _ _ (item_end h) hh
    | cons e r =>
      subst hr
      by_cases h1 : out.length < e.toNat + 1
      · exact (ostep_far B g most v out c (e :: r) ad cap w hbuf hbs hA hc hm hmo hmm e r rfl h h1).mono fun _ _ hh => err _ _ _ (item_far h h1) hh
      · by_cases h2 : most - out.length < c.toNat - 128 + 3
        · exact (ostep_far_long B g most v out c (e :: r) ad cap w hbuf hbs hA hc hm hmo hmm e r rfl h h1 h2).mono fun _ _ hh => err _ _ _ (item_far_long h h1 h2) hh
        · exact (ostep_match B g most v out c (e :: r) ad cap w hbuf hbs hA hc hm hmo hmm e r rfl h h1 h2).mono fun _ _ hh => conv _ _ _ _ (item_match h h1 h2) hh
end Go.Proofs.Ythbniljkgdkdnaa
