/-
  Layer 6, the program: bytes that stand so far ahead, once more.
-/
import Derived.Test.YthbniljkgdkdnaaLzWalk
import Derived.Test.YthbniljkgdkdnaaAppendZ
import Derived.Laws.CopyRow
import Derived.Laws.CopyOwn
namespace Go.Proofs.Ythbniljkgdkdnaa
open Go.RowKit
set_option linter.unusedVariables false
set_option linter.unusedSimpArgs false

/-- The byte of a place, behind bytes that are laid again from d ahead on. -/
def rpb (out : List UInt8) (d j : Nat) : UInt8 := out.getD (if j < out.length then j else out.length - d + (j - out.length) % d) 0
theorem rep_get (out : List UInt8) (d : Nat) (hd : 1 ≤ d) (hdl : d ≤ out.length) : ∀ m j, j < out.length + m → (rep out d m)[j]? = some (rpb out d j)
  | 0, j, hj => by
    have hj' : j < out.length := by omega
    unfold rpb
    rw [if_pos hj']
    simp [rep, List.getD, hj']
  | m + 1, j, hj => by
    have hl := rep_len out d m
    rw [rep]
    by_cases hjm : j < out.length + m
    · rw [List.getElem?_append_left (by omega)]
      exact rep_get out d hd hdl m j hjm
    · obtain rfl : j = out.length + m := by omega
      rw [List.getElem?_append_right (by omega), hl, Nat.sub_self, List.getElem?_cons_zero]
      have h1 := rep_get out d hd hdl m (out.length + m - d) (by omega)
      rw [List.getD_eq_getElem?_getD, h1, Option.getD_some]
      congr 1
      unfold rpb
      congr 1
      by_cases h2 : out.length + m - d < out.length
      · rw [if_pos h2, if_neg (by omega), Nat.add_sub_cancel_left, Nat.mod_eq_of_lt (by omega)]
        omega
      · rw [if_neg h2, if_neg (by omega), Nat.add_sub_cancel_left]
        have e : out.length + m - d - out.length = m - d := by omega
        rw [e, ← Nat.mod_eq_sub_mod (by omega)]
theorem rpb_again {out : List UInt8} {d m j : Nat} (hd : 1 ≤ d) (hdl : d ≤ out.length) (hm : d ∣ m + d) (hj : j < m + d) : rpb out d (out.length + m + j) = rpb out d (out.length - d + j) := by
  obtain ⟨q, hq⟩ : ∃ q, m = d * q := by
    obtain ⟨q, hq⟩ := hm
    cases q with
    | zero => omega
    | succ q => exact ⟨q, by rw [Nat.mul_succ] at hq; omega⟩
  unfold rpb
  congr 1
  rw [if_neg (by omega), show out.length + m + j - out.length = d * q + j by omega, Nat.mul_add_mod]
  by_cases h : out.length - d + j < out.length
  · rw [if_pos h, Nat.mod_eq_of_lt (by omega)]
  · rw [if_neg h, show out.length - d + j - out.length = j - d by omega, ← Nat.mod_eq_sub_mod (by omega)]
theorem step_copy_row {P : Program} {w : World} {ops : Array Oper} {o : Oper} {a : Act} {K : Act → World → Prop} {Q : Exit → Act → World → Prop} {E : Prop} (hgd : o.guard = none) (d s : Operand) (dT sT : TypeId)
    (ho : o.op = .call { callee := .builtin .copy, args := #[d, s], argTypes := #[dT, sT] }) (elem : TypeId) (hu : P.underlying dT = some (.slice elem)) (hsz : (P.info? elem).map (·.size) = some 1)
    (g off dLen dCap : Nat) (ad : Addr) (sLen sCap : Nat) (hd : a.eval d = .slice (some ⟨g, off, none⟩) dLen dCap) (hs : a.eval s = .slice (some ad) sLen sCap)
    (cur : Array Value) (t : TypeId) (hg : Row w g t cur) (cs : List Value) (hn : cs.length = Nat.min sLen dLen) (hsrc : ∀ j v, cs[j]? = some v → w.cell? (ad.add j) = some v) (hfit : off + cs.length ≤ cur.size) (h1 : ∀ v ∈ cs, v.oneCell' = true)
    (h : K (a.put o.dst (goInt cs.length)) (w.setRow g (cur.toList.take off ++ cs ++ cur.toList.drop (off + cs.length)).toArray)) :
    if Region.wanted o (yielded ops a.tmps) = true then Oper.wp P o a w K Q else E := by
  have hw : Region.wanted o (yielded ops a.tmps) = true := by simp [Region.wanted, hgd]
  rw [if_pos hw]
  have hrun := run_copy_row (P := P) w dT sT o.type elem g off dLen dCap ad sLen sCap cur t cs hu hsz hg hn hsrc hfit h1
  unfold Oper.wp
  simp [execOp, ho, resolve, invoke, builtin, hd, hs, hrun, Result.andThen]
  simp only [List.append_assoc] at h
  exact h
theorem kept_row {w : World} {g : Nat} {t : TypeId} {cs : Array Value} (h : Row w g t cs) (vs : Array Value) : Kept w (w.setRow g vs) (fun k => k = g) :=
  ⟨rfl, rfl, rfl, by simp, fun k _ hk => setRow_other w g k vs hk⟩
theorem Row.whole_ {w : World} {g : Nat} {t : TypeId} {cs : Array Value} (h : Row w g t cs) (cs' : Array Value) : Row (w.setRow g cs') g t cs' := setRow_heap w g cs cs' t (0, 0) h
/-- Back to a slice of the call's own. -/
theorem own_of_row {w : World} {base : Nat} {e : TypeId} {g n c : Nat} {cur : Array Value} {xs : List Value} (hb : base ≤ g) (hr : Row w g e cur) (hn : n ≤ c) (hc : c ≤ maxLen) (hs : cur.size = c) (hl : xs.length = n) (h : ∀ i, i < n → cur[i]? = xs[i]?) :
    w.ownsRow base e 1 (.slice (some ⟨g, 0, none⟩) n c) n xs := by
  refine ⟨by omega, .inr ⟨g, c, cur, rfl, hb, hr, hn, hc, by omega, ?_⟩⟩
  apply List.ext_getElem?
  intro i
  rw [List.getElem?_take]
  by_cases hi : i < n * 1
  · rw [if_pos hi, Array.getElem?_toList, h i (by omega)]
  · rw [if_neg hi, List.getElem?_eq_none (by omega)]

set_option maxRecDepth 100000 in
set_option maxHeartbeats 2000000 in
theorem again_any (B g most : Nat) (v : Value) (out : List UInt8) (d n : Nat) (w : World) (hbuf : Buf B w g 35 5 [.int .i64 (most : Int)] v out) (hd : 1 ≤ d) (hdl : d ≤ out.length) (hd2 : d ≤ 1000) (hn : 1 ≤ n) (hn2 : n ≤ 1000) (hsz : out.length ≤ 1000000) :
    Calls Try.prog 23 #[.pointer (some ⟨g, 0, none⟩), .int .i64 (d : Int), .int .i64 (n : Int)] w fun e w' => e = .returned (.tuple #[]) ∧ ∃ v', Grew w w' B g 35 5 [.int .i64 (most : Int)] v v' (rep out d n) := by
  have hgr0 := Grew.refl hbuf
  obtain ⟨hrow, hown, hap, hbase⟩ := hbuf
  have c0 := (hrow.cell 0).trans (show #[v, .int .i64 (most : Int)][0]? = some v from rfl)
  have f0 := hrow.free 0
  have hg := hrow.lt
  obtain ⟨Av, cv, hv, _, _, _⟩ := own_slice hown
  subst hv
  obtain ⟨gv, hgv⟩ := own_addr hown (by omega)
  subst hgv
  have hap' : gv ≠ g := fun e => hap (by rw [← e]; rfl)
  obtain ⟨L, hL⟩ : ∃ L, out.length = L := ⟨_, rfl⟩
  rw [hL] at hown
  go_enter Try.func23, Try.ntmps23
  go_wp2_with (at_builtin; refine wpList_append_zeros rfl _ _ 22 3 rfl B 5 (.int .u8 0) 1 Try.underlying22 Try.underlying3 infoB rfl rfl gv L cv (out.map bv) rfl hown n rfl (by omega) (by unfold maxLen; omega) (by omega) (by omega) ?_; intro v2 w2 ho2 hg2 hn2; obtain ⟨A3, c3, hv2, _, _, _⟩ := own_slice ho2; subst hv2; have cc2 : w2.cell? ⟨g, 0, none⟩ = some _ := hg2.cell c0 (by intro e; exact hap' (Option.some.inj e).symm); have f2 : w2.frozen? ⟨g, 0, none⟩ = false := (World.frozen?_of_block (a := ⟨g, 0, none⟩) (hg2.block g hg (by intro e; exact hap' (Option.some.inj e).symm))).trans f0)
  have hk : Kept w w2 (fun k => (Value.slice (some ⟨gv, 0, none⟩) out.length cv).ownBlock = some k) := Kept.of_grown hg2 (fun k _ e => e)
  have hz2 := hg2.size
  have hgr1 := hgr0.store (o2 := out ++ List.replicate n 0) hk (by rw [List.map_append, List.map_replicate, List.length_append, List.length_replicate, hL]; exact ho2) (by
    rcases hn2 with h | h
    · exact .inl h
    · exact .inr ⟨_, h, Nat.le_refl _⟩)
  obtain ⟨gx, cx, cur, hv3, hBx, hgxl, hrowx, hlex, hmxx, hcsx, hcell⟩ := own_row hgr1.buf.own (by simp; omega)
  injection hv3 with e1 e2 e3
  subst e1 e3
  clear e2
  have hgxg : gx ≠ g := fun e => hgr1.buf.apart (by rw [← e]; rfl)
  have hcell0 : ∀ i, i < L + n → cur[i]? = some (bv (if i < L + 0 then rpb out d i else 0)) := fun i hi => by
    rw [hcell i (by simp; omega)]
    by_cases h : i < L
    · rw [if_pos (by omega)]
      have hl2 : i < out.length := by omega
      have hg0 := rep_get out d hd hdl 0 i (by omega)
      rw [show rep out d 0 = out from rfl] at hg0
      rw [List.map_append, List.getElem?_append_left (by simpa using hl2), List.getElem?_map, hg0]
      rfl
    · rw [if_neg (by omega), List.map_append, List.getElem?_append_right (by simp; omega)]
      simp [List.getElem?_replicate]
      omega
  have hrow0 := hgr1.buf.row
  have hlen0 : (out ++ List.replicate n (0 : UInt8)).length = L + n := by simp [hL]
  rw [hlen0] at hlex
  clear hcell hlen0 ho2 hg2 hn2 hk cc2 f2 hown hrow c0 f0 hgr0
  replace hcell0 := Lib.hid hcell0
  have hkk := Kept.refl (w2.setCell ⟨g, 0, none⟩ (.slice (some ⟨gx, 0, none⟩) (L + n) c3)) (fun k => k = gx)
  generalize hW0 : w2.setCell ⟨g, 0, none⟩ (.slice (some ⟨gx, 0, none⟩) (L + n) c3) = W0 at *
  clear hW0
  go_loopw [7] (fun u wr => ∃ (m : Nat) (cur : Array Value), u = .int .i64 ((L + m : Nat) : Int) ∧ m ≤ n ∧ (m = n ∨ d ∣ m + d) ∧ Row wr gx 5 cur ∧ cur.size = c3 ∧ (∀ i, i < L + n → cur[i]? = some (bv (if i < L + m then rpb out d i else 0))) ∧ Row wr g 35 #[.slice (some ⟨gx, 0, none⟩) (L + n) c3, .int .i64 (most : Int)] ∧ Kept W0 wr (fun k => k = gx)) (fun u _ => L + n - (intOf u).toNat)
  case atStart => exact ⟨0, cur, rfl, by omega, .inr ⟨1, by omega⟩, hrowx, hcsx, hcell0.out, hrow0, hkk⟩
  case round =>
    clear hrowx hcsx hcell0 hrow0 hkk
    obtain ⟨m, cur, rfl, hmn, hdm, hrx, hcs, hcl, hrg, hkk⟩ := hrel
    have cg := (hrg.cell 0).trans (show #[Value.slice (some ⟨gx, 0, none⟩) (L + n) c3, .int .i64 (most : Int)][0]? = some _ from rfl)
    by_cases hlt : m < n
    · have hdv := hdm.resolve_left (by omega)
      obtain ⟨T, hT⟩ : ∃ T, L + m = T := ⟨_, rfl⟩
      obtain ⟨N, hN⟩ : ∃ N, L + n = N := ⟨_, rfl⟩
      obtain ⟨S0, hS0⟩ : ∃ S0, L - d = S0 := ⟨_, rfl⟩
      have t1 : (T : Int) < (N : Int) := by omega
      have t2 : IntKind.i64.wrap ((L : Int) - d) = (S0 : Int) := by rw [IntWalk.i64_in _ (by omega)]; omega
      have hmx : N ≤ 1001000 := by omega
      have hTN : T < N := by omega
      have hTm : T ≤ L + m ∧ L + m ≤ T := by omega
      have hNn : N ≤ L + n ∧ L + n ≤ N := by omega
      have hSS : S0 + d ≤ L ∧ L ≤ S0 + d := by omega
      rw [hT, hN] at hcl
      rw [hN] at hlex cg hrg
      rw [hT]
      try rw [hN]
      clear hT hN hS0
      have r1 : ∀ w, (Instr.slice 22 (.slice (some ⟨gx, 0, none⟩) N c3) (some (.int .i64 (T : Int))) none none).run Try.prog w = .ok (.slice (some ⟨gx, T, none⟩) (N - T) (c3 - T)) w := fun w => by
        have := run_slice_lo (P := Try.prog) (T := 22) (E := 5) Try.underlying22 (by kernel_rfl) w (some ⟨gx, 0, none⟩) N c3 T (by omega) hlex
        rw [if_neg (by omega), Option.map_some, add_at, Nat.zero_add] at this
        exact this
      have r2 : ∀ w, (Instr.slice 22 (.slice (some ⟨gx, 0, none⟩) N c3) (some (.int .i64 (S0 : Int))) (some (.int .i64 (T : Int))) none).run Try.prog w = .ok (.slice (some ⟨gx, S0, none⟩) (T - S0) (c3 - S0)) w := fun w => by
        have := run_slice_mid (P := Try.prog) (T := 22) (E := 5) Try.underlying22 (by kernel_rfl) w (some ⟨gx, 0, none⟩) N c3 S0 T (by omega) (by omega)
        rw [if_neg (by omega), Option.map_some, add_at, Nat.zero_add] at this
        exact this
      obtain ⟨k, hk⟩ : ∃ k, min (m + d) (n - m) = k := ⟨_, rfl⟩
      have t3 : IntKind.i64.wrap ((T : Int) + (k : Int)) = ((T + k : Nat) : Int) := by rw [IntWalk.i64_in _ (by omega)]; omega
      go_wp2_with fail
      refine wp_region_held_drew (S := fun w' => w'.cell? ⟨g, 0, none⟩ = some (.slice (some ⟨gx, 0, none⟩) N c3)) (by kernel_rfl) (by simpa using cg) (fun hHeld => ?_)
      refine wpAnyH_take (i := 0) (v := ?_) rfl (by kernel_rfl) (by kernel_rfl) (by kernel_rfl) (fun _ _ _ h => h) (Or.inl ⟨by rfl, ?_⟩) hHeld ?_
      rotate_left
      · intro w hSw
        go_simp
        try rfl
      try simp only [List.getElem_toArray, List.getElem_cons_succ, List.getElem_cons_zero, Act.put, List.setIfInBounds_toArray, List.set_cons_zero, List.set_cons_succ]
      refine wpAnyH_take (i := 1) (v := ?_) rfl (by kernel_rfl) (by kernel_rfl) (by kernel_rfl) (fun _ _ _ h => h) (Or.inl ⟨by rfl, ?_⟩) hHeld ?_
      rotate_left
      · intro w hSw
        go_simp
        try rfl
      try simp only [List.getElem_toArray, List.getElem_cons_succ, List.getElem_cons_zero, Act.put, List.setIfInBounds_toArray, List.set_cons_zero, List.set_cons_succ]
      refine wpAnyH_take (i := 2) (v := ?_) rfl (by kernel_rfl) (by kernel_rfl) (by kernel_rfl) (fun _ _ _ h => h) (Or.inl ⟨by rfl, ?_⟩) hHeld ?_
      rotate_left
      · intro w hSw
        go_simp
        try rfl
      try simp only [List.getElem_toArray, List.getElem_cons_succ, List.getElem_cons_zero, Act.put, List.setIfInBounds_toArray, List.set_cons_zero, List.set_cons_succ]
      refine wpAnyH_take (i := 3) (v := ?_) rfl (by kernel_rfl) (by kernel_rfl) (by kernel_rfl) (fun _ _ _ h => h) (Or.inl ⟨by rfl, ?_⟩) hHeld ?_
      rotate_left
      · intro w hSw
        go_simp
        try rfl
      try simp only [List.getElem_toArray, List.getElem_cons_succ, List.getElem_cons_zero, Act.put, List.setIfInBounds_toArray, List.set_cons_zero, List.set_cons_succ]
      refine wpAnyH_take (i := 4) (v := ?_) rfl (by kernel_rfl) (by kernel_rfl) (by kernel_rfl) (fun _ _ _ h => h) (Or.inl ⟨by rfl, ?_⟩) hHeld ?_
      rotate_left
      · intro w hSw
        go_simp
        try rfl
      try simp only [List.getElem_toArray, List.getElem_cons_succ, List.getElem_cons_zero, Act.put, List.setIfInBounds_toArray, List.set_cons_zero, List.set_cons_succ]
      refine wpAnyH_take (i := 5) (v := ?_) rfl (by kernel_rfl) (by kernel_rfl) (by kernel_rfl) (fun _ _ _ h => h) (Or.inl ⟨by rfl, ?_⟩) hHeld ?_
      rotate_left
      · intro w hSw
        go_simp
        try rfl
      try simp only [List.getElem_toArray, List.getElem_cons_succ, List.getElem_cons_zero, Act.put, List.setIfInBounds_toArray, List.set_cons_zero, List.set_cons_succ]
      refine wpAnyH_take (i := 6) (v := ?_) rfl (by kernel_rfl) (by kernel_rfl) (by kernel_rfl) (fun _ _ _ h => h) (Or.inl ⟨by rfl, ?_⟩) hHeld ?_
      rotate_left
      · intro w hSw
        go_simp
        try rfl
      try simp only [List.getElem_toArray, List.getElem_cons_succ, List.getElem_cons_zero, Act.put, List.setIfInBounds_toArray, List.set_cons_zero, List.set_cons_succ]
      refine wpAnyH_take (i := 7) (v := ?_) rfl (by kernel_rfl) (by kernel_rfl) (by kernel_rfl) (fun _ _ _ h => h) (Or.inl ⟨by rfl, ?_⟩) hHeld ?_
      rotate_left
      · intro w hSw
        go_simp
        try rfl
      try simp only [List.getElem_toArray, List.getElem_cons_succ, List.getElem_cons_zero, Act.put, List.setIfInBounds_toArray, List.set_cons_zero, List.set_cons_succ]
      refine wpAnyH_take (i := 8) (v := ?_) rfl (by kernel_rfl) (by kernel_rfl) (by kernel_rfl) (fun _ _ _ h => h) (Or.inl ⟨by rfl, ?_⟩) hHeld ?_
      rotate_left
      · intro w hSw
        go_simp
        try rfl
      try simp only [List.getElem_toArray, List.getElem_cons_succ, List.getElem_cons_zero, Act.put, List.setIfInBounds_toArray, List.set_cons_zero, List.set_cons_succ]
      refine wpAnyH_take (i := 9) (v := ?_) rfl (by kernel_rfl) (by kernel_rfl) (by kernel_rfl) (fun _ _ _ h => h) (Or.inl ⟨by rfl, ?_⟩) hHeld ?_
      rotate_left
      · intro w hSw
        go_simp
        try rfl
      try simp only [List.getElem_toArray, List.getElem_cons_succ, List.getElem_cons_zero, Act.put, List.setIfInBounds_toArray, List.set_cons_zero, List.set_cons_succ]
      refine wpAnyH_take (i := 10) (v := ?_) rfl (by kernel_rfl) (by kernel_rfl) (by kernel_rfl) (fun _ _ _ h => h) (Or.inl ⟨by rfl, ?_⟩) hHeld ?_
      rotate_left
      · intro w hSw
        go_simp
        try rfl
      try simp only [List.getElem_toArray, List.getElem_cons_succ, List.getElem_cons_zero, Act.put, List.setIfInBounds_toArray, List.set_cons_zero, List.set_cons_succ]
      refine wpAnyH_take (i := 11) (v := ?_) rfl (by kernel_rfl) (by kernel_rfl) (by kernel_rfl) (fun _ _ _ h => h) (Or.inl ⟨by rfl, ?_⟩) hHeld ?_
      rotate_left
      · intro w hSw
        go_simp
        try rfl
      try simp only [List.getElem_toArray, List.getElem_cons_succ, List.getElem_cons_zero, Act.put, List.setIfInBounds_toArray, List.set_cons_zero, List.set_cons_succ]
      refine wpAnyH_take (i := 12) (v := ?_) rfl (by kernel_rfl) (by kernel_rfl) (by kernel_rfl) (fun _ _ _ h => h) (Or.inl ⟨by rfl, ?_⟩) hHeld ?_
      rotate_left
      · intro w hSw
        go_simp
        try rfl
      try simp only [List.getElem_toArray, List.getElem_cons_succ, List.getElem_cons_zero, Act.put, List.setIfInBounds_toArray, List.set_cons_zero, List.set_cons_succ]
      refine wpAnyH_take (i := 13) (v := ?_) rfl (by kernel_rfl) (by kernel_rfl) (by kernel_rfl) (fun _ _ _ h => h) (Or.inl ⟨by rfl, ?_⟩) hHeld ?_
      rotate_left
      · intro w hSw
        go_simp
        try rfl
      try simp only [List.getElem_toArray, List.getElem_cons_succ, List.getElem_cons_zero, Act.put, List.setIfInBounds_toArray, List.set_cons_zero, List.set_cons_succ]
      refine wpAnyH_take (i := 14) (v := ?_) rfl (by kernel_rfl) (by kernel_rfl) (by kernel_rfl) (fun _ _ _ h => h) (Or.inl ⟨by rfl, ?_⟩) hHeld ?_
      rotate_left
      · intro w hSw
        go_simp
        try rfl
      try simp only [List.getElem_toArray, List.getElem_cons_succ, List.getElem_cons_zero, Act.put, List.setIfInBounds_toArray, List.set_cons_zero, List.set_cons_succ]
      refine wpAnyH_take (i := 15) (v := ?_) rfl (by kernel_rfl) (by kernel_rfl) (by kernel_rfl) (fun _ _ _ h => h) (Or.inl ⟨by rfl, ?_⟩) hHeld ?_
      rotate_left
      · intro w hSw
        go_simp
        try rfl
      try simp only [List.getElem_toArray, List.getElem_cons_succ, List.getElem_cons_zero, Act.put, List.setIfInBounds_toArray, List.set_cons_zero, List.set_cons_succ]
      refine wpAnyH_ready (rs := [16]) (by kernel_rfl) (by simp) ?_
      refine AllReadyH.cons rfl (fun K hK => ?_) AllReadyH.nil
      have hck : ∀ j, j < k → cur[S0 + j]? = some (bv (rpb out d (S0 + j))) := fun j hj => by
        rw [hcl _ (by omega), if_pos (by omega)]
      have hcsl : ((List.range k).map fun j => bv (rpb out d (S0 + j))).length = k := by simp
      refine step_copy_row rfl _ _ 22 22 rfl 5 Try.underlying22 (by kernel_rfl) gx T (N - T) (c3 - T) ⟨gx, S0, none⟩ (T - S0) (c3 - S0) rfl rfl cur 5 (Row.drew hrx) ((List.range k).map fun j => bv (rpb out d (S0 + j))) (by rw [hcsl]; show k = min (T - S0) (N - T); omega) (fun j u hu => ?_) (by rw [hcsl]; omega) (fun u hu => by obtain ⟨_, _, rfl⟩ := List.mem_map.1 hu; rfl) ?_
      · have hj : j < k := by simpa using (List.getElem?_eq_some_iff.1 hu).1
        rw [add_at, (Row.drew hrx).cell, hck j hj, ← hu]
        simp [hj]
      rw [hcsl]
      obtain ⟨cur2, hcur2⟩ : ∃ c : Array Value, (cur.toList.take T ++ ((List.range k).map fun j => bv (rpb out d (S0 + j))) ++ cur.toList.drop (T + k)).toArray = c := ⟨_, rfl⟩
      have hs2 : cur2.size = c3 := by
        rw [← hcur2]
        simp
        omega
      have hcl2 : ∀ i, i < N → cur2[i]? = some (bv (if i < T + k then rpb out d i else 0)) := fun i hi => by
        rw [← hcur2, List.getElem?_toArray]
        by_cases h1 : i < T
        · rw [List.append_assoc, List.getElem?_append_left (by simp; omega), List.getElem?_take, if_pos h1, Array.getElem?_toList, hcl i hi, if_pos h1, if_pos (by omega)]
        · by_cases h2 : i < T + k
          · rw [List.getElem?_append_left (by simp; omega), List.getElem?_append_right (by simp; omega), if_pos h2]
            have e1 : (cur.toList.take T).length = T := by simp; omega
            have e2 : rpb out d i = rpb out d (S0 + (i - T)) := by
              have := rpb_again (out := out) (d := d) (m := m) (j := i - T) hd hdl hdv (by omega)
              rw [show out.length + m + (i - T) = i by omega, show out.length - d + (i - T) = S0 + (i - T) by omega] at this
              exact this
            rw [e1, e2, List.getElem?_map, List.getElem?_range (by omega)]
            rfl
          · rw [List.getElem?_append_right (by simp; omega), if_neg h2, List.getElem?_drop]
            have e1 : (cur.toList.take T ++ ((List.range k).map fun j => bv (rpb out d (S0 + j)))).length = T + k := by simp; omega
            rw [e1, Array.getElem?_toList, show T + k + (i - (T + k)) = i by omega, hcl i hi, if_neg h1]
      rw [hcur2]
      have hrg2 : Row (wr.drew.setRow gx cur2) g 35 #[.slice (some ⟨gx, 0, none⟩) N c3, .int .i64 (most : Int)] := (setRow_other wr.drew gx g cur2 (Ne.symm hgxg)).trans hrg.drew
      have hrx2 := Row.whole_ (Row.drew hrx) cur2
      have hkk2 : Kept W0 (wr.drew.setRow gx cur2) (fun k => k = gx) := hkk.draw.trans (kept_row (Row.drew hrx) cur2) (fun _ _ e => e)
      clear hcur2 hcsl hck hHeld hcl hrx hrg hkk
      refine hK.out _ _ (hrg2.cell 0) (fun hHeld => ?_)
      clear hK K
      try simp only [List.getElem_toArray, List.getElem_cons_succ, List.getElem_cons_zero, Act.put, List.setIfInBounds_toArray, List.set_cons_zero, List.set_cons_succ]
      refine wpAnyH_take (i := 17) (v := ?_) rfl (by kernel_rfl) (by kernel_rfl) (by kernel_rfl) (fun _ _ _ h => h) (Or.inl ⟨by rfl, ?_⟩) hHeld ?_
      rotate_left
      · intro w hSw
        go_simp
        try rfl
      try simp only [List.getElem_toArray, List.getElem_cons_succ, List.getElem_cons_zero, Act.put, List.setIfInBounds_toArray, List.set_cons_zero, List.set_cons_succ]
      refine wpAnyH_take (i := 18) (v := ?_) rfl (by kernel_rfl) (by kernel_rfl) (by kernel_rfl) (fun _ _ _ h => h) (Or.inl ⟨by rfl, ?_⟩) hHeld ?_
      rotate_left
      · intro w hSw
        go_simp
        try rfl
      try simp only [List.getElem_toArray, List.getElem_cons_succ, List.getElem_cons_zero, Act.put, List.setIfInBounds_toArray, List.set_cons_zero, List.set_cons_succ]
      refine wpAnyH_done (by kernel_rfl) ?_ _
      go_wp2_with fail
      go_roundw
      case rel =>
        refine ⟨m + k, cur2, by rw [show L + (m + k) = T + k by omega]; first | rfl | go_num, by omega, ?_, hrx2, hs2, fun i hi => ?_, ?_, hkk2⟩
        · by_cases hkd : k = m + d
          · right
            obtain ⟨q, hq⟩ := hdv
            exact ⟨2 * q, by rw [hkd, show m + (m + d) + d = 2 * (m + d) by omega, hq, ← Nat.mul_assoc, ← Nat.mul_assoc, Nat.mul_comm 2 d]⟩
          · left; omega
        · rw [hcl2 i (by omega), show L + (m + k) = T + k by omega]
        · first
          | exact hrg2
          | (rw [show L + n = N by omega]; exact hrg2)
      case measure => simp [intOf]; omega
    · have hmn2 : m = n := by omega
      rw [hmn2] at hcl
      have hlt2 : ¬ ((L + m : Nat) : Int) < ((L + n : Nat) : Int) := by omega
      have hfin : wr.ownsRow B 5 1 (.slice (some ⟨gx, 0, none⟩) (L + n) c3) (rep out d n).length ((rep out d n).map bv) := by
        have hl : (rep out d n).length = L + n := by rw [rep_len, hL]
        rw [hl]
        refine own_of_row hBx hrx hlex hmxx hcs (by rw [List.length_map, hl]) fun i hi => ?_
        rw [hcl i hi, if_pos hi, List.getElem?_map, rep_get out d hd hdl n i (by omega)]
        rfl
      have hgr3 : Grew w wr B g 35 5 [.int .i64 (most : Int)] (.slice (some ⟨gv, 0, none⟩) out.length cv) (.slice (some ⟨gx, 0, none⟩) (L + n) c3) (rep out d n) := by
        refine ⟨⟨hrg, ?_, hgr1.buf.apart, hgr1.buf.base⟩, hgr1.kept.trans hkk fun k hk hm => ?_, hgr1.fresh⟩
        · exact hfin
        · rcases hgr1.fresh with e | ⟨q, e, hq⟩
          · rw [hm]; exact .inr e.symm
          · have e2 : gx = q := Option.some.inj e
            omega
      clear hcl hrx hrg hkk hfin hgr1
      go_wp2_with fail
      go_end0
      exact ⟨rfl, _, by rw [hL] at hgr3; exact hgr3⟩
end Go.Proofs.Ythbniljkgdkdnaa
