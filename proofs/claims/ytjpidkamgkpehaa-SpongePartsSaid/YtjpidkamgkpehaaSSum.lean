/-
  Layer 4, the program: Sum of a state, Sum of parts.
-/
import Derived.Test.YtjpidkamgkpehaaSWalk
namespace Go.Proofs.Ytjpidkamgkpehaa
open Go.RowKit
set_option linter.unusedVariables false
set_option linter.unusedSimpArgs false

/-- The first k bytes of a fingerprint, then zeros. -/
def bsr (f : St) (k : Nat) : Array Value := ((List.range 32).map fun i => Value.int .u8 (if i < k then (dg f i : Int) else 0)).toArray
theorem bsr_size (f : St) (k : Nat) : (bsr f k).size = 32 := by simp [bsr]
theorem bsr_get (f : St) (k : Nat) {i : Nat} (h : i < 32) : (bsr f k)[i]? = some (.int .u8 (if i < k then (dg f i : Int) else 0)) := by simp [bsr, h]
theorem bsr_set (f : St) {k : Nat} (hk : k < 32) : (bsr f k).setIfInBounds k (.int .u8 (dg f k)) = bsr f (k + 1) := by
  apply Array.ext_getElem?
  intro i
  by_cases hi : i < 32
  · rw [bsr_get f (k + 1) hi, Array.getElem?_setIfInBounds, bsr_get f k hi, bsr_size]
    by_cases h : k = i
    · subst h; rw [if_pos rfl, if_pos hk, if_pos (by omega)]
    · rw [if_neg h]
      by_cases h2 : i < k
      · rw [if_pos h2, if_pos (by omega)]
      · rw [if_neg h2, if_neg (by omega)]
  · rw [Array.getElem?_eq_none (by simp [bsr_size]; omega), Array.getElem?_eq_none (by rw [bsr_size]; omega)]
theorem bsr_all (f : St) : Value.agg (bsr f 32) = iv .u8 (dgl f) := by
  unfold bsr dgl iv
  rw [List.map_map]
  congr 2
theorem bsr_zero (f : St) : bsr f 0 = #[.int .u8 0, .int .u8 0, .int .u8 0, .int .u8 0, .int .u8 0, .int .u8 0, .int .u8 0, .int .u8 0, .int .u8 0, .int .u8 0, .int .u8 0, .int .u8 0, .int .u8 0, .int .u8 0, .int .u8 0, .int .u8 0, .int .u8 0, .int .u8 0, .int .u8 0, .int .u8 0, .int .u8 0, .int .u8 0, .int .u8 0, .int .u8 0, .int .u8 0, .int .u8 0, .int .u8 0, .int .u8 0, .int .u8 0, .int .u8 0, .int .u8 0, .int .u8 0] := by
  rfl
theorem bsr_one (f : St) (k : Nat) : (bsr f k).all (·.oneCell') = true := by simp [bsr, Value.oneCell']
theorem dg_val (f : St) (i : Nat) : IntKind.u8.wrap (nw (f (i / 8)) / 2 ^ (8 * (i % 8))) = (dg f i : Int) := by
  rw [wv_shr]
  unfold dg nw
  simp [IntKind.wrap, IntKind.bits, IntKind.signed]
theorem sumT : Try.prog.underlying 25 = some (.array 32 5) := Try.underlying25
theorem i26 : (Try.prog.info? 44).map (·.size) = some 26 := by kernel_rfl
theorem i32 : (Try.prog.info? 25).map (·.size) = some 32 := by kernel_rfl

set_option maxRecDepth 100000 in
set_option maxHeartbeats 2000000 in
theorem ssum_any (g : Nat) (f : St) (n : Nat) (w : World) (hs : Row w g 44 (sc f n)) (hn : n < 136) :
    Calls Try.prog 14 #[.pointer (some ⟨g, 0, none⟩)] w fun e w' => e = .returned (iv .u8 (dgl (fin (f, n)))) ∧ Below w.heap.size w w' := by
  have hd0 : Row ((w.alloc (.cells (bsr f 0) 25)).alloc (.cells (sc (fun _ => 0) 0) 44)) (w.heap.size + 1) 44 (sc (fun _ => 0) 0) := Row.made _ _ _ (by simp)
  have hsa := hs.alloc (.cells (bsr f 0) 25)
  have hs1 := hd0.whole (sc f n)
  have hr1 := ((Row.new w 25 (bsr f 0)).alloc (.cells (sc (fun _ => 0) 0) 44)).farRow (k := w.heap.size + 1) (by omega) (sc f n)
  have hb1 := below_row (g := w.heap.size + 1) (((Below.refl w.heap.size w).alloc (Nat.le_refl _) (.cells (bsr f 0) 25)).alloc (by simp) (.cells (sc (fun _ => 0) 0) 44)) (by omega) (sc f n)
  have hz1 : (((w.alloc (.cells (bsr f 0) 25)).alloc (.cells (sc (fun _ => 0) 0) 44)).setRow (w.heap.size + 1) (sc f n)).heap.size = w.heap.size + 2 := by simp
  have fin_ : fin (f, n) = perm (mixw (mixw f n 6) 135 128) 24 := rfl
  rw [fin_]
  clear fin_
  obtain ⟨m, hm⟩ : ∃ m, mixw (mixw f n 6) 135 128 = m := ⟨_, rfl⟩
  rw [hm]
  replace hm := Lib.hid hm
  have kp := Lib.hid (kperm_any m)
  obtain ⟨F, hF⟩ : ∃ F, perm m 24 = F := ⟨_, rfl⟩
  rw [hF] at kp ⊢
  clear hF
  have hd0' := hd0
  rw [bsr_zero] at hsa hd0'
  have c25 := (hs1.cell 25).trans (sc_taken f n)
  have c25' := c25
  rw [bsr_zero, zero26] at c25'
  go_enter Try.func14, Try.ntmps14
  go_wp2_with (first
    | (refine wpList_load_row rfl 44 _ rfl g rfl 44 (sc f n) (0, 0) _ hsa Try.underlying44 rfl (by rw [sc_size]; exact i26) ?_)
    | (refine wpList_store_row rfl 44 _ _ rfl (w.heap.size + 1) (sc f n) rfl rfl 44 _ hd0' (by rw [sc_size]; exact i26) (by rw [sc_size, sc_size]) (sc_one _ _) ?_))
  refine (mix_any (w.heap.size + 1) f n n 6 _ hs1 hn).mono ?_
  rintro e w1 ⟨rfl, hs2, hg2⟩
  have hb2 := below_of_grown hb1 hg2 (by omega) hb1.size
  have hz2 := hg2.size
  have hr2 := Row.grown hr1 hg2 (by simp)
  rw [hz1] at hz2
  clear hs1 hr1 hb1 hz1 hg2 hsa hd0 hd0' c25 c25'
  go_wp2_with fail
  refine (mix_any (w.heap.size + 1) _ n 135 128 _ hs2 (by omega)).mono ?_
  rintro e w2 ⟨rfl, hs3, hg3⟩
  have hb3 := below_of_grown hb2 hg3 (by omega) hb2.size
  have hz3 := hg3.size
  have hr3 := Row.grown hr2 hg3 (by simp)
  clear hs2 hr2 hb2 hg3
  rw [hm.out] at hs3
  clear hm
  have hi : (Try.prog.info? 41).map (·.size) = some (ws 25 m).toList.length := by rw [Array.length_toList, ws_size]; exact i5
  have hrg := sc_range hs3
  go_wp2_with (refine wpList_load_mid rfl 41 _ rfl (w.heap.size + 1) 0 rfl (ws 25 m).toList _ (by with_reducible exact hrg) lanesT rfl hi ?_; rw [Array.toArray_toList])
  refine (kp.out _).mono ?_
  rintro e w3 ⟨rfl, hb4⟩
  have hb5 := hb3.trans (hb4.mono hb3.size)
  have hz4 := hb4.size
  have hr4 := hr3.below hb4
  clear kp hi hrg hs3 hb3 hr3 hb4
  have hp0 : Row (w3.alloc (.cells (ws 25 fun _ => 0) 41)) w3.heap.size 41 (ws 25 fun _ => 0) := Row.new _ _ _
  go_wp2_with (first
    | (refine wpList_store_row rfl 41 _ _ rfl w3.heap.size (ws 25 F) rfl rfl 41 _ hp0 (by rw [ws_size]; exact i5) (by rw [ws_size, ws_size]) (ws_one _ _) ?_))
  have hp1 := (hp0.whole (ws 25 F)).alloc (.cells (bsr F 0) 25)
  have hr5 := ((hr4.alloc (.cells (ws 25 fun _ => 0) 41)).farRow (k := w3.heap.size) (by omega) (ws 25 F)).alloc (.cells (bsr F 0) 25)
  have hb6 := (below_row (g := w3.heap.size) (hb5.alloc (by omega) (.cells (ws 25 fun _ => 0) 41)) (by omega) (ws 25 F)).alloc (by simp; omega) (.cells (bsr F 0) 25)
  have hq1 : Row (((w3.alloc (.cells (ws 25 fun _ => 0) 41)).setRow w3.heap.size (ws 25 F)).alloc (.cells (bsr F 0) 25)) (w3.heap.size + 1) 25 (bsr F 0) := Row.made _ _ _ (by simp)
  clear hp0 hr4 hb5
  go_loopw [6, 21] (fun _ v wr => ∃ k : Nat, v = .int .i64 k ∧ k ≤ 32 ∧ Row wr w.heap.size 25 (bsr f 0) ∧ Row wr w3.heap.size 41 (ws 25 F) ∧ Row wr (w3.heap.size + 1) 25 (bsr F k) ∧ Below w.heap.size w wr) (fun _ v _ => 32 - (intOf v).toNat)
  case atStart => exact ⟨0, rfl, by omega, hr5, hp1, hq1, hb6⟩
  case round =>
    clear hr5 hp1 hq1 hb6
    obtain ⟨k, rfl, hk, hr, hp', hq, hb⟩ := hrel
    by_cases hlt : k < 32
    · obtain ⟨i, hi⟩ : ∃ i, k / 8 = i := ⟨_, rfl⟩
      have hi1 : (k : Int) / 8 = i := by omega
      have hi2 : i < 25 := by omega
      have hi3 : (i : Int) < 25 := by omega
      obtain ⟨r, hr0⟩ : ∃ r, k % 8 = r := ⟨_, rfl⟩
      have hr1 := and7 k
      rw [hr0] at hr1
      have hr2 : r < 8 := by omega
      have hr3 : IntKind.i64.wrap (8 * (r : Int)) = ((8 * r : Nat) : Int) := by rw [IntWalk.i64_in _ (by omega)]; omega
      have hr4 : min (((8 * r : Nat) : Int)).toNat 64 = 8 * r := by omega
      have hv := dg_val F k
      rw [hi, hr0] at hv
      have c0 := (hp'.cell i).trans (ws_get F hi2)
      have c1 := (hq.cell k).trans (bsr_get F k hlt)
      have ff := hq.free k
      have hnext := Lib.hid (bsr_set F hlt)
      clear hi hr0
      go_wp2_with fail
      go_roundw
      case rel =>
        refine ⟨k + 1, by go_num, by omega, hr.far (by simp; omega) _, hp'.far (by simp) _, ?_, Below.setCell hb (by simp; omega) _⟩
        rw [← hnext.out]
        exact hq.put k _
      case measure => simp [intOf]; omega
    · have hk : k = 32 := by omega
      rw [hk] at hq
      clear hk
      go_wp2_with (first
        | (refine wpList_load_row rfl 25 _ rfl (w3.heap.size + 1) rfl 25 (bsr F 32) (0, 0) _ hq sumT rfl (by rw [bsr_size]; exact i32) ?_)
        | (refine wpList_store_row rfl 25 _ _ rfl w.heap.size (bsr F 32) rfl rfl 25 _ hr (by rw [bsr_size]; exact i32) (by rw [bsr_size, bsr_size]) (bsr_one _ _) ?_))
      refine bodyPost_row (t := 25) (g := w.heap.size) Try.results14 (by kernel_rfl) (Row.whole hr _) sumT (by rw [bsr_size]; exact i32) rfl ⟨?_, ?_⟩
      · rw [bsr_all]
      · exact below_row hb (Nat.le_refl _) _


set_option maxHeartbeats 1000000 in
theorem snil_any (w : World) :
    Calls Try.prog 14 #[.pointer none] w fun e w' => e = .returned (iv .u8 (sumOf [])) ∧ Below w.heap.size w w' := by
  have hsum := fun g w h => ssum_any g (fun _ => 0) 0 w h (by decide)
  obtain ⟨F, hF⟩ : ∃ F, fin ((fun _ => 0 : St), 0) = F := ⟨_, rfl⟩
  have hF2 : sumOf [] = dgl F := by rw [← hF]; unfold sumOf st0; rw [feed_nil]
  rw [hF2]
  rw [hF] at hsum
  rw [← bsr_all] at hsum ⊢
  replace hsum := Lib.hid hsum
  clear hF hF2
  go_enter Try.func14, Try.ntmps14
  go_wp2_with fail
  refine (new_any _).mono ?_
  rintro e w1 ⟨rfl, rfl⟩
  go_wp2_with fail
  have hr0 := (Row.new w 25 (bsr F 0)).alloc (.cells (sc (fun _ => 0) 0) 44)
  have hs0 : Row ((w.alloc (.cells (bsr F 0) 25)).alloc (.cells (sc (fun _ => 0) 0) 44)) (w.heap.size + 1) 44 (sc (fun _ => 0) 0) := Row.made _ _ _ (by simp)
  have hb0 := ((Below.refl w.heap.size w).alloc (Nat.le_refl _) (.cells (bsr F 0) 25)).alloc (by simp) (.cells (sc (fun _ => 0) 0) 44)
  have hz : w.heap.size + 2 = ((w.alloc (.cells (bsr F 0) 25)).alloc (.cells (sc (fun _ => 0) 0) 44)).heap.size := by simp
  refine (hsum.out _ _ hs0).mono ?_
  rintro e w2 ⟨rfl, hb2⟩
  have hr := Row.below hr0 hb2
  have hb3 := hb0.trans (hb2.mono (by omega))
  clear hr0 hs0 hb0 hz hb2
  go_wp2_with (first
    | (refine wpList_store_row rfl 25 _ _ rfl w.heap.size (bsr F 32) rfl rfl 25 _ hr (by rw [bsr_size]; exact i32) (by rw [bsr_size, bsr_size]) (bsr_one _ _) ?_))
  exact bodyPost_row (t := 25) (g := w.heap.size) Try.results14 (by kernel_rfl) (Row.whole hr _) sumT (by rw [bsr_size]; exact i32) rfl ⟨rfl, below_row hb3 (Nat.le_refl _) _⟩

/-! ### parts -/
/-- Slices of bytes in a row. -/
structure Part where
  at_ : Option Addr
  cap : Nat
  bs : List UInt8
def Part.val (p : Part) : Value := .slice p.at_ p.bs.length p.cap
/-- They read so. -/
def Parts (w : World) (l : List Part) : Prop := ∀ p ∈ l, Bs w p.at_ p.bs ∧ p.bs.length ≤ 140737488351232
def whole (l : List Part) : List UInt8 := (l.map Part.bs).flatten
theorem whole_take (l : List Part) (k : Nat) (h : k < l.length) : whole (l.take (k + 1)) = whole (l.take k) ++ l[k].bs := by
  unfold whole
  rw [List.take_succ_eq_append_getElem h, List.map_append, List.flatten_append, List.map_cons, List.map_nil, List.flatten_cons, List.flatten_nil, List.append_nil]

set_option maxHeartbeats 2000000 in
theorem sum_any (A : Option Addr) (cap : Nat) (l : List Part) (w : World) (hl : l.length ≤ 1000000) (hrd : Rd w A (l.map Part.val)) (hp : Parts w l) :
    Calls Try.prog 9 #[.slice A l.length cap] w fun e w' => e = .returned (iv .u8 (sumOf (whole l))) ∧ Below w.heap.size w w' := by
  obtain ⟨F, hF⟩ : ∃ F, fin (feed st0 (whole l)) = F := ⟨_, rfl⟩
  have hsum : sumOf (whole l) = dgl F := by rw [← hF]; rfl
  rw [hsum, ← bsr_all]
  clear hsum
  replace hF := Lib.hid hF
  go_enter Try.func9, Try.ntmps9
  go_wp2_with fail
  refine (new_any _).mono ?_
  rintro e w1 ⟨rfl, rfl⟩
  have hr := (Row.new w 25 (bsr F 0)).alloc (.cells (sc (fun _ => 0) 0) 44)
  have hs : Row ((w.alloc (.cells (bsr F 0) 25)).alloc (.cells (sc (fun _ => 0) 0) 44)) (w.heap.size + 1) 44 (sc (fun _ => 0) 0) := Row.made _ _ _ (by simp)
  have hb := ((Below.refl w.heap.size w).alloc (Nat.le_refl _) (.cells (bsr F 0) 25)).alloc (by simp) (.cells (sc (fun _ => 0) 0) 44)
  have hz : w.heap.size + 1 < ((w.alloc (.cells (bsr F 0) 25)).alloc (.cells (sc (fun _ => 0) 0) 44)).heap.size := by simp
  go_wp2_with fail
  go_loopw [9] (fun v wr => ∃ k : Nat, v = .int .i64 k ∧ k ≤ l.length ∧ Row wr w.heap.size 25 (bsr F 0) ∧ Row wr (w.heap.size + 1) 44 (sc (feed st0 (whole (l.take k))).1 (feed st0 (whole (l.take k))).2) ∧ Below w.heap.size w wr ∧ w.heap.size + 1 < wr.heap.size) (fun v _ => l.length - (intOf v).toNat)
  case atStart => exact ⟨0, rfl, by omega, hr, hs, hb, hz⟩
  case round =>
    clear hr hs hb hz
    obtain ⟨k, rfl, hk, hr, hs, hb, hz⟩ := hrel
    have hst := feed_lt st0 (whole (l.take k)) (by decide)
    by_cases hlt : k < l.length
    · obtain ⟨ad, e1, hc⟩ := (hrd.below hb).at_ (k := k) (u := l[k].val) (by simp [hlt])
      obtain ⟨hbs, hlen⟩ := hp l[k] (List.getElem_mem hlt)
      have hlo := hbs.lo
      have hnext : feed st0 (whole (l.take (k + 1))) = feed (feed st0 (whole (l.take k))) l[k].bs := by rw [whole_take l k hlt, feed_append]
      replace hnext := Lib.hid hnext
      have hb' : Bs wr l[k].at_ l[k].bs := hbs.below hb
      generalize feed st0 (whole (l.take k)) = s at *
      generalize l[k] = p at *
      subst e1
      obtain ⟨pa, pc, pb⟩ := p
      unfold Part.val at hc
      dsimp only at hc hb' hlen hlo hnext hst
      go_wp2_with fail
      refine (write_any (w.heap.size + 1) s.1 s.2 pa pc pb _ hs hst hlen hb' (hlo.imp_right fun h ad e => by have := h ad e; omega)).mono ?_
      rintro e w2 ⟨rfl, hs2, hg2⟩
      have hb2 := below_of_grown hb hg2 (by omega) hb.size
      have hz2 := hg2.size
      have hr2 := Row.grown hr hg2 (by simp)
      go_wp2_with fail
      go_roundw
      case rel =>
        refine ⟨k + 1, by go_num, by omega, hr2, ?_, hb2, by omega⟩
        rw [hnext.out]
        exact hs2
      case measure => simp [intOf]; omega
    · have hk : k = l.length := by omega
      rw [hk, List.take_length] at hs
      rw [hk, List.take_length] at hst
      clear hk
      have hsm := ssum_any (w.heap.size + 1) _ _ wr hs hst
      rw [show fin ((feed st0 (whole l)).1, (feed st0 (whole l)).2) = F from hF.out, ← bsr_all] at hsm
      replace hsm := Lib.hid hsm
      clear hst hs hF
      go_wp2_with fail
      refine hsm.out.mono ?_
      rintro e w2 ⟨rfl, hb2⟩
      have hr2 := hr.below hb2
      go_wp2_with (first
        | (refine wpList_store_row rfl 25 _ _ rfl w.heap.size (bsr F 32) rfl rfl 25 _ hr2 (by rw [bsr_size]; exact i32) (by rw [bsr_size, bsr_size]) (bsr_one _ _) ?_))
      exact bodyPost_row (t := 25) (g := w.heap.size) Try.results9 (by kernel_rfl) (Row.whole hr2 _) sumT (by rw [bsr_size]; exact i32) rfl ⟨rfl, below_row (hb.trans (hb2.mono hb.size)) (Nat.le_refl _) _⟩
end Go.Proofs.Ytjpidkamgkpehaa
