/-
  The law SpongeStates of the given program: for every input the call returns true, and each argument reads behind the call as it read before. No condition on the input. (The frame is after the proof skeleton of the kit, the walk by hand.)
-/
import Derived.Test.YtjpidkamgkpehaaRows
import Derived.Test.YtjpidkamgkpehaaSLaws
import Derived.Test.YtjpidkamgkpehaaSOpen
import Derived.WalkKit
import Derived.ProofKit
import Derived.OpenShut
import Derived.ShutString
import Derived.ChangeOld
import Derived.Below
namespace Go.Proofs.Ytjpidkamgkpehaa.spongeStates
open Go.ChangeShapes Go.WideShapes Go.ChangeAt Go.RowKit
open Go.ChangeMaps (open_string shut_string)
set_option linter.unusedVariables false
set_option linter.unusedSimpArgs false

theorem own : ownKnob Try.prog.godebug = none := by kernel_rfl
theorem laidOut : laidOutB Try.prog = true := by kernel_rfl

set_option maxHeartbeats 2000000 in
set_option maxRecDepth 100000 in
/-- The walk. -/
theorem walk (a0 : Option Addr) (len0 cap0 : Nat) (l0 : List Part) (w : World) (w0 : IsParts w a0 len0 cap0 l0) :
    Calls Try.prog 4 #[.slice a0 len0 cap0] w fun e w' => e = .returned (.bool true) ∧ Below w.heap.size w w' := by
  obtain ⟨rfl, hc, hm, hrd, hp⟩ := w0
  unfold maxLen at hm
  have infoB : (Try.prog.info? 5).map (fun i => (i.zero, i.size, i.bytes)) = some (some (.int .u8 0), 1, 1) := by kernel_rfl
  replace infoB := Lib.hid infoB
  go_enter Try.func4, Try.ntmps4
  go_wp2_with fail
  refine (shown_any _).mono ?_
  rintro e v1 ⟨rfl, hb1⟩
  go_wp2_with fail
  refine (new_any _).mono ?_
  rintro e v2 ⟨rfl, rfl⟩
  have hs1 := new_row v1
  have hb2 := hb1.alloc hb1.size (.cells (sc (fun _ => 0) 0) 44)
  have hz1 := hb1.size
  have hz2 : v1.heap.size + 1 ≤ (v1.alloc (.cells (sc (fun _ => 0) 0) 44)).heap.size := by simp
  have hnil := World.ownsRow_nil (v1.alloc (.cells (sc (fun _ => 0) 0) 44)) (v1.heap.size + 1) 5 1
  clear hb1
  go_wp2_with fail
  go_loopw [5, 17] (fun v i wr => ∃ k : Nat, i = .int .i64 k ∧ k ≤ l0.length ∧ k ≤ 50 ∧ wr.ownsRow (v1.heap.size + 1) 5 1 v (whole (l0.take k)).length ((whole (l0.take k)).map bv) ∧ (whole (l0.take k)).length ≤ 2000 * k ∧ Row wr v1.heap.size 44 (sc (feed st0 (whole (l0.take k))).1 (feed st0 (whole (l0.take k))).2) ∧ Below w.heap.size w wr ∧ v1.heap.size + 1 ≤ wr.heap.size) (fun _ i _ => l0.length - (intOf i).toNat)
  case atStart => exact ⟨0, rfl, by omega, by omega, hnil, by simp [whole], hs1, hb2, hz2⟩
  case round =>
    clear hs1 hb2 hz2 hnil
    obtain ⟨k, rfl, hk, hk50, ho, hwl, hs, hb, hz⟩ := hrel
    by_cases hlt : k < l0.length
    · obtain ⟨ad, rfl, hcell⟩ := (hrd.below hb).at_ (k := k) (u := l0[k].val) (by simp [hlt])
      obtain ⟨hbs, hle, hmx⟩ := hp l0[k] (List.getElem_mem hlt)
      have hnext := whole_take l0 k hlt
      unfold maxLen at hmx
      have hbs1 := Bs.below hbs hb
      replace hnext := Lib.hid hnext
      generalize l0[k] = p at *
      obtain ⟨pa, pc, pb⟩ := p
      unfold Part.val at hcell
      dsimp only at hcell hbs hle hmx hbs1 hnext
      have dl : decide ((k : Int) < (l0.length : Int)) = true := by simp; omega
      by_cases h50 : 50 ≤ k
      · have d1 : decide (50 ≤ (k : Int)) = true := by simp; omega
        clear hbs hbs1 hnext hcell
        go_wp2_with fail
        have hlq : (whole (l0.take k)).length ≤ 10000000 := by omega
        obtain ⟨A5, c5, hv5, _, _, hrd5⟩ := own_slice ho
        subst hv5
        have k1 := Lib.hid (ssum_fp v1.heap.size (whole (l0.take k)) wr hs)
        have k2 := Lib.hid fun W (hbl : Below wr.heap.size wr W) => rsum_fp A5 _ c5 (whole (l0.take k)) W rfl hlq (Rd.below hrd5 hbl)
        obtain ⟨F, hF⟩ : ∃ F, fp (whole (l0.take k)) = F := ⟨_, rfl⟩
        rw [hF] at k1 k2
        clear hF
        have q1 := eql_self F
        have q2 := eqg_bsr F F
        go_wp2_with fail
        refine k1.out.mono ?_
        rintro e x1 ⟨rfl, hb1⟩
        go_wp2_with fail
        refine (k2.out _ hb1).mono ?_
        rintro e x2 ⟨rfl, hb2⟩
        go_wp2
        go_ret
        exact ⟨rfl, (hb.trans (hb1.mono hb.size)).trans (hb2.mono (by have := hb.size; have := hb1.size; omega))⟩
      · have d1 : decide (50 ≤ (k : Int)) = false := by simp; omega
        by_cases h2k : 2000 < pb.length
        · have d2 : decide (2000 < (pb.length : Int)) = true := by simp; omega
          clear hbs hbs1 hnext
          go_wp2_with fail
          have hlq : (whole (l0.take k)).length ≤ 10000000 := by omega
          obtain ⟨A5, c5, hv5, _, _, hrd5⟩ := own_slice ho
          subst hv5
          have k1 := Lib.hid (ssum_fp v1.heap.size (whole (l0.take k)) wr hs)
          have k2 := Lib.hid fun W (hbl : Below wr.heap.size wr W) => rsum_fp A5 _ c5 (whole (l0.take k)) W rfl hlq (Rd.below hrd5 hbl)
          obtain ⟨F, hF⟩ : ∃ F, fp (whole (l0.take k)) = F := ⟨_, rfl⟩
          rw [hF] at k1 k2
          clear hF
          have q1 := eql_self F
          have q2 := eqg_bsr F F
          go_wp2_with fail
          refine k1.out.mono ?_
          rintro e x1 ⟨rfl, hb1⟩
          go_wp2_with fail
          refine (k2.out _ hb1).mono ?_
          rintro e x2 ⟨rfl, hb2⟩
          go_wp2
          go_ret
          exact ⟨rfl, (hb.trans (hb1.mono hb.size)).trans (hb2.mono (by have := hb.size; have := hb1.size; omega))⟩
        · have d2 : decide (2000 < (pb.length : Int)) = false := by simp; omega
          have hlt5 : ∀ q, u5.ownBlock = some q → v1.heap.size + 1 ≤ q ∧ q < wr.heap.size := fun q hq => ho.lt q hq
          replace hlt5 := Lib.hid hlt5
          have hmade : (wr.alloc (.cells #[] 5)).ownsRow (v1.heap.size + 1) 5 1 (.slice (some ⟨wr.heap.size, 0, none⟩) 0 0) 0 [] := World.ownsRow_made wr #[] 0 hz (by unfold maxLen; omega) rfl
          have hcell2 : (wr.alloc (.cells #[] 5)).cell? (ad.add k) = some (.slice pa pb.length pc) := (World.cell?_alloc_lt wr _ _ (World.block_lt_of_cell? wr _ hcell)).trans hcell
          go_wp2_with (at_builtin; refine wpList_append_any rfl _ _ 22 rfl (v1.heap.size + 1) 5 (.int .u8 0) 1 1 Try.underlying22 infoB.out rfl (by decide) (.slice (some ⟨wr.heap.size, 0, none⟩) 0 0) 0 [] rfl hmade pa pb.length pc (pb.map bv) rfl (Bs.alloc hbs1 _) (by rw [List.length_map]; omega) (bv_one pb) (by unfold maxLen; omega) (by omega) (by simp; omega) ?_; intro v7 w7 ho7 hg7 hn7)
          simp only [Nat.zero_add, List.nil_append] at ho7
          simp only [Value.ownBlock, World.size_alloc] at hn7
          replace hg7 : (wr.alloc (.cells #[] 5)).grownBy w7 (some wr.heap.size) := hg7
          have hz7 := hg7.size
          simp only [World.size_alloc] at hz7
          have ho5 : w7.ownsRow (v1.heap.size + 1) 5 1 u5 (whole (l0.take k)).length ((whole (l0.take k)).map bv) := (ho.alloc _).kept hg7 (by
            cases hq : u5.ownBlock with
            | none => exact .inl rfl
            | some q => right; intro e; have e := Option.some.inj e; have := (ho.lt q hq).2; omega)
          have hs7 := (hs.alloc (.cells #[] 5)).grown hg7 (by intro e; have := Option.some.inj e; omega)
          have hb7 := below_of_grown (hb.alloc (by omega) (.cells #[] 5)) hg7 (by omega) (by simp; omega)
          have hq7 : ∃ q, v7.ownBlock = some q ∧ wr.heap.size ≤ q := by
            rcases hn7 with h | h
            · exact ⟨_, h, Nat.le_refl _⟩
            · exact ⟨_, h, by omega⟩
          obtain ⟨q7, hq7, hq7b⟩ := hq7
          obtain ⟨A7, c7, hv7, hle7, hmx7, hrd7⟩ := own_slice ho7
          subst hv7
          have hA7 : ∃ a7, A7 = some ⟨q7, a7, none⟩ := by
            rcases ho7.2 with ⟨h0, _⟩ | ⟨g', c', cur, hv, _⟩
            · injection h0 with e1 _ _
              subst e1
              simp [Value.ownBlock] at hq7
            · injection hv with e1 _ _
              subst e1
              simp [Value.ownBlock] at hq7
              subst hq7
              exact ⟨_, rfl⟩
          have hA7z : A7 = some ⟨q7, 0, none⟩ := by
            rcases ho7.2 with ⟨h0, _⟩ | ⟨g', c', cur, hv, _⟩
            · injection h0 with e1 _ _
              subst e1
              simp [Value.ownBlock] at hq7
            · injection hv with e1 _ _
              subst e1
              simp [Value.ownBlock] at hq7
              subst hq7
              rfl
          subst hA7z
          clear hA7 hn7 hg7 hmade hcell hcell2 ho hs hb hbs hbs1
          go_wp2_with fail
          refine (write_fp v1.heap.size (whole (l0.take k)) (some ⟨q7, 0, none⟩) pb.length c7 pb _ hs7 rfl (by omega) hrd7 (.inr fun ad e => by obtain rfl := Option.some.inj e; show q7 ≠ _; omega)).mono ?_
          rintro e w8 ⟨rfl, hs8, hg8⟩
          rw [← hnext.out] at hs8
          have hb8 := below_of_grown hb7 hg8 hz1 hb7.size
          have hz8 := hg8.size
          have ho8 := ho7.kept hg8 (.inr (by simp [Value.ownBlock]; omega))
          have ho6 := ho5.kept hg8 (by
            cases hq : u5.ownBlock with
            | none => exact .inl rfl
            | some q => right; intro e; have e := Option.some.inj e; have := (ho5.lt q hq).1; omega)
          have hrd8 : Bs w8 (some ⟨q7, 0, none⟩) pb := Rd.of_own ho8
          clear ho5 ho7 hs7 hb7 hg8 hrd7
          go_wp2_with (at_builtin; refine wpList_append_any rfl _ _ 22 rfl (v1.heap.size + 1) 5 (.int .u8 0) 1 1 Try.underlying22 infoB.out rfl (by decide) u5 _ _ rfl ho6 (some ⟨q7, 0, none⟩) pb.length c7 (pb.map bv) rfl hrd8 (by rw [List.length_map]; omega) (bv_one pb) (by unfold maxLen; omega) (by omega) (by omega) ?_; intro v9 w9 ho9 hg9 hn9)
          have hz9 := hg9.size
          have hq7l : q7 < w8.heap.size := (ho8.lt q7 rfl).2
          have hs9 := hs8.grown hg9 (fun e => by have := hlt5.out _ e.symm; omega)
          have hb9 : Below w.heap.size w w9 := hb8.grown hg9 hb8.size (fun q e => by have := hlt5.out q e; omega)
          have ho10 := ho8.kept hg9 (.inr (fun e => by
            have e2 : u5.ownBlock = some q7 := e.symm
            have := hlt5.out _ e2
            omega))
          have hlen9 : (whole (l0.take k)).length + pb.length = (whole (l0.take (k + 1))).length := by rw [hnext.out, List.length_append]
          rw [← List.map_append, ← hnext.out, hlen9] at ho9
          have hl9 : (whole (l0.take (k + 1))).length ≤ 2000 * (k + 1) := by omega
          clear hg9 ho6 ho8 hs8 hb8 hrd8 hlen9 hnext hwl
          obtain ⟨all, hall⟩ : ∃ all, whole (l0.take (k + 1)) = all := ⟨_, rfl⟩
          rw [hall] at ho9 hl9 hs9
          replace hall := Lib.hid hall
          have hne9 : ∀ q, v9.ownBlock = some q → q ≠ q7 := fun q hq => by
            rcases hn9 with h | h
            · have := hlt5.out q (by rw [← h]; exact hq)
              omega
            · rw [hq] at h
              have := Option.some.inj h
              omega
          clear hn9
          replace hne9 := Lib.hid hne9
          obtain ⟨n7, hn7⟩ : ∃ n7, pb.length = n7 := ⟨_, rfl⟩
          rw [hn7] at ho10 h2k d2 ⊢
          go_loopw [44] (fun v wi => ∃ j : Nat, v = .int .i64 j ∧ j ≤ n7 ∧ ∃ zs : List UInt8, zs.length = n7 ∧ wi.ownsRow (v1.heap.size + 1) 5 1 (.slice (some ⟨q7, 0, none⟩) n7 c7) n7 (zs.map bv) ∧ w9.grownBy wi (some q7)) (fun v _ => n7 - (intOf v).toNat)
          case atStart => exact ⟨0, rfl, by omega, pb, hn7, ho10, grown_refl _ _⟩
          case round =>
            clear ho10
            obtain ⟨j, rfl, hj, zs, hzl, hoi, hgi⟩ := hrel
            by_cases hlj : j < n7
            · have hlj2 : (j : Int) < n7 := by omega
              obtain ⟨g', c', cur, hv, _, _, hrow, _, _, _, hcl⟩ := own_row hoi (by omega)
              injection hv with e1 _ _
              injection e1 with e1
              injection e1 with e1
              subst e1
              have hc1 : cur[j]? = some (bv (zs.getD j 0)) := by
                rw [hcl j hlj]
                simp [List.getD, show j < zs.length by omega]
              have cj := (hrow.cell j).trans hc1
              have fj := hrow.free j
              have hoj := own_put hoi hlj (zs.getD j 0 ^^^ 85)
              have hx := xor85 (zs.getD j 0)
              generalize zs.getD j 0 = c at *
              clear hcl hc1 hrow
              go_wp2_with fail
              go_roundw
              case rel => exact ⟨j + 1, by go_num, by omega, _, by rw [List.length_set]; exact hzl, hoj, hgi.trans' (grown_put _ q7 j _)⟩
              case measure => simp [intOf]; omega
            · have hlj2 : ¬ (j : Int) < n7 := by omega
              have hs10 := hs9.grown hgi (by simp; omega)
              have hb10 := below_of_grown hb9 hgi (by omega) hb9.size
              have hz10 := hgi.size
              have ho11 := ho9.kept hgi (by
                cases hq : v9.ownBlock with
                | none => exact .inl rfl
                | some q => right; intro e; have e := Option.some.inj e; exact hne9.out q hq e)
              clear hs9 hb9 ho9 hgi hoi
              have k1 := fun W h => ssum_fp v1.heap.size all W h
              obtain ⟨F, hF⟩ : ∃ F, fp all = F := ⟨_, rfl⟩
              rw [hF] at k1
              clear hF
              replace k1 := Lib.hid k1
              have qn := neq_bsr F
              have qg := eqg_bsr F F
              go_wp2_with fail
              refine (k1.out _ hs10).mono ?_
              rintro e x1 ⟨rfl, hb1⟩
              have hs11 := hs10.below hb1
              go_wp2_with fail
              refine (k1.out _ hs11).mono ?_
              rintro e x2 ⟨rfl, hb2⟩
              have hb12 := (Below.trans hb1 (hb2.mono hb1.size))
              have hs12 := hs11.below hb2
              have hb13 := hb10.trans (hb12.mono hb10.size)
              have ho12 := ho11.kept (grown_of_below hb12 none) (by cases v9.ownBlock <;> simp)
              have hz12 := hb12.size
              clear hs10 hb10 ho11 hs11 hb1 hb2 hb12
              have r1 := (Row.new x2 25 (bsr F 0)).alloc (.cells (bsr F 0) 25)
              have r2 : Row ((x2.alloc (.cells (bsr F 0) 25)).alloc (.cells (bsr F 0) 25)) (x2.heap.size + 1) 25 (bsr F 0) := Row.made _ _ _ (by simp)
              have r3 := r2.farRow (k := x2.heap.size) (by omega) (bsr F 32)
              have r4 := (r1.whole (bsr F 32)).farRow (k := x2.heap.size + 1) (by omega) (bsr F 32)
              have r5 := r3.whole (bsr F 32)
              have hs13 := (((hs12.alloc (.cells (bsr F 0) 25)).alloc (.cells (bsr F 0) 25)).farRow (k := x2.heap.size) (by omega) (bsr F 32)).farRow (k := x2.heap.size + 1) (by omega) (bsr F 32)
              have hg13 : x2.grownBy ((((x2.alloc (.cells (bsr F 0) 25)).alloc (.cells (bsr F 0) 25)).setRow x2.heap.size (bsr F 32)).setRow (x2.heap.size + 1) (bsr F 32)) none := grown_of_below (below_row (g := x2.heap.size + 1) (below_row (g := x2.heap.size) (((Below.refl x2.heap.size x2).alloc (Nat.le_refl _) _).alloc (by simp) _) (Nat.le_refl _) _) (by omega) _) _
              have ho13 := ho12.kept hg13 (by cases v9.ownBlock <;> simp)
              have hb14 := below_row (g := x2.heap.size + 1) (below_row (g := x2.heap.size) ((hb13.alloc hb13.size (.cells (bsr F 0) 25)).alloc (by have := hb13.size; simp; omega) (.cells (bsr F 0) 25)) hb13.size (bsr F 32)) (by have := hb13.size; omega) (bsr F 32)
              have hz13 : x2.heap.size ≤ ((((x2.alloc (.cells (bsr F 0) 25)).alloc (.cells (bsr F 0) 25)).setRow x2.heap.size (bsr F 32)).setRow (x2.heap.size + 1) (bsr F 32)).heap.size := hg13.size
              have r1' := r1
              have r3' := r3
              rw [bsr_zero] at r1' r3'
              rw [← bsr_zero F] at r1' r3'
              clear hs12 ho12 hb13 hg13
              go_wp2_with (first
                | (refine wpList_store_row rfl 25 _ _ rfl x2.heap.size (bsr F 32) rfl rfl 25 _ r1 (by rw [bsr_size]; exact i32) (by rw [bsr_size, bsr_size]) (bsr_one _ _) ?_)
                | (refine wpList_store_row rfl 25 _ _ rfl (x2.heap.size + 1) (bsr F 32) rfl rfl 25 _ r3 (by rw [bsr_size]; exact i32) (by rw [bsr_size, bsr_size]) (bsr_one _ _) ?_)
                | (refine wpList_load_row rfl 25 _ rfl x2.heap.size rfl 25 (bsr F 32) (0, 0) _ r4 sumT rfl (by rw [bsr_size]; exact i32) ?_)
                | (refine wpList_load_row rfl 25 _ rfl (x2.heap.size + 1) rfl 25 (bsr F 32) (0, 0) _ r5 sumT rfl (by rw [bsr_size]; exact i32) ?_))
              go_roundw
              case rel =>
                refine ⟨k + 1, by go_num, by omega, by omega, ?_, ?_, ?_, hb14, Nat.le_trans (show v1.heap.size + 1 ≤ x2.heap.size by omega) hz13⟩
                · rw [hall.out]; exact ho13
                · rw [hall.out]; exact hl9
                · rw [hall.out]; exact hs13
              case measure => simp [intOf]; omega
    · have dl : decide ((k : Int) < (l0.length : Int)) = false := by simp; omega
      go_wp2_with fail
      have hlq : (whole (l0.take k)).length ≤ 10000000 := by omega
      obtain ⟨A5, c5, hv5, _, _, hrd5⟩ := own_slice ho
      subst hv5
      have k1 := Lib.hid (ssum_fp v1.heap.size (whole (l0.take k)) wr hs)
      have k2 := Lib.hid fun W (hbl : Below wr.heap.size wr W) => rsum_fp A5 _ c5 (whole (l0.take k)) W rfl hlq (Rd.below hrd5 hbl)
      obtain ⟨F, hF⟩ : ∃ F, fp (whole (l0.take k)) = F := ⟨_, rfl⟩
      rw [hF] at k1 k2
      clear hF
      have q1 := eql_self F
      have q2 := eqg_bsr F F
      go_wp2_with fail
      refine k1.out.mono ?_
      rintro e x1 ⟨rfl, hb1⟩
      go_wp2_with fail
      refine (k2.out _ hb1).mono ?_
      rintro e x2 ⟨rfl, hb2⟩
      go_wp2
      go_ret
      exact ⟨rfl, (hb.trans (hb1.mono hb.size)).trans (hb2.mono (by have := hb.size; have := hb1.size; omega))⟩

set_option maxRecDepth 100000 in
/-- The step of the row. -/
theorem lifted (os : Os) (started : os.Started) (H : Type) (enc : TypeId × Value → H) :
    ReturnsInHanded {} Try.checked os 4 .any (Rows.spongeStatesSpec.pre6 enc Try.prog Try.f4 Rows.spongeStatesRow.domain false) (Rows.spongeStatesSpec.post enc Try.prog Try.f4 false true false false) := by
  refine returnsInHanded_of_change (C := Try.checked) own started (by kernel_rfl) Try.func4
    (ChangeSpec.witness6 (enc := enc) (C := Try.checked) false ⟨#[], #[.slice none 0 0], []⟩ 8 (by kernel_rfl) (by kernel_rfl) (by kernel_rfl) (by kernel_rfl)) ?_
  intro W base args ds gs before hval0 hW hcnd _
  have hval : ∀ (j : Nat) t v, Try.f4.params[j]? = some t → args[j]? = some v → Value.okWide Try.prog W .any base t v := hval0
  have hW' := hW
  obtain ⟨p, q, hA0, hV, rfl, hfz, hnd⟩ := hW
  have hA : DataW.TrodAll enc Try.prog W 0 (fun _ => true) true Try.f4.params.toList args.toList ds p := hA0
  rw [Try.params4] at hA hval
  obtain ⟨v0, vs0, d0, ds0, p0, q0, hargs, rfl, rfl, h0, r0⟩ := trodAll_cons hA
  obtain ⟨rfl, rfl, rfl⟩ := trodAll_nil r0
  obtain rfl : args = #[v0] := by cases args; simp_all
  obtain ⟨rfl, rfl⟩ := trodVars_none hV
  have k0 := h0
  have lt0 : ∀ x ∈ p0, x.block < W.heap.size := by obtain ⟨m, hm⟩ := k0; exact DataW.trod_lt m _ _ _ hm
  obtain ⟨a0, len0, cap0, rfl⟩ := okWide_slice Try.underlying30 (hval 0 30 v0 rfl rfl)
  obtain ⟨l0, w0⟩ : ∃ l, IsParts W a0 len0 cap0 l := by
    obtain ⟨fuel, hf⟩ := h0
    exact open_parts Try.underlying30 Try.underlying22 Try.underlying5 (by kernel_rfl) (by kernel_rfl) hf
  clear hA0 hval0
  refine (walk a0 len0 cap0 l0 W w0).mono fun e W' ⟨he, bel⟩ => ?_
  subst he
  exact ⟨_, rfl, _, _, _, [], _, [], hW', trodAll_mk1 (shut_bool Try.underlying4 _), (trodAll_cons_mk (Below.trod laidOut (by kernel_rfl) (of_decide_eq_true (by kernel_rfl)) k0 bel lt0) trodAll_mk0), rfl, bel.frame _, fun h => by cases h⟩

theorem over : Rows.spongeStatesRow.holds Try.pinned (OpenSpec.ofChange Rows.spongeStatesSpec) :=
  OpenClaim.holds_of_wide 4 Try.f4 rfl rfl rfl rfl rfl rfl rfl ⟨rfl, rfl, rfl, rfl, rfl⟩ rfl rfl rfl rfl rfl (by kernel_rfl) Try.func4 (by kernel_rfl)
    (of_decide_eq_true (by kernel_rfl)) (by unfold Func.isWrapper; first | (rw [if_pos (by decide +kernel)]; kernel_rfl) | (rw [if_neg (by decide +kernel)]; exact ⟨rfl, rfl⟩))
    (fun os started H enc _ => lifted os started H enc)

/-- The statement. -/
theorem proved : Rows.SpongeStatesSaid := over
#print axioms proved
end Go.Proofs.Ytjpidkamgkpehaa.spongeStates
