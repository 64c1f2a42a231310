/-
  Layer 3, the program's own functions: what they answer.
-/
import Derived.Test.YtjpidkamgkpehaaProg
import Derived.Test.YtjpidkamgkpehaaKMath
import Derived.StillTailTactics
import Derived.Deep.DeepCutAuto
import Derived.Deep.CutBlock
namespace Go.Proofs.Ytjpidkamgkpehaa
open Go.RowKit
set_option linter.unusedVariables false
set_option linter.unusedSimpArgs false

theorem lanesT : Try.prog.underlying 41 = some (.array 25 39) := Try.underlying41

/-- The turns, as a value. -/
def tcells : Array Value := (tnl.map fun (n : Nat) => Value.int .i64 (n : Int)).toArray
theorem tcells_get {i : Nat} (h : i < 25) : tcells[i]? = some (.int .i64 (tn i)) :=
  by have : i < tnl.length := h
     simp [tcells, tn, this]

set_option maxHeartbeats 400000 in
theorem turns_any (w : World) :
    Calls Try.prog 19 #[] w fun e w' => e = .returned (.agg tcells) ∧ Below w.heap.size w w' := by
  have hz : Row (w.alloc (.cells (Array.replicate 25 (.int .i64 0)) 48)) w.heap.size 48 (Array.replicate 25 (.int .i64 0)) := Row.new _ _ _
  go_enter Try.func19, Try.ntmps19
  go_wp2_with (first
    | (refine wpList_built rfl 48 _ rfl tcells (by kernel_rfl) ?_)
    | (refine wpList_store_row rfl 48 _ _ rfl w.heap.size tcells rfl rfl 48 _ hz (by kernel_rfl) (by kernel_rfl) (by kernel_rfl) ?_))
  refine bodyPost_row (t := 48) (g := w.heap.size) Try.results19 (by kernel_rfl) (Row.whole hz tcells) Try.underlying48 (by kernel_rfl) rfl ⟨rfl, ?_⟩
  refine below_row ?_ (Nat.le_refl _) _
  (repeat (first | exact Below.refl _ _ | refine Below.setCell ?_ (by simp) _ | refine Below.drewN ?_ _ | refine Below.drew ?_ | refine Below.alloc ?_ (by simp) _))

set_option maxHeartbeats 400000 in
theorem rotate_any (x : W64) (k : Nat) (hk : k < 64) (w : World) :
    Calls Try.prog 27 #[wv x, .int .i64 k] w fun e w' => e = .returned (wv (rot x k)) ∧ w = w' := by
  have hk1 : bits .and .u64 (k : Int) 63 = (k : Int) := by
    rw [show (63 : Int) = ((63 : Nat) : Int) by rfl, u64_and_nat _ _ (by omega) (by omega), Nat.and_two_pow_sub_one_eq_mod k 6]
    omega
  have hk2 : IntKind.u64.wrap ((64 : Int) - k) = ((64 - k : Nat) : Int) := by rw [u64_wrap]; omega
  go_enter Try.func27, Try.ntmps27
  go_wp2
  go_ret
  refine ⟨congrArg _ ?_, rfl⟩
  rw [wv_shl, wv_shr, wv_or]
  rfl

theorem i5 : (Try.prog.info? 41).map (·.size) = some 25 := by kernel_rfl
theorem iu : (Try.prog.info? 39).map (·.size) = some 1 := by kernel_rfl
theorem mod_nat (k c : Nat) (hc : 0 < c) : ∃ m : Nat, k % c = m ∧ (k : Int) % c = m ∧ (k : Int).tmod c = m ∧ m < c :=
  ⟨k % c, rfl, by omega, by rw [Int.tmod_eq_emod_of_nonneg (by omega)]; omega, Nat.mod_lt _ hc⟩
theorem zero25 : ws 25 (fun _ => 0) = #[.int .u64 0, .int .u64 0, .int .u64 0, .int .u64 0, .int .u64 0, .int .u64 0, .int .u64 0, .int .u64 0, .int .u64 0, .int .u64 0, .int .u64 0, .int .u64 0, .int .u64 0, .int .u64 0, .int .u64 0, .int .u64 0, .int .u64 0, .int .u64 0, .int .u64 0, .int .u64 0, .int .u64 0, .int .u64 0, .int .u64 0, .int .u64 0, .int .u64 0] := rfl
theorem zero5 : ws 5 (fun _ => 0) = #[.int .u64 0, .int .u64 0, .int .u64 0, .int .u64 0, .int .u64 0] := rfl

set_option maxHeartbeats 2000000 in
theorem mixed_any (f : St) (w : World) :
    Calls Try.prog 26 #[.agg (ws 25 f)] w fun e w' => e = .returned (.agg (ws 25 (mixd f))) ∧ Below w.heap.size w w' := by
  go_enter Try.func26, Try.ntmps26
  go_wp2_with ((refine wpList_load_row rfl 41 _ rfl w.heap.size rfl 41 (ws 25 f) (0, 0) _ (((Row.new w 41 (ws 25 f)).alloc _).alloc _) lanesT rfl (by rw [ws_size]; exact i5) ?_))
  go_loopw [8] (fun v wr => ∃ k : Nat, v = .int .i64 k ∧ k ≤ 25 ∧ Row wr w.heap.size 41 (ws 25 f) ∧ Row wr (w.heap.size + 1) 41 (ws 25 fun _ => 0) ∧ Row wr (w.heap.size + 1 + 1) 52 (ws 5 (acc f k)) ∧ Below w.heap.size w wr) (fun v _ => 25 - (intOf v).toNat)
  case atStart =>
    refine ⟨0, rfl, by omega, ((Row.new w _ _).alloc _).alloc _, ?_, ?_, ?_⟩
    · rw [zero25]
      exact (Row.made (w.alloc _) _ _ (by simp)).alloc _
    · rw [show acc f 0 = fun _ => 0 from rfl, zero5]
      exact Row.made ((w.alloc _).alloc _) _ _ (by simp)
    · exact (((Below.refl _ _).alloc (Nat.le_refl _) _).alloc (by simp) _).alloc (by simp; omega) _
  case round =>
    obtain ⟨k, rfl, hk, hs, hz, hp, hb⟩ := hrel
    by_cases hlt : k < 25
    · have hm5 : k % 5 < 5 := Nat.mod_lt _ (by decide)
      have hx := fun w => run_index_ws lanesT Try.underlying39 iu w f k hlt
      have hc := (hp.cell (k % 5)).trans (ws_get _ hm5)
      have hf := hp.free (k % 5)
      have hnext : (ws 5 (acc f k)).setIfInBounds (k % 5) (wv (acc f k (k % 5) ^^^ f k)) = ws 5 (acc f (k + 1)) := by
        rw [ws_set]
        refine ws_congr fun i hi => ?_
        simp only [acc]
        by_cases h : i = k % 5
        · rw [if_pos h, if_pos h, h]
        · rw [if_neg h, if_neg h]
      replace hnext := Lib.hid hnext
      go_wp2
      go_roundw
      case rel =>
        refine ⟨k + 1, by go_num, by omega, hs.far (by simp; omega) _, hz.far (by simp) _, ?_, hb.setCell (by simp; omega) _⟩
        rw [← hnext.out]
        exact hp.put (k % 5) _
      case measure => simp [intOf]; omega
    · have hk25 : k = 25 := by omega
      rw [hk25, ws_congr (fun i hi => acc_all f hi)] at hp
      clear hk25
      go_wp2
      go_loopw [20] (fun v wi => ∃ k : Nat, v = .int .i64 k ∧ k ≤ 25 ∧ Row wi w.heap.size 41 (ws 25 fun i => if i < k then mixd f i else f i) ∧ Row wi (w.heap.size + 1) 41 (ws 25 fun _ => 0) ∧ Row wi (w.heap.size + 1 + 1) 52 (ws 5 (col f)) ∧ Below w.heap.size w wi) (fun v _ => 25 - (intOf v).toNat)
      case atStart => exact ⟨0, rfl, by omega, hs, hz, hp, hb⟩
      case round =>
        clear hs hz hp hb
        obtain ⟨k, rfl, hk, hs, hz, hp, hb⟩ := hrel
        have hsz := hb.size
        by_cases hlt : k < 25
        · have ha : IntKind.i64.wrap ((k : Int) + 4) = (k : Int) + 4 := IntWalk.i64_in _ (by omega)
          have hb1 : IntKind.i64.wrap ((k : Int) + 1) = (k : Int) + 1 := IntWalk.i64_in _ (by omega)
          obtain ⟨m4, e4, _, f4, l4⟩ := mod_nat (k + 4) 5 (by decide)
          obtain ⟨m1, e1, _, f1, l1⟩ := mod_nat (k + 1) 5 (by decide)
          have c0 := (hs.cell k).trans (ws_get _ hlt)
          have c4 := (hp.cell m4).trans (ws_get _ l4)
          have c1 := (hp.cell m1).trans (ws_get _ l1)
          have ff := hs.free k
          have l4' : (m4 : Int) < 5 := by omega
          have l1' : (m1 : Int) < 5 := by omega
          rw [if_neg (Nat.lt_irrefl k)] at c0
          simp only [Int.natCast_add, Int.cast_ofNat_Int] at f4 f1
          have hnext : (ws 25 fun i => if i < k then mixd f i else f i).setIfInBounds k (wv (f k ^^^ (col f m4 ^^^ rot (col f m1) 1))) = ws 25 fun i => if i < k + 1 then mixd f i else f i := by
            rw [ws_set]
            refine ws_congr fun i hi => ?_
            by_cases h : i = k
            · subst h
              rw [if_pos rfl, if_pos (by omega), mixd, e4, e1]
            · rw [if_neg h]
              by_cases h2 : i < k
              · rw [if_pos h2, if_pos (by omega)]
              · rw [if_neg h2, if_neg (by omega)]
          replace hnext := Lib.hid hnext
          clear e4 e1
          go_wp2
          refine wp_region_still_tail 16 (by kernel_rfl) (by kernel_rfl) ?_
          simp only [List.take_succ_cons, List.take_zero, List.drop_succ_cons, List.drop_zero]
          repeat (first | still_step | still_call ((rotate_any _ 1 (by decide) _).mono fun _ _ h => ⟨h.1, h.2.symm⟩))
          refine wpStill_nil ?_
          go_wp2
          go_roundw
          case rel =>
            refine ⟨k + 1, by go_num, by omega, ?_, hz.far (by simp) _, hp.far (by simp; omega) _, Below.setCell (Below.drew hb) (by simp) _⟩
            rw [← hnext.out]
            exact hs.put k _
          case measure => simp [intOf]; omega
        · have hk25 : k = 25 := by omega
          have hm25 : (ws 25 fun i => if i < 25 then mixd f i else f i) = ws 25 (mixd f) := ws_congr fun i hi => if_pos hi
          rw [hk25, hm25] at hs
          clear hm25 hk25
          go_wp2_with (first
            | (refine wpList_load_row rfl 41 _ rfl w.heap.size rfl 41 (ws 25 (mixd f)) (0, 0) _ hs lanesT rfl (by rw [ws_size]; exact i5) ?_)
            | (refine wpList_store_row rfl 41 _ _ rfl (w.heap.size + 1) (ws 25 (mixd f)) rfl rfl 41 _ hz (by rw [ws_size]; exact i5) (by rw [ws_size, ws_size]) (ws_one _ _) ?_))
          refine bodyPost_row (t := 41) (g := w.heap.size + 1) Try.results26 (by kernel_rfl) (Row.whole hz _) lanesT (by rw [ws_size]; exact i5) rfl ⟨rfl, ?_⟩
          exact below_row hb (by omega) _
end Go.Proofs.Ytjpidkamgkpehaa
