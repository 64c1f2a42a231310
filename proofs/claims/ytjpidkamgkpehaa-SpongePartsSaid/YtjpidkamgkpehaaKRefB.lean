/-
  Layer 3, the document's round.
-/
import Derived.Test.YtjpidkamgkpehaaKRefA
import Derived.Test.YtjpidkamgkpehaaKPerm
namespace Go.Proofs.Ytjpidkamgkpehaa
open Go.RowKit
set_option linter.unusedVariables false
set_option linter.unusedSimpArgs false

/-! ### plain words -/
def pcol (f : St) (x : Nat) : Nat → W64
  | 0 => 0
  | k + 1 => pcol f x k ^^^ f (x + 5 * k)
theorem pcol_all (f : St) (x : Nat) : pcol f x 5 = col f x := by simp [pcol, col]
theorem pcol_step (f : St) {x y : Nat} (hx : x < 5) :
    (ws 5 fun i => if i < x then col f i else if i = x then pcol f x y else 0).setIfInBounds x (wv (pcol f x y ^^^ f (x + 5 * y))) = ws 5 fun i => if i < x then col f i else if i = x then pcol f x (y + 1) else 0 := by
  rw [ws_set]
  refine ws_congr fun i hi => ?_
  by_cases h : i = x
  · subst h; simp [pcol]
  · simp [h]
theorem pcol_end (f : St) {x : Nat} : (ws 5 fun i => if i < x then col f i else if i = x then pcol f x 5 else 0) = ws 5 fun i => if i < x + 1 then col f i else 0 := by
  refine ws_congr fun i hi => ?_
  by_cases h : i = x
  · subst h; simp [pcol_all]
  · by_cases h2 : i < x
    · simp [h2, show i < x + 1 by omega]
    · simp [h, h2, show ¬ i < x + 1 by omega]
theorem pcol_start (f : St) (x : Nat) : (ws 5 fun i => if i < x then col f i else 0) = ws 5 fun i => if i < x then col f i else if i = x then pcol f x 0 else 0 := by
  refine ws_congr fun i hi => ?_
  by_cases h : i < x
  · simp [h]
  · simp [h, pcol]
/-- The document's order of the places. -/
def ord (i : Nat) : Nat := 5 * (i % 5) + i / 5
theorem ord_xy {x y : Nat} (hx : x < 5) (hy : y < 5) : ord (x + 5 * y) = 5 * x + y := by unfold ord; omega
theorem ord_inj {i j : Nat} (h : ord i = ord j) (hi : i < 25) (hj : j < 25) : i = j := by unfold ord at h; omega
theorem ord_lt {i : Nat} (hi : i < 25) : ord i < 25 := by unfold ord; omega
theorem rturned_step (g : St) {x y : Nat} (hx : x < 5) (hy : y < 5) :
    (ws 25 fun j => if ord (whence j) < 5 * x + y then turned g j else 0).setIfInBounds (pl (x + 5 * y)) (wv (rot (g (x + 5 * y)) (tn (x + 5 * y)))) = ws 25 fun j => if ord (whence j) < 5 * x + y + 1 then turned g j else 0 := by
  rw [ws_set]
  refine ws_congr fun j hj => ?_
  have hk : x + 5 * y < 25 := by omega
  have h := pl_whence _ hk j hj
  by_cases e : j = pl (x + 5 * y)
  · have hw := h.2 e
    rw [if_pos e, if_pos (by rw [hw, ord_xy hx hy]; omega), turned, hw]
  · rw [if_neg e]
    have h2 : ord (whence j) ≠ 5 * x + y := fun e' => e (h.1 (ord_inj (by rw [ord_xy hx hy]; exact e') (whence_lt j hj) hk))
    by_cases h3 : ord (whence j) < 5 * x + y
    · rw [if_pos h3, if_pos (by omega)]
    · rw [if_neg h3, if_neg (by omega)]
theorem rchi_step (a : St) {x y : Nat} (hx : x < 5) (hy : y < 5) :
    (ws 25 fun j => if ord j < 5 * x + y then chi a j else 0).setIfInBounds (x + 5 * y) (wv (chi a (x + 5 * y))) = ws 25 fun j => if ord j < 5 * x + y + 1 then chi a j else 0 := by
  rw [ws_set]
  refine ws_congr fun j hj => ?_
  by_cases e : j = x + 5 * y
  · subst e; rw [if_pos rfl, if_pos (by rw [ord_xy hx hy]; omega)]
  · rw [if_neg e]
    have h2 : ord j ≠ 5 * x + y := fun e' => e (ord_inj (by rw [ord_xy hx hy]; exact e') hj (by omega))
    by_cases h3 : ord j < 5 * x + y
    · rw [if_pos h3, if_pos (by omega)]
    · rw [if_neg h3, if_neg (by omega)]
theorem chi_xy (a : St) {x y : Nat} (hx : x < 5) : chi a (x + 5 * y) = a (x + 5 * y) ^^^ (a ((x + 2) % 5 + 5 * y) &&& ~~~ a ((x + 1) % 5 + 5 * y)) := by
  unfold chi
  have e1 : x + 5 * y - (x + 5 * y) % 5 + (x + 5 * y + 1) % 5 = (x + 1) % 5 + 5 * y := by omega
  have e2 : x + 5 * y - (x + 5 * y) % 5 + (x + 5 * y + 2) % 5 = (x + 2) % 5 + 5 * y := by omega
  rw [e1, e2, BitVec.and_comm]
theorem mixd_xy (f : St) {x y : Nat} (hx : x < 5) : f (x + 5 * y) ^^^ col f ((x + 4) % 5) ^^^ rot (col f ((x + 1) % 5)) 1 = mixd f (x + 5 * y) := by
  unfold mixd
  have e1 : (x + 5 * y + 4) % 5 = (x + 4) % 5 := by omega
  have e2 : (x + 5 * y + 1) % 5 = (x + 1) % 5 := by omega
  rw [e1, e2, BitVec.xor_assoc]

/-! ### contracts for small numbers -/
theorem at_nat (a b : Int) (x y : Nat) (ha : fv a = x) (hb : fv b = y) (h1 : -1000 ≤ a) (h2 : a ≤ 1000) (h3 : -1000 ≤ b) (h4 : b ≤ 1000) (w : World) :
    Calls Try.prog 21 #[.int .i64 a, .int .i64 b] w fun e w' => e = .returned (.int .i64 ((x + 5 * y : Nat) : Int)) ∧ w = w' := by
  have h := at_any a b (i64_wf _ (by omega) (by omega)) (i64_wf _ (by omega) (by omega)) w
  rwa [ha, hb] at h
theorem five_nat (a : Int) (x : Nat) (ha : fv a = x) (h1 : -1000 ≤ a) (h2 : a ≤ 1000) (w : World) :
    Calls Try.prog 22 #[.int .i64 a] w fun e w' => e = .returned (.int .i64 (x : Int)) ∧ w = w' := by
  have h := rfive_any a (i64_wf _ (by omega) (by omega)) w
  rwa [ha] at h
theorem turn_nat (x y : Nat) (hx : x < 5) (hy : y < 5) (w : World) :
    Calls Try.prog 24 #[.int .i64 (x : Int), .int .i64 (y : Int)] w fun e w' => e = .returned (.int .i64 (tn (x + 5 * y))) ∧ w = w' := by
  have h := rturns_any (x : Int) (y : Int) (i64_wf _ (by omega) (by omega)) (i64_wf _ (by omega) (by omega)) w
  rw [show fv (x : Int) = x by unfold fv; omega, show fv (y : Int) = y by unfold fv; omega] at h
  exact h
end Go.Proofs.Ytjpidkamgkpehaa
