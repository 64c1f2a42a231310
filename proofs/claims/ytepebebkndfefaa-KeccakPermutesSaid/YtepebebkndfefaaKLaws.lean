/-
  Layer 3: what the laws' walks share.
-/
import Derived.Test.YtepebebkndfefaaKShown
import Derived.Deep.RegionHeld3
import Derived.Deep.MidRow
namespace Go.Proofs.Ytepebebkndfefaa
open Go.RowKit
set_option linter.unusedVariables false

/-- n words in a row, as a list. -/
def wsl (n : Nat) (f : Nat → W64) : List Value := (List.range n).map fun i => wv (f i)
theorem wsl_ws (n : Nat) (f : Nat → W64) : (wsl n f).toArray = ws n f := rfl
theorem wsl_len (n : Nat) (f : Nat → W64) : (wsl n f).length = n := by simp [wsl]
theorem Row.range {w : World} {g : Nat} {t : TypeId} {n : Nat} {f : Nat → W64} (h : Row w g t (ws n f)) : w.rangeAt g 0 (wsl n f) := fun j v hv => by
  rw [Nat.zero_add, h.cell]
  simpa [ws, wsl] using hv
theorem range_keep {w w' : World} {g : Nat} {cs : List Value} (hb : Below w.heap.size w w') (h : w.rangeAt g 0 cs) : w'.rangeAt g 0 cs := fun j v hv => by
  have h1 := h j v hv
  rw [hb.cell (World.block_lt_of_cell? w _ h1)]
  exact h1
theorem range_row {w : World} {g k : Nat} {cs : List Value} (h : w.rangeAt g 0 cs) (hk : g ≠ k) (vs : Array Value) : (w.setRow k vs).rangeAt g 0 cs := fun j v hv => by
  rw [cell_setRow_other w k vs _ hk]
  exact h j v hv
theorem below_keep {w0 w w' : World} (hb : Below w.heap.size w w') (h : Below w0.heap.size w0 w) : Below w0.heap.size w0 w' := h.trans (hb.mono h.size)
theorem i5' (f : St) : (Try.prog.info? 29).map (·.size) = some (wsl 25 f).length := by rw [wsl_len]; exact i5

/-- Two states are the same iff their rows are. -/
theorem eql_ws (f g : St) (w : World) : (binOp .eql 29 (.agg (ws 25 f)) (.agg (ws 25 g))).run Try.prog w = .ok (.bool (decide (ns 25 f = ns 25 g))) w := by
  rw [ws_ns, ws_ns]
  exact (run_eql_arr w lanesT Try.underlying25 iu (ns 25 f) (ns 25 g) (ns_len _ _) (ns_len _ _)).1
theorem eqg_ws (f g : St) (o x y) (w : World) : (eqGuard o 29 x y (.agg (ws 25 f)) (.agg (ws 25 g))).run Try.prog w = .ok () w := run_eqGuard w o x y _ _ (by kernel_rfl)
theorem eql_wsl (f g : St) (w : World) : (binOp .eql 29 (.agg (wsl 25 f).toArray) (.agg (wsl 25 g).toArray)).run Try.prog w = .ok (.bool (decide (ns 25 f = ns 25 g))) w := eql_ws f g w
theorem eqg_wsl (f g : St) (o x y) (w : World) : (eqGuard o 29 x y (.agg (wsl 25 f).toArray) (.agg (wsl 25 g).toArray)).run Try.prog w = .ok () w := eqg_ws f g o x y w
theorem kperm_l (f : St) (w : World) :
    Calls Try.prog 16 #[.agg (wsl 25 f).toArray] w fun e w' => e = .returned (.agg (wsl 25 (perm f 24)).toArray) ∧ Below w.heap.size w w' := kperm_any f w
theorem kround_l (f : St) (n : Int) (hn : (Lit.int .i64 n).wf = true) (w : World) :
    Calls Try.prog 18 #[.agg (wsl 25 f).toArray, .int .i64 n] w fun e w' => e = .returned (.agg (wsl 25 (rnd f (mark n))).toArray) ∧ Below w.heap.size w w' := kround_any f n hn w
end Go.Proofs.Ytepebebkndfefaa
