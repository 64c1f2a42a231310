/-
  A slice of one-cell elements that make has laid, and how it is filled from its head on. No program is named here.
-/
import Derived.Test.YthbniljkgdkdnaaBase
namespace Go.Proofs.Ythbniljkgdkdnaa
open Go.RowKit
set_option linter.unusedVariables false
set_option linter.unusedSimpArgs false

/-! ### a made slice -/
/-- n cells that hold z. -/
def zrow (z : Value) (n : Nat) : Array Value := Array.replicate n z
theorem zrow_size (z : Value) (n : Nat) : (zrow z n).size = n := by simp [zrow]
theorem madeCells_one (z : Value) (hz : z.cells = #[z]) (n : Nat) : madeCells z.cells n = zrow z n := by
  rw [hz]
  apply Array.ext
  · simp [madeCells, zrow]
  · intro i h1 h2
    simp [madeCells, zrow, Nat.mod_one]
theorem run_make_one {P : Program} {T E : TypeId} (hT : P.underlying T = some (.slice E)) {z : Value} {b : Nat} (hz : z.cells = #[z]) (hE : (P.info? E).map (fun i => (i.zero, i.size, i.bytes)) = some (some z, 1, b)) (w : World) (kl kc : IntKind) (n : Nat) (hb : b * n ≤ 281474976710656) (hn : n ≤ 9223372036854775807) :
    (Instr.makeSlice T (.int kl (n : Int)) (.int kc (n : Int))).run P w = .ok (.slice (some ⟨w.heap.size, 0, none⟩) n n) (w.alloc (.cells (zrow z n) E)) := by
  cases hq : P.info? E with
  | none => simp [hq] at hE
  | some i =>
    simp only [hq, Option.map_some, Option.some.injEq, Prod.mk.injEq] at hE
    obtain ⟨h1, h2, h3⟩ := hE
    have hb' : (i.bytes : Int) * (n : Int) ≤ 281474976710656 := by
      have : ((b * n : Nat) : Int) ≤ 281474976710656 := by omega
      rw [h3]
      rwa [Int.natCast_mul] at this
    have := run_make (P := P) w T E i z hT hq h1 kl kc n n (by omega) (by omega) hb' (by omega)
    rw [this, h2, Nat.mul_one, madeCells_one z hz]
    simp
/-- A row whose first i cells hold x, the others z. -/
def frow (x z : Value) (i n : Nat) : Array Value := (List.replicate i x ++ List.replicate (n - i) z).toArray
theorem frow_zero (x z : Value) (n : Nat) : zrow z n = frow x z 0 n := by simp [zrow, frow]
theorem frow_get (x z : Value) (i n k : Nat) (hk : k < n) (hi : i ≤ n) : (frow x z i n)[k]? = some (if k < i then x else z) := by
  simp only [frow, List.getElem?_toArray, List.getElem?_append, List.length_replicate, List.getElem?_replicate]
  split
  · rfl
  · rw [if_pos (by omega)]
theorem frow_set (x z : Value) (i n : Nat) (hi : i < n) : (frow x z i n).setIfInBounds i x = frow x z (i + 1) n := by
  apply Array.ext_getElem?
  intro k
  by_cases hk : k < n
  · rw [frow_get x z (i + 1) n k hk (by omega), Array.getElem?_setIfInBounds, frow_get x z i n k hk (by omega)]
    by_cases h : i = k
    · subst h
      have hs : (frow x z i n).size = n := by simp [frow]; omega
      rw [if_pos rfl, if_pos (by omega)]
      simp [hs, hi]
    · rw [if_neg h]
      by_cases h2 : k < i
      · rw [if_pos h2, if_pos (by omega)]
      · rw [if_neg h2, if_neg (by omega)]
  · rw [Array.getElem?_eq_none (by simp [frow]; omega), Array.getElem?_eq_none (by simp [frow]; omega)]

end Go.Proofs.Ythbniljkgdkdnaa
