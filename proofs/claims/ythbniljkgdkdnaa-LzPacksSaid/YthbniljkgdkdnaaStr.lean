/-
  A slice of bytes as a string. No program is named here.
-/
import Derived.Test.YthbniljkgdkdnaaBase
import Derived.Laws.BytesArg
namespace Go.Proofs.Ythbniljkgdkdnaa
open Go.RowKit
set_option linter.unusedVariables false
set_option linter.unusedSimpArgs false

/-- Bytes as a string. -/
def strB (bs : List UInt8) : ByteArray := ⟨bs.toArray⟩
theorem strB_nums (bs : List UInt8) : (bs.map fun c => (c.toNat : Int)).map (fun n => UInt8.ofNat n.toNat) = bs := by
  rw [List.map_map]
  conv => rhs; rw [← List.map_id bs]
  apply List.map_congr_left
  intro c _
  simp
theorem run_bytes_string {P : Program} {src dst e : TypeId} (hs : P.underlying src = some (.slice e)) (he : P.underlying e = some (.int .u8)) (hd : P.underlying dst = some .string) (w : World) (A : Option Addr) (n cap : Nat) (bs : List UInt8) (hn : bs.length = n) (h : Bs w A bs) :
    (convert src dst (.slice A n cap)).run P w = .ok (.string (strB bs)) w := by
  rw [run_convert_bytes_string w src dst e _ n cap hs he hd]
  cases A with
  | none =>
    have hb : bs = [] := by
      rcases h with h | ⟨ad, h, _⟩
      · simpa using h
      · cases h
    subst hb
    simp [Conv.bytesToString, strB]
    rfl
  | some ad =>
    have hl : (loadCells ad n).run P w = .ok ((bs.map fun c => (c.toNat : Int)).map (Value.int .u8)).toArray w := by
      have := run_loadCells_list (P := P) w ad (bs.map bv) (fun j v hj => by
        obtain ⟨ad', e1, hc⟩ := Rd.at_ h hj
        obtain rfl : ad = ad' := Option.some.inj e1
        exact hc)
      rw [List.length_map, hn] at this
      rw [this, List.map_map]
      rfl
    rw [run_bytesToString w _ n cap _ hl, foldl_push_bytes, strB_nums]
    simp [strB, ByteArray.empty, ByteArray.emptyWithCapacity]
    rfl
end Go.Proofs.Ythbniljkgdkdnaa
