/-
  Slices of bytes that came in, in a slice.
-/
import Derived.Test.YtjpidkamgkpehaaSSum
import Derived.Test.YtjpidkamgkpehaaOwn
import Derived.OpenShut
import Derived.Deep.Matrix
namespace Go.Proofs.Ytjpidkamgkpehaa
open Go.RowKit Go.ChangeShapes Go.WideShapes Go.Deep
set_option linter.unusedVariables false
set_option linter.unusedSimpArgs false

/-- They lie in a row, and each reads so. -/
def IsParts (w : World) (a : Option Addr) (len cap : Nat) (l : List Part) : Prop :=
  l.length = len ∧ len ≤ cap ∧ cap ≤ maxLen ∧ Rd w a (l.map Part.val) ∧ ∀ p ∈ l, Bs w p.at_ p.bs ∧ p.bs.length ≤ p.cap ∧ p.cap ≤ maxLen
section
variable {H : Type} {enc : TypeId × Value → H} {P : Program} {w : World} {base : Nat} {held : Bool}
theorem open_parts {t e q : TypeId} {fuel : Nat} {a : Option Addr} {len cap : Nat} {x : DataW H × List MemPlace} (ht : P.underlying t = some (.slice e)) (he : P.underlying e = some (.slice q)) (hq : P.underlying q = some (.int .u8))
    (ce : P.cellsOf e = 1) (cq : P.cellsOf q = 1) (h : DataW.trod enc P w base (fun _ => true) held fuel t [.slice a len cap] = some x) : ∃ l, IsParts w a len cap l := by
  rcases open_int_rows ht he hq ce cq h with ⟨hcs, _⟩ | ⟨ad, len', cap', A, L, C, Z, hcs, _, hl, hm, _, hr⟩
  · simp at hcs
    obtain ⟨rfl, rfl, rfl⟩ := hcs
    exact ⟨[], rfl, Nat.le_refl _, by unfold maxLen; omega, Rd.nil, fun p hp => by cases hp⟩
  · simp at hcs
    obtain ⟨rfl, rfl, rfl⟩ := hcs
    have each : ∀ r, r < cap → ∃ bs : List UInt8, bs.length = L r ∧ Bs w (A r) bs := fun r hlt => by
      obtain ⟨_, h1, h2, h3, h4, h5, h6⟩ := hr r hlt
      have hz : (A r = none ∧ L r = 0 ∧ C r = 0 ∧ Z r = []) ∨ ∃ x, A r = some x ∧ L r ≤ C r ∧ C r ≤ maxLen ∧ (Z r).length = C r ∧ (∀ i, i < (Z r).length → w.cell? (x.add i) = some (.int .u8 ((Z r).getD i 0))) ∧ ∀ n ∈ Z r, (Lit.int .u8 n).wf = true := by
        cases hA : A r with
        | none =>
          have h0 := h5 hA
          exact .inl ⟨rfl, by omega, h0, List.eq_nil_of_length_eq_zero (by omega)⟩
        | some x => exact .inr ⟨x, rfl, h1, h2, h3, fun i hi => (h6 x hA).2 i (by omega), h4⟩
      obtain ⟨bs, b1, _, _, b4⟩ := bytes_of_ints hz
      exact ⟨bs, b1, b4⟩
    obtain ⟨f, hf⟩ := choose_lt each
    refine ⟨(List.range len).map fun r => ⟨A r, C r, f r⟩, by simp, hl, hm, .inr ⟨ad, rfl, fun j u hu => ?_⟩, fun p hp => ?_⟩
    · simp only [List.map_map, List.getElem?_map, Option.map_eq_some_iff] at hu
      obtain ⟨r, hr', rfl⟩ := hu
      have hj : j < len := by simpa using (List.getElem?_eq_some_iff.1 hr').1
      rw [List.getElem?_range hj] at hr'
      obtain rfl := Option.some.inj hr'
      rw [(hr j (by omega)).1]
      simp only [Function.comp, Part.val, (hf j (by omega)).1]
    · obtain ⟨r, hr', rfl⟩ := List.mem_map.1 hp
      have hlt : r < cap := by have := List.mem_range.1 hr'; omega
      obtain ⟨_, h1, h2, _⟩ := hr r hlt
      exact ⟨(hf r hlt).2, by show (f r).length ≤ C r; rw [(hf r hlt).1]; exact h1, h2⟩
end

theorem xor85 (c : UInt8) : bits .xor .u8 (c.toNat : Int) 85 = (((c ^^^ 85).toNat : Nat) : Int) := by
  have h := u8_xor_nat c.toNat 85 c.toNat_lt (by decide)
  rw [UInt8.toNat_xor]
  exact h
/-- A cell of a slice of the call's own, written. -/
theorem own_put {w : World} {base : Nat} {e : TypeId} {g n c : Nat} {zs : List UInt8} (h : w.ownsRow base e 1 (.slice (some ⟨g, 0, none⟩) n c) n (zs.map bv)) {j : Nat} (hj : j < n) (u : UInt8) :
    (w.setCell ⟨g, j, none⟩ (bv u)).ownsRow base e 1 (.slice (some ⟨g, 0, none⟩) n c) n ((zs.set j u).map bv) := by
  refine ⟨by simpa using h.1, ?_⟩
  rcases h.2 with ⟨h0, _⟩ | ⟨g', c', cur, hv, hb, hg, h1, h2, h3, h4⟩
  · cases h0
  · injection hv with e1 e2 e3
    injection e1 with e1
    injection e1 with e1
    subst e1 e3
    have hrow : Row w g e cur := hg
    refine .inr ⟨g, c, cur.setIfInBounds j (bv u), rfl, hb, hrow.put j (bv u), h1, h2, by simpa using h3, ?_⟩
    rw [Array.toList_setIfInBounds, List.take_set, h4, List.map_set]
end Go.Proofs.Ytjpidkamgkpehaa
