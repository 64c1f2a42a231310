/-
  An array of 25 words that came in.
-/
import Derived.Test.YtepebebkndfefaaWord
import Derived.OpenShut
namespace Go.Proofs.Ytepebebkndfefaa
set_option linter.unusedVariables false
section
variable {H : Type} {enc : TypeId × Value → H} {P : Program} {W : World} {base : Nat} {sp : Nat → Bool} {held : Bool}
theorem open_words {N : Nat} {r : Reach} {b0 : Nat} {t e : TypeId} {v : Value} {d : DataW H} {ps : List MemPlace} (ht : P.underlying t = some (.array N e)) (he : P.underlying e = some (.int .u64))
    (hc : P.cellsOf e = 1) (hct : P.cellsOf t = N) (hval : Value.okWide P W r b0 t v) (hd : DataW.Trod enc P W base sp held t v d ps) : ∃ f : Nat → W64, v = .agg (ws N f) := by
  simp only [Value.okWide, ht] at hval
  obtain ⟨cs, rfl, hs, _⟩ := hval
  obtain ⟨fuel, hf⟩ := hd
  obtain ⟨xs, m, rfl, hx, hl, hn, hel⟩ := DataW.trod_array ht hf
  refine ⟨fun i => match cs[i]? with | some (.int _ n) => BitVec.ofNat 64 n.toNat | _ => 0, congrArg Value.agg ?_⟩
  apply Array.ext_getElem?
  intro i
  by_cases hi : i < N
  · rw [ws_get _ hi]
    have h1 := hel i hi
    rw [hc] at h1
    have h2 : xs[i]? = some xs[i] := List.getElem?_eq_getElem (by omega)
    rw [h2] at h1
    obtain ⟨n, hcs, _, hw⟩ := DataW.trod_int he h1
    have hi2 : i < cs.size := by omega
    have h3 : cs[i]? = some (.int .u64 n) := by
      have : (((Value.agg cs).cells.toList.drop (i * 1)).take 1)[0]? = some (.int .u64 n) := by rw [hcs]; rfl
      simpa [Value.cells, List.getElem?_take, List.getElem?_drop] using this
    have hb := bounds_u64 hw
    simp only [h3]
    rw [wv, nw_nat _ (by omega)]
    congr 2
    omega
  · rw [Array.getElem?_eq_none (by omega), Array.getElem?_eq_none (by simp [ws]; omega)]
end
end Go.Proofs.Ytepebebkndfefaa
