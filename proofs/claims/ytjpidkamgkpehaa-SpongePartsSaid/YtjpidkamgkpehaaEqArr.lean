/-
  Two arrays of integers, held against one another (== and !=). No program is named here.
-/
import Derived.Test.YtjpidkamgkpehaaBase
import Derived.Laws.StructEq
namespace Go.Proofs.Ytjpidkamgkpehaa
open Go.RowKit
set_option linter.unusedVariables false
set_option linter.unusedSimpArgs false

section
variable {P : Program} {t e : TypeId} {k : IntKind}
/-- The cells of an array of integers. -/
abbrev iv (k : IntKind) (l : List Int) : Value := .agg (l.map (Value.int k)).toArray

theorem run_part (w : World) (he : P.underlying e = some (.int k)) (l : List Int) (i : Nat) (hi : i < l.length) :
    (part e (l.map (Value.int k)).toArray i).run P w = .ok (.int k l[i]) w := by
  have hag : (isAgg e).run P w = .ok false w := by
    unfold isAgg
    rw [Sem.run_bind, run_underlying he w]
    simp
  unfold part
  rw [Sem.run_bind, hag]
  simp [Result.andThen, hi]

theorem eq_loop (w : World) (l m : List Int) (hl : l.length = m.length) :
    ∀ (n j : Nat), j + n = l.length → ∀ (F : Nat → Option Bool × Unit → Sem (ForInStep (Option Bool × Unit))),
      (∀ i s, i < l.length → (F i s).run P w = .ok (if l.getD i 0 = m.getD i 0 then .yield (none, ()) else .done (some false, ())) w) →
      (forIn (List.range' j n) (none, ()) F).run P w = .ok (if (l.drop j = m.drop j) then (none, ()) else (some false, ())) w
  | 0, j, h, F, hF => by
    have h1 : l.drop j = [] := List.drop_eq_nil_of_le (by omega)
    have h2 : m.drop j = [] := List.drop_eq_nil_of_le (by omega)
    simp [h1, h2]
  | n + 1, j, h, F, hF => by
    have hj : j < l.length := by omega
    have hj' : j < m.length := by omega
    rw [List.range'_succ, List.forIn_cons, Sem.run_bind, hF j _ hj]
    have g1 : l.getD j 0 = l[j] := by simp [List.getD, hj]
    have g2 : m.getD j 0 = m[j] := by simp [List.getD, hj']
    rw [g1, g2]
    have hd : (l.drop j = m.drop j) ↔ l[j] = m[j] ∧ l.drop (j + 1) = m.drop (j + 1) := by
      rw [List.drop_eq_getElem_cons hj, List.drop_eq_getElem_cons hj', List.cons.injEq]
    by_cases hc : l[j] = m[j]
    · rw [if_pos hc]
      simp only [Result.andThen_ok]
      rw [eq_loop w l m hl n (j + 1) (by omega) F hF]
      by_cases h2 : l.drop (j + 1) = m.drop (j + 1)
      · rw [if_pos h2, if_pos (hd.2 ⟨hc, h2⟩)]
      · rw [if_neg h2, if_neg (fun h3 => h2 (hd.1 h3).2)]
    · rw [if_neg hc, if_neg (fun h3 => hc (hd.1 h3).1)]
      simp only [Result.andThen_ok, Sem.run_pure]

theorem run_equalIn_arr {n : Nat} (w : World) (D : Nat) (ht : P.underlying t = some (.array n e)) (he : P.underlying e = some (.int k)) (hs : (P.info? e).map (·.size) = some 1) (l m : List Int) (hl : l.length = n) (hm : m.length = n) :
    (Op.equalIn (D + 2) t (iv k l) (iv k m)).run P w = .ok (decide (l = m)) w := by
  cases hq : P.info? e with
  | none => simp [hq] at hs
  | some d =>
    have hs1 : d.size = 1 := by simpa [hq] using hs
    rw [Op.equalIn]
    simp only [Sem.run_bind, run_underlying ht, Result.andThen_ok, sizeOf, typeInfo, run_program, hq, Sem.run_pure, hs1, Nat.mul_one]
    rw [Std.Legacy.Range.forIn_eq_forIn_range']
    have := eq_loop (P := P) w l m (by omega) n 0 (by omega) (fun i _ => do
        let a ← part e (List.map (Value.int k) l).toArray i
        let b ← part e (List.map (Value.int k) m).toArray i
        let r ← Op.equalIn (D + 1) e a b
        if (!r) = true then pure (ForInStep.done (some false, ())) else pure (ForInStep.yield (none, ()))) (fun i s hi => by
      have hi' : i < m.length := by omega
      simp only [Sem.run_bind, run_part w he l i hi, run_part w he m i hi', Result.andThen_ok, run_equalIn_int w D e k k _ _ he, Sem.run_ite, Sem.run_pure]
      have g1 : l.getD i 0 = l[i] := by simp [List.getD, hi]
      have g2 : m.getD i 0 = m[i] := by simp [List.getD, hi']
      rw [g1, g2]
      by_cases hc : l[i] = m[i]
      · simp [hc]
      · simp [hc])
    have hr : ([:n] : Std.Legacy.Range).size = n := by simp [Std.Legacy.Range.size]
    simp only [hr]
    rw [this]
    simp only [List.drop_zero, Result.andThen_ok]
    by_cases hc : l = m
    · simp [hc]
    · simp [hc]
theorem run_equal_arr {n : Nat} (w : World) (ht : P.underlying t = some (.array n e)) (he : P.underlying e = some (.int k)) (hs : (P.info? e).map (·.size) = some 1) (l m : List Int) (hl : l.length = n) (hm : m.length = n) :
    (Op.equal t (iv k l) (iv k m)).run P w = .ok (decide (l = m)) w := run_equalIn_arr w 9998 ht he hs l m hl hm
theorem run_eqGuard (w : World) (op : BinOp) (x y : Operand) (xs ys : Array Value) (h : P.eqGuardType P.depth t = false) : (eqGuard op t x y (.agg xs) (.agg ys)).run P w = .ok () w := by
  cases op <;> simp [eqGuard, Sem.run_bind, run_program, h]
/-- == and != on arrays of integers. -/
theorem run_eql_arr {n : Nat} (w : World) (ht : P.underlying t = some (.array n e)) (he : P.underlying e = some (.int k)) (hs : (P.info? e).map (·.size) = some 1) (l m : List Int) (hl : l.length = n) (hm : m.length = n) :
    (binOp .eql t (iv k l) (iv k m)).run P w = .ok (.bool (decide (l = m))) w ∧ (binOp .neq t (iv k l) (iv k m)).run P w = .ok (.bool (!decide (l = m))) w := by
  have h := run_equal_arr w ht he hs l m hl hm
  constructor
  · show (do pure (.bool (← Op.equal t (iv k l) (iv k m))) : Sem Value).run P w = _
    rw [Sem.run_bind, h]
    simp
  · show (do pure (.bool (!(← Op.equal t (iv k l) (iv k m)))) : Sem Value).run P w = _
    rw [Sem.run_bind, h]
    simp
end
end Go.Proofs.Ytjpidkamgkpehaa
