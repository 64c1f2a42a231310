/-
  Words of 64 bits: what the operations on them answer; rows of words. No program is named here.
-/
import Derived.Test.YtjpidkamgkpehaaBase
import Derived.Test.YtjpidkamgkpehaaEqArr
import Derived.Laws.BitsAllLaws
import Derived.Laws.Rows
import Derived.Laws.Tables
import Derived.StillTailTactics
namespace Go.Proofs.Ytjpidkamgkpehaa
open Go.RowKit
set_option linter.unusedVariables false
set_option linter.unusedSimpArgs false

abbrev W64 := BitVec 64
/-- A word's number. -/
def nw (c : W64) : Int := (c.toNat : Int)
/-- A word. -/
abbrev wv (c : W64) : Value := .int .u64 (nw c)
theorem nw_nat (n : Nat) (h : n < 18446744073709551616) : nw (BitVec.ofNat 64 n) = (n : Int) := by
  unfold nw; rw [BitVec.toNat_ofNat]; omega
theorem nw_inj {a b : W64} : nw a = nw b ↔ a = b := ⟨fun h => BitVec.eq_of_toNat_eq (Int.ofNat_inj.1 h), fun h => h ▸ rfl⟩

theorem u64_wrap (n : Int) : IntKind.u64.wrap n = n % 18446744073709551616 := by simp [IntKind.wrap, IntKind.bits, IntKind.signed]
theorem u64_fit (c : W64) : nw c % 18446744073709551616 = nw c := by have := c.isLt; unfold nw; omega
theorem nw_lt (c : W64) : 0 ≤ nw c ∧ nw c < 18446744073709551616 := by have := c.isLt; unfold nw; omega

@[go_sem 5000] theorem wv_xor (a b : W64) : bits .xor .u64 (nw a) (nw b) = nw (a ^^^ b) := by
  unfold nw; rw [u64_xor_nat _ _ a.isLt b.isLt, BitVec.toNat_xor]
@[go_sem 5000] theorem wv_and (a b : W64) : bits .and .u64 (nw a) (nw b) = nw (a &&& b) := by
  unfold nw; rw [u64_and_nat _ _ a.isLt b.isLt, BitVec.toNat_and]
@[go_sem 5000] theorem wv_or (a b : W64) : bits .or .u64 (nw a) (nw b) = nw (a ||| b) := by
  unfold nw; rw [u64_or_nat _ _ a.isLt b.isLt, BitVec.toNat_or]
theorem not_eq_xor (a : W64) : (18446744073709551615#64) ^^^ a = ~~~a := by
  have : (18446744073709551615#64) = BitVec.allOnes 64 := by decide
  rw [this, BitVec.allOnes_xor]
@[go_sem 5000] theorem wv_not (a : W64) : bits .xor .u64 (18446744073709551615 : Int) (nw a) = nw (~~~a) := by
  have h := wv_xor (18446744073709551615#64) a
  rw [not_eq_xor] at h
  exact h
@[go_sem 5000] theorem wv_not' (a : W64) : bits .xor .u64 (if IntKind.u64.signed = true then -1 else IntKind.u64.max) (nw a) = nw (~~~a) := wv_not a
@[go_sem 5000] theorem wv_andNot (a b : W64) : bits .andNot .u64 (nw a) (nw b) = nw (a &&& ~~~b) := by
  unfold nw; rw [u64_andNot_nat _ _ a.isLt b.isLt, BitVec.toNat_and, BitVec.toNat_not]

/-- Turned left by k. -/
def rot (x : W64) (k : Nat) : W64 := x <<< k ||| x >>> (64 - k)
theorem wv_shl (x : W64) (k : Nat) : IntKind.u64.wrap (nw x * 2 ^ k) = nw (x <<< k) := by
  unfold nw; rw [u64_wrap, BitVec.toNat_shiftLeft, Nat.shiftLeft_eq, Int.natCast_emod, Int.natCast_mul, Int.natCast_pow]
  rfl
theorem wv_shr (x : W64) (k : Nat) : nw x / 2 ^ k = nw (x >>> k) := by
  unfold nw; rw [BitVec.toNat_ushiftRight, Nat.shiftRight_eq_div_pow]
  simp

/-! ### rows of words -/
/-- n words in a row. -/
def ws (n : Nat) (f : Nat → W64) : Array Value := ((List.range n).map fun i => wv (f i)).toArray
theorem ws_size (n : Nat) (f : Nat → W64) : (ws n f).size = n := by simp [ws]
theorem ws_get {n : Nat} (f : Nat → W64) {i : Nat} (h : i < n) : (ws n f)[i]? = some (wv (f i)) := by simp [ws, h]
theorem ws_set (n : Nat) (f : Nat → W64) (i : Nat) (u : W64) : (ws n f).setIfInBounds i (wv u) = ws n (fun j => if j = i then u else f j) := by
  apply Array.ext_getElem?
  intro k
  by_cases hk : k < n
  · rw [ws_get _ hk, Array.getElem?_setIfInBounds, ws_get _ hk, ws_size]
    by_cases h : i = k
    · subst h; simp [hk]
    · simp [h, show ¬ k = i by omega]
  · rw [Array.getElem?_eq_none (by simp [ws]; omega), Array.getElem?_eq_none (by simp [ws]; omega)]
theorem ws_congr {n : Nat} {f g : Nat → W64} (h : ∀ i, i < n → f i = g i) : ws n f = ws n g := by
  apply Array.ext_getElem?
  intro k
  by_cases hk : k < n
  · rw [ws_get _ hk, ws_get _ hk, h k hk]
  · rw [Array.getElem?_eq_none (by simp [ws]; omega), Array.getElem?_eq_none (by simp [ws]; omega)]
theorem ws_one (n : Nat) (f : Nat → W64) : (ws n f).all (·.oneCell') = true := by
  simp [ws, Value.oneCell']
/-- The numbers of a row. -/
def ns (n : Nat) (f : Nat → W64) : List Int := (List.range n).map fun i => nw (f i)
theorem ns_len (n : Nat) (f : Nat → W64) : (ns n f).length = n := by simp [ns]
theorem ws_ns (n : Nat) (f : Nat → W64) : Value.agg (ws n f) = iv .u64 (ns n f) := by simp [ws, ns, iv]
theorem ns_inj {n : Nat} {f g : Nat → W64} : ns n f = ns n g ↔ ∀ i, i < n → f i = g i := by
  constructor
  · intro h i hi
    have h2 : (ns n f)[i]? = (ns n g)[i]? := by rw [h]
    simp [ns, hi] at h2
    exact nw_inj.1 h2
  · intro h
    apply List.ext_getElem?
    intro k
    by_cases hk : k < n
    · simp [ns, hk, h k hk]
    · simp [ns, hk]

section
variable {P : Program} {T E : TypeId} {n : Nat}
/-- A word of an array that is a value. -/
theorem run_index_ws (hT : P.underlying T = some (.array n E)) (hE : P.underlying E = some (.int .u64)) (hs : (P.info? E).map (·.size) = some 1) (w : World) (f : Nat → W64) (i : Nat) (hi : i < n) :
    (Instr.index T (.agg (ws n f)) (.int .i64 (i : Int))).run P w = .ok (wv (f i)) w := by
  cases hq : P.info? E with
  | none => simp [hq] at hs
  | some d =>
    have h1 : d.size = 1 := by simpa [hq] using hs
    have hg := ws_get f hi
    have hag : (isAgg E).run P w = .ok false w := by
      unfold isAgg
      rw [Sem.run_bind, run_underlying hE w]
      simp
    simp [Instr.index, asIntOf, Sem.run_bind, run_underlying hT, sizeOf, typeInfo, hq, h1, hi, part, hag, hg]
theorem run_index_any {k : IntKind} {x : Int} (hT : P.underlying T = some (.array n E)) (hE : P.underlying E = some (.int k)) (hs : (P.info? E).map (·.size) = some 1) (w : World) {cs : Array Value} {i : Nat} (hi : i < n) (hc : cs[i]? = some (.int k x)) :
    (Instr.index T (.agg cs) (.int .i64 (i : Int))).run P w = .ok (.int k x) w := by
  cases hq : P.info? E with
  | none => simp [hq] at hs
  | some d =>
    have h1 : d.size = 1 := by simpa [hq] using hs
    have hag : (isAgg E).run P w = .ok false w := by
      unfold isAgg
      rw [Sem.run_bind, run_underlying hE w]
      simp
    simp [Instr.index, asIntOf, Sem.run_bind, run_underlying hT, sizeOf, typeInfo, hq, h1, hi, part, hag, hc]
/-- A whole row out of its block. -/
theorem run_load_ws {D : TypeId} (hT : P.underlying T = some (.array n E)) (hs : (P.info? T).map (·.size) = some n) (w : World) (g : Nat) (f : Nat → W64) (h : Row w g D (ws n f)) :
    (loadVar T ⟨g, 0, none⟩).run P w = .ok (.agg (ws n f)) w :=
  run_loadVar_row w g D T (ws n f) (0, 0) _ h hT rfl (by rw [hs, ws_size])
end

/-! ### rows, written whole -/
section
variable {w : World} {g : Nat} {t : TypeId} {cs : Array Value}
theorem Row.made {g' : Nat} (w : World) (t : TypeId) (cs : Array Value) (h : g' = w.heap.size) : Row (w.alloc (.cells cs t)) g' t cs := by rw [h]; exact Row.new w t cs
theorem Row.whole (h : Row w g t cs) (cs' : Array Value) : Row (w.setRow g cs') g t cs' := setRow_heap w g cs cs' t (0, 0) h
theorem Row.farRow (h : Row w g t cs) {k : Nat} (hk : g ≠ k) (cs' : Array Value) : Row (w.setRow k cs') g t cs := (setRow_other w k g cs' hk).trans h
theorem below_row {B : Nat} {w0 w : World} (hb : Below B w0 w) (hBg : B ≤ g) (cs : Array Value) : Below B w0 (w.setRow g cs) :=
  ⟨by simpa using hb.os, by simpa using hb.tape, by simpa using hb.output, by simpa using hb.size, fun k hk => (setRow_other w g k cs (by omega)).trans (hb.block k hk)⟩
end

section
variable {P : Program}
theorem wpList_built {ops : Array Oper} {rest : List Oper} {o : Oper} {a : Act} {w : World} {Q : Exit → Act → World → Prop} (hg : o.guard = none) (t : TypeId) (parts : Array (Nat × Operand)) (ho : o.op = .build t parts)
    (cs : Array Value) (hf : P.built t (parts.map fun (i, x) => (i, a.eval x)).toList = some cs)
    (h : wpList P ops Q rest (a.put o.dst (.agg cs)) w) : wpList P ops Q (o :: rest) a w :=
  wpList_build hg t parts ho (by rw [hf]; rfl) (by rw [hf]; exact h)
/-- A row, read under a guard that holds. -/
theorem wpList_load_row_g {ops : Array Oper} {rest : List Oper} {o : Oper} {a : Act} {w : World} {Q : Exit → Act → World → Prop} (hw : Region.wanted o (yielded ops a.tmps) = true) (ty : TypeId) (x : Operand) (ho : o.op = .load ty x)
    (g : Nat) (hx : a.eval x = .pointer (some ⟨g, 0, none⟩)) (t : TypeId) (cs : Array Value) (fr : Nat × Nat) (d : TypeDesc) (hg : w.heap[g]? = some (.cells cs t fr))
    (hu : P.underlying ty = some d) (hd : (match d with | .struct _ | .array _ _ => true | _ => false) = true) (hi : (P.info? ty).map (·.size) = some cs.size)
    (h : wpList P ops Q rest (a.put o.dst (.agg cs)) w) : wpList P ops Q (o :: rest) a w := by
  unfold wpList
  rw [if_pos hw]
  exact .inl (wp_load_row ty x ho g hx t cs fr d hg hu hd hi h)
/-- A row that is handed back. -/
theorem bodyPost_row {fn : Func} {R : Ending → World → Prop} {a : Act} {w : World} {p : Tmp} {ty : TypeId} {g : Nat} {t : TypeId} {cs : Array Value} {n : Nat} {e : TypeId}
    (hf : fn.results = #[.cell p ty]) (hp : a.tmps.getD p undef = .pointer (some ⟨g, 0, none⟩)) (hg : Row w g t cs) (hu : P.underlying ty = some (.array n e)) (hi : (P.info? ty).map (·.size) = some cs.size)
    (hd : a.defers = []) (h : R (.returned (.agg cs)) w) : bodyPost P fn R .ret a w :=
  bodyPost_ret (results_cell_row hf a.tmps w g t cs (0, 0) _ hp hg hu rfl hi) hd h
/-- A row, read in the quiet head of a region. -/
theorem wpStill_load_row {ops : Array Oper} {rest : List Oper} {o : Oper} {a : Act} {w : World} {Q : Act → Prop} (hgd : o.guard = none) (ty : TypeId) (x : Operand) (ho : o.op = .load ty x)
    (g : Nat) (hx : a.eval x = .pointer (some ⟨g, 0, none⟩)) (t : TypeId) (cs : Array Value) (d : TypeDesc) (hg : Row w g t cs)
    (hu : P.underlying ty = some d) (hd : (match d with | .struct _ | .array _ _ => true | _ => false) = true) (hi : (P.info? ty).map (·.size) = some cs.size)
    (h : wpStill P ops w Q rest (a.put o.dst (.agg cs))) : wpStill P ops w Q (o :: rest) a := by
  refine wpStill_step fun K hK => ?_
  have hw : Region.wanted o (yielded ops a.tmps) = true := by simp [Region.wanted, hgd]
  rw [if_pos hw]
  unfold Oper.still execOp
  simp only [ho, hx, Instr.loadAt, Instr.sureAddr, Sem.run_bind, Sem.run_pure, Result.andThen_ok, run_loadVar_row w g t ty cs (0, 0) d hg hu hd hi, Oper.stillUpon]
  exact ⟨trivial, hK _ h⟩
end
end Go.Proofs.Ytjpidkamgkpehaa
