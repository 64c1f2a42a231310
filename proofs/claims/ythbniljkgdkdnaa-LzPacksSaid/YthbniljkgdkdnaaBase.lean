/-
  Small words for memory: cells that a slice reads, bytes, slicing, min and max. No program is named here.
-/
import Derived.WalkKit
import Derived.WalkSpells
import Derived.WalkLawsBesides
import Derived.Deep.QuietTactic
import Derived.BigQuiet
import Derived.Deep.AppendLies
import Derived.Deep.Draws
import Derived.Lib.Hide
import Derived.OpenShut
import Derived.Lib.SlBytesConst
namespace Go.Proofs.Ythbniljkgdkdnaa
open Go.RowKit
set_option linter.unusedVariables false
set_option linter.unusedSimpArgs false

theorem add_blk (a : Addr) (n : Nat) : (a.add n).block = a.block := by unfold Addr.add; split <;> rfl
theorem add_twice (a : Addr) (i j : Nat) : (a.add i).add j = a.add (i + j) := by
  unfold Addr.add
  by_cases hi : i = 0 <;> by_cases hj : j = 0 <;> simp [hi, hj, Nat.add_assoc]
theorem add_at (b o j : Nat) : (⟨b, o, none⟩ : Addr).add j = ⟨b, o + j, none⟩ := by unfold Addr.add; split <;> simp_all

theorem _root_.Go.RowKit.Below.drewN {B : Nat} {a w : World} (h : Below B a w) (n : Nat) : Below B a (w.drewN n) := ⟨h.os, h.tape, h.output, h.size, h.block⟩

/-- From the address on lie these cells (none: whatever the address). -/
def Rd (w : World) (A : Option Addr) (xs : List Value) : Prop :=
  xs = [] ∨ ∃ ad, A = some ad ∧ ∀ (j : Nat) u, xs[j]? = some u → w.cell? (ad.add j) = some u

section
variable {w w' : World} {A : Option Addr} {xs ys : List Value}
theorem Rd.nil : Rd w A [] := .inl rfl
theorem Rd.at_ (h : Rd w A xs) {k : Nat} {u : Value} (hk : xs[k]? = some u) : ∃ ad, A = some ad ∧ w.cell? (ad.add k) = some u := by
  rcases h with rfl | ⟨ad, e, hc⟩
  · simp at hk
  · exact ⟨ad, e, hc k u hk⟩
theorem Rd.keep (h : Rd w A xs) (hk : ∀ (p : Addr) u, w.cell? p = some u → (∃ ad, A = some ad ∧ ad.block = p.block) → w'.cell? p = some u) : Rd w' A xs := by
  rcases h with rfl | ⟨ad, e, hc⟩
  · exact .inl rfl
  · exact .inr ⟨ad, e, fun j u hu => hk _ _ (hc j u hu) ⟨ad, e, (add_blk ad j).symm⟩⟩
theorem Rd.below (h : Rd w A xs) (hb : Below w.heap.size w w') : Rd w' A xs :=
  h.keep fun p u hu _ => (hb.cell (World.block_lt_of_cell? w p hu)).trans hu
theorem Rd.belowB {B : Nat} (h : Rd w A xs) (hb : Below B w w') (hB : ∀ ad, A = some ad → ad.block < B) : Rd w' A xs :=
  h.keep fun p u hu ⟨ad, e, hp⟩ => (hb.cell (by rw [← hp]; exact hB ad e)).trans hu
theorem Rd.drew (h : Rd w A xs) : Rd w.drew A xs := h
theorem Rd.drewN (h : Rd w A xs) (n : Nat) : Rd (w.drewN n) A xs := h
theorem Rd.alloc (h : Rd w A xs) (o : Obj) : Rd (w.alloc o) A xs :=
  h.keep fun p _ hu _ => (World.cell?_alloc_lt w o p (World.block_lt_of_cell? w p hu)).trans hu
theorem Rd.grown {row : Option Nat} (h : Rd w A xs) (hg : w.grownBy w' row) (hr : ∀ ad, A = some ad → some ad.block ≠ row) : Rd w' A xs :=
  h.keep fun _ _ hu ⟨ad, e, hp⟩ => hg.cell hu (by rw [← hp]; exact hr ad e)
theorem Rd.set_ (h : Rd w A xs) {p : Addr} (hp : ∀ ad, A = some ad → ad.block ≠ p.block) (u : Value) : Rd (w.setCell p u) A xs :=
  h.keep fun q v hq ⟨ad, e, hb⟩ => (World.cell?_setCell_other w p q u (fun e' => hp ad e (by rw [hb, e']))).trans hq
theorem Rd.cut (h : Rd w A xs) (k size cap : Nat) (hc : xs.length ≤ cap * size) :
    Rd w (if cap = k then A else A.map (·.add (k * size))) (xs.drop (k * size)) := by
  by_cases hn : xs.length ≤ k * size
  · exact .inl (List.drop_eq_nil_of_le hn)
  · rcases h with rfl | ⟨ad, rfl, hcell⟩
    · simp at hn
    · rw [if_neg (by rintro rfl; exact hn hc)]
      refine .inr ⟨ad.add (k * size), rfl, fun j u hu => ?_⟩
      rw [add_twice]
      exact hcell _ u (by rw [← hu, List.getElem?_drop])
theorem Rd.lo (h : Rd w A xs) : xs = [] ∨ ∀ ad, A = some ad → ad.block < w.heap.size := by
  rcases h with h | ⟨ad, rfl, hc⟩
  · exact .inl h
  · cases xs with
    | nil => exact .inl rfl
    | cons x xs =>
      refine .inr fun ad' e => ?_
      obtain rfl := Option.some.inj e
      have := World.block_lt_of_cell? w _ (hc 0 x rfl)
      rwa [add_blk] at this
theorem Rd.take (h : Rd w A xs) (k : Nat) : Rd w A (xs.take k) := by
  rcases h with rfl | ⟨ad, e, hc⟩
  · exact .inl (by simp)
  · refine .inr ⟨ad, e, fun j u hu => hc j u ?_⟩
    rw [List.getElem?_take] at hu
    split at hu
    · exact hu
    · cases hu
theorem Rd.of_own {base : Nat} {e : TypeId} {size n c : Nat} (h : w.ownsRow base e size (.slice A n c) n xs) : Rd w A xs := by
  by_cases hn : n = 0
  · subst hn
    exact .inl (List.eq_nil_of_length_eq_zero (by simpa using h.1))
  · obtain ⟨g, cap, hv, _, _⟩ := h.form (by omega)
    have hA : A = some ⟨g, 0, none⟩ := by injection hv
    subst hA
    exact .inr ⟨_, rfl, h.cells (g := g) rfl⟩
end

/-- A block that is known whole, and may be written. -/
def Row (w : World) (g : Nat) (t : TypeId) (cs : Array Value) : Prop := w.heap[g]? = some (.cells cs t (0, 0))
section
variable {w w' : World} {g : Nat} {t : TypeId} {cs : Array Value}
theorem Row.lt (h : Row w g t cs) : g < w.heap.size := by
  rcases Nat.lt_or_ge g w.heap.size with hlt | hge
  · exact hlt
  · unfold Row at h; rw [Array.getElem?_eq_none hge] at h; cases h
theorem Row.cell (h : Row w g t cs) (i : Nat) : w.cell? ⟨g, i, none⟩ = cs[i]? := cell_of_row w g i cs t (0, 0) h
theorem Row.free (h : Row w g t cs) (i : Nat) : w.frozen? ⟨g, i, none⟩ = false := by
  unfold Row at h
  simp [World.frozen?, h]
theorem Row.new (w : World) (t : TypeId) (cs : Array Value) : Row (w.alloc (.cells cs t)) w.heap.size t cs := heap_alloc_new w _
theorem Row.drew (h : Row w g t cs) : Row w.drew g t cs := h
theorem Row.drewN (h : Row w g t cs) (n : Nat) : Row (w.drewN n) g t cs := h
theorem Row.alloc (h : Row w g t cs) (o : Obj) : Row (w.alloc o) g t cs := (Below.heap_alloc w o g h.lt).trans h
theorem Row.put (h : Row w g t cs) (i : Nat) (u : Value) : Row (w.setCell ⟨g, i, none⟩ u) g t (cs.setIfInBounds i u) := by
  unfold Row at h ⊢
  simp [World.setCell, Array.getElem?_modify, h]
theorem Row.far (h : Row w g t cs) {p : Addr} (hp : g ≠ p.block) (u : Value) : Row (w.setCell p u) g t cs := (Below.heap_setCell w p u g hp).trans h
theorem Row.belowB {B : Nat} (h : Row w g t cs) (hb : Below B w w') (hg : g < B) : Row w' g t cs := (hb.block g hg).trans h
theorem Row.below (h : Row w g t cs) (hb : Below w.heap.size w w') : Row w' g t cs := h.belowB hb h.lt
theorem Row.grown {row : Option Nat} (h : Row w g t cs) (hb : w.grownBy w' row) (hg : some g ≠ row) : Row w' g t cs := (hb.block g h.lt hg).trans h
theorem Row.rd (h : Row w g t cs) : Rd w (some ⟨g, 0, none⟩) cs.toList :=
  .inr ⟨_, rfl, fun j u hu => by rw [add_at, Nat.zero_add, h.cell]; simpa using hu⟩
end

/-- A byte. -/
abbrev bv (c : UInt8) : Value := .int .u8 (c.toNat : Int)
/-- From the address on lie these bytes. -/
def Bs (w : World) (A : Option Addr) (bs : List UInt8) : Prop := Rd w A (bs.map bv)

section
variable {w w' : World} {A : Option Addr} {bs : List UInt8}
theorem Bs.at_ (h : Bs w A bs) (k : Nat) (hk : k < bs.length) : ∃ ad, A = some ad ∧ w.cell? (ad.add k) = some (.int .u8 (bs[k].toNat : Int)) :=
  Rd.at_ h (k := k) (by simp [hk])
theorem Bs.below (h : Bs w A bs) (hb : Below w.heap.size w w') : Bs w' A bs := Rd.below h hb
theorem Bs.alloc (h : Bs w A bs) (o : Obj) : Bs (w.alloc o) A bs := Rd.alloc h o
theorem Bs.drewN (h : Bs w A bs) (n : Nat) : Bs (w.drewN n) A bs := h
theorem Bs.cut (h : Bs w A bs) (k cap : Nat) (hc : bs.length ≤ cap) : Bs w (if cap = k then A else A.map (·.add k)) (bs.drop k) := by
  have := Rd.cut h k 1 cap (by simpa using hc)
  unfold Bs
  simpa [List.map_drop] using this
theorem Bs.take (h : Bs w A bs) (k : Nat) : Bs w A (bs.take k) := by
  have := Rd.take h k
  unfold Bs
  rwa [List.map_take]
theorem Bs.lo (h : Bs w A bs) : bs = [] ∨ ∀ ad, A = some ad → ad.block < w.heap.size := by
  rcases Rd.lo h with h | h
  · exact .inl (by simpa using h)
  · exact .inr h
theorem Bs.nil : Bs w A [] := Rd.nil
end

/-- A new block of bytes, whatever mark it bears. -/
theorem Bs.new (w : World) (cs : Array Value) (t : TypeId) (mk : Nat × Nat) (bs : List UInt8) (h : cs.toList = bs.map bv) : Bs (w.alloc (.cells cs t mk)) (some ⟨w.heap.size, 0, none⟩) bs := by
  refine .inr ⟨_, rfl, fun j u hu => ?_⟩
  rw [add_at, Nat.zero_add]
  have hb : (w.alloc (.cells cs t mk)).heap[w.heap.size]? = some (.cells cs t mk) := heap_alloc_new w _
  rw [← h] at hu
  simp only [World.cell?, hb, Option.isSome_none, Bool.false_eq_true, if_false]
  simpa using hu

/-! ### slicing -/
section
variable {P : Program} {T E : TypeId}
theorem run_slice_lo (hT : P.underlying T = some (.slice E)) (hE : (P.info? E).map (·.size) = some 1) (w : World) (A : Option Addr) (len cap i : Nat) (hi : i ≤ len) (_hc : len ≤ cap) :
    (Instr.slice T (.slice A len cap) (some (.int .i64 (i : Int))) none none).run P w = .ok (.slice (if cap = i then A else A.map (·.add i)) (len - i) (cap - i)) w := by
  cases hq : P.info? E with
  | none => simp [hq] at hE
  | some d =>
    have hs : d.size = 1 := by simpa [hq] using hE
    simp [Instr.slice, Instr.sliceBounds, Instr.sliceBound, Sem.run_bind, run_underlying hT, asIntOf, sizeOf, typeInfo, hq, hs, hi]
theorem run_slice_hi (hT : P.underlying T = some (.slice E)) (hE : (P.info? E).map (·.size) = some 1) (w : World) (A : Option Addr) (len cap i : Nat) (hi : i ≤ cap) :
    (Instr.slice T (.slice A len cap) none (some (.int .i64 (i : Int))) none).run P w = .ok (.slice A i cap) w := by
  cases hq : P.info? E with
  | none => simp [hq] at hE
  | some d =>
    have hs : d.size = 1 := by simpa [hq] using hE
    have hA : (if cap = 0 then A else A.map (·.add (0 * 1))) = A := by
      split
      · rfl
      · cases A <;> simp [Addr.add]
    simp [Instr.slice, Instr.sliceBounds, Instr.sliceBound, Sem.run_bind, run_underlying hT, asIntOf, sizeOf, typeInfo, hq, hs, hi] at hA ⊢
    cases A <;> simp [Addr.add]
theorem run_slice_mid (hT : P.underlying T = some (.slice E)) (hE : (P.info? E).map (·.size) = some 1) (w : World) (A : Option Addr) (len cap i k : Nat) (hi : i ≤ k) (hk : k ≤ cap) :
    (Instr.slice T (.slice A len cap) (some (.int .i64 (i : Int))) (some (.int .i64 (k : Int))) none).run P w = .ok (.slice (if cap = i then A else A.map (·.add i)) (k - i) (cap - i)) w := by
  cases hq : P.info? E with
  | none => simp [hq] at hE
  | some d =>
    have hs : d.size = 1 := by simpa [hq] using hE
    simp [Instr.slice, Instr.sliceBounds, Instr.sliceBound, Sem.run_bind, run_underlying hT, asIntOf, sizeOf, typeInfo, hq, hs, hi, hk]
end

/-! ### min, max -/
theorem min_if (x y : Int) : (if y < x then y else x) = min x y := by split <;> omega
theorem max_if (x y : Int) : (if x < y then y else x) = max x y := by split <;> omega
section
variable {P : Program} (ts : Array TypeId) (t : TypeId) (k k' k'' : IntKind) (x y z : Int) (w : World)
@[go_sem 5000] theorem run_min2 : (Builtin.min_ ts t #[.int k x, .int k' y]).run P w = .ok (.int k (min x y)) w := by
  simp [Builtin.min_, Builtin.min2, min_if]
@[go_sem 5000] theorem run_min3 : (Builtin.min_ ts t #[.int k x, .int k' y, .int k'' z]).run P w = .ok (.int k (min (min x y) z)) w := by
  simp [Builtin.min_, Builtin.min2, min_if]
@[go_sem 5000] theorem run_max2 : (Builtin.max_ ts t #[.int k x, .int k' y]).run P w = .ok (.int k (max x y)) w := by
  simp [Builtin.max_, Builtin.max2, max_if]
end

/-- What the frame of a law hands over of a slice of bytes. -/
theorem bytes_of_ints {w : World} {a : Option Addr} {len cap : Nat} {zs : List Int}
    (h : (a = none ∧ len = 0 ∧ cap = 0 ∧ zs = []) ∨ ∃ x, a = some x ∧ len ≤ cap ∧ cap ≤ maxLen ∧ zs.length = cap ∧ (∀ i, i < zs.length → w.cell? (x.add i) = some (.int .u8 (zs.getD i 0))) ∧ ∀ n ∈ zs, (Lit.int .u8 n).wf = true) :
    ∃ bs : List UInt8, bs.length = len ∧ len ≤ cap ∧ cap ≤ maxLen ∧ Bs w a bs := by
  rcases h with ⟨rfl, rfl, rfl, rfl⟩ | ⟨x, rfl, hl, hm, hz, hc, hw⟩
  · exact ⟨[], rfl, Nat.le_refl _, by unfold maxLen; omega, Bs.nil⟩
  · refine ⟨(zs.take len).map fun n => UInt8.ofNat n.toNat, by simp; omega, hl, hm, .inr ⟨x, rfl, fun j u hu => ?_⟩⟩
    simp only [List.map_map, List.getElem?_map, Option.map_eq_some_iff] at hu
    obtain ⟨n, hn, rfl⟩ := hu
    rw [List.getElem?_take] at hn
    split at hn
    · have hlt : j < zs.length := (List.getElem?_eq_some_iff.1 hn).1
      have hb := hw n (List.mem_of_getElem? hn)
      have h0 : 0 ≤ n ∧ n ≤ 255 := bounds_u8 hb
      rw [hc j hlt]
      have : zs.getD j 0 = n := by simp [List.getD, hn]
      rw [this]
      simp only [Function.comp, bv, UInt8.toNat_ofNat']
      congr 2
      omega
    · cases hn

end Go.Proofs.Ythbniljkgdkdnaa
