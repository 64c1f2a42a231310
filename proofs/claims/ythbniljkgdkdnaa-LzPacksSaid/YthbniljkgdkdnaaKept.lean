/-
  Memory in which some blocks alone were written. No program is named here.
-/
import Derived.Test.YthbniljkgdkdnaaOwn
import Derived.Test.YthbniljkgdkdnaaAppend
namespace Go.Proofs.Ythbniljkgdkdnaa
open Go.RowKit
set_option linter.unusedVariables false
set_option linter.unusedSimpArgs false

/-- Of the blocks that were there those alone were written of which M speaks. -/
structure Kept (w w' : World) (M : Nat → Prop) : Prop where
  os : w'.os = w.os
  tape : w'.tape = w.tape
  output : w'.output = w.output
  size : w.heap.size ≤ w'.heap.size
  block : ∀ k, k < w.heap.size → ¬ M k → w'.heap[k]? = w.heap[k]?
section
variable {w w1 w2 : World} {M N : Nat → Prop}
theorem Kept.refl (w : World) (M : Nat → Prop) : Kept w w M := ⟨rfl, rfl, rfl, Nat.le_refl _, fun _ _ _ => rfl⟩
theorem Kept.trans (h1 : Kept w w1 M) (h2 : Kept w1 w2 N) (h : ∀ k, k < w.heap.size → N k → M k) : Kept w w2 M :=
  ⟨h2.os.trans h1.os, h2.tape.trans h1.tape, h2.output.trans h1.output, Nat.le_trans h1.size h2.size, fun k hk hn => (h2.block k (Nat.lt_of_lt_of_le hk h1.size) (fun hN => hn (h k hk hN))).trans (h1.block k hk hn)⟩
theorem Kept.widen (h : Kept w w1 M) (hM : ∀ k, M k → N k) : Kept w w1 N := ⟨h.os, h.tape, h.output, h.size, fun k hk hn => h.block k hk (fun hm => hn (hM k hm))⟩
theorem Kept.of_grown {row : Option Nat} (h : w.grownBy w1 row) (hM : ∀ k, k < w.heap.size → row = some k → M k) : Kept w w1 M :=
  ⟨h.os, h.tape, h.output, h.size, fun k hk hn => h.block k hk (fun e => hn (hM k hk e.symm))⟩
theorem Kept.of_below (h : Below w.heap.size w w1) : Kept w w1 M := ⟨h.os, h.tape, h.output, h.size, fun k hk _ => h.block k hk⟩
theorem Kept.of_set (w : World) (g o : Nat) (u : Value) (h : M g) : Kept w (w.setCell ⟨g, o, none⟩ u) M :=
  ⟨rfl, rfl, rfl, by simp, fun k _ hk => Below.heap_setCell w ⟨g, o, none⟩ u k (fun e => hk (by rw [e]; exact h))⟩
theorem Kept.draw (h : Kept w w1 M) : Kept w w1.drew M := ⟨h.os, h.tape, h.output, h.size, h.block⟩
theorem Kept.drawN (h : Kept w w1 M) (n : Nat) : Kept w (w1.drewN n) M := ⟨h.os, h.tape, h.output, h.size, h.block⟩
theorem Kept.alloc (h : Kept w w1 M) (o : Obj) : Kept w (w1.alloc o) M :=
  ⟨h.os, h.tape, h.output, by have := h.size; simp; omega, fun k hk hn => (Below.heap_alloc w1 o k (Nat.lt_of_lt_of_le hk h.size)).trans (h.block k hk hn)⟩
theorem Kept.grownBy (h : Kept w w1 M) {row : Option Nat} (hg : w1.grownBy w2 row) (hr : ∀ k, k < w.heap.size → row = some k → M k) : Kept w w2 M := h.trans (N := fun k => row = some k) (Kept.of_grown hg (fun k _ e => e)) hr
theorem Kept.set_ (h : Kept w w1 M) (g o : Nat) (u : Value) (hg : g < w.heap.size → M g) : Kept w (w1.setCell ⟨g, o, none⟩ u) M :=
  h.trans (N := fun k => k = g) (Kept.of_set w1 g o u rfl) (fun k hk e => by subst e; exact hg hk)
theorem Kept.below_ (h : Kept w w1 M) (hb : Below w1.heap.size w1 w2) : Kept w w2 M := h.trans (N := fun _ => False) (Kept.of_below hb) (fun _ _ e => e.elim)
theorem Kept.below {B : Nat} {a : World} (h : Kept w w1 M) (hb : Below B a w) (hM : ∀ k, k < w.heap.size → M k → B ≤ k) (hs : B ≤ w.heap.size) : Below B a w1 :=
  ⟨h.os.trans hb.os, h.tape.trans hb.tape, h.output.trans hb.output, Nat.le_trans hb.size h.size, fun k hk => (h.block k (by omega) (fun hm => by have := hM k (by omega) hm; omega)).trans (hb.block k hk)⟩
theorem Kept.row (h : Kept w w1 M) {g : Nat} {t : TypeId} {cs : Array Value} (hr : Row w g t cs) (hg : ¬ M g) : Row w1 g t cs := (h.block g hr.lt hg).trans hr
theorem Kept.rd (h : Kept w w1 M) {A : Option Addr} {xs : List Value} (hr : Rd w A xs) (hg : xs = [] ∨ ∀ ad, A = some ad → ¬ M ad.block) : Rd w1 A xs := by
  rcases hg with rfl | hg
  · exact Rd.nil
  · exact hr.keep fun p u hu ⟨ad, e, hp⟩ => (World.cell?_of_block (h.block p.block (World.block_lt_of_cell? w p hu) (by rw [← hp]; exact hg ad e))).trans hu
theorem Kept.bs (h : Kept w w1 M) {A : Option Addr} {xs : List UInt8} (hr : Bs w A xs) (hg : xs = [] ∨ ∀ ad, A = some ad → ¬ M ad.block) : Bs w1 A xs :=
  Kept.rd h hr (hg.imp_left fun e => by rw [e]; rfl)
theorem Kept.own (h : Kept w w1 M) {base : Nat} {e : TypeId} {size n : Nat} {v : Value} {xs : List Value} (ho : w.ownsRow base e size v n xs) (hg : ∀ k, v.ownBlock = some k → ¬ M k) : w1.ownsRow base e size v n xs := by
  refine ⟨ho.1, ?_⟩
  rcases ho.2 with hn | ⟨g, cap, cur, rfl, hb, hgg, rest⟩
  · exact .inl hn
  · refine .inr ⟨g, cap, cur, rfl, hb, ?_, rest⟩
    rw [h.block g (Array.getElem?_eq_some_iff.1 hgg).1 (hg g rfl)]
    exact hgg
end

theorem row_made {g' : Nat} (w : World) (t : TypeId) (cs : Array Value) (h : g' = w.heap.size) : Row (w.alloc (.cells cs t)) g' t cs := by rw [h]; exact Row.new w t cs

/-! ### bytes in a struct's field -/
/-- At block g lies a struct whose first cell is a slice of the call's own; it reads as bytes. -/
structure Buf (B : Nat) (w : World) (g : Nat) (t e : TypeId) (more : List Value) (v : Value) (bs : List UInt8) : Prop where
  row : Row w g t (v :: more).toArray
  own : w.ownsRow B e 1 v bs.length (bs.map bv)
  apart : v.ownBlock ≠ some g
  base : B ≤ g
/-- The blocks that a buffer may write. -/
def Mine (g : Nat) (v : Value) (k : Nat) : Prop := k = g ∨ v.ownBlock = some k
/-- What became of it: the field, the blocks. -/
structure Grew (w w' : World) (B g : Nat) (t e : TypeId) (more : List Value) (v v' : Value) (bs : List UInt8) : Prop where
  buf : Buf B w' g t e more v' bs
  kept : Kept w w' (Mine g v)
  fresh : v'.ownBlock = v.ownBlock ∨ ∃ q, v'.ownBlock = some q ∧ w.heap.size ≤ q
theorem Grew.trans {w w1 w2 : World} {B g : Nat} {t e : TypeId} {more : List Value} {v v1 v2 : Value} {bs cs : List UInt8} (h1 : Grew w w1 B g t e more v v1 bs) (h2 : Grew w1 w2 B g t e more v1 v2 cs) : Grew w w2 B g t e more v v2 cs := by
  refine ⟨h2.buf, h1.kept.trans h2.kept fun k hk hm => ?_, ?_⟩
  · rcases hm with rfl | hm
    · exact .inl rfl
    · rcases h1.fresh with e1 | ⟨q, e1, hq⟩
      · exact .inr (by rw [← e1]; exact hm)
      · rw [hm] at e1
        have := Option.some.inj e1
        omega
  · rcases h2.fresh with e2 | ⟨q, e2, hq⟩
    · rw [e2]; exact h1.fresh
    · exact .inr ⟨q, e2, Nat.le_trans h1.kept.size hq⟩
theorem Grew.refl {w : World} {B g : Nat} {t e : TypeId} {more : List Value} {v : Value} {bs : List UInt8} (h : Buf B w g t e more v bs) : Grew w w B g t e more v v bs := ⟨h, Kept.refl _ _, .inl rfl⟩
theorem Buf.keep {w w' : World} {M : Nat → Prop} {B g : Nat} {t e : TypeId} {more : List Value} {v : Value} {bs : List UInt8} (h : Buf B w g t e more v bs) (k : Kept w w' M) (hg : ¬ M g) (hv : ∀ q, v.ownBlock = some q → ¬ M q) : Buf B w' g t e more v bs :=
  ⟨k.row h.row hg, k.own h.own hv, h.apart, h.base⟩
/-- The world goes on, and writes nothing of it. -/
theorem Grew.on {w w1 w2 : World} {B g : Nat} {t e : TypeId} {more : List Value} {v v1 : Value} {bs : List UInt8} (h : Grew w w1 B g t e more v v1 bs) (k : Kept w1 w2 (fun _ => False)) : Grew w w2 B g t e more v v1 bs :=
  ⟨h.buf.keep k (fun e => e) (fun _ _ e => e), h.kept.trans k (fun _ _ e => e.elim), h.fresh⟩
/-- Its slice has grown, and is laid into the field. -/
theorem Grew.store {w x W : World} {B g : Nat} {t e : TypeId} {more : List Value} {v v' v2 : Value} {o o2 : List UInt8} (h : Grew w x B g t e more v v' o) (hk : Kept x W (fun k => v'.ownBlock = some k)) (ho : W.ownsRow B e 1 v2 o2.length (o2.map bv))
    (hf : v2.ownBlock = v'.ownBlock ∨ ∃ q, v2.ownBlock = some q ∧ x.heap.size ≤ q) : Grew w (W.setCell ⟨g, 0, none⟩ v2) B g t e more v v2 o2 := by
  have hg := h.buf.row.lt
  have hne : v2.ownBlock ≠ some g := by
    rcases hf with e | ⟨q, e, hq⟩
    · rw [e]; exact h.buf.apart
    · rw [e]; intro e2; have := Option.some.inj e2; omega
  have k2 : Kept W (W.setCell ⟨g, 0, none⟩ v2) (fun k => k = g) := Kept.of_set W g 0 v2 rfl
  refine ⟨⟨?_, k2.own ho (fun q e e2 => hne (by rw [e, e2])), hne, h.buf.base⟩, (h.kept.trans ((Kept.widen hk (fun k e => .inr e) : Kept x W (Mine g v')).trans k2 fun k _ e => .inl e) fun k hk' hm => ?_), ?_⟩
  · have := (hk.row h.buf.row h.buf.apart).put 0 v2
    simpa using this
  · rcases hm with rfl | hm
    · exact .inl rfl
    · rcases h.fresh with e1 | ⟨q, e1, hq⟩
      · exact .inr (by rw [← e1]; exact hm)
      · rw [hm] at e1
        have := Option.some.inj e1
        omega
  · rcases hf with e | ⟨q, e, hq⟩
    · rw [e]; exact h.fresh
    · exact .inr ⟨q, e, Nat.le_trans h.kept.size hq⟩
/-- Slices that lie elsewhere are as they were. -/
theorem Grew.bs_ {w w' : World} {B g : Nat} {t e : TypeId} {more : List Value} {v v' : Value} {bs cs : List UInt8} {A : Option Addr} (h : Grew w w' B g t e more v v' bs) (hc : Bs w A cs) (hA : cs = [] ∨ ∀ ad, A = some ad → ad.block ≠ g ∧ v.ownBlock ≠ some ad.block) : Bs w' A cs :=
  h.kept.bs hc (hA.imp_right fun h ad e hm => by
    rcases hm with hm | hm
    · exact (h ad e).1 hm
    · exact (h ad e).2 hm)
/-- A slice that lies apart lies apart from what it has become, too. -/
theorem Grew.apart_ {w w' : World} {B g : Nat} {t e : TypeId} {more : List Value} {v v' : Value} {bs cs : List UInt8} {A : Option Addr} (h : Grew w w' B g t e more v v' bs) (hl : cs = [] ∨ ∀ ad, A = some ad → ad.block < w.heap.size) (hA : cs = [] ∨ ∀ ad, A = some ad → ad.block ≠ g ∧ v.ownBlock ≠ some ad.block) : cs = [] ∨ ∀ ad, A = some ad → ad.block ≠ g ∧ v'.ownBlock ≠ some ad.block := by
  rcases hl with hl | hl
  · exact .inl hl
  rcases hA with hA | hA
  · exact .inl hA
  refine .inr fun ad e => ⟨(hA ad e).1, ?_⟩
  rcases h.fresh with e1 | ⟨q, e1, hq⟩
  · rw [e1]; exact (hA ad e).2
  · rw [e1]
    intro e2
    have := Option.some.inj e2
    have := hl ad e
    omega
end Go.Proofs.Ythbniljkgdkdnaa
