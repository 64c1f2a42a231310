/-
  Layer 4: a state's cells; memory in which one block alone was written. No program is named here.
-/
import Derived.Test.YtjpidkamgkpehaaSMath
import Derived.Deep.MidRow
import Derived.Laws.AppendOwn
import Derived.Laws.IdiomCopy
namespace Go.Proofs.Ytjpidkamgkpehaa
open Go.RowKit
set_option linter.unusedVariables false
set_option linter.unusedSimpArgs false

/-- A state: 25 words, and how many bytes of the next ones were taken. -/
def sc (f : St) (t : Nat) : Array Value := (ws 25 f).push (.int .i64 t)
theorem sc_size (f : St) (t : Nat) : (sc f t).size = 26 := by simp [sc, ws_size]
theorem sc_get (f : St) (t : Nat) {i : Nat} (h : i < 25) : (sc f t)[i]? = some (wv (f i)) := by
  unfold sc; rw [Array.getElem?_push_lt (by rw [ws_size]; exact h), ← Array.getElem?_eq_getElem, ws_get f h]
theorem sc_taken (f : St) (t : Nat) : (sc f t)[25]? = some (.int .i64 t) := by
  have h := Array.getElem?_push_size (xs := ws 25 f) (x := Value.int .i64 t)
  rwa [ws_size] at h
theorem sc_one (f : St) (t : Nat) : (sc f t).all (·.oneCell') = true := by simp [sc, ws, Value.oneCell']
theorem sc_ext {cs : Array Value} {f : St} {t : Nat} (hs : cs.size = 26) (h1 : ∀ i, i < 25 → cs[i]? = some (wv (f i))) (h2 : cs[25]? = some (.int .i64 t)) : cs = sc f t := by
  apply Array.ext_getElem?
  intro k
  by_cases hk : k < 25
  · rw [h1 k hk, sc_get f t hk]
  · by_cases h : k = 25
    · subst h; rw [h2, sc_taken]
    · rw [Array.getElem?_eq_none (by omega), Array.getElem?_eq_none (by rw [sc_size]; omega)]
theorem sc_set (f : St) (t i : Nat) (u : W64) (hi : i < 25) : (sc f t).setIfInBounds i (wv u) = sc (fun j => if j = i then u else f j) t := by
  refine sc_ext (by simp [sc_size]) (fun k hk => ?_) ?_
  · rw [Array.getElem?_setIfInBounds]
    by_cases h : i = k
    · subst h; simp [sc_size]; omega
    · rw [if_neg h, sc_get f t hk, if_neg (by omega)]
  · rw [Array.getElem?_setIfInBounds, if_neg (by omega), sc_taken]
theorem sc_count (f : St) (t t' : Nat) : (sc f t).setIfInBounds 25 (.int .i64 t') = sc f t' := by
  refine sc_ext (by simp [sc_size]) (fun k hk => ?_) ?_
  · rw [Array.getElem?_setIfInBounds, if_neg (by omega), sc_get f t hk]
  · rw [Array.getElem?_setIfInBounds, if_pos rfl, sc_size]; simp

/-! ### a whole range written -/
theorem Row.puts {w : World} {g : Nat} {t : TypeId} : ∀ (vs : List Value) (o : Nat) (cs : Array Value), Row w g t cs → ∃ cs' : Array Value, Row (w.setCells g o vs) g t cs' ∧ cs'.size = cs.size ∧ ∀ i, cs'[i]? = if o ≤ i ∧ i < o + vs.length ∧ i < cs.size then vs[i - o]? else cs[i]?
  | [], o, cs, h => ⟨cs, h, rfl, fun i => by rw [if_neg (by simp; omega)]⟩
  | v :: r, o, cs, h => by
    induction r generalizing w o v cs with
    | nil =>
      refine ⟨_, h.put o v, by simp, fun i => ?_⟩
      rw [Array.getElem?_setIfInBounds]
      by_cases e : o = i
      · subst e
        by_cases h2 : o < cs.size
        · simp [h2]
        · simp [h2]
      · rw [if_neg e, if_neg (by simp; omega)]
    | cons v' r ih =>
      obtain ⟨cs', h1, h2, h3⟩ := ih (w := w.setCell ⟨g, o, none⟩ v) v' (o + 1) _ (h.put o v)
      refine ⟨cs', h1, by simpa using h2, fun i => ?_⟩
      rw [h3, Array.getElem?_setIfInBounds]
      simp only [List.length_cons, Array.size_setIfInBounds]
      by_cases e : o = i
      · subst e
        by_cases h4 : o < cs.size
        · rw [if_neg (by omega), if_pos rfl, if_pos h4, if_pos (by omega)]; simp
        · rw [if_neg (by omega), if_pos rfl, if_neg h4, if_neg (by omega), Array.getElem?_eq_none (by omega)]
      · rw [if_neg e]
        by_cases h4 : o + 1 ≤ i ∧ i < o + 1 + (r.length + 1) ∧ i < cs.size
        · rw [if_pos h4, if_pos (by omega), show i - o = (i - (o + 1)) + 1 by omega, List.getElem?_cons_succ]
        · rw [if_neg h4, if_neg (by omega)]
theorem heap_setCells (g k : Nat) (hk : g ≠ k) : ∀ (vs : List Value) (o : Nat) (w : World), (w.setCells k o vs).heap[g]? = w.heap[g]?
  | [], _, _ => rfl
  | v :: r, o, w => by
    rw [World.setCells, heap_setCells g k hk r]
    exact Below.heap_setCell w ⟨k, o, none⟩ v g hk
theorem size_setCells (k : Nat) : ∀ (vs : List Value) (o : Nat) (w : World), (w.setCells k o vs).heap.size = w.heap.size
  | [], _, _ => rfl
  | v :: r, o, w => by
    rw [World.setCells, size_setCells k r]
    simp
theorem rest_setCells (k : Nat) : ∀ (vs : List Value) (o : Nat) (w : World), (w.setCells k o vs).os = w.os ∧ (w.setCells k o vs).tape = w.tape ∧ (w.setCells k o vs).output = w.output
  | [], _, _ => ⟨rfl, rfl, rfl⟩
  | v :: r, o, w => by
    rw [World.setCells]
    obtain ⟨h1, h2, h3⟩ := rest_setCells k r (o + 1) (w.setCell ⟨k, o, none⟩ v)
    exact ⟨h1, h2, h3⟩

/-! ### worlds in which one block alone was written -/
/-- The state at g; but for it all that was there is as it was. -/
theorem grown_refl (w : World) (row : Option Nat) : w.grownBy w row := ⟨rfl, rfl, rfl, Nat.le_refl _, fun _ _ _ => rfl⟩
theorem _root_.Go.World.grownBy.trans' {a b c : World} {row : Option Nat} (h1 : a.grownBy b row) (h2 : b.grownBy c row) : a.grownBy c row :=
  ⟨h2.os.trans h1.os, h2.tape.trans h1.tape, h2.output.trans h1.output, Nat.le_trans h1.size h2.size, fun k hk hn => (h2.block k (Nat.lt_of_lt_of_le hk h1.size) hn).trans (h1.block k hk hn)⟩
theorem grown_new {a b c : World} {row : Option Nat} {k : Nat} (h1 : a.grownBy b row) (h2 : b.grownBy c (some k)) (hk : a.heap.size ≤ k) : a.grownBy c row :=
  ⟨h2.os.trans h1.os, h2.tape.trans h1.tape, h2.output.trans h1.output, Nat.le_trans h1.size h2.size, fun i hi hn => (h2.block i (Nat.lt_of_lt_of_le hi h1.size) (fun e => by have := Option.some.inj e; omega)).trans (h1.block i hi hn)⟩
theorem grown_put (w : World) (g o : Nat) (u : Value) : w.grownBy (w.setCell ⟨g, o, none⟩ u) (some g) :=
  ⟨rfl, rfl, rfl, by simp, fun k _ hk => Below.heap_setCell w ⟨g, o, none⟩ u k (fun e => hk (by rw [e]))⟩
theorem grown_sets (w : World) (g o : Nat) (vs : List Value) : w.grownBy (w.setCells g o vs) (some g) :=
  ⟨(rest_setCells g vs o w).1, (rest_setCells g vs o w).2.1, (rest_setCells g vs o w).2.2, by rw [size_setCells]; exact Nat.le_refl _, fun k _ hk => heap_setCells k g (fun e => hk (by rw [e])) vs o w⟩
theorem grown_draw (w : World) (n : Nat) (row : Option Nat) : w.grownBy (w.drewN n) row := ⟨rfl, rfl, rfl, Nat.le_refl _, fun _ _ _ => rfl⟩
theorem grown_draw1 (w : World) (row : Option Nat) : w.grownBy w.drew row := ⟨rfl, rfl, rfl, Nat.le_refl _, fun _ _ _ => rfl⟩
theorem grown_of_below {w w' : World} (hb : Below w.heap.size w w') (row : Option Nat) : w.grownBy w' row := ⟨hb.os, hb.tape, hb.output, hb.size, fun k hk _ => hb.block k hk⟩
theorem below_of_grown {B : Nat} {a w w' : World} {g : Nat} (hb : Below B a w) (hg : w.grownBy w' (some g)) (h : B ≤ g) (hs : B ≤ w.heap.size) : Below B a w' :=
  ⟨hg.os.trans hb.os, hg.tape.trans hb.tape, hg.output.trans hb.output, Nat.le_trans hb.size hg.size, fun k hk => (hg.block k (by omega) (fun e => by have := Option.some.inj e; omega)).trans (hb.block k hk)⟩
theorem Bs.grownBy {w w' : World} {A : Option Addr} {bs : List UInt8} {g : Nat} (h : Bs w A bs) (hg : w.grownBy w' (some g)) (hr : ∀ ad, A = some ad → ad.block ≠ g) : Bs w' A bs :=
  Rd.grown h hg fun ad e e' => hr ad e (Option.some.inj e')
theorem sc_whole {w : World} {g : Nat} {t : TypeId} {f : St} {n : Nat} (h : Row w g t (sc f n)) (f' : St) : Row (w.setCells g 0 (ws 25 f').toList) g t (sc f' n) := by
  have hl : (ws 25 f').toList.length = 25 := by rw [Array.length_toList, ws_size]
  generalize hL : (ws 25 f').toList = L at *
  have hg : ∀ i, i < 25 → L[i]? = some (wv (f' i)) := fun i hi => by rw [← hL, Array.getElem?_toList, ws_get f' hi]
  clear hL
  obtain ⟨cs, h1, h2, h3⟩ := Row.puts L 0 _ h
  have e : cs = sc f' n := by
    refine sc_ext (by rw [h2, sc_size]) (fun i hi => ?_) ?_
    · rw [h3, if_pos (by rw [hl, sc_size]; omega), Nat.sub_zero, hg i hi]
    · rw [h3, if_neg (by rw [hl]; omega), sc_taken]
  subst e
  exact h1
theorem sc_range {w : World} {g : Nat} {t : TypeId} {f : St} {n : Nat} (h : Row w g t (sc f n)) : w.rangeAt g 0 (ws 25 f).toList := fun j v hv => by
  have hj : j < 25 := by
    have := (List.getElem?_eq_some_iff.1 hv).1
    rwa [Array.length_toList, ws_size] at this
  rw [Nat.zero_add, h.cell, sc_get f n hj]
  rw [Array.getElem?_toList, ws_get f hj] at hv
  exact hv
theorem sc_there {w : World} {g : Nat} {t : TypeId} {f : St} {n : Nat} (h : Row w g t (sc f n)) (f' : St) : w.there g 0 (ws 25 f').size := fun j hj => by
  rw [ws_size] at hj
  rw [Nat.zero_add, h.cell, h.free, sc_get f n hj]
  exact ⟨rfl, rfl⟩
end Go.Proofs.Ytjpidkamgkpehaa
