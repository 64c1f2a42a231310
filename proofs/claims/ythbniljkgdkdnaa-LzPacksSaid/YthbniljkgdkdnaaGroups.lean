/-
  Maps from three bytes to places, made by the call itself: the look-up and its way back where another block is written between them; which places stand at which bytes. No program is named here.
-/
import Derived.Test.YthbniljkgdkdnaaBase
import Derived.Test.YthbniljkgdkdnaaMatchMath
import Derived.Maps.GroupsBeside
import Derived.Maps.Views
import Derived.Maps.Range
import Derived.WideKeyArr2
namespace Go.Proofs.Ythbniljkgdkdnaa
open Go.RowKit Go.Maps Go.WideElems Go.MapKept Go.ChangeShapes
open Go.WideMaps (ArrKey)
set_option linter.unusedVariables false
set_option linter.unusedSimpArgs false

section
variable {H : Type} {P : Program} {k : TypeId} {w w' : World} {base : Nat} {e : TypeId} {q : IntKind} {b n : Nat} {D : DataW H} {v : Value} {zs : List Int}
/-- A block of another element type is no row of the numbers. -/
theorem ints_ne (h : w.ownsInts base e q v zs) {g : Nat} {t : TypeId} {cs : Array Value} (hr : Row w g t cs) (ht : t ≠ e) : v.ownBlock = none ∨ v.ownBlock ≠ some g := by
  rcases h.1.2 with ⟨rfl, _⟩ | ⟨g', cap, cur, rfl, _, hh, _⟩
  · exact .inl rfl
  · refine .inr fun he => ?_
    have hg : g' = g := by simpa [Value.ownBlock] using he
    subst hg
    unfold Row at hr
    rw [hh] at hr
    injection hr with hr
    injection hr with _ h2
    exact ht h2.symm
theorem own_apart {v u : Value} {size size' n m base' : Nat} {e' : TypeId} {xs ys : List Value} (h : w.ownsRow base e size v n xs) (h' : w.ownsRow base' e' size' u m ys) (he : e ≠ e') : v.ownBlock = none ∨ v.ownBlock ≠ u.ownBlock := by
  rcases h.2 with ⟨rfl, _⟩ | ⟨g, cap, cur, rfl, _, hh, _⟩
  · exact .inl rfl
  · rcases h'.2 with ⟨rfl, _⟩ | ⟨g', cap', cur', rfl, _, hh', _⟩
    · exact .inr (by simp [Value.ownBlock])
    · refine .inr fun ht => ?_
      have hg : g = g' := by simpa [Value.ownBlock] using ht
      subst hg
      rw [hh] at hh'
      injection hh' with hh'
      injection hh' with _ h2
      exact he h2
theorem grown_below {w w' : World} (h : Below w.heap.size w w') (row : Option Nat) : w.grownBy w' row := ⟨h.os, h.tape, h.output, h.size, fun k hk _ => h.block k hk⟩
theorem grown_undrew {w w' : World} {row : Option Nat} (h : w.drew.grownBy w' row) : w.grownBy w' row := ⟨h.os, h.tape, h.output, h.size, h.block⟩
theorem back_drew {t k : TypeId} {base : Nat} {e : TypeId} {q : IntKind} {b n : Nat} {D : DataW H} {key : Value} {kl : Lit} {v : Value} (h : w.groupBack P t k base e q b n D key kl v) : w.drew.groupBack P t k base e q b n D key kl v :=
  fun w1 v' zs' hg ho hl hloc => h w1 v' zs' (grown_undrew hg) ho hl hloc
theorem grown_set (w : World) (p : Addr) (u : Value) : w.grownBy (w.setCell p u) (some p.block) :=
  ⟨rfl, rfl, rfl, by simp, fun k hk hne => Below.heap_setCell w p u k (fun e => hne (by rw [e]))⟩
/-- The look-up, and the way back from every later world in which only a block of another element type was written. -/
theorem groups_at {t E : TypeId} {key : Value} {kl : Lit} (h : w.ownsGroups P k base e q b n D) (K : Keyed P k) (ht : P.underlying t = some (.map k E)) (hz : (zeroValue E).run P w = .ok (.slice none 0 0) w) (hn : n < maxLen) (hkey : keyOf P k key = some kl) :
    ∃ v zs, (Instr.lookup t (.map (some b)) key false).run P w = .ok v w ∧ D.atKey kl .nil = rowDatum q v zs ∧ w.ownsInts base e q v zs ∧ zs.length ≤ n ∧
      ∀ (w' : World) (g : Nat) (t' : TypeId) (cs : Array Value), Row w g t' cs → t' ≠ e → w.grownBy w' (some g) → w'.groupBack P t k base e q b n D key kl v ∧ w'.ownsInts base e q v zs := by
  obtain ⟨es, clock, hb, F, hs, rfl, hbb, hlen, hap⟩ := h
  have hblt : b < w.heap.size := (Array.getElem?_eq_some_iff.1 hb).1
  have main : ∀ (v : Value) (zs : List Int), w.ownsInts base e q v zs → (∀ x ∈ es.toList, x.key ≠ key → x.val.ownBlock = none ∨ x.val.ownBlock ≠ v.ownBlock) →
      ∀ (w' : World) (g : Nat) (t' : TypeId) (cs : Array Value), Row w g t' cs → t' ≠ e → w.grownBy w' (some g) →
        w'.groupBack P t k base e q b n (.map ((es.toList.map (rg P k (rowElem (H := H) w base e q))).foldr DataW.insert [])) key kl v ∧ w'.ownsInts base e q v zs := by
    intro v zs hoi hv w' g t' cs hr hte hg
    have hbg : some b ≠ some g := fun he => by
      cases he
      unfold Row at hr
      rw [hb] at hr
      cases hr
    have own : ∀ x ∈ es.toList, ∀ ys, w.ownsInts base e q x.val ys → w'.ownsInts base e q x.val ys := fun x _ ys ho => ho.kept hg (ints_ne ho hr hte)
    have hst : ∀ x ∈ es.toList, ∀ z, rowElem (H := H) w base e q x.val = some z → rowElem w' base e q x.val = some z := fun x hx z hz => by
      obtain ⟨ys, ho, rfl⟩ := rowElem_inv hz
      exact rowElem_mk (own x hx ys ho)
    obtain ⟨F1, hmap, _⟩ := F.stay hst
    have hb1 : w'.heap[b]? = some (.map es clock) := (hg.block b hblt hbg).trans hb
    have hlen1 : ∀ x ∈ es.toList, ∀ ys, w'.ownsInts base e q x.val ys → ys.length ≤ n := fun x hx ys ho => by
      obtain ⟨y, hy⟩ := F.reads x hx
      obtain ⟨z, hz, _⟩ := rd_val hy
      obtain ⟨ys0, ho0, _⟩ := rowElem_inv hz
      rw [ho.unique (own x hx ys0 ho0)]
      exact hlen x hx ys0 ho0
    have hoi' := hoi.kept hg (ints_ne hoi hr hte)
    have := groups_back (H := H) (w := w') (n := n) (v := v) K ht hb1 F1 hs hn hbb hlen1 hap hkey hv (fun e1 => by have := (hoi'.1.lt b e1).1; omega)
    rw [hmap] at this
    exact ⟨this, hoi'⟩
  rcases Maps.fit_look false K ht hz hb F hkey with ⟨hrun, _, hat⟩ | ⟨e0, y, hm0, h3, hrun, hR, hat, _⟩
  · refine ⟨.slice none 0 0, [], hrun, hat _, World.ownsInts_nil _ _ _ _, Nat.zero_le _, main _ _ (World.ownsInts_nil _ _ _ _) fun x _ _ => ?_⟩
    cases x.val.ownBlock <;> simp [Value.ownBlock]
  · obtain ⟨zs, ho, rfl⟩ := rowElem_inv hR
    exact ⟨e0.val, zs, hrun, hat _, ho, hlen e0 hm0 zs ho, main _ _ ho fun x hx hne => hap x hx e0 hm0 (by rw [h3]; exact hne)⟩
theorem _root_.Go.World.ownsGroups.more (h : w.ownsGroups P k base e q b n D) : w.ownsGroups P k base e q b (n + 1) D := by
  obtain ⟨es, clock, hb, F, hs, hD, hbb, hlen, hap⟩ := h
  exact ⟨es, clock, hb, F, by omega, hD, hbb, fun x hx zs ho => by have := hlen x hx zs ho; omega, hap⟩
theorem _root_.Go.World.ownsRow.lower {size m base' : Nat} {xs : List Value} (h : w.ownsRow base e size v m xs) (hb : base' ≤ base) : w.ownsRow base' e size v m xs := by
  refine ⟨h.1, ?_⟩
  rcases h.2 with h2 | ⟨g, cap, cur, h1, h2, h3⟩
  · exact .inl h2
  · exact .inr ⟨g, cap, cur, h1, by omega, h3⟩
theorem groups_off {v : Value} {size m base' : Nat} {e' : TypeId} {xs : List Value} (h : w.ownsGroups P k base e q b n D) (ho : w.ownsRow base' e' size v m xs) (he : e ≠ e') :
    ∀ es clock, w.heap[b]? = some (.map es clock) → ∀ x ∈ es.toList, x.val.ownBlock = none ∨ x.val.ownBlock ≠ v.ownBlock := fun es clock hb x hx => by
  obtain ⟨es', clock', hb', F, _⟩ := h
  obtain ⟨rfl, rfl⟩ : es' = es ∧ clock' = clock := by rw [hb'] at hb; simpa using hb
  obtain ⟨y, hy⟩ := F.reads x hx
  obtain ⟨z, hz, _⟩ := rd_val hy
  obtain ⟨zs, hoi, _⟩ := rowElem_inv hz
  exact own_apart hoi.1 ho he
theorem groups_isMap (h : w.ownsGroups P k base e q b n D) : IsMap D := by
  obtain ⟨es, clock, hb, F, hs, rfl, _⟩ := h
  exact ⟨_, rfl⟩
end

/-! ### keys of three bytes -/
/-- Three bytes, as a key. -/
def tkey (a b c : UInt8) : Value := .agg #[bv a, bv b, bv c]
/-- As what they read. -/
def tlit (a b c : UInt8) : Lit := .string (keyBytes [.int .u8 (a.toNat : Int), .int .u8 (b.toNat : Int), .int .u8 (c.toNat : Int)])
theorem byte_wf (c : UInt8) : (Lit.int .u8 (c.toNat : Int)).wf = true := by
  have := c.toNat_lt
  have h1 : IntKind.u8.min = 0 := by rfl
  have h2 : IntKind.u8.max = 255 := by rfl
  simp [Lit.wf, h1, h2]
  omega
section
variable {P : Program} {k e : TypeId}
theorem keyOf_tri (A : ArrKey P k e 3) (he : P.underlying e = some (.int .u8)) (hsz : ∃ m, P.types.size = m + 1) (a b c : UInt8) : keyOf P k (tkey a b c) = some (tlit a b c) := by
  have hkt := A.keyType hsz
  obtain ⟨m, hm⟩ := hsz
  have ha := byte_wf a
  have hb := byte_wf b
  have hc := byte_wf c
  unfold keyOf tkey tlit
  simp only [A.hu]
  rw [if_pos (by simp [hkt, Value.formed, A.hu, A.size]), hm]
  unfold Program.keyLits
  simp only [A.hu, Value.cells]
  rw [if_pos (by rw [A.size]; rfl), show List.range 3 = [0, 1, 2] from rfl, List.mapM_cons, List.mapM_cons, List.mapM_cons, List.mapM_nil]
  simp [A.one, Program.keyLits, he, ha, hb, hc, bv]
theorem tlit_inj (A : ArrKey P k e 3) (he : P.underlying e = some (.int .u8)) (hsz : ∃ m, P.types.size = m + 1) {a b c a' b' c' : UInt8} (h : tlit a b c = tlit a' b' c') : a = a' ∧ b = b' ∧ c = c' := by
  have h1 := keyOf_tri A he hsz a b c
  have h2 := keyOf_tri A he hsz a' b' c'
  rw [h] at h1
  have := A.law.inj h1 h2
  simp only [tkey, bv, Value.agg.injEq, Array.mk.injEq, List.cons.injEq, Value.int.injEq, true_and, and_true, Int.ofNat_inj, UInt8.toNat_inj] at this
  exact this
end
/-- The places ahead of k at which three bytes stand. -/
def posT (bs : List UInt8) (k : Nat) (a b c : UInt8) : List Nat := (List.range k).filter fun p => decide (bs[p]? = some a ∧ bs[p + 1]? = some b ∧ bs[p + 2]? = some c)
/-- As a datum. -/
def posDatum (l : List Nat) : DataW Unit := if l = [] then .nil else .slice (lits .i64 (l.map fun (p : Nat) => (p : Int))) []
/-- What the map tells of the places ahead of k. -/
def Holds (D : DataW Unit) (bs : List UInt8) (k : Nat) : Prop := ∀ a b c, D.atKey (tlit a b c) .nil = posDatum (posT bs k a b c)
theorem lits_inj {q : IntKind} {l l' : List Int} (h : (lits (H := Unit) q l) = lits q l') : l = l' := by
  unfold lits at h
  exact (List.map_inj_right (fun a b hab => by simpa using hab)).1 h
theorem pos_zs {w : World} {base : Nat} {e : TypeId} {v : Value} {zs : List Int} {l : List Nat} (ho : w.ownsInts base e .i64 v zs) (h : rowDatum (H := Unit) .i64 v zs = posDatum l) : zs = l.map fun (p : Nat) => (p : Int) := by
  unfold posDatum at h
  rcases ho.datum (H := Unit) with ⟨h1, rfl⟩ | h1
  · rw [h1] at h
    split at h
    · rename_i hl; rw [hl]; rfl
    · cases h
  · rw [h1] at h
    split at h
    · cases h
    · injection h with h _
      exact lits_inj h
theorem Holds.start (bs : List UInt8) : Holds (.map []) bs 0 := fun a b c => rfl
theorem posT_none {bs : List UInt8} {k : Nat} (h : bs.length < k + 3) (a b c : UInt8) : posT bs (k + 1) a b c = posT bs k a b c := by
  unfold posT
  rw [List.range_succ, List.filter_append]
  simp only [List.filter_cons, List.filter_nil]
  rw [if_neg, List.append_nil]
  simp only [decide_eq_true_eq]
  rintro ⟨_, _, h3⟩
  have := (List.getElem?_eq_some_iff.1 h3).1
  omega
theorem Holds.skip {D : DataW Unit} {bs : List UInt8} {k : Nat} (h : Holds D bs k) (hk : bs.length < k + 3) : Holds D bs (k + 1) := fun a b c => by
  rw [posT_none hk]
  exact h a b c
theorem posT_same {bs : List UInt8} {k : Nat} {a b c : UInt8} (h1 : bs[k]? = some a) (h2 : bs[k + 1]? = some b) (h3 : bs[k + 2]? = some c) : posT bs (k + 1) a b c = posT bs k a b c ++ [k] := by
  unfold posT
  rw [List.range_succ, List.filter_append]
  simp [List.filter_cons, h1, h2, h3]
theorem posT_other {bs : List UInt8} {k : Nat} {a b c a' b' c' : UInt8} (h1 : bs[k]? = some a) (h2 : bs[k + 1]? = some b) (h3 : bs[k + 2]? = some c) (hne : ¬ (a = a' ∧ b = b' ∧ c = c')) : posT bs (k + 1) a' b' c' = posT bs k a' b' c' := by
  unfold posT
  rw [List.range_succ, List.filter_append]
  simp only [List.filter_cons, List.filter_nil]
  rw [if_neg, List.append_nil]
  simp only [decide_eq_true_eq, h1, h2, h3, Option.some.injEq]
  exact hne
theorem Holds.put {P : Program} {kt e : TypeId} (A : ArrKey P kt e 3) (he : P.underlying e = some (.int .u8)) (hsz : ∃ m, P.types.size = m + 1) {D : DataW Unit} {bs : List UInt8} {k : Nat} {a b c : UInt8} (h : Holds D bs k) (hD : IsMap D)
    (h1 : bs[k]? = some a) (h2 : bs[k + 1]? = some b) (h3 : bs[k + 2]? = some c) : Holds (D.put (tlit a b c) (posDatum (posT bs k a b c ++ [k]))) bs (k + 1) := fun a' b' c' => by
  by_cases hs : a = a' ∧ b = b' ∧ c = c'
  · obtain ⟨rfl, rfl, rfl⟩ := hs
    rw [atKey_put_same hD (by simp [tlit, WideAt.IsKeyLit]), posT_same h1 h2 h3]
  · rw [atKey_put_other (fun e1 => hs (by obtain ⟨r1, r2, r3⟩ := tlit_inj A he hsz e1; exact ⟨r1.symm, r2.symm, r3.symm⟩)), posT_other h1 h2 h3 hs]
    exact h a' b' c'
end Go.Proofs.Ythbniljkgdkdnaa
