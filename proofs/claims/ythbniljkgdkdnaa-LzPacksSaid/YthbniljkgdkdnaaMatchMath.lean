/-
  Plain facts on matches of bytes: how many bytes at two places are the same; the longest match of a place, the nearest of several. No program.
-/
namespace Go.Proofs.Ythbniljkgdkdnaa

/-- How many bytes two lists begin with alike. -/
def lcp : List UInt8 → List UInt8 → Nat
  | a :: x, b :: y => if a = b then lcp x y + 1 else 0
  | _, _ => 0
theorem lcp_lt : ∀ (x y : List UInt8) (j : Nat), j < lcp x y → ∃ c, x[j]? = some c ∧ y[j]? = some c
  | [], _, _, h => by simp [lcp] at h
  | _ :: _, [], _, h => by simp [lcp] at h
  | a :: x, b :: y, j, h => by
    unfold lcp at h
    by_cases e : a = b
    · subst e
      cases j with
      | zero => exact ⟨a, rfl, rfl⟩
      | succ j => exact lcp_lt x y j (by simpa using h)
    · simp [e] at h
theorem lcp_stop : ∀ (x y : List UInt8) (c : UInt8), x[lcp x y]? = some c → y[lcp x y]? = some c → False
  | [], _, _, h, _ => by simp at h
  | _ :: _, [], _, _, h => by simp at h
  | a :: x, b :: y, c, h, h' => by
    unfold lcp at h h'
    by_cases e : a = b
    · subst e
      simp only [if_true, List.getElem?_cons_succ] at h h'
      exact lcp_stop x y c h h'
    · simp only [e, if_false, List.getElem?_cons_zero, Option.some.injEq] at h h'
      exact e (h.trans h'.symm)
theorem lcp_ge {x y : List UInt8} {n : Nat} (h : ∀ j, j < n → ∃ c, x[j]? = some c ∧ y[j]? = some c) : n ≤ lcp x y := by
  rcases Nat.lt_or_ge (lcp x y) n with hl | hg
  · obtain ⟨c, h1, h2⟩ := h _ hl
    exact (lcp_stop x y c h1 h2).elim
  · exact hg
theorem lcp_le {x y : List UInt8} {n : Nat} (h : ∀ c, x[n]? = some c → y[n]? = some c → False) : lcp x y ≤ n := by
  rcases Nat.lt_or_ge n (lcp x y) with hl | hg
  · obtain ⟨c, h1, h2⟩ := lcp_lt x y n hl
    exact (h c h1 h2).elim
  · exact hg
theorem lcp_len (x y : List UInt8) : lcp x y ≤ x.length ∧ lcp x y ≤ y.length :=
  ⟨lcp_le fun c h _ => by simp at h, lcp_le fun c _ h => by simp at h⟩

/-- P5.1 at two places that are there. -/
def com (bs : List UInt8) (i k : Nat) : Nat := min 130 (lcp (bs.drop i) (bs.drop k))
/-- P5.1 at any two numbers. -/
def comZ (bs : List UInt8) (i k : Int) : Nat := if 0 ≤ i ∧ 0 ≤ k then com bs i.toNat k.toNat else 0
theorem com_le (bs : List UInt8) (i k : Nat) : com bs i k ≤ 130 := by unfold com; omega
theorem com_len (bs : List UInt8) (i k : Nat) : com bs i k ≤ bs.length - i ∧ com bs i k ≤ bs.length - k := by
  have h := lcp_len (bs.drop i) (bs.drop k)
  simp only [List.length_drop] at h
  unfold com
  omega
theorem com_lt {bs : List UInt8} {i k j : Nat} (h : j < com bs i k) : ∃ c, bs[i + j]? = some c ∧ bs[k + j]? = some c := by
  unfold com at h
  obtain ⟨c, h1, h2⟩ := lcp_lt (bs.drop i) (bs.drop k) j (by omega)
  exact ⟨c, by simpa using h1, by simpa using h2⟩
theorem com_stop {bs : List UInt8} {i k : Nat} (h : com bs i k < 130) (c : UInt8) : bs[i + com bs i k]? = some c → bs[k + com bs i k]? = some c → False := by
  intro h1 h2
  have e : com bs i k = lcp (bs.drop i) (bs.drop k) := by unfold com at h ⊢; omega
  rw [e] at h1 h2
  exact lcp_stop (bs.drop i) (bs.drop k) c (by simpa using h1) (by simpa using h2)
theorem com_ge {bs : List UInt8} {i k n : Nat} (hn : n ≤ 130) (h : ∀ j, j < n → ∃ c, bs[i + j]? = some c ∧ bs[k + j]? = some c) : n ≤ com bs i k := by
  have := lcp_ge (x := bs.drop i) (y := bs.drop k) (n := n) (fun j hj => by simpa using h j hj)
  unfold com
  omega
theorem com_eq {bs : List UInt8} {i k n : Nat} (hn : n ≤ 130) (h : ∀ j, j < n → ∃ c, bs[i + j]? = some c ∧ bs[k + j]? = some c)
    (hs : n < 130 → ∀ c, bs[i + n]? = some c → bs[k + n]? = some c → False) : com bs i k = n := by
  have h1 := com_ge hn h
  have h2 := com_le bs i k
  rcases Nat.lt_or_ge n (com bs i k) with hl | hg
  · obtain ⟨c, e1, e2⟩ := com_lt hl
    exact (hs (by omega) c e1 e2).elim
  · omega

/-- The best of the distances S: no byte is the same at any of them; or the most bytes, at the least distance. -/
def Best (bs : List UInt8) (k : Nat) (S : Nat → Prop) (d n : Nat) : Prop :=
  (n = 0 ∧ d = 0 ∧ ∀ e, S e → com bs (k - e) k = 0) ∨
  (0 < n ∧ S d ∧ com bs (k - d) k = n ∧ ∀ e, S e → com bs (k - e) k ≤ n ∧ (com bs (k - e) k = n → d ≤ e))
theorem Best.unique {bs : List UInt8} {k : Nat} {S : Nat → Prop} {d n d' n' : Nat} (h : Best bs k S d n) (h' : Best bs k S d' n') : d = d' ∧ n = n' := by
  rcases h with ⟨rfl, rfl, h0⟩ | ⟨hn, hs, hc, ha⟩ <;> rcases h' with ⟨rfl, rfl, h0'⟩ | ⟨hn', hs', hc', ha'⟩
  · exact ⟨rfl, rfl⟩
  · have := h0 _ hs'; omega
  · have := h0' _ hs; omega
  · have a1 := ha _ hs'
    have a2 := ha' _ hs
    have en : n = n' := by omega
    subst en
    exact ⟨by have := a1.2 hc'; have := a2.2 hc; omega, rfl⟩
theorem Best.none_ {bs : List UInt8} {k : Nat} {S : Nat → Prop} (h : ∀ e, ¬ S e) : Best bs k S 0 0 := .inl ⟨rfl, rfl, fun e he => (h e he).elim⟩
theorem Best.le {bs : List UInt8} {k : Nat} {S : Nat → Prop} {d n : Nat} (h : Best bs k S d n) : n ≤ 130 := by
  rcases h with ⟨rfl, _⟩ | ⟨_, _, rfl, _⟩
  · omega
  · exact com_le _ _ _
theorem Best.iff {bs : List UInt8} {k : Nat} {S S' : Nat → Prop} {d n : Nat} (h : Best bs k S d n) (hs : ∀ e, S e ↔ S' e) : Best bs k S' d n := by
  have : S = S' := funext fun e => propext (hs e)
  rwa [← this]

/-- The better one of a match and that at a distance e. -/
def better (d n e c : Nat) : Nat × Nat := if n < c ∨ (c = n ∧ 0 < c ∧ e < d) then (e, c) else (d, n)
theorem Best.step {bs : List UInt8} {k : Nat} {S S' : Nat → Prop} {d n e : Nat} (h : Best bs k S d n) (hs : ∀ x, S' x ↔ S x ∨ x = e) :
    Best bs k S' (better d n e (com bs (k - e) k)).1 (better d n e (com bs (k - e) k)).2 := by
  generalize hc : com bs (k - e) k = c
  unfold better
  rcases h with ⟨rfl, rfl, h0⟩ | ⟨hn, hd, hcd, ha⟩
  · by_cases h : 0 < c ∨ (c = 0 ∧ 0 < c ∧ e < 0)
    · rw [if_pos h]
      refine .inr ⟨by simp only; omega, (hs e).2 (.inr rfl), hc, fun x hx => ?_⟩
      rcases (hs x).1 hx with hx | rfl
      · have := h0 x hx; simp only; omega
      · simp only; omega
    · rw [if_neg h]
      refine .inl ⟨rfl, rfl, fun x hx => ?_⟩
      rcases (hs x).1 hx with hx | rfl
      · exact h0 x hx
      · omega
  · by_cases h : n < c ∨ (c = n ∧ 0 < c ∧ e < d)
    · rw [if_pos h]
      refine .inr ⟨by simp only; omega, (hs e).2 (.inr rfl), hc, fun x hx => ?_⟩
      rcases (hs x).1 hx with hx | rfl
      · have h1 := ha x hx
        simp only
        refine ⟨by omega, fun hxc => ?_⟩
        have := h1.2
        omega
      · simp only; omega
    · rw [if_neg h]
      refine .inr ⟨hn, (hs d).2 (.inl hd), hcd, fun x hx => ?_⟩
      rcases (hs x).1 hx with hx | rfl
      · exact ha x hx
      · simp only; omega
/-- The document's loop: from the nearest on, a longer one alone. -/
def bestTo (bs : List UInt8) (k : Nat) : Nat → Nat × Nat
  | 0 => (0, 0)
  | e + 1 => if (bestTo bs k e).2 < com bs (k - (e + 1)) k then (e + 1, com bs (k - (e + 1)) k) else bestTo bs k e
theorem bestTo_le (bs : List UInt8) (k : Nat) : ∀ e, (bestTo bs k e).1 ≤ e
  | 0 => Nat.le_refl _
  | e + 1 => by
    have := bestTo_le bs k e
    unfold bestTo
    split
    · simp
    · omega
theorem bestTo_best (bs : List UInt8) (k : Nat) : ∀ e, Best bs k (fun x => 1 ≤ x ∧ x ≤ e) (bestTo bs k e).1 (bestTo bs k e).2
  | 0 => .inl ⟨rfl, rfl, fun x hx => by omega⟩
  | e + 1 => by
    have h := (bestTo_best bs k e).step (S' := fun x => 1 ≤ x ∧ x ≤ e + 1) (e := e + 1) (fun x => by omega)
    have hl := bestTo_le bs k e
    have he : better (bestTo bs k e).1 (bestTo bs k e).2 (e + 1) (com bs (k - (e + 1)) k) = bestTo bs k (e + 1) := by
      unfold better
      rw [bestTo]
      by_cases hc : (bestTo bs k e).2 < com bs (k - (e + 1)) k
      · rw [if_pos (.inl hc), if_pos hc]
      · rw [if_neg (by omega), if_neg hc]
    rw [he] at h
    exact h
/-- A match, if it is long enough. -/
def clean (m : Nat × Nat) : Nat × Nat := if m.2 < 3 then (0, 0) else m
/-- P5.2 at a place (or behind the end: none). -/
def best (bs : List UInt8) (k : Nat) : Nat × Nat := clean (bestTo bs k (min 256 k))
theorem best_of {bs : List UInt8} {k d n : Nat} (h : Best bs k (fun x => 1 ≤ x ∧ x ≤ min 256 k) d n) : clean (d, n) = best bs k := by
  obtain ⟨e1, e2⟩ := h.unique (bestTo_best bs k (min 256 k))
  unfold best
  rw [← Prod.eta (bestTo bs k (min 256 k)), ← e1, ← e2]
/-- Those distances alone at which three bytes are the same. -/
theorem best_of_three {bs : List UInt8} {k d n : Nat} (h : Best bs k (fun x => (1 ≤ x ∧ x ≤ min 256 k) ∧ 3 ≤ com bs (k - x) k) d n) : clean (d, n) = best bs k := by
  have hb := bestTo_best bs k (min 256 k)
  by_cases h3 : (bestTo bs k (min 256 k)).2 < 3
  · have hno : ∀ x, ¬ ((1 ≤ x ∧ x ≤ min 256 k) ∧ 3 ≤ com bs (k - x) k) := fun x ⟨hx, hc⟩ => by
      rcases hb with ⟨_, _, h0⟩ | ⟨_, _, _, ha⟩
      · have := h0 x hx; omega
      · have := (ha x hx).1; omega
    obtain ⟨rfl, rfl⟩ := h.unique (Best.none_ hno)
    unfold best clean
    simp [h3]
  · have hb' : Best bs k (fun x => (1 ≤ x ∧ x ≤ min 256 k) ∧ 3 ≤ com bs (k - x) k) (bestTo bs k (min 256 k)).1 (bestTo bs k (min 256 k)).2 := by
      rcases hb with ⟨h0, _⟩ | ⟨hn, hd, hc, ha⟩
      · omega
      · exact .inr ⟨hn, ⟨hd, by omega⟩, hc, fun e he => ha e he.1⟩
    obtain ⟨e1, e2⟩ := h.unique hb'
    unfold best
    rw [e1, e2]

/-- What a place's match is. -/
theorem best_spec (bs : List UInt8) (k : Nat) :
    ((best bs k).2 = 0 ∧ (best bs k).1 = 0 ∧ ∀ e, 1 ≤ e → e ≤ 256 → e ≤ k → com bs (k - e) k < 3) ∨
    (3 ≤ (best bs k).2 ∧ 1 ≤ (best bs k).1 ∧ (best bs k).1 ≤ 256 ∧ (best bs k).1 ≤ k ∧ com bs (k - (best bs k).1) k = (best bs k).2 ∧
      ∀ e, 1 ≤ e → e ≤ 256 → e ≤ k → com bs (k - e) k ≤ (best bs k).2 ∧ (com bs (k - e) k = (best bs k).2 → (best bs k).1 ≤ e)) := by
  have hb := bestTo_best bs k (min 256 k)
  unfold best clean
  by_cases h3 : (bestTo bs k (min 256 k)).2 < 3
  · rw [if_pos h3]
    refine .inl ⟨rfl, rfl, fun e h1 h2 h4 => ?_⟩
    rcases hb with ⟨_, _, h0⟩ | ⟨_, _, _, ha⟩
    · have := h0 e (by omega); omega
    · have := (ha e (by omega)).1; omega
  · rw [if_neg h3]
    rcases hb with ⟨h0, _⟩ | ⟨hn, hd, hc, ha⟩
    · omega
    · exact .inr ⟨by omega, hd.1, by omega, by omega, hc, fun e h1 h2 h4 => ha e (by omega)⟩
theorem best_behind (bs : List UInt8) (k : Nat) (h : bs.length ≤ k) : best bs k = (0, 0) := by
  rcases best_spec bs k with ⟨h1, h2, _⟩ | ⟨h1, _, _, _, hc, _⟩
  · rw [← Prod.eta (best bs k), h1, h2]
  · have := (com_len bs (k - (best bs k).1) k).2
    omega
theorem best_le (bs : List UInt8) (k : Nat) : (best bs k).1 ≤ 256 ∧ (best bs k).2 ≤ 130 ∧ (best bs k).2 ≤ bs.length - k ∧ (best bs k).1 ≤ k := by
  rcases best_spec bs k with ⟨h1, h2, _⟩ | ⟨h1, _, h3, h4, hc, _⟩
  · omega
  · have h5 := com_le bs (k - (best bs k).1) k
    have h6 := (com_len bs (k - (best bs k).1) k).2
    omega

end Go.Proofs.Ythbniljkgdkdnaa
