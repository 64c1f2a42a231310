/-
  Layer 4: fingerprints of parts whose row is known.
-/
import Derived.Test.YtjpidkamgkpehaaSLaws
import Derived.Deep.RegionHeld3
import Derived.Deep.MidRow
namespace Go.Proofs.Ytjpidkamgkpehaa
open Go.RowKit
set_option linter.unusedVariables false

theorem row_range {w : World} {g : Nat} {t : TypeId} {cs : Array Value} (h : Row w g t cs) : w.rangeAt g 0 cs.toList := fun j v hv => by
  rw [Nat.zero_add, h.cell]
  simpa using hv
theorem four_at (p : Nat) (l : List Part) (cs : Array Value) (w : World) (hr : Row w p 22 cs) (hcs : cs.toList = l.map Part.val) (hl : l.length = 4) (hp : Parts w l) :
    Calls Try.prog 9 #[.slice (some ⟨p, 0, none⟩) 4 4] w fun e w' => e = .returned (.agg (bsr (fp (whole l)) 32)) ∧ Below w.heap.size w w' := by
  have h := sum_any (some ⟨p, 0, none⟩) 4 l w (by omega) (by rw [← hcs]; exact hr.rd) hp
  rw [hl, fp_sum] at h
  exact h
theorem one_at (p : Nat) (A : Option Addr) (n cap : Nat) (bs : List UInt8) (w : World) (hr : Row w p 22 #[.slice A n cap]) (hn : bs.length = n) (hl : n ≤ 140737488351232) (hbs : Bs w A bs) :
    Calls Try.prog 9 #[.slice (some ⟨p, 0, none⟩) 1 1] w fun e w' => e = .returned (.agg (bsr (fp bs) 32)) ∧ Below w.heap.size w w' := by
  subst hn
  have h := sum_any (some ⟨p, 0, none⟩) 1 [⟨A, cap, bs⟩] w (by simp) hr.rd (fun q hq => by
    rw [List.mem_singleton] at hq
    subst hq
    exact ⟨hbs, hl⟩)
  rw [show whole [⟨A, cap, bs⟩] = bs by simp [whole], fp_sum] at h
  exact h
end Go.Proofs.Ytjpidkamgkpehaa
