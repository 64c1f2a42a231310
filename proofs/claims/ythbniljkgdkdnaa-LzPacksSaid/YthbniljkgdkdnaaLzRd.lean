/-
  Layer 6: what Pack and Unpack hand back, as it is read.
-/
import Derived.Test.YthbniljkgdkdnaaLzUnpack
import Derived.Test.YthbniljkgdkdnaaLzPack
import Derived.Test.YthbniljkgdkdnaaStr
namespace Go.Proofs.Ythbniljkgdkdnaa
open Go.RowKit
set_option linter.unusedVariables false
set_option linter.unusedSimpArgs false

/-- What Pack hands back, as it is read. -/
theorem pack_rd (A : Option Addr) (n cap : Nat) (bs : List UInt8) (w : World) (hn : bs.length = n) (hc : n ≤ cap) (hm : cap ≤ maxLen) (hbs : Bs w A bs) (hlen : n ≤ 100000) :
    Calls Try.prog 10 #[.slice A n cap] w fun e w' => ∃ A' c', e = .returned (.slice A' (packB bs).length c') ∧ (packB bs).length ≤ c' ∧ c' ≤ maxLen ∧ Bs w' A' (packB bs) ∧ Below w.heap.size w w' := by
  subst hn
  refine (pack_any A cap bs w hc hm hbs hlen).mono ?_
  rintro e w' ⟨v, rfl, ho, hb⟩
  obtain ⟨A', c', rfl, h1, h2, h3⟩ := own_slice ho
  exact ⟨A', c', rfl, h1, h2, h3, hb⟩
/-- What Unpack hands back, as it is read. -/
theorem unpack_rd (A : Option Addr) (n cap : Nat) (p : List UInt8) (most : Int) (w : World) (hn : p.length = n) (hc : n ≤ cap) (hm : cap ≤ maxLen) (hbs : Bs w A p) (hl : n ≤ 1000000) (hlo : -9223372036854775808 ≤ most) (hhi : most ≤ 1000000) :
    Calls Try.prog 13 #[.slice A n cap, .int .i64 most] w fun e w' => ∃ A' c', e = .returned (.tuple #[.slice A' (unpB p most).1.length c', .int .i64 (unpB p most).2]) ∧ (unpB p most).1.length ≤ c' ∧ c' ≤ maxLen ∧ Bs w' A' (unpB p most).1 ∧ Below w.heap.size w w' := by
  subst hn
  refine (unpack_any A cap p most w hc hm hbs hl hlo hhi).mono ?_
  rintro e w' ⟨v, rfl, ho, hb⟩
  obtain ⟨A', c', rfl, h1, h2, h3⟩ := own_slice ho
  exact ⟨A', c', rfl, h1, h2, h3, hb⟩
theorem run_str (w : World) (A : Option Addr) (n cap : Nat) (bs : List UInt8) (hn : bs.length = n) (h : Bs w A bs) :
    (convert 22 9 (.slice A n cap)).run Try.prog w = .ok (.string (strB bs)) w := run_bytes_string Try.underlying22 Try.underlying5 Try.underlying9 w A n cap bs hn h

end Go.Proofs.Ythbniljkgdkdnaa
