/-
  Layer 4: what the laws' walks share.
-/
import Derived.Test.YtjpidkamgkpehaaSShown
import Derived.Test.YtjpidkamgkpehaaSRef
namespace Go.Proofs.Ytjpidkamgkpehaa
open Go.RowKit
set_option linter.unusedVariables false
set_option linter.unusedSimpArgs false

/-- The state behind all rounds; it is never opened. -/
def fp (bs : List UInt8) : St := fin (feed st0 bs)
theorem fp_sum (bs : List UInt8) : iv .u8 (sumOf bs) = .agg (bsr (fp bs) 32) := by rw [bsr_all]; rfl
/-- The fingerprint of one part. -/
theorem one_any (A : Option Addr) (n cap : Nat) (bs : List UInt8) (w : World) (hn : bs.length = n) (hl : n ≤ 140737488351232) (hbs : Bs w A bs) :
    Calls Try.prog 9 #[.slice (some ⟨w.heap.size, 0, none⟩) 1 1] (w.alloc (.cells #[.slice A n cap] 22)) fun e w' => e = .returned (.agg (bsr (fp bs) 32)) ∧ Below (w.alloc (.cells #[.slice A n cap] 22)).heap.size (w.alloc (.cells #[.slice A n cap] 22)) w' := by
  subst hn
  have hrow := Row.new w 22 #[.slice A bs.length cap]
  have h := sum_any (some ⟨w.heap.size, 0, none⟩) 1 [⟨A, cap, bs⟩] _ (by simp) hrow.rd (fun p hp => by
    rw [List.mem_singleton] at hp
    subst hp
    exact ⟨hbs.alloc _, hl⟩)
  rw [show whole [⟨A, cap, bs⟩] = bs by simp [whole], fp_sum] at h
  exact h
theorem none_any (w : World) :
    Calls Try.prog 9 #[.slice none 0 0] w fun e w' => e = .returned (.agg (bsr (fp []) 32)) ∧ Below w.heap.size w w' := by
  have h := sum_any none 0 [] w (by simp) Rd.nil (fun p h => by cases h)
  rw [show whole [] = [] from rfl, fp_sum] at h
  exact h
theorem snil_fp (w : World) :
    Calls Try.prog 14 #[.pointer none] w fun e w' => e = .returned (.agg (bsr (fp []) 32)) ∧ Below w.heap.size w w' := by
  have h := snil_any w
  rw [fp_sum] at h
  exact h
theorem rsum_fp (A : Option Addr) (n cap : Nat) (bs : List UInt8) (w : World) (hn : bs.length = n) (hl : n ≤ 10000000) (hbs : Bs w A bs) :
    Calls Try.prog 11 #[.slice A n cap] w fun e w' => e = .returned (.agg (bsr (fp bs) 32)) ∧ Below w.heap.size w w' := by
  subst hn
  have h := rsum_any A cap bs w hl hbs
  rw [fp_sum] at h
  exact h
/-- What a state tells. -/
theorem ssum_fp (g : Nat) (bs : List UInt8) (w : World) (hs : Row w g 44 (sc (feed st0 bs).1 (feed st0 bs).2)) :
    Calls Try.prog 14 #[.pointer (some ⟨g, 0, none⟩)] w fun e w' => e = .returned (.agg (bsr (fp bs) 32)) ∧ Below w.heap.size w w' := by
  have h := ssum_any g _ _ w hs (feed_lt _ _ (by decide))
  rw [← bsr_all] at h
  exact h
theorem eql_bsr (F G : St) (w : World) : (binOp .eql 25 (.agg (bsr F 32)) (.agg (bsr G 32))).run Try.prog w = .ok (.bool (decide (dgl F = dgl G))) w := by
  rw [bsr_all, bsr_all]
  exact (run_eql_arr w sumT Try.underlying5 (by kernel_rfl) (dgl F) (dgl G) (dgl_len _) (dgl_len _)).1
theorem neq_bsr (F : St) (w : World) : (binOp .neq 25 (.agg (bsr F 32)) (.agg (bsr F 32))).run Try.prog w = .ok (.bool false) w := by
  rw [bsr_all]
  have h := (run_eql_arr w sumT Try.underlying5 (by kernel_rfl) (dgl F) (dgl F) (dgl_len _) (dgl_len _)).2
  simpa using h
theorem eql_self (F : St) (w : World) : (binOp .eql 25 (.agg (bsr F 32)) (.agg (bsr F 32))).run Try.prog w = .ok (.bool true) w := by
  rw [eql_bsr]; simp
theorem eqg_bsr (F G : St) (o x y) (w : World) : (eqGuard o 25 x y (.agg (bsr F 32)) (.agg (bsr G 32))).run Try.prog w = .ok () w := run_eqGuard w o x y _ _ (by kernel_rfl)
/-- The state that New hands out. -/
theorem new_row (w : World) : Row (w.alloc (.cells (sc (fun _ => 0) 0) 44)) w.heap.size 44 (sc (feed st0 []).1 (feed st0 []).2) := Row.new _ _ _
/-- Bytes written into a state that has bytes. -/
theorem write_fp (g : Nat) (xs : List UInt8) (A : Option Addr) (n cap : Nat) (bs : List UInt8) (w : World) (hs : Row w g 44 (sc (feed st0 xs).1 (feed st0 xs).2)) (hn : bs.length = n) (hl : n ≤ 140737488351232) (hbs : Bs w A bs) (hA : bs = [] ∨ ∀ ad, A = some ad → ad.block ≠ g) :
    Calls Try.prog 13 #[.pointer (some ⟨g, 0, none⟩), .slice A n cap] w fun e w' => e = .returned (.tuple #[]) ∧ Row w' g 44 (sc (feed st0 (xs ++ bs)).1 (feed st0 (xs ++ bs)).2) ∧ w.grownBy w' (some g) := by
  subst hn
  have h := write_any g _ _ A cap bs w hs (feed_lt _ _ (by decide)) hl hbs hA
  rw [feed_append]
  exact h
end Go.Proofs.Ytjpidkamgkpehaa
