/-
  No cell of these rows narrows 'for every input' (looked for: loops, veiled, ifaces, maps, wideKeys, modest, calm, conditions, laid).
  DERIVED. THE GIVEN ROWS OF THIS SEAT. 8 by the template 'for every input the law returns true; each argument reads behind the call as it read before'; 0 by the template 'total and deterministic' (their statements: YtepebebkndfefaaTotals.lean).
  GIVEN WITH THE SEED: the statements are not yours to turn. If you find one false, say at which input.
  Laid BY PROGRAM, IN A SANDBOX (cutbox-rows.mjs): the forced cells as the released guide's own fill.sh prints them over the translation 336d69624d37cb70… (all of the seat's roots in one cut). By AI agents, Wed Nov 11 2026. No macro, syntax, notation, axiom, sorry.
-/
import Derived.Test.YtepebebkndfefaaChecked
import GoSem.Claim
import GoSem.ClaimJoined
import GoSem.ClaimMapViews
import Derived.JoinedTies
import Derived.KernelRfl
namespace Go.Proofs.Ytepebebkndfefaa
/- THE CELL 'sum', in the pinned program and in every row, IS THE sha256 OF THE DUMP (.gsa) THAT YtepebebkndfefaaProg.lean LOADS. Nothing in Lean hashes anything: it is a label: what it is worth is what the hold of that sum in a sandbox is worth. -/
noncomputable def Try.pinned : Pinned := { name := "ytepebebkndfefaa", sum := "336d69624d37cb707a9b1a34a5449e0c558289baea2298ed2fc96c195b2eb105", checked := Try.checked }
namespace Rows
def none {H : Type} : Left H := { results := [], args := [] }

/-- 'pumicelaw03.KeccakTurns': WHATEVER THE INPUT: true; the input reads as it did. -/
def keccakTurnsSpec : ChangeSpec := { name := "keccakTurns", fn := fun _ => fun
  | [d1, d2] => { results := [.lit (.bool true)], args := [d1, d2] }
  | _ => none }
def keccakTurnsRow : OpenClaim := { program := "ytepebebkndfefaa", sum := "336d69624d37cb707a9b1a34a5449e0c558289baea2298ed2fc96c195b2eb105", func := "pumice/pumicelaw03.KeccakTurns", spec := "keccakTurns", apart := false }
def KeccakTurnsSaid : Prop := keccakTurnsRow.holds Try.pinned (OpenSpec.ofChange keccakTurnsSpec)

/-- ITS FALSE NEIGHBOUR: 'it returns false'. Refute it at one input. -/
def keccakTurnsWrong : ChangeSpec := { name := "keccakTurns", fn := fun _ => fun
  | [d1, d2] => { results := [.lit (.bool false)], args := [d1, d2] }
  | _ => none }
def KeccakTurnsWrongFalsely : Prop := keccakTurnsRow.holds Try.pinned (OpenSpec.ofChange keccakTurnsWrong)

/-- 'pumicelaw03.KeccakMarks': WHATEVER THE INPUT: true; the input reads as it did. -/
def keccakMarksSpec : ChangeSpec := { name := "keccakMarks", fn := fun _ => fun
  | [d] => { results := [.lit (.bool true)], args := [d] }
  | _ => none }
def keccakMarksRow : OpenClaim := { program := "ytepebebkndfefaa", sum := "336d69624d37cb707a9b1a34a5449e0c558289baea2298ed2fc96c195b2eb105", func := "pumice/pumicelaw03.KeccakMarks", spec := "keccakMarks", apart := false }
def KeccakMarksSaid : Prop := keccakMarksRow.holds Try.pinned (OpenSpec.ofChange keccakMarksSpec)

/-- ITS FALSE NEIGHBOUR: 'it returns false'. Refute it at one input. -/
def keccakMarksWrong : ChangeSpec := { name := "keccakMarks", fn := fun _ => fun
  | [d] => { results := [.lit (.bool false)], args := [d] }
  | _ => none }
def KeccakMarksWrongFalsely : Prop := keccakMarksRow.holds Try.pinned (OpenSpec.ofChange keccakMarksWrong)

/-- 'pumicelaw03.KeccakPermutes': WHATEVER THE INPUT: true; the input reads as it did. -/
def keccakPermutesSpec : ChangeSpec := { name := "keccakPermutes", fn := fun _ => fun
  | [d] => { results := [.lit (.bool true)], args := [d] }
  | _ => none }
def keccakPermutesRow : OpenClaim := { program := "ytepebebkndfefaa", sum := "336d69624d37cb707a9b1a34a5449e0c558289baea2298ed2fc96c195b2eb105", func := "pumice/pumicelaw03.KeccakPermutes", spec := "keccakPermutes", apart := false }
def KeccakPermutesSaid : Prop := keccakPermutesRow.holds Try.pinned (OpenSpec.ofChange keccakPermutesSpec)

/-- ITS FALSE NEIGHBOUR: 'it returns false'. Refute it at one input. -/
def keccakPermutesWrong : ChangeSpec := { name := "keccakPermutes", fn := fun _ => fun
  | [d] => { results := [.lit (.bool false)], args := [d] }
  | _ => none }
def KeccakPermutesWrongFalsely : Prop := keccakPermutesRow.holds Try.pinned (OpenSpec.ofChange keccakPermutesWrong)

/-- 'pumicelaw03.KeccakUnlike': WHATEVER THE INPUT: true; the input reads as it did. -/
def keccakUnlikeSpec : ChangeSpec := { name := "keccakUnlike", fn := fun _ => fun
  | [d1, d2] => { results := [.lit (.bool true)], args := [d1, d2] }
  | _ => none }
def keccakUnlikeRow : OpenClaim := { program := "ytepebebkndfefaa", sum := "336d69624d37cb707a9b1a34a5449e0c558289baea2298ed2fc96c195b2eb105", func := "pumice/pumicelaw03.KeccakUnlike", spec := "keccakUnlike", apart := false }
def KeccakUnlikeSaid : Prop := keccakUnlikeRow.holds Try.pinned (OpenSpec.ofChange keccakUnlikeSpec)

/-- ITS FALSE NEIGHBOUR: 'it returns false'. Refute it at one input. -/
def keccakUnlikeWrong : ChangeSpec := { name := "keccakUnlike", fn := fun _ => fun
  | [d1, d2] => { results := [.lit (.bool false)], args := [d1, d2] }
  | _ => none }
def KeccakUnlikeWrongFalsely : Prop := keccakUnlikeRow.holds Try.pinned (OpenSpec.ofChange keccakUnlikeWrong)

/-- 'pumicelaw03.KeccakRounds': WHATEVER THE INPUT: true; the input reads as it did. -/
def keccakRoundsSpec : ChangeSpec := { name := "keccakRounds", fn := fun _ => fun
  | [d1, d2] => { results := [.lit (.bool true)], args := [d1, d2] }
  | _ => none }
def keccakRoundsRow : OpenClaim := { program := "ytepebebkndfefaa", sum := "336d69624d37cb707a9b1a34a5449e0c558289baea2298ed2fc96c195b2eb105", func := "pumice/pumicelaw03.KeccakRounds", spec := "keccakRounds", apart := false }
def KeccakRoundsSaid : Prop := keccakRoundsRow.holds Try.pinned (OpenSpec.ofChange keccakRoundsSpec)

/-- ITS FALSE NEIGHBOUR: 'it returns false'. Refute it at one input. -/
def keccakRoundsWrong : ChangeSpec := { name := "keccakRounds", fn := fun _ => fun
  | [d1, d2] => { results := [.lit (.bool false)], args := [d1, d2] }
  | _ => none }
def KeccakRoundsWrongFalsely : Prop := keccakRoundsRow.holds Try.pinned (OpenSpec.ofChange keccakRoundsWrong)

/-- 'pumicelaw03.KeccakGoes': WHATEVER THE INPUT: true; the input reads as it did. -/
def keccakGoesSpec : ChangeSpec := { name := "keccakGoes", fn := fun _ => fun
  | [d] => { results := [.lit (.bool true)], args := [d] }
  | _ => none }
def keccakGoesRow : OpenClaim := { program := "ytepebebkndfefaa", sum := "336d69624d37cb707a9b1a34a5449e0c558289baea2298ed2fc96c195b2eb105", func := "pumice/pumicelaw03.KeccakGoes", spec := "keccakGoes", apart := false }
def KeccakGoesSaid : Prop := keccakGoesRow.holds Try.pinned (OpenSpec.ofChange keccakGoesSpec)

/-- ITS FALSE NEIGHBOUR: 'it returns false'. Refute it at one input. -/
def keccakGoesWrong : ChangeSpec := { name := "keccakGoes", fn := fun _ => fun
  | [d] => { results := [.lit (.bool false)], args := [d] }
  | _ => none }
def KeccakGoesWrongFalsely : Prop := keccakGoesRow.holds Try.pinned (OpenSpec.ofChange keccakGoesWrong)

/-- 'pumicelaw03.KeccakApart': WHATEVER THE INPUT: true; the input reads as it did. -/
def keccakApartSpec : ChangeSpec := { name := "keccakApart", fn := fun _ => fun
  | [d1, d2, d3] => { results := [.lit (.bool true)], args := [d1, d2, d3] }
  | _ => none }
def keccakApartRow : OpenClaim := { program := "ytepebebkndfefaa", sum := "336d69624d37cb707a9b1a34a5449e0c558289baea2298ed2fc96c195b2eb105", func := "pumice/pumicelaw03.KeccakApart", spec := "keccakApart", apart := false }
def KeccakApartSaid : Prop := keccakApartRow.holds Try.pinned (OpenSpec.ofChange keccakApartSpec)

/-- ITS FALSE NEIGHBOUR: 'it returns false'. Refute it at one input. -/
def keccakApartWrong : ChangeSpec := { name := "keccakApart", fn := fun _ => fun
  | [d1, d2, d3] => { results := [.lit (.bool false)], args := [d1, d2, d3] }
  | _ => none }
def KeccakApartWrongFalsely : Prop := keccakApartRow.holds Try.pinned (OpenSpec.ofChange keccakApartWrong)

/-- 'pumicelaw03.KeccakFirst': WHATEVER THE INPUT: true; the input reads as it did. -/
def keccakFirstSpec : ChangeSpec := { name := "keccakFirst", fn := fun _ => fun
  | [d1, d2, d3] => { results := [.lit (.bool true)], args := [d1, d2, d3] }
  | _ => none }
def keccakFirstRow : OpenClaim := { program := "ytepebebkndfefaa", sum := "336d69624d37cb707a9b1a34a5449e0c558289baea2298ed2fc96c195b2eb105", func := "pumice/pumicelaw03.KeccakFirst", spec := "keccakFirst", apart := false }
def KeccakFirstSaid : Prop := keccakFirstRow.holds Try.pinned (OpenSpec.ofChange keccakFirstSpec)

/-- ITS FALSE NEIGHBOUR: 'it returns false'. Refute it at one input. -/
def keccakFirstWrong : ChangeSpec := { name := "keccakFirst", fn := fun _ => fun
  | [d1, d2, d3] => { results := [.lit (.bool false)], args := [d1, d2, d3] }
  | _ => none }
def KeccakFirstWrongFalsely : Prop := keccakFirstRow.holds Try.pinned (OpenSpec.ofChange keccakFirstWrong)

/- THE SECOND FORM. 'bulk': how many values and letters a reading holds, each counted each time it is reached (what is shared counts as often as it is met; a slice's spare places count too). A statement '..UptoSaid' is the law's where the arguments, and the package variables that the reading takes, are together of bulk at most 1048576: NARROWER than '..Said'. Prove '..Said' where nothing that the law and all that it calls make is longer than what came in: it says more and counts as full. Else prove '..UptoSaid'. A law counts once. -/
mutual
def uptoBulk {H : Type} : DataW H → Nat
  | .lit (.string bytes) => bytes.length + 1
  | .lit _ => 1
  | .nil => 1
  | .ptr d => uptoBulk d + 1
  | .slice elems spare => uptoBulkAll elems + uptoBulkAll spare + 1
  | .agg parts => uptoBulkAll parts + 1
  | .iface _ d => uptoBulk d + 1
  | .map entries => uptoBulkEntries entries + 1
  | .held _ => 1
def uptoBulkAll {H : Type} : List (DataW H) → Nat
  | [] => 0
  | d :: r => uptoBulk d + uptoBulkAll r
def uptoBulkEntries {H : Type} : List (Lit × DataW H) → Nat
  | [] => 0
  | x :: r => uptoBulkEntry x + uptoBulkEntries r
def uptoBulkEntry {H : Type} : Lit × DataW H → Nat
  | (.string bytes, d) => bytes.length + uptoBulk d + 1
  | (_, d) => uptoBulk d + 1
 end
def uptoSmall : (H : Type) → List (DataW H) → Bool := fun _ ds => decide (uptoBulkAll ds ≤ 1048576)
def OpenSpec.upto (s : _root_.Go.ChangeSpec) : _root_.Go.OpenSpec := { _root_.Go.OpenSpec.ofChange s with cond := some uptoSmall }

/-- 'pumicelaw03.KeccakTurns', WHERE WHAT IT READS IS OF BULK AT MOST 1048576: true; the input reads as it did. -/
def keccakTurnsUptoRow : OpenClaim := { program := "ytepebebkndfefaa", sum := "336d69624d37cb707a9b1a34a5449e0c558289baea2298ed2fc96c195b2eb105", func := "pumice/pumicelaw03.KeccakTurns", spec := "keccakTurns", apart := false, narrowed := true }
def KeccakTurnsUptoSaid : Prop := keccakTurnsUptoRow.holds Try.pinned (OpenSpec.upto keccakTurnsSpec)

/-- 'pumicelaw03.KeccakMarks', WHERE WHAT IT READS IS OF BULK AT MOST 1048576: true; the input reads as it did. -/
def keccakMarksUptoRow : OpenClaim := { program := "ytepebebkndfefaa", sum := "336d69624d37cb707a9b1a34a5449e0c558289baea2298ed2fc96c195b2eb105", func := "pumice/pumicelaw03.KeccakMarks", spec := "keccakMarks", apart := false, narrowed := true }
def KeccakMarksUptoSaid : Prop := keccakMarksUptoRow.holds Try.pinned (OpenSpec.upto keccakMarksSpec)

/-- 'pumicelaw03.KeccakPermutes', WHERE WHAT IT READS IS OF BULK AT MOST 1048576: true; the input reads as it did. -/
def keccakPermutesUptoRow : OpenClaim := { program := "ytepebebkndfefaa", sum := "336d69624d37cb707a9b1a34a5449e0c558289baea2298ed2fc96c195b2eb105", func := "pumice/pumicelaw03.KeccakPermutes", spec := "keccakPermutes", apart := false, narrowed := true }
def KeccakPermutesUptoSaid : Prop := keccakPermutesUptoRow.holds Try.pinned (OpenSpec.upto keccakPermutesSpec)

/-- 'pumicelaw03.KeccakUnlike', WHERE WHAT IT READS IS OF BULK AT MOST 1048576: true; the input reads as it did. -/
def keccakUnlikeUptoRow : OpenClaim := { program := "ytepebebkndfefaa", sum := "336d69624d37cb707a9b1a34a5449e0c558289baea2298ed2fc96c195b2eb105", func := "pumice/pumicelaw03.KeccakUnlike", spec := "keccakUnlike", apart := false, narrowed := true }
def KeccakUnlikeUptoSaid : Prop := keccakUnlikeUptoRow.holds Try.pinned (OpenSpec.upto keccakUnlikeSpec)

/-- 'pumicelaw03.KeccakRounds', WHERE WHAT IT READS IS OF BULK AT MOST 1048576: true; the input reads as it did. -/
def keccakRoundsUptoRow : OpenClaim := { program := "ytepebebkndfefaa", sum := "336d69624d37cb707a9b1a34a5449e0c558289baea2298ed2fc96c195b2eb105", func := "pumice/pumicelaw03.KeccakRounds", spec := "keccakRounds", apart := false, narrowed := true }
def KeccakRoundsUptoSaid : Prop := keccakRoundsUptoRow.holds Try.pinned (OpenSpec.upto keccakRoundsSpec)

/-- 'pumicelaw03.KeccakGoes', WHERE WHAT IT READS IS OF BULK AT MOST 1048576: true; the input reads as it did. -/
def keccakGoesUptoRow : OpenClaim := { program := "ytepebebkndfefaa", sum := "336d69624d37cb707a9b1a34a5449e0c558289baea2298ed2fc96c195b2eb105", func := "pumice/pumicelaw03.KeccakGoes", spec := "keccakGoes", apart := false, narrowed := true }
def KeccakGoesUptoSaid : Prop := keccakGoesUptoRow.holds Try.pinned (OpenSpec.upto keccakGoesSpec)

/-- 'pumicelaw03.KeccakApart', WHERE WHAT IT READS IS OF BULK AT MOST 1048576: true; the input reads as it did. -/
def keccakApartUptoRow : OpenClaim := { program := "ytepebebkndfefaa", sum := "336d69624d37cb707a9b1a34a5449e0c558289baea2298ed2fc96c195b2eb105", func := "pumice/pumicelaw03.KeccakApart", spec := "keccakApart", apart := false, narrowed := true }
def KeccakApartUptoSaid : Prop := keccakApartUptoRow.holds Try.pinned (OpenSpec.upto keccakApartSpec)

/-- 'pumicelaw03.KeccakFirst', WHERE WHAT IT READS IS OF BULK AT MOST 1048576: true; the input reads as it did. -/
def keccakFirstUptoRow : OpenClaim := { program := "ytepebebkndfefaa", sum := "336d69624d37cb707a9b1a34a5449e0c558289baea2298ed2fc96c195b2eb105", func := "pumice/pumicelaw03.KeccakFirst", spec := "keccakFirst", apart := false, narrowed := true }
def KeccakFirstUptoSaid : Prop := keccakFirstUptoRow.holds Try.pinned (OpenSpec.upto keccakFirstSpec)

end Rows
end Go.Proofs.Ytepebebkndfefaa
