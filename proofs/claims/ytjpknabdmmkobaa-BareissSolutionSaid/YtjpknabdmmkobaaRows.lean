/-
  No cell of these rows narrows 'for every input' (looked for: loops, veiled, ifaces, maps, wideKeys, modest, calm, conditions, laid).
  DERIVED. THE GIVEN ROWS OF THIS SEAT. 10 by the template 'for every input the law returns true; each argument reads behind the call as it read before'; 0 by the template 'total and deterministic' (their statements: YtjpknabdmmkobaaTotals.lean).
  GIVEN WITH THE SEED: the statements are not yours to turn. If you find one false, say at which input.
  Laid BY PROGRAM, IN A SANDBOX (cutbox-rows.mjs): the forced cells as the released guide's own fill.sh prints them over the translation a573d1484bf06c6f… (all of the seat's roots in one cut). By AI agents, Wed Nov 11 2026. No macro, syntax, notation, axiom, sorry.
-/
import Derived.Test.YtjpknabdmmkobaaChecked
import GoSem.Claim
import GoSem.ClaimJoined
import GoSem.ClaimMapViews
import Derived.JoinedTies
import Derived.KernelRfl
namespace Go.Proofs.Ytjpknabdmmkobaa
/- THE CELL 'sum', in the pinned program and in every row, IS THE sha256 OF THE DUMP (.gsa) THAT YtjpknabdmmkobaaProg.lean LOADS. Nothing in Lean hashes anything: it is a label: what it is worth is what the hold of that sum in a sandbox is worth. -/
noncomputable def Try.pinned : Pinned := { name := "ytjpknabdmmkobaa", sum := "a573d1484bf06c6fed6fa8867f579bc10b75e6b48f22239ab71a2ba8a42d40e6", checked := Try.checked }
namespace Rows
def none {H : Type} : Left H := { results := [], args := [] }

/-- 'quadformlaw04.BareissStages': WHATEVER THE INPUT: true; the input reads as it did. -/
def bareissStagesSpec : ChangeSpec := { name := "bareissStages", fn := fun _ => fun
  | [d1, d2] => { results := [.lit (.bool true)], args := [d1, d2] }
  | _ => none }
def bareissStagesRow : OpenClaim := { program := "ytjpknabdmmkobaa", sum := "a573d1484bf06c6fed6fa8867f579bc10b75e6b48f22239ab71a2ba8a42d40e6", func := "quadform/quadformlaw04.BareissStages", spec := "bareissStages", unfollowed := true, recurses := true, apart := false }
def BareissStagesSaid : Prop := bareissStagesRow.holds Try.pinned (OpenSpec.ofChange bareissStagesSpec)

/-- ITS FALSE NEIGHBOUR: 'it returns false'. Refute it at one input. -/
def bareissStagesWrong : ChangeSpec := { name := "bareissStages", fn := fun _ => fun
  | [d1, d2] => { results := [.lit (.bool false)], args := [d1, d2] }
  | _ => none }
def BareissStagesWrongFalsely : Prop := bareissStagesRow.holds Try.pinned (OpenSpec.ofChange bareissStagesWrong)

/-- 'quadformlaw04.BareissRecurrence': WHATEVER THE INPUT: true; the input reads as it did. -/
def bareissRecurrenceSpec : ChangeSpec := { name := "bareissRecurrence", fn := fun _ => fun
  | [d] => { results := [.lit (.bool true)], args := [d] }
  | _ => none }
def bareissRecurrenceRow : OpenClaim := { program := "ytjpknabdmmkobaa", sum := "a573d1484bf06c6fed6fa8867f579bc10b75e6b48f22239ab71a2ba8a42d40e6", func := "quadform/quadformlaw04.BareissRecurrence", spec := "bareissRecurrence", unfollowed := true, recurses := true, apart := false }
def BareissRecurrenceSaid : Prop := bareissRecurrenceRow.holds Try.pinned (OpenSpec.ofChange bareissRecurrenceSpec)

/-- ITS FALSE NEIGHBOUR: 'it returns false'. Refute it at one input. -/
def bareissRecurrenceWrong : ChangeSpec := { name := "bareissRecurrence", fn := fun _ => fun
  | [d] => { results := [.lit (.bool false)], args := [d] }
  | _ => none }
def BareissRecurrenceWrongFalsely : Prop := bareissRecurrenceRow.holds Try.pinned (OpenSpec.ofChange bareissRecurrenceWrong)

/-- 'quadformlaw04.BareissLeading': WHATEVER THE INPUT: true; the input reads as it did. -/
def bareissLeadingSpec : ChangeSpec := { name := "bareissLeading", fn := fun _ => fun
  | [d1, d2] => { results := [.lit (.bool true)], args := [d1, d2] }
  | _ => none }
def bareissLeadingRow : OpenClaim := { program := "ytjpknabdmmkobaa", sum := "a573d1484bf06c6fed6fa8867f579bc10b75e6b48f22239ab71a2ba8a42d40e6", func := "quadform/quadformlaw04.BareissLeading", spec := "bareissLeading", unfollowed := true, recurses := true, apart := false }
def BareissLeadingSaid : Prop := bareissLeadingRow.holds Try.pinned (OpenSpec.ofChange bareissLeadingSpec)

/-- ITS FALSE NEIGHBOUR: 'it returns false'. Refute it at one input. -/
def bareissLeadingWrong : ChangeSpec := { name := "bareissLeading", fn := fun _ => fun
  | [d1, d2] => { results := [.lit (.bool false)], args := [d1, d2] }
  | _ => none }
def BareissLeadingWrongFalsely : Prop := bareissLeadingRow.holds Try.pinned (OpenSpec.ofChange bareissLeadingWrong)

/-- 'quadformlaw04.BareissSolves': WHATEVER THE INPUT: true; the input reads as it did. -/
def bareissSolvesSpec : ChangeSpec := { name := "bareissSolves", fn := fun _ => fun
  | [d1, d2, d3, d4] => { results := [.lit (.bool true)], args := [d1, d2, d3, d4] }
  | _ => none }
def bareissSolvesRow : OpenClaim := { program := "ytjpknabdmmkobaa", sum := "a573d1484bf06c6fed6fa8867f579bc10b75e6b48f22239ab71a2ba8a42d40e6", func := "quadform/quadformlaw04.BareissSolves", spec := "bareissSolves", unfollowed := true, recurses := true, apart := false }
def BareissSolvesSaid : Prop := bareissSolvesRow.holds Try.pinned (OpenSpec.ofChange bareissSolvesSpec)

/-- ITS FALSE NEIGHBOUR: 'it returns false'. Refute it at one input. -/
def bareissSolvesWrong : ChangeSpec := { name := "bareissSolves", fn := fun _ => fun
  | [d1, d2, d3, d4] => { results := [.lit (.bool false)], args := [d1, d2, d3, d4] }
  | _ => none }
def BareissSolvesWrongFalsely : Prop := bareissSolvesRow.holds Try.pinned (OpenSpec.ofChange bareissSolvesWrong)

/-- 'quadformlaw04.BareissSolution': WHATEVER THE INPUT: true; the input reads as it did. -/
def bareissSolutionSpec : ChangeSpec := { name := "bareissSolution", fn := fun _ => fun
  | [d1, d2] => { results := [.lit (.bool true)], args := [d1, d2] }
  | _ => none }
def bareissSolutionRow : OpenClaim := { program := "ytjpknabdmmkobaa", sum := "a573d1484bf06c6fed6fa8867f579bc10b75e6b48f22239ab71a2ba8a42d40e6", func := "quadform/quadformlaw04.BareissSolution", spec := "bareissSolution", unfollowed := true, recurses := true, apart := false }
def BareissSolutionSaid : Prop := bareissSolutionRow.holds Try.pinned (OpenSpec.ofChange bareissSolutionSpec)

/-- ITS FALSE NEIGHBOUR: 'it returns false'. Refute it at one input. -/
def bareissSolutionWrong : ChangeSpec := { name := "bareissSolution", fn := fun _ => fun
  | [d1, d2] => { results := [.lit (.bool false)], args := [d1, d2] }
  | _ => none }
def BareissSolutionWrongFalsely : Prop := bareissSolutionRow.holds Try.pinned (OpenSpec.ofChange bareissSolutionWrong)

/-- 'quadformlaw04.BareissDefinite': WHATEVER THE INPUT: true; the input reads as it did. -/
def bareissDefiniteSpec : ChangeSpec := { name := "bareissDefinite", fn := fun _ => fun
  | [d1, d2, d3] => { results := [.lit (.bool true)], args := [d1, d2, d3] }
  | _ => none }
def bareissDefiniteRow : OpenClaim := { program := "ytjpknabdmmkobaa", sum := "a573d1484bf06c6fed6fa8867f579bc10b75e6b48f22239ab71a2ba8a42d40e6", func := "quadform/quadformlaw04.BareissDefinite", spec := "bareissDefinite", unfollowed := true, recurses := true, apart := false }
def BareissDefiniteSaid : Prop := bareissDefiniteRow.holds Try.pinned (OpenSpec.ofChange bareissDefiniteSpec)

/-- ITS FALSE NEIGHBOUR: 'it returns false'. Refute it at one input. -/
def bareissDefiniteWrong : ChangeSpec := { name := "bareissDefinite", fn := fun _ => fun
  | [d1, d2, d3] => { results := [.lit (.bool false)], args := [d1, d2, d3] }
  | _ => none }
def BareissDefiniteWrongFalsely : Prop := bareissDefiniteRow.holds Try.pinned (OpenSpec.ofChange bareissDefiniteWrong)

/-- 'quadformlaw04.BareissNorms': WHATEVER THE INPUT: true; the input reads as it did. -/
def bareissNormsSpec : ChangeSpec := { name := "bareissNorms", fn := fun _ => fun
  | [d1, d2] => { results := [.lit (.bool true)], args := [d1, d2] }
  | _ => none }
def bareissNormsRow : OpenClaim := { program := "ytjpknabdmmkobaa", sum := "a573d1484bf06c6fed6fa8867f579bc10b75e6b48f22239ab71a2ba8a42d40e6", func := "quadform/quadformlaw04.BareissNorms", spec := "bareissNorms", unfollowed := true, recurses := true, apart := false }
def BareissNormsSaid : Prop := bareissNormsRow.holds Try.pinned (OpenSpec.ofChange bareissNormsSpec)

/-- ITS FALSE NEIGHBOUR: 'it returns false'. Refute it at one input. -/
def bareissNormsWrong : ChangeSpec := { name := "bareissNorms", fn := fun _ => fun
  | [d1, d2] => { results := [.lit (.bool false)], args := [d1, d2] }
  | _ => none }
def BareissNormsWrongFalsely : Prop := bareissNormsRow.holds Try.pinned (OpenSpec.ofChange bareissNormsWrong)

/-- 'quadformlaw04.BareissSchur': WHATEVER THE INPUT: true; the input reads as it did. -/
def bareissSchurSpec : ChangeSpec := { name := "bareissSchur", fn := fun _ => fun
  | [d1, d2, d3] => { results := [.lit (.bool true)], args := [d1, d2, d3] }
  | _ => none }
def bareissSchurRow : OpenClaim := { program := "ytjpknabdmmkobaa", sum := "a573d1484bf06c6fed6fa8867f579bc10b75e6b48f22239ab71a2ba8a42d40e6", func := "quadform/quadformlaw04.BareissSchur", spec := "bareissSchur", unfollowed := true, recurses := true, apart := false }
def BareissSchurSaid : Prop := bareissSchurRow.holds Try.pinned (OpenSpec.ofChange bareissSchurSpec)

/-- ITS FALSE NEIGHBOUR: 'it returns false'. Refute it at one input. -/
def bareissSchurWrong : ChangeSpec := { name := "bareissSchur", fn := fun _ => fun
  | [d1, d2, d3] => { results := [.lit (.bool false)], args := [d1, d2, d3] }
  | _ => none }
def BareissSchurWrongFalsely : Prop := bareissSchurRow.holds Try.pinned (OpenSpec.ofChange bareissSchurWrong)

/-- 'quadformlaw04.BareissRanks': WHATEVER THE INPUT: true; the input reads as it did. -/
def bareissRanksSpec : ChangeSpec := { name := "bareissRanks", fn := fun _ => fun
  | [d1, d2] => { results := [.lit (.bool true)], args := [d1, d2] }
  | _ => none }
def bareissRanksRow : OpenClaim := { program := "ytjpknabdmmkobaa", sum := "a573d1484bf06c6fed6fa8867f579bc10b75e6b48f22239ab71a2ba8a42d40e6", func := "quadform/quadformlaw04.BareissRanks", spec := "bareissRanks", unfollowed := true, recurses := true, apart := false }
def BareissRanksSaid : Prop := bareissRanksRow.holds Try.pinned (OpenSpec.ofChange bareissRanksSpec)

/-- ITS FALSE NEIGHBOUR: 'it returns false'. Refute it at one input. -/
def bareissRanksWrong : ChangeSpec := { name := "bareissRanks", fn := fun _ => fun
  | [d1, d2] => { results := [.lit (.bool false)], args := [d1, d2] }
  | _ => none }
def BareissRanksWrongFalsely : Prop := bareissRanksRow.holds Try.pinned (OpenSpec.ofChange bareissRanksWrong)

/-- 'quadformlaw04.BareissLowRank': WHATEVER THE INPUT: true; the input reads as it did. -/
def bareissLowRankSpec : ChangeSpec := { name := "bareissLowRank", fn := fun _ => fun
  | [d1, d2] => { results := [.lit (.bool true)], args := [d1, d2] }
  | _ => none }
def bareissLowRankRow : OpenClaim := { program := "ytjpknabdmmkobaa", sum := "a573d1484bf06c6fed6fa8867f579bc10b75e6b48f22239ab71a2ba8a42d40e6", func := "quadform/quadformlaw04.BareissLowRank", spec := "bareissLowRank", unfollowed := true, recurses := true, apart := false }
def BareissLowRankSaid : Prop := bareissLowRankRow.holds Try.pinned (OpenSpec.ofChange bareissLowRankSpec)

/-- ITS FALSE NEIGHBOUR: 'it returns false'. Refute it at one input. -/
def bareissLowRankWrong : ChangeSpec := { name := "bareissLowRank", fn := fun _ => fun
  | [d1, d2] => { results := [.lit (.bool false)], args := [d1, d2] }
  | _ => none }
def BareissLowRankWrongFalsely : Prop := bareissLowRankRow.holds Try.pinned (OpenSpec.ofChange bareissLowRankWrong)

/- THE SECOND FORM. 'bulk': how many values and letters a reading holds, each counted each time it is reached (what is shared counts as often as it is met; a slice's spare places count too). A statement '..UptoSaid' is the law's where the arguments, and the package variables that the reading takes, are together of bulk at most 1048576: NARROWER than '..Said'. Prove '..Said' where nothing that the law and all that it calls make is longer than what came in: it says more and counts as full. Else prove '..UptoSaid'. A law counts once. -/
mutual
def uptoBulk {H : Type} : DataW H → Nat
  | .lit (.string bytes) => bytes.length + 1
  | .lit _ => 1
  | .nil => 1
  | .ptr d => uptoBulk d + 1
  | .slice elems spare => uptoBulkAll elems + uptoBulkAll spare + 1
  | .agg parts => uptoBulkAll parts + 1
  | .iface _ d => uptoBulk d + 1
  | .map entries => uptoBulkEntries entries + 1
  | .held _ => 1
def uptoBulkAll {H : Type} : List (DataW H) → Nat
  | [] => 0
  | d :: r => uptoBulk d + uptoBulkAll r
def uptoBulkEntries {H : Type} : List (Lit × DataW H) → Nat
  | [] => 0
  | x :: r => uptoBulkEntry x + uptoBulkEntries r
def uptoBulkEntry {H : Type} : Lit × DataW H → Nat
  | (.string bytes, d) => bytes.length + uptoBulk d + 1
  | (_, d) => uptoBulk d + 1
 end
def uptoSmall : (H : Type) → List (DataW H) → Bool := fun _ ds => decide (uptoBulkAll ds ≤ 1048576)
def OpenSpec.upto (s : _root_.Go.ChangeSpec) : _root_.Go.OpenSpec := { _root_.Go.OpenSpec.ofChange s with cond := some uptoSmall }

/-- 'quadformlaw04.BareissStages', WHERE WHAT IT READS IS OF BULK AT MOST 1048576: true; the input reads as it did. -/
def bareissStagesUptoRow : OpenClaim := { program := "ytjpknabdmmkobaa", sum := "a573d1484bf06c6fed6fa8867f579bc10b75e6b48f22239ab71a2ba8a42d40e6", func := "quadform/quadformlaw04.BareissStages", spec := "bareissStages", unfollowed := true, recurses := true, apart := false, narrowed := true }
def BareissStagesUptoSaid : Prop := bareissStagesUptoRow.holds Try.pinned (OpenSpec.upto bareissStagesSpec)

/-- 'quadformlaw04.BareissRecurrence', WHERE WHAT IT READS IS OF BULK AT MOST 1048576: true; the input reads as it did. -/
def bareissRecurrenceUptoRow : OpenClaim := { program := "ytjpknabdmmkobaa", sum := "a573d1484bf06c6fed6fa8867f579bc10b75e6b48f22239ab71a2ba8a42d40e6", func := "quadform/quadformlaw04.BareissRecurrence", spec := "bareissRecurrence", unfollowed := true, recurses := true, apart := false, narrowed := true }
def BareissRecurrenceUptoSaid : Prop := bareissRecurrenceUptoRow.holds Try.pinned (OpenSpec.upto bareissRecurrenceSpec)

/-- 'quadformlaw04.BareissLeading', WHERE WHAT IT READS IS OF BULK AT MOST 1048576: true; the input reads as it did. -/
def bareissLeadingUptoRow : OpenClaim := { program := "ytjpknabdmmkobaa", sum := "a573d1484bf06c6fed6fa8867f579bc10b75e6b48f22239ab71a2ba8a42d40e6", func := "quadform/quadformlaw04.BareissLeading", spec := "bareissLeading", unfollowed := true, recurses := true, apart := false, narrowed := true }
def BareissLeadingUptoSaid : Prop := bareissLeadingUptoRow.holds Try.pinned (OpenSpec.upto bareissLeadingSpec)

/-- 'quadformlaw04.BareissSolves', WHERE WHAT IT READS IS OF BULK AT MOST 1048576: true; the input reads as it did. -/
def bareissSolvesUptoRow : OpenClaim := { program := "ytjpknabdmmkobaa", sum := "a573d1484bf06c6fed6fa8867f579bc10b75e6b48f22239ab71a2ba8a42d40e6", func := "quadform/quadformlaw04.BareissSolves", spec := "bareissSolves", unfollowed := true, recurses := true, apart := false, narrowed := true }
def BareissSolvesUptoSaid : Prop := bareissSolvesUptoRow.holds Try.pinned (OpenSpec.upto bareissSolvesSpec)

/-- 'quadformlaw04.BareissSolution', WHERE WHAT IT READS IS OF BULK AT MOST 1048576: true; the input reads as it did. -/
def bareissSolutionUptoRow : OpenClaim := { program := "ytjpknabdmmkobaa", sum := "a573d1484bf06c6fed6fa8867f579bc10b75e6b48f22239ab71a2ba8a42d40e6", func := "quadform/quadformlaw04.BareissSolution", spec := "bareissSolution", unfollowed := true, recurses := true, apart := false, narrowed := true }
def BareissSolutionUptoSaid : Prop := bareissSolutionUptoRow.holds Try.pinned (OpenSpec.upto bareissSolutionSpec)

/-- 'quadformlaw04.BareissDefinite', WHERE WHAT IT READS IS OF BULK AT MOST 1048576: true; the input reads as it did. -/
def bareissDefiniteUptoRow : OpenClaim := { program := "ytjpknabdmmkobaa", sum := "a573d1484bf06c6fed6fa8867f579bc10b75e6b48f22239ab71a2ba8a42d40e6", func := "quadform/quadformlaw04.BareissDefinite", spec := "bareissDefinite", unfollowed := true, recurses := true, apart := false, narrowed := true }
def BareissDefiniteUptoSaid : Prop := bareissDefiniteUptoRow.holds Try.pinned (OpenSpec.upto bareissDefiniteSpec)

/-- 'quadformlaw04.BareissNorms', WHERE WHAT IT READS IS OF BULK AT MOST 1048576: true; the input reads as it did. -/
def bareissNormsUptoRow : OpenClaim := { program := "ytjpknabdmmkobaa", sum := "a573d1484bf06c6fed6fa8867f579bc10b75e6b48f22239ab71a2ba8a42d40e6", func := "quadform/quadformlaw04.BareissNorms", spec := "bareissNorms", unfollowed := true, recurses := true, apart := false, narrowed := true }
def BareissNormsUptoSaid : Prop := bareissNormsUptoRow.holds Try.pinned (OpenSpec.upto bareissNormsSpec)

/-- 'quadformlaw04.BareissSchur', WHERE WHAT IT READS IS OF BULK AT MOST 1048576: true; the input reads as it did. -/
def bareissSchurUptoRow : OpenClaim := { program := "ytjpknabdmmkobaa", sum := "a573d1484bf06c6fed6fa8867f579bc10b75e6b48f22239ab71a2ba8a42d40e6", func := "quadform/quadformlaw04.BareissSchur", spec := "bareissSchur", unfollowed := true, recurses := true, apart := false, narrowed := true }
def BareissSchurUptoSaid : Prop := bareissSchurUptoRow.holds Try.pinned (OpenSpec.upto bareissSchurSpec)

/-- 'quadformlaw04.BareissRanks', WHERE WHAT IT READS IS OF BULK AT MOST 1048576: true; the input reads as it did. -/
def bareissRanksUptoRow : OpenClaim := { program := "ytjpknabdmmkobaa", sum := "a573d1484bf06c6fed6fa8867f579bc10b75e6b48f22239ab71a2ba8a42d40e6", func := "quadform/quadformlaw04.BareissRanks", spec := "bareissRanks", unfollowed := true, recurses := true, apart := false, narrowed := true }
def BareissRanksUptoSaid : Prop := bareissRanksUptoRow.holds Try.pinned (OpenSpec.upto bareissRanksSpec)

/-- 'quadformlaw04.BareissLowRank', WHERE WHAT IT READS IS OF BULK AT MOST 1048576: true; the input reads as it did. -/
def bareissLowRankUptoRow : OpenClaim := { program := "ytjpknabdmmkobaa", sum := "a573d1484bf06c6fed6fa8867f579bc10b75e6b48f22239ab71a2ba8a42d40e6", func := "quadform/quadformlaw04.BareissLowRank", spec := "bareissLowRank", unfollowed := true, recurses := true, apart := false, narrowed := true }
def BareissLowRankUptoSaid : Prop := bareissLowRankUptoRow.holds Try.pinned (OpenSpec.upto bareissLowRankSpec)

end Rows
end Go.Proofs.Ytjpknabdmmkobaa
