/-
  No cell of these rows narrows 'for every input' (looked for: loops, veiled, ifaces, maps, wideKeys, modest, calm, conditions, laid).
  DERIVED. THE GIVEN ROWS OF THIS SEAT. 6 by the template 'for every input the law returns true; each argument reads behind the call as it read before'; 0 by the template 'total and deterministic' (their statements: YthpdindonopblaaGreatTotals.lean).
  GIVEN WITH THE SEED: the statements are not yours to turn. If you find one false, say at which input.
  Laid BY PROGRAM, IN A SANDBOX (cutbox-rows.mjs): the forced cells as the released guide's own fill.sh prints them over the translation a4647fa4dd01ecdd… (all of the seat's roots in one cut). By AI agents, Wed Nov 11 2026. No macro, syntax, notation, axiom, sorry.
-/
import Derived.Test.YthpdindonopblaaGreatChecked
import GoSem.Claim
import GoSem.ClaimJoined
import GoSem.ClaimMapViews
import Derived.JoinedTies
import Derived.KernelRfl
namespace Go.Proofs.YthpdindonopblaaGreat
/- THE CELL 'sum', in the pinned program and in every row, IS THE sha256 OF THE DUMP (.gsa) THAT YthpdindonopblaaGreatProg.lean LOADS. Nothing in Lean hashes anything: it is a label: what it is worth is what the hold of that sum in a sandbox is worth. -/
noncomputable def Tryz.pinned : Pinned := { name := "ythpdindonopblaagreat", sum := "a4647fa4dd01ecdd52f243be86030fd150e292b4a41803fc083d994f1e52529d", checked := Tryz.checked }
namespace Rows
def none {H : Type} : Left H := { results := [], args := [] }

/-- 'robuststatslaw30.PermutationTails': WHATEVER THE INPUT: true; the input reads as it did. -/
def permutationTailsSpec : ChangeSpec := { name := "permutationTails", fn := fun _ => fun
  | [d1, d2, d3, d4] => { results := [.lit (.bool true)], args := [d1, d2, d3, d4] }
  | _ => none }
def permutationTailsRow : OpenClaim := { program := "ythpdindonopblaagreat", sum := "a4647fa4dd01ecdd52f243be86030fd150e292b4a41803fc083d994f1e52529d", func := "robuststats/robuststatslaw30.PermutationTails", spec := "permutationTails", named := ["math/bits.overflowError"], apart := false }
def PermutationTailsSaid : Prop := permutationTailsRow.holds Tryz.pinned (OpenSpec.ofChange permutationTailsSpec)

/-- ITS FALSE NEIGHBOUR: 'it returns false'. Refute it at one input. -/
def permutationTailsWrong : ChangeSpec := { name := "permutationTails", fn := fun _ => fun
  | [d1, d2, d3, d4] => { results := [.lit (.bool false)], args := [d1, d2, d3, d4] }
  | _ => none }
def PermutationTailsWrongFalsely : Prop := permutationTailsRow.holds Tryz.pinned (OpenSpec.ofChange permutationTailsWrong)

/-- 'robuststatslaw30.PermutationCounts': WHATEVER THE INPUT: true; the input reads as it did. -/
def permutationCountsSpec : ChangeSpec := { name := "permutationCounts", fn := fun _ => fun
  | [d] => { results := [.lit (.bool true)], args := [d] }
  | _ => none }
def permutationCountsRow : OpenClaim := { program := "ythpdindonopblaagreat", sum := "a4647fa4dd01ecdd52f243be86030fd150e292b4a41803fc083d994f1e52529d", func := "robuststats/robuststatslaw30.PermutationCounts", spec := "permutationCounts", named := ["math/bits.overflowError"], apart := false }
def PermutationCountsSaid : Prop := permutationCountsRow.holds Tryz.pinned (OpenSpec.ofChange permutationCountsSpec)

/-- ITS FALSE NEIGHBOUR: 'it returns false'. Refute it at one input. -/
def permutationCountsWrong : ChangeSpec := { name := "permutationCounts", fn := fun _ => fun
  | [d] => { results := [.lit (.bool false)], args := [d] }
  | _ => none }
def PermutationCountsWrongFalsely : Prop := permutationCountsRow.holds Tryz.pinned (OpenSpec.ofChange permutationCountsWrong)

/-- 'robuststatslaw30.PermutationMoves': WHATEVER THE INPUT: true; the input reads as it did. -/
def permutationMovesSpec : ChangeSpec := { name := "permutationMoves", fn := fun _ => fun
  | [d] => { results := [.lit (.bool true)], args := [d] }
  | _ => none }
def permutationMovesRow : OpenClaim := { program := "ythpdindonopblaagreat", sum := "a4647fa4dd01ecdd52f243be86030fd150e292b4a41803fc083d994f1e52529d", func := "robuststats/robuststatslaw30.PermutationMoves", spec := "permutationMoves", named := ["math/bits.overflowError"], apart := false }
def PermutationMovesSaid : Prop := permutationMovesRow.holds Tryz.pinned (OpenSpec.ofChange permutationMovesSpec)

/-- ITS FALSE NEIGHBOUR: 'it returns false'. Refute it at one input. -/
def permutationMovesWrong : ChangeSpec := { name := "permutationMoves", fn := fun _ => fun
  | [d] => { results := [.lit (.bool false)], args := [d] }
  | _ => none }
def PermutationMovesWrongFalsely : Prop := permutationMovesRow.holds Tryz.pinned (OpenSpec.ofChange permutationMovesWrong)

/-- 'robuststatslaw30.PermutationLists': WHATEVER THE INPUT: true; the input reads as it did. -/
def permutationListsSpec : ChangeSpec := { name := "permutationLists", fn := fun _ => fun
  | [d1, d2] => { results := [.lit (.bool true)], args := [d1, d2] }
  | _ => none }
def permutationListsRow : OpenClaim := { program := "ythpdindonopblaagreat", sum := "a4647fa4dd01ecdd52f243be86030fd150e292b4a41803fc083d994f1e52529d", func := "robuststats/robuststatslaw30.PermutationLists", spec := "permutationLists", named := ["math/bits.overflowError"], apart := false }
def PermutationListsSaid : Prop := permutationListsRow.holds Tryz.pinned (OpenSpec.ofChange permutationListsSpec)

/-- ITS FALSE NEIGHBOUR: 'it returns false'. Refute it at one input. -/
def permutationListsWrong : ChangeSpec := { name := "permutationLists", fn := fun _ => fun
  | [d1, d2] => { results := [.lit (.bool false)], args := [d1, d2] }
  | _ => none }
def PermutationListsWrongFalsely : Prop := permutationListsRow.holds Tryz.pinned (OpenSpec.ofChange permutationListsWrong)

/-- 'robuststatslaw30.PermutationSmall': WHATEVER THE INPUT: true; the input reads as it did. -/
def permutationSmallSpec : ChangeSpec := { name := "permutationSmall", fn := fun _ => fun
  | [d1, d2, d3] => { results := [.lit (.bool true)], args := [d1, d2, d3] }
  | _ => none }
def permutationSmallRow : OpenClaim := { program := "ythpdindonopblaagreat", sum := "a4647fa4dd01ecdd52f243be86030fd150e292b4a41803fc083d994f1e52529d", func := "robuststats/robuststatslaw30.PermutationSmall", spec := "permutationSmall", named := ["math/bits.overflowError"], apart := false }
def PermutationSmallSaid : Prop := permutationSmallRow.holds Tryz.pinned (OpenSpec.ofChange permutationSmallSpec)

/-- ITS FALSE NEIGHBOUR: 'it returns false'. Refute it at one input. -/
def permutationSmallWrong : ChangeSpec := { name := "permutationSmall", fn := fun _ => fun
  | [d1, d2, d3] => { results := [.lit (.bool false)], args := [d1, d2, d3] }
  | _ => none }
def PermutationSmallWrongFalsely : Prop := permutationSmallRow.holds Tryz.pinned (OpenSpec.ofChange permutationSmallWrong)

/-- 'robuststatslaw30.PermutationTotals': WHATEVER THE INPUT: true; the input reads as it did. -/
def permutationTotalsSpec : ChangeSpec := { name := "permutationTotals", fn := fun _ => fun
  | [d] => { results := [.lit (.bool true)], args := [d] }
  | _ => none }
def permutationTotalsRow : OpenClaim := { program := "ythpdindonopblaagreat", sum := "a4647fa4dd01ecdd52f243be86030fd150e292b4a41803fc083d994f1e52529d", func := "robuststats/robuststatslaw30.PermutationTotals", spec := "permutationTotals", named := ["math/bits.overflowError"], apart := false }
def PermutationTotalsSaid : Prop := permutationTotalsRow.holds Tryz.pinned (OpenSpec.ofChange permutationTotalsSpec)

/-- ITS FALSE NEIGHBOUR: 'it returns false'. Refute it at one input. -/
def permutationTotalsWrong : ChangeSpec := { name := "permutationTotals", fn := fun _ => fun
  | [d] => { results := [.lit (.bool false)], args := [d] }
  | _ => none }
def PermutationTotalsWrongFalsely : Prop := permutationTotalsRow.holds Tryz.pinned (OpenSpec.ofChange permutationTotalsWrong)

/- THE SECOND FORM. 'bulk': how many values and letters a reading holds, each counted each time it is reached (what is shared counts as often as it is met; a slice's spare places count too). A statement '..UptoSaid' is the law's where the arguments, and the package variables that the reading takes, are together of bulk at most 1048576: NARROWER than '..Said'. Prove '..Said' where nothing that the law and all that it calls make is longer than what came in: it says more and counts as full. Else prove '..UptoSaid'. A law counts once. -/
mutual
def uptoBulk {H : Type} : DataW H → Nat
  | .lit (.string bytes) => bytes.length + 1
  | .lit _ => 1
  | .nil => 1
  | .ptr d => uptoBulk d + 1
  | .slice elems spare => uptoBulkAll elems + uptoBulkAll spare + 1
  | .agg parts => uptoBulkAll parts + 1
  | .iface _ d => uptoBulk d + 1
  | .map entries => uptoBulkEntries entries + 1
  | .held _ => 1
def uptoBulkAll {H : Type} : List (DataW H) → Nat
  | [] => 0
  | d :: r => uptoBulk d + uptoBulkAll r
def uptoBulkEntries {H : Type} : List (Lit × DataW H) → Nat
  | [] => 0
  | x :: r => uptoBulkEntry x + uptoBulkEntries r
def uptoBulkEntry {H : Type} : Lit × DataW H → Nat
  | (.string bytes, d) => bytes.length + uptoBulk d + 1
  | (_, d) => uptoBulk d + 1
 end
def uptoSmall : (H : Type) → List (DataW H) → Bool := fun _ ds => decide (uptoBulkAll ds ≤ 1048576)
def OpenSpec.upto (s : _root_.Go.ChangeSpec) : _root_.Go.OpenSpec := { _root_.Go.OpenSpec.ofChange s with cond := some uptoSmall }

/-- 'robuststatslaw30.PermutationTails', WHERE WHAT IT READS IS OF BULK AT MOST 1048576: true; the input reads as it did. -/
def permutationTailsUptoRow : OpenClaim := { program := "ythpdindonopblaagreat", sum := "a4647fa4dd01ecdd52f243be86030fd150e292b4a41803fc083d994f1e52529d", func := "robuststats/robuststatslaw30.PermutationTails", spec := "permutationTails", named := ["math/bits.overflowError"], apart := false, narrowed := true }
def PermutationTailsUptoSaid : Prop := permutationTailsUptoRow.holds Tryz.pinned (OpenSpec.upto permutationTailsSpec)

/-- 'robuststatslaw30.PermutationCounts', WHERE WHAT IT READS IS OF BULK AT MOST 1048576: true; the input reads as it did. -/
def permutationCountsUptoRow : OpenClaim := { program := "ythpdindonopblaagreat", sum := "a4647fa4dd01ecdd52f243be86030fd150e292b4a41803fc083d994f1e52529d", func := "robuststats/robuststatslaw30.PermutationCounts", spec := "permutationCounts", named := ["math/bits.overflowError"], apart := false, narrowed := true }
def PermutationCountsUptoSaid : Prop := permutationCountsUptoRow.holds Tryz.pinned (OpenSpec.upto permutationCountsSpec)

/-- 'robuststatslaw30.PermutationMoves', WHERE WHAT IT READS IS OF BULK AT MOST 1048576: true; the input reads as it did. -/
def permutationMovesUptoRow : OpenClaim := { program := "ythpdindonopblaagreat", sum := "a4647fa4dd01ecdd52f243be86030fd150e292b4a41803fc083d994f1e52529d", func := "robuststats/robuststatslaw30.PermutationMoves", spec := "permutationMoves", named := ["math/bits.overflowError"], apart := false, narrowed := true }
def PermutationMovesUptoSaid : Prop := permutationMovesUptoRow.holds Tryz.pinned (OpenSpec.upto permutationMovesSpec)

/-- 'robuststatslaw30.PermutationLists', WHERE WHAT IT READS IS OF BULK AT MOST 1048576: true; the input reads as it did. -/
def permutationListsUptoRow : OpenClaim := { program := "ythpdindonopblaagreat", sum := "a4647fa4dd01ecdd52f243be86030fd150e292b4a41803fc083d994f1e52529d", func := "robuststats/robuststatslaw30.PermutationLists", spec := "permutationLists", named := ["math/bits.overflowError"], apart := false, narrowed := true }
def PermutationListsUptoSaid : Prop := permutationListsUptoRow.holds Tryz.pinned (OpenSpec.upto permutationListsSpec)

/-- 'robuststatslaw30.PermutationSmall', WHERE WHAT IT READS IS OF BULK AT MOST 1048576: true; the input reads as it did. -/
def permutationSmallUptoRow : OpenClaim := { program := "ythpdindonopblaagreat", sum := "a4647fa4dd01ecdd52f243be86030fd150e292b4a41803fc083d994f1e52529d", func := "robuststats/robuststatslaw30.PermutationSmall", spec := "permutationSmall", named := ["math/bits.overflowError"], apart := false, narrowed := true }
def PermutationSmallUptoSaid : Prop := permutationSmallUptoRow.holds Tryz.pinned (OpenSpec.upto permutationSmallSpec)

/-- 'robuststatslaw30.PermutationTotals', WHERE WHAT IT READS IS OF BULK AT MOST 1048576: true; the input reads as it did. -/
def permutationTotalsUptoRow : OpenClaim := { program := "ythpdindonopblaagreat", sum := "a4647fa4dd01ecdd52f243be86030fd150e292b4a41803fc083d994f1e52529d", func := "robuststats/robuststatslaw30.PermutationTotals", spec := "permutationTotals", named := ["math/bits.overflowError"], apart := false, narrowed := true }
def PermutationTotalsUptoSaid : Prop := permutationTotalsUptoRow.holds Tryz.pinned (OpenSpec.upto permutationTotalsSpec)

end Rows
end Go.Proofs.YthpdindonopblaaGreat
