/-
  No cell of these rows narrows 'for every input' (looked for: loops, veiled, ifaces, maps, wideKeys, modest, calm, conditions, laid).
  DERIVED. THE GIVEN ROWS OF THIS SEAT. 7 by the template 'for every input the law returns true; each argument reads behind the call as it read before'; 0 by the template 'total and deterministic' (their statements: YtkfanmghjedgpaaGreatTotals.lean).
  GIVEN WITH THE SEED: the statements are not yours to turn. If you find one false, say at which input.
  Laid BY PROGRAM, IN A SANDBOX (cutbox-rows.mjs): the forced cells as the released guide's own fill.sh prints them over the translation 8d7b669ed63f02e6… (all of the seat's roots in one cut). By AI agents, Wed Nov 11 2026. No macro, syntax, notation, axiom, sorry.
-/
import Derived.Test.YtkfanmghjedgpaaGreatChecked
import GoSem.Claim
import GoSem.ClaimJoined
import GoSem.ClaimMapViews
import Derived.JoinedTies
import Derived.KernelRfl
namespace Go.Proofs.YtkfanmghjedgpaaGreat
/- THE CELL 'sum', in the pinned program and in every row, IS THE sha256 OF THE DUMP (.gsa) THAT YtkfanmghjedgpaaGreatProg.lean LOADS. Nothing in Lean hashes anything: it is a label: what it is worth is what the hold of that sum in a sandbox is worth. -/
noncomputable def Tryz.pinned : Pinned := { name := "ytkfanmghjedgpaagreat", sum := "8d7b669ed63f02e6d9111f7400622dfc2ce2a4bf83bb251540c6e7e77c60c008", checked := Tryz.checked }
namespace Rows
def none {H : Type} : Left H := { results := [], args := [] }

/-- 'robuststatslaw31.RanktestMidranks': WHATEVER THE INPUT: true; the input reads as it did. -/
def ranktestMidranksSpec : ChangeSpec := { name := "ranktestMidranks", fn := fun _ => fun
  | [d1, d2] => { results := [.lit (.bool true)], args := [d1, d2] }
  | _ => none }
def ranktestMidranksRow : OpenClaim := { program := "ytkfanmghjedgpaagreat", sum := "8d7b669ed63f02e6d9111f7400622dfc2ce2a4bf83bb251540c6e7e77c60c008", func := "robuststats/robuststatslaw31.RanktestMidranks", spec := "ranktestMidranks", named := ["math/bits.overflowError"], apart := false }
def RanktestMidranksSaid : Prop := ranktestMidranksRow.holds Tryz.pinned (OpenSpec.ofChange ranktestMidranksSpec)

/-- ITS FALSE NEIGHBOUR: 'it returns false'. Refute it at one input. -/
def ranktestMidranksWrong : ChangeSpec := { name := "ranktestMidranks", fn := fun _ => fun
  | [d1, d2] => { results := [.lit (.bool false)], args := [d1, d2] }
  | _ => none }
def RanktestMidranksWrongFalsely : Prop := ranktestMidranksRow.holds Tryz.pinned (OpenSpec.ofChange ranktestMidranksWrong)

/-- 'robuststatslaw31.RanktestRises': WHATEVER THE INPUT: true; the input reads as it did. -/
def ranktestRisesSpec : ChangeSpec := { name := "ranktestRises", fn := fun _ => fun
  | [d] => { results := [.lit (.bool true)], args := [d] }
  | _ => none }
def ranktestRisesRow : OpenClaim := { program := "ytkfanmghjedgpaagreat", sum := "8d7b669ed63f02e6d9111f7400622dfc2ce2a4bf83bb251540c6e7e77c60c008", func := "robuststats/robuststatslaw31.RanktestRises", spec := "ranktestRises", named := ["math/bits.overflowError"], apart := false }
def RanktestRisesSaid : Prop := ranktestRisesRow.holds Tryz.pinned (OpenSpec.ofChange ranktestRisesSpec)

/-- ITS FALSE NEIGHBOUR: 'it returns false'. Refute it at one input. -/
def ranktestRisesWrong : ChangeSpec := { name := "ranktestRises", fn := fun _ => fun
  | [d] => { results := [.lit (.bool false)], args := [d] }
  | _ => none }
def RanktestRisesWrongFalsely : Prop := ranktestRisesRow.holds Tryz.pinned (OpenSpec.ofChange ranktestRisesWrong)

/-- 'robuststatslaw31.RanktestMeans': WHATEVER THE INPUT: true; the input reads as it did. -/
def ranktestMeansSpec : ChangeSpec := { name := "ranktestMeans", fn := fun _ => fun
  | [d] => { results := [.lit (.bool true)], args := [d] }
  | _ => none }
def ranktestMeansRow : OpenClaim := { program := "ytkfanmghjedgpaagreat", sum := "8d7b669ed63f02e6d9111f7400622dfc2ce2a4bf83bb251540c6e7e77c60c008", func := "robuststats/robuststatslaw31.RanktestMeans", spec := "ranktestMeans", named := ["math/bits.overflowError"], apart := false }
def RanktestMeansSaid : Prop := ranktestMeansRow.holds Tryz.pinned (OpenSpec.ofChange ranktestMeansSpec)

/-- ITS FALSE NEIGHBOUR: 'it returns false'. Refute it at one input. -/
def ranktestMeansWrong : ChangeSpec := { name := "ranktestMeans", fn := fun _ => fun
  | [d] => { results := [.lit (.bool false)], args := [d] }
  | _ => none }
def RanktestMeansWrongFalsely : Prop := ranktestMeansRow.holds Tryz.pinned (OpenSpec.ofChange ranktestMeansWrong)

/-- 'robuststatslaw31.RanktestSums': WHATEVER THE INPUT: true; the input reads as it did. -/
def ranktestSumsSpec : ChangeSpec := { name := "ranktestSums", fn := fun _ => fun
  | [d1, d2, d3] => { results := [.lit (.bool true)], args := [d1, d2, d3] }
  | _ => none }
def ranktestSumsRow : OpenClaim := { program := "ytkfanmghjedgpaagreat", sum := "8d7b669ed63f02e6d9111f7400622dfc2ce2a4bf83bb251540c6e7e77c60c008", func := "robuststats/robuststatslaw31.RanktestSums", spec := "ranktestSums", named := ["math/bits.overflowError"], apart := false }
def RanktestSumsSaid : Prop := ranktestSumsRow.holds Tryz.pinned (OpenSpec.ofChange ranktestSumsSpec)

/-- ITS FALSE NEIGHBOUR: 'it returns false'. Refute it at one input. -/
def ranktestSumsWrong : ChangeSpec := { name := "ranktestSums", fn := fun _ => fun
  | [d1, d2, d3] => { results := [.lit (.bool false)], args := [d1, d2, d3] }
  | _ => none }
def RanktestSumsWrongFalsely : Prop := ranktestSumsRow.holds Tryz.pinned (OpenSpec.ofChange ranktestSumsWrong)

/-- 'robuststatslaw31.RanktestGroups': WHATEVER THE INPUT: true; the input reads as it did. -/
def ranktestGroupsSpec : ChangeSpec := { name := "ranktestGroups", fn := fun _ => fun
  | [d1, d2] => { results := [.lit (.bool true)], args := [d1, d2] }
  | _ => none }
def ranktestGroupsRow : OpenClaim := { program := "ytkfanmghjedgpaagreat", sum := "8d7b669ed63f02e6d9111f7400622dfc2ce2a4bf83bb251540c6e7e77c60c008", func := "robuststats/robuststatslaw31.RanktestGroups", spec := "ranktestGroups", unfollowed := true, recurses := true, named := ["math/bits.overflowError"], apart := false }
def RanktestGroupsSaid : Prop := ranktestGroupsRow.holds Tryz.pinned (OpenSpec.ofChange ranktestGroupsSpec)

/-- ITS FALSE NEIGHBOUR: 'it returns false'. Refute it at one input. -/
def ranktestGroupsWrong : ChangeSpec := { name := "ranktestGroups", fn := fun _ => fun
  | [d1, d2] => { results := [.lit (.bool false)], args := [d1, d2] }
  | _ => none }
def RanktestGroupsWrongFalsely : Prop := ranktestGroupsRow.holds Tryz.pinned (OpenSpec.ofChange ranktestGroupsWrong)

/-- 'robuststatslaw31.RanktestPairs': WHATEVER THE INPUT: true; the input reads as it did. -/
def ranktestPairsSpec : ChangeSpec := { name := "ranktestPairs", fn := fun _ => fun
  | [d] => { results := [.lit (.bool true)], args := [d] }
  | _ => none }
def ranktestPairsRow : OpenClaim := { program := "ytkfanmghjedgpaagreat", sum := "8d7b669ed63f02e6d9111f7400622dfc2ce2a4bf83bb251540c6e7e77c60c008", func := "robuststats/robuststatslaw31.RanktestPairs", spec := "ranktestPairs", unfollowed := true, recurses := true, named := ["math/bits.overflowError"], apart := false }
def RanktestPairsSaid : Prop := ranktestPairsRow.holds Tryz.pinned (OpenSpec.ofChange ranktestPairsSpec)

/-- ITS FALSE NEIGHBOUR: 'it returns false'. Refute it at one input. -/
def ranktestPairsWrong : ChangeSpec := { name := "ranktestPairs", fn := fun _ => fun
  | [d] => { results := [.lit (.bool false)], args := [d] }
  | _ => none }
def RanktestPairsWrongFalsely : Prop := ranktestPairsRow.holds Tryz.pinned (OpenSpec.ofChange ranktestPairsWrong)

/-- 'robuststatslaw31.RanktestOrders': WHATEVER THE INPUT: true; the input reads as it did. -/
def ranktestOrdersSpec : ChangeSpec := { name := "ranktestOrders", fn := fun _ => fun
  | [d1, d2, d3] => { results := [.lit (.bool true)], args := [d1, d2, d3] }
  | _ => none }
def ranktestOrdersRow : OpenClaim := { program := "ytkfanmghjedgpaagreat", sum := "8d7b669ed63f02e6d9111f7400622dfc2ce2a4bf83bb251540c6e7e77c60c008", func := "robuststats/robuststatslaw31.RanktestOrders", spec := "ranktestOrders", unfollowed := true, recurses := true, named := ["math/bits.overflowError"], apart := false }
def RanktestOrdersSaid : Prop := ranktestOrdersRow.holds Tryz.pinned (OpenSpec.ofChange ranktestOrdersSpec)

/-- ITS FALSE NEIGHBOUR: 'it returns false'. Refute it at one input. -/
def ranktestOrdersWrong : ChangeSpec := { name := "ranktestOrders", fn := fun _ => fun
  | [d1, d2, d3] => { results := [.lit (.bool false)], args := [d1, d2, d3] }
  | _ => none }
def RanktestOrdersWrongFalsely : Prop := ranktestOrdersRow.holds Tryz.pinned (OpenSpec.ofChange ranktestOrdersWrong)

/- THE SECOND FORM. 'bulk': how many values and letters a reading holds, each counted each time it is reached (what is shared counts as often as it is met; a slice's spare places count too). A statement '..UptoSaid' is the law's where the arguments, and the package variables that the reading takes, are together of bulk at most 1048576: NARROWER than '..Said'. Prove '..Said' where nothing that the law and all that it calls make is longer than what came in: it says more and counts as full. Else prove '..UptoSaid'. A law counts once. -/
mutual
def uptoBulk {H : Type} : DataW H → Nat
  | .lit (.string bytes) => bytes.length + 1
  | .lit _ => 1
  | .nil => 1
  | .ptr d => uptoBulk d + 1
  | .slice elems spare => uptoBulkAll elems + uptoBulkAll spare + 1
  | .agg parts => uptoBulkAll parts + 1
  | .iface _ d => uptoBulk d + 1
  | .map entries => uptoBulkEntries entries + 1
  | .held _ => 1
def uptoBulkAll {H : Type} : List (DataW H) → Nat
  | [] => 0
  | d :: r => uptoBulk d + uptoBulkAll r
def uptoBulkEntries {H : Type} : List (Lit × DataW H) → Nat
  | [] => 0
  | x :: r => uptoBulkEntry x + uptoBulkEntries r
def uptoBulkEntry {H : Type} : Lit × DataW H → Nat
  | (.string bytes, d) => bytes.length + uptoBulk d + 1
  | (_, d) => uptoBulk d + 1
 end
def uptoSmall : (H : Type) → List (DataW H) → Bool := fun _ ds => decide (uptoBulkAll ds ≤ 1048576)
def OpenSpec.upto (s : _root_.Go.ChangeSpec) : _root_.Go.OpenSpec := { _root_.Go.OpenSpec.ofChange s with cond := some uptoSmall }

/-- 'robuststatslaw31.RanktestMidranks', WHERE WHAT IT READS IS OF BULK AT MOST 1048576: true; the input reads as it did. -/
def ranktestMidranksUptoRow : OpenClaim := { program := "ytkfanmghjedgpaagreat", sum := "8d7b669ed63f02e6d9111f7400622dfc2ce2a4bf83bb251540c6e7e77c60c008", func := "robuststats/robuststatslaw31.RanktestMidranks", spec := "ranktestMidranks", named := ["math/bits.overflowError"], apart := false, narrowed := true }
def RanktestMidranksUptoSaid : Prop := ranktestMidranksUptoRow.holds Tryz.pinned (OpenSpec.upto ranktestMidranksSpec)

/-- 'robuststatslaw31.RanktestRises', WHERE WHAT IT READS IS OF BULK AT MOST 1048576: true; the input reads as it did. -/
def ranktestRisesUptoRow : OpenClaim := { program := "ytkfanmghjedgpaagreat", sum := "8d7b669ed63f02e6d9111f7400622dfc2ce2a4bf83bb251540c6e7e77c60c008", func := "robuststats/robuststatslaw31.RanktestRises", spec := "ranktestRises", named := ["math/bits.overflowError"], apart := false, narrowed := true }
def RanktestRisesUptoSaid : Prop := ranktestRisesUptoRow.holds Tryz.pinned (OpenSpec.upto ranktestRisesSpec)

/-- 'robuststatslaw31.RanktestMeans', WHERE WHAT IT READS IS OF BULK AT MOST 1048576: true; the input reads as it did. -/
def ranktestMeansUptoRow : OpenClaim := { program := "ytkfanmghjedgpaagreat", sum := "8d7b669ed63f02e6d9111f7400622dfc2ce2a4bf83bb251540c6e7e77c60c008", func := "robuststats/robuststatslaw31.RanktestMeans", spec := "ranktestMeans", named := ["math/bits.overflowError"], apart := false, narrowed := true }
def RanktestMeansUptoSaid : Prop := ranktestMeansUptoRow.holds Tryz.pinned (OpenSpec.upto ranktestMeansSpec)

/-- 'robuststatslaw31.RanktestSums', WHERE WHAT IT READS IS OF BULK AT MOST 1048576: true; the input reads as it did. -/
def ranktestSumsUptoRow : OpenClaim := { program := "ytkfanmghjedgpaagreat", sum := "8d7b669ed63f02e6d9111f7400622dfc2ce2a4bf83bb251540c6e7e77c60c008", func := "robuststats/robuststatslaw31.RanktestSums", spec := "ranktestSums", named := ["math/bits.overflowError"], apart := false, narrowed := true }
def RanktestSumsUptoSaid : Prop := ranktestSumsUptoRow.holds Tryz.pinned (OpenSpec.upto ranktestSumsSpec)

/-- 'robuststatslaw31.RanktestGroups', WHERE WHAT IT READS IS OF BULK AT MOST 1048576: true; the input reads as it did. -/
def ranktestGroupsUptoRow : OpenClaim := { program := "ytkfanmghjedgpaagreat", sum := "8d7b669ed63f02e6d9111f7400622dfc2ce2a4bf83bb251540c6e7e77c60c008", func := "robuststats/robuststatslaw31.RanktestGroups", spec := "ranktestGroups", unfollowed := true, recurses := true, named := ["math/bits.overflowError"], apart := false, narrowed := true }
def RanktestGroupsUptoSaid : Prop := ranktestGroupsUptoRow.holds Tryz.pinned (OpenSpec.upto ranktestGroupsSpec)

/-- 'robuststatslaw31.RanktestPairs', WHERE WHAT IT READS IS OF BULK AT MOST 1048576: true; the input reads as it did. -/
def ranktestPairsUptoRow : OpenClaim := { program := "ytkfanmghjedgpaagreat", sum := "8d7b669ed63f02e6d9111f7400622dfc2ce2a4bf83bb251540c6e7e77c60c008", func := "robuststats/robuststatslaw31.RanktestPairs", spec := "ranktestPairs", unfollowed := true, recurses := true, named := ["math/bits.overflowError"], apart := false, narrowed := true }
def RanktestPairsUptoSaid : Prop := ranktestPairsUptoRow.holds Tryz.pinned (OpenSpec.upto ranktestPairsSpec)

/-- 'robuststatslaw31.RanktestOrders', WHERE WHAT IT READS IS OF BULK AT MOST 1048576: true; the input reads as it did. -/
def ranktestOrdersUptoRow : OpenClaim := { program := "ytkfanmghjedgpaagreat", sum := "8d7b669ed63f02e6d9111f7400622dfc2ce2a4bf83bb251540c6e7e77c60c008", func := "robuststats/robuststatslaw31.RanktestOrders", spec := "ranktestOrders", unfollowed := true, recurses := true, named := ["math/bits.overflowError"], apart := false, narrowed := true }
def RanktestOrdersUptoSaid : Prop := ranktestOrdersUptoRow.holds Tryz.pinned (OpenSpec.upto ranktestOrdersSpec)

end Rows
end Go.Proofs.YtkfanmghjedgpaaGreat
