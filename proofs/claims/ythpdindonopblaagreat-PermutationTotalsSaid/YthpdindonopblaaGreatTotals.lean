/- For every input the law PermutationTotals answers true, and each argument reads behind the call as it read before; no conditions. -/
import Derived.Test.YthpdindonopblaaGreatRows
import Derived.WalkKit
import Derived.ProofKit
import Derived.OpenShut
import Derived.ShutString
import Derived.ChangeOld
import Derived.Below
import Derived.SizedLaws
import Derived.Carry
import Derived.Test.YthpdindonopblaaGreatZB1
import Derived.Test.YthpdindonopblaaGreatZL2
set_option linter.unusedVariables false
set_option linter.unusedSimpArgs false
set_option linter.unusedSectionVars false
section
/- For every input the law PermutationTotals answers true, and each argument reads behind the call as it read before. -/
namespace Go.Proofs.YthpdindonopblaaGreat.permutationTotals
open Go.ChangeShapes Go.WideShapes Go.ChangeAt Go.RowKit Go.ZM Go.ZS Go.ZL
set_option linter.unusedVariables false
theorem own : ownKnob Tryz.prog.godebug = none := by kernel_rfl
theorem laidOut : laidOutB Tryz.prog = true := by kernel_rfl
theorem rd0 : rd Tryz.prog (.slice (.int .i64)) [(0, 22)] 0 = true := by kernel_rfl
set_option maxRecDepth 100000 in
theorem lifted (os : Os) (started : os.Started) (H : Type) (enc : TypeId × Value → H) :
    ReturnsInHanded {} Tryz.checked os 8 .any (Rows.permutationTotalsSpec.pre6 enc Tryz.prog Tryz.f8 Rows.permutationTotalsRow.domain false) (Rows.permutationTotalsSpec.post enc Tryz.prog Tryz.f8 false true false false) := by
  refine returnsInHanded_of_change_sized (C := Tryz.checked) own started (by kernel_rfl) Tryz.func8
    (ChangeSpec.witness6 (enc := enc) (C := Tryz.checked) false ⟨#[], #[.slice none 0 0], []⟩ 8 (by kernel_rfl) (by kernel_rfl) (by kernel_rfl) (by kernel_rfl)) ?_
  intro W base args ds gs before hval0 hW hcnd hsz0 _
  have hval : ∀ (j : Nat) t v, Tryz.f8.params[j]? = some t → args[j]? = some v → Value.okWide Tryz.prog W .any base t v := hval0
  have hW' := hW
  obtain ⟨p, q, hA0, hV, rfl, hfz, hnd⟩ := hW
  have hA : DataW.TrodAll enc Tryz.prog W 0 (fun _ => true) true Tryz.f8.params.toList args.toList ds p := hA0
  rw [Tryz.params8] at hA hval
  obtain ⟨v0, vs0, d0, ds0, p0, q0, hargs, rfl, rfl, h0, r0⟩ := trodAll_cons hA
  obtain ⟨rfl, rfl, rfl⟩ := trodAll_nil r0
  obtain rfl : args = #[v0] := by cases args; simp_all
  obtain ⟨rfl, rfl⟩ := trodVars_none hV
  have lt0 : ∀ x ∈ p0, x.block < W.heap.size := by obtain ⟨m, hm⟩ := h0; exact DataW.trod_lt m _ _ _ hm
  obtain ⟨x0, s0, g0⟩ := read_val (M := fun _ => False) (fun b h => h) rd0 (hval 0 22 v0 rfl rfl) h0
  refine (law_call robuststatslaw30_PermutationTotals_spec (x := x0) (us := [v0]) (w := W) ⟨none, v0, rfl, rfl, s0⟩ ⟨(true : Bool), law_totals (fun y hy => wf_i64 (g0.2 y hy)), rfl⟩).mono fun e W' ⟨he, bel⟩ => ?_
  subst he
  exact ⟨_, rfl, _, _, _, [], _, [], hW', trodAll_mk1 (shut_bool Tryz.underlying4 _), (trodAll_cons_mk (Below.trod laidOut (by kernel_rfl) (of_decide_eq_true (by kernel_rfl)) h0 bel lt0) trodAll_mk0), rfl, bel.frame _, fun h => by cases h⟩
theorem over : Rows.permutationTotalsRow.holds Tryz.pinned (OpenSpec.ofChange Rows.permutationTotalsSpec) :=
  OpenClaim.holds_of_wide 8 Tryz.f8 rfl rfl rfl rfl rfl rfl rfl ⟨rfl, rfl, rfl, rfl, rfl⟩ rfl rfl rfl rfl rfl (by kernel_rfl) Tryz.func8 (by kernel_rfl)
    (of_decide_eq_true (by kernel_rfl)) (by unfold Func.isWrapper; first | (rw [if_pos (by decide +kernel)]; kernel_rfl) | (rw [if_neg (by decide +kernel)]; exact ⟨rfl, rfl⟩))
    (fun os started H enc _ => lifted os started H enc)
theorem proved : Rows.PermutationTotalsSaid := over
#print axioms proved
end Go.Proofs.YthpdindonopblaaGreat.permutationTotals
namespace Go.Proofs.YthpdindonopblaaGreat
/-- The law, under a short name. -/
theorem permutationTotals_holds : Rows.PermutationTotalsSaid := permutationTotals.proved
end Go.Proofs.YthpdindonopblaaGreat
end
