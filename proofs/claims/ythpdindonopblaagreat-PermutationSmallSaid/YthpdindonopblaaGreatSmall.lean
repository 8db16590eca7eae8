/- For every input the law PermutationSmall answers true, and each argument reads behind the call as it read before; no conditions. -/
import Derived.Test.YthpdindonopblaaGreatRows
import Derived.WalkKit
import Derived.ProofKit
import Derived.OpenShut
import Derived.ShutString
import Derived.ChangeOld
import Derived.Below
import Derived.SizedLaws
import Derived.Carry
import Derived.Test.YthpdindonopblaaGreatZB1
import Derived.Test.YthpdindonopblaaGreatZL2
set_option linter.unusedVariables false
set_option linter.unusedSimpArgs false
set_option linter.unusedSectionVars false
section
/- For every input the law PermutationSmall answers true, and each argument reads behind the call as it read before. -/
namespace Go.Proofs.YthpdindonopblaaGreat.permutationSmall
open Go.ChangeShapes Go.WideShapes Go.ChangeAt Go.RowKit Go.ZM Go.ZS Go.ZL
set_option linter.unusedVariables false
theorem own : ownKnob Tryz.prog.godebug = none := by kernel_rfl
theorem laidOut : laidOutB Tryz.prog = true := by kernel_rfl
theorem rd0 : rd Tryz.prog (.int .u8) [(0, 5)] 0 = true := by kernel_rfl
theorem rd1 : rd Tryz.prog (.int .u8) [(0, 5)] 0 = true := by kernel_rfl
theorem rd2 : rd Tryz.prog (.bool) [(0, 4)] 0 = true := by kernel_rfl
set_option maxRecDepth 100000 in
theorem lifted (os : Os) (started : os.Started) (H : Type) (enc : TypeId × Value → H) :
    ReturnsInHanded {} Tryz.checked os 7 .any (Rows.permutationSmallSpec.pre6 enc Tryz.prog Tryz.f7 Rows.permutationSmallRow.domain false) (Rows.permutationSmallSpec.post enc Tryz.prog Tryz.f7 false true false false) := by
  refine returnsInHanded_of_change_sized (C := Tryz.checked) own started (by kernel_rfl) Tryz.func7
    (ChangeSpec.witness6 (enc := enc) (C := Tryz.checked) false ⟨#[], #[.int .u8 0, .int .u8 0, .bool false], []⟩ 8 (by kernel_rfl) (by kernel_rfl) (by kernel_rfl) (by kernel_rfl)) ?_
  intro W base args ds gs before hval0 hW hcnd hsz0 _
  have hval : ∀ (j : Nat) t v, Tryz.f7.params[j]? = some t → args[j]? = some v → Value.okWide Tryz.prog W .any base t v := hval0
  have hW' := hW
  obtain ⟨p, q, hA0, hV, rfl, hfz, hnd⟩ := hW
  have hA : DataW.TrodAll enc Tryz.prog W 0 (fun _ => true) true Tryz.f7.params.toList args.toList ds p := hA0
  rw [Tryz.params7] at hA hval
  obtain ⟨v0, vs0, d0, ds0, p0, q0, hargs, rfl, rfl, h0, r0⟩ := trodAll_cons hA
  obtain ⟨v1, vs1, d1, ds1, p1, q1, rfl, rfl, rfl, h1, r1⟩ := trodAll_cons r0
  obtain ⟨v2, vs2, d2, ds2, p2, q2, rfl, rfl, rfl, h2, r2⟩ := trodAll_cons r1
  obtain ⟨rfl, rfl, rfl⟩ := trodAll_nil r2
  obtain rfl : args = #[v0, v1, v2] := by cases args; simp_all
  obtain ⟨rfl, rfl⟩ := trodVars_none hV
  have lt0 : ∀ x ∈ p0, x.block < W.heap.size := by obtain ⟨m, hm⟩ := h0; exact DataW.trod_lt m _ _ _ hm
  obtain ⟨x0, s0, g0⟩ := read_val (M := fun _ => False) (fun b h => h) rd0 (hval 0 5 v0 rfl rfl) h0
  have lt1 : ∀ x ∈ p1, x.block < W.heap.size := by obtain ⟨m, hm⟩ := h1; exact DataW.trod_lt m _ _ _ hm
  obtain ⟨x1, s1, g1⟩ := read_val (M := fun _ => False) (fun b h => h) rd1 (hval 1 5 v1 rfl rfl) h1
  have lt2 : ∀ x ∈ p2, x.block < W.heap.size := by obtain ⟨m, hm⟩ := h2; exact DataW.trod_lt m _ _ _ hm
  obtain ⟨x2, s2, g2⟩ := read_val (M := fun _ => False) (fun b h => h) rd2 (hval 2 4 v2 rfl rfl) h2
  refine (law_call robuststatslaw30_PermutationSmall_spec (x := (x0, x1, x2)) (us := [v0, v1, v2]) (w := W) ⟨none, [none, none], v0, [v1, v2], rfl, rfl, s0, ⟨none, [none], v1, [v2], rfl, rfl, s1, ⟨none, v2, rfl, rfl, s2⟩⟩⟩ ⟨(true : Bool), law_small x2 (wf_u8 g0) (wf_u8 g1) , rfl⟩).mono fun e W' ⟨he, bel⟩ => ?_
  subst he
  exact ⟨_, rfl, _, _, _, [], _, [], hW', trodAll_mk1 (shut_bool Tryz.underlying4 _), (trodAll_cons_mk (Below.trod laidOut (by kernel_rfl) (of_decide_eq_true (by kernel_rfl)) h0 bel lt0) (trodAll_cons_mk (Below.trod laidOut (by kernel_rfl) (of_decide_eq_true (by kernel_rfl)) h1 bel lt1) (trodAll_cons_mk (Below.trod laidOut (by kernel_rfl) (of_decide_eq_true (by kernel_rfl)) h2 bel lt2) trodAll_mk0))), rfl, bel.frame _, fun h => by cases h⟩
theorem over : Rows.permutationSmallRow.holds Tryz.pinned (OpenSpec.ofChange Rows.permutationSmallSpec) :=
  OpenClaim.holds_of_wide 7 Tryz.f7 rfl rfl rfl rfl rfl rfl rfl ⟨rfl, rfl, rfl, rfl, rfl⟩ rfl rfl rfl rfl rfl (by kernel_rfl) Tryz.func7 (by kernel_rfl)
    (of_decide_eq_true (by kernel_rfl)) (by unfold Func.isWrapper; first | (rw [if_pos (by decide +kernel)]; kernel_rfl) | (rw [if_neg (by decide +kernel)]; exact ⟨rfl, rfl⟩))
    (fun os started H enc _ => lifted os started H enc)
theorem proved : Rows.PermutationSmallSaid := over
#print axioms proved
end Go.Proofs.YthpdindonopblaaGreat.permutationSmall
namespace Go.Proofs.YthpdindonopblaaGreat
/-- The law, under a short name. -/
theorem permutationSmall_holds : Rows.PermutationSmallSaid := permutationSmall.proved
end Go.Proofs.YthpdindonopblaaGreat
end
