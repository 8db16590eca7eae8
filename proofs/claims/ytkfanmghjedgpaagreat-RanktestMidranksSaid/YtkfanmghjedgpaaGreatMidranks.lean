/- For every input the law RanktestMidranks answers true, and each argument reads behind the call as it read before; no conditions. -/
import Derived.Test.YtkfanmghjedgpaaGreatRows
import Derived.WalkKit
import Derived.ProofKit
import Derived.OpenShut
import Derived.ShutString
import Derived.ChangeOld
import Derived.Below
import Derived.SizedLaws
import Derived.Carry
import Derived.Test.YtkfanmghjedgpaaGreatZB1
import Derived.Test.YtkfanmghjedgpaaGreatZL2
set_option linter.unusedVariables false
set_option linter.unusedSimpArgs false
set_option linter.unusedSectionVars false
section
/- For every input the law RanktestMidranks answers true, and each argument reads behind the call as it read before. -/
namespace Go.Proofs.YtkfanmghjedgpaaGreat.ranktestMidranks
open Go.ChangeShapes Go.WideShapes Go.ChangeAt Go.RowKit Go.ZM Go.ZS Go.ZL
set_option linter.unusedVariables false
theorem own : ownKnob Tryz.prog.godebug = none := by kernel_rfl
theorem laidOut : laidOutB Tryz.prog = true := by kernel_rfl
theorem rd0 : rd Tryz.prog (.slice (.int .i64)) [(0, 22)] 0 = true := by kernel_rfl
theorem rd1 : rd Tryz.prog (.slice (.struct (.pair (.struct (.pair (.bool) (.slice (.int .u32)))) (.slice (.int .u32))))) [(0, 23)] 0 = true := by kernel_rfl
set_option maxRecDepth 100000 in
theorem lifted (os : Os) (started : os.Started) (H : Type) (enc : TypeId × Value → H) :
    ReturnsInHanded {} Tryz.checked os 3 .any (Rows.ranktestMidranksSpec.pre6 enc Tryz.prog Tryz.f3 Rows.ranktestMidranksRow.domain false) (Rows.ranktestMidranksSpec.post enc Tryz.prog Tryz.f3 false true false false) := by
  refine returnsInHanded_of_change_sized (C := Tryz.checked) own started (by kernel_rfl) Tryz.func3
    (ChangeSpec.witness6 (enc := enc) (C := Tryz.checked) false ⟨#[], #[.slice none 0 0, .slice none 0 0], []⟩ 8 (by kernel_rfl) (by kernel_rfl) (by kernel_rfl) (by kernel_rfl)) ?_
  intro W base args ds gs before hval0 hW hcnd hsz0 _
  have hval : ∀ (j : Nat) t v, Tryz.f3.params[j]? = some t → args[j]? = some v → Value.okWide Tryz.prog W .any base t v := hval0
  have hW' := hW
  obtain ⟨p, q, hA0, hV, rfl, hfz, hnd⟩ := hW
  have hA : DataW.TrodAll enc Tryz.prog W 0 (fun _ => true) true Tryz.f3.params.toList args.toList ds p := hA0
  rw [Tryz.params3] at hA hval
  obtain ⟨v0, vs0, d0, ds0, p0, q0, hargs, rfl, rfl, h0, r0⟩ := trodAll_cons hA
  obtain ⟨v1, vs1, d1, ds1, p1, q1, rfl, rfl, rfl, h1, r1⟩ := trodAll_cons r0
  obtain ⟨rfl, rfl, rfl⟩ := trodAll_nil r1
  obtain rfl : args = #[v0, v1] := by cases args; simp_all
  obtain ⟨rfl, rfl⟩ := trodVars_none hV
  have lt0 : ∀ x ∈ p0, x.block < W.heap.size := by obtain ⟨m, hm⟩ := h0; exact DataW.trod_lt m _ _ _ hm
  obtain ⟨x0, s0, g0⟩ := read_val (M := fun _ => False) (fun b h => h) rd0 (hval 0 22 v0 rfl rfl) h0
  have lt1 : ∀ x ∈ p1, x.block < W.heap.size := by obtain ⟨m, hm⟩ := h1; exact DataW.trod_lt m _ _ _ hm
  obtain ⟨x1, s1, g1⟩ := read_val (M := fun _ => False) (fun b h => h) rd1 (hval 1 23 v1 rfl rfl) h1
  refine (law_call robuststatslaw31_RanktestMidranks_spec (x := (x0, x1)) (us := [v0, v1]) (w := W) ⟨none, [none], v0, [v1], rfl, rfl, s0, ⟨none, v1, rfl, rfl, s1⟩⟩ ⟨(true : Bool), law_midranks (fun y hy => wf_i64 (g0.2 y hy)) (fun y hy => rat_lb (g1.2 y hy)) (Nat.le_trans g1.1 (by decide)), rfl⟩).mono fun e W' ⟨he, bel⟩ => ?_
  subst he
  exact ⟨_, rfl, _, _, _, [], _, [], hW', trodAll_mk1 (shut_bool Tryz.underlying4 _), (trodAll_cons_mk (Below.trod laidOut (by kernel_rfl) (of_decide_eq_true (by kernel_rfl)) h0 bel lt0) (trodAll_cons_mk (Below.trod laidOut (by kernel_rfl) (of_decide_eq_true (by kernel_rfl)) h1 bel lt1) trodAll_mk0)), rfl, bel.frame _, fun h => by cases h⟩
theorem over : Rows.ranktestMidranksRow.holds Tryz.pinned (OpenSpec.ofChange Rows.ranktestMidranksSpec) :=
  OpenClaim.holds_of_wide 3 Tryz.f3 rfl rfl rfl rfl rfl rfl rfl ⟨rfl, rfl, rfl, rfl, rfl⟩ rfl rfl rfl rfl rfl (by kernel_rfl) Tryz.func3 (by kernel_rfl)
    (of_decide_eq_true (by kernel_rfl)) (by unfold Func.isWrapper; first | (rw [if_pos (by decide +kernel)]; kernel_rfl) | (rw [if_neg (by decide +kernel)]; exact ⟨rfl, rfl⟩))
    (fun os started H enc _ => lifted os started H enc)
theorem proved : Rows.RanktestMidranksSaid := over
#print axioms proved
end Go.Proofs.YtkfanmghjedgpaaGreat.ranktestMidranks
namespace Go.Proofs.YtkfanmghjedgpaaGreat
/-- The law, under a short name. -/
theorem ranktestMidranks_holds : Rows.RanktestMidranksSaid := ranktestMidranks.proved
end Go.Proofs.YtkfanmghjedgpaaGreat
end
