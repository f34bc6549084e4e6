/-
  PROVED: 'Rows.IntervalRulesSaid': cylinderlaw06.IntervalRules, called with whatever three intervals, returns true, and its arguments read behind the call as they read before. No condition beyond those of the row's own form.
  The road: an evaluator of the program's code over typed values, proved sound over the machine; each function's text printed as a plain function and its contract proved over numbers; the links from the program's text (.. Links); the row (here).
-/
import Derived.Test.YtgjgjobaohakgaaIntervalRulesLinks5
set_option linter.unusedVariables false
set_option linter.unusedSimpArgs false
set_option linter.unusedSectionVars false
set_option linter.unusedVariables false
namespace Go.Proofs.Ytgjgjobaohakgaa
open Go.ChangeShapes Go.WideShapes Go.ChangeAt Go.RowKit Go.W

set_option maxRecDepth 100000 in
theorem intervalRules_lifted (os : Os) (started : os.Started) (H : Type) (enc : TypeId × Value → H) :
    ReturnsInHanded {} Try.checked os 9 .any (Rows.intervalRulesSpec.pre6 enc Try.prog Try.f9 Rows.intervalRulesRow.domain false) (Rows.intervalRulesSpec.post enc Try.prog Try.f9 false true false false) := by
  refine returnsInHanded_of_change (C := Try.checked) own started (by kernel_rfl) Try.func9
    (ChangeSpec.witness6 (enc := enc) (C := Try.checked) false ⟨#[], #[.agg #[.bool false, .slice none 0 0, .slice none 0 0, .bool false, .slice none 0 0, .slice none 0 0], .agg #[.bool false, .slice none 0 0, .slice none 0 0, .bool false, .slice none 0 0, .slice none 0 0], .agg #[.bool false, .slice none 0 0, .slice none 0 0, .bool false, .slice none 0 0, .slice none 0 0]], []⟩ 8 (by kernel_rfl) (by kernel_rfl) (by kernel_rfl) (by kernel_rfl)) ?_
  intro W base args ds gs before hval0 hW hcnd _
  exact law_post (P := Try.prog) (fn := Try.f9) (s := Rows.intervalRulesSpec) laidOut fs_law06_IntervalRules (fun τ h => gif_pos ⟨DI_of h.1, DI_of h.2.1, DI_of h.2.2.1⟩) ⟨par_interval, par_interval, par_interval, trivial⟩ rfl Try.underlying4 rfl
    (fun ds h => by
      match ds, h with
      | [d1, d2, d3], _ => exact ⟨rfl, rfl, rfl⟩) hval0 hW

theorem intervalRules_facts : joinedFacts Try.prog 9 Try.f9 Rows.intervalRulesSpec Rows.intervalRulesRow = true := by kernel_rfl

/-- THE STATEMENT. -/
theorem intervalRules : Rows.IntervalRulesSaid :=
  OpenClaim.holds_of_wide 9 Try.f9 rfl rfl rfl rfl rfl rfl rfl ⟨rfl, rfl, rfl, rfl, rfl⟩ rfl rfl rfl rfl rfl (by kernel_rfl) Try.func9 intervalRules_facts
    (of_decide_eq_true (by kernel_rfl)) (by unfold Func.isWrapper; first | (rw [if_pos (by decide +kernel)]; kernel_rfl) | (rw [if_neg (by decide +kernel)]; exact ⟨rfl, rfl⟩))
    (fun os started H enc _ => intervalRules_lifted os started H enc)
end Go.Proofs.Ytgjgjobaohakgaa

