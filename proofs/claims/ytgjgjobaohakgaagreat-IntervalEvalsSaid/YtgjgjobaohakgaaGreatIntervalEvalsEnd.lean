/-
  PROVED: 'Rows.IntervalEvalsSaid': cylinderlaw06.IntervalEvals, called with whatever list of rationals, interval and rational, returns true, and its arguments read behind the call as they read before. No condition beyond those of the row's own form.
  The road: an evaluator of the program's code over typed values, proved sound over the machine; each function's text printed as a plain function and its contract proved over numbers; the links from the program's text (.. Links); the row (here).
-/
import Derived.Test.YtgjgjobaohakgaaGreatIntervalEvalsLinks5
set_option linter.unusedVariables false
set_option linter.unusedSimpArgs false
set_option linter.unusedSectionVars false
set_option linter.unusedVariables false
namespace Go.Proofs.YtgjgjobaohakgaaGreat
open Go.ChangeShapes Go.WideShapes Go.ChangeAt Go.RowKit Go.W

set_option maxRecDepth 100000 in
theorem intervalEvals_lifted (os : Os) (started : os.Started) (H : Type) (enc : TypeId × Value → H) :
    ReturnsInHanded {} Tryz.checked os 4 .any (Rows.intervalEvalsSpec.pre6 enc Tryz.prog Tryz.f4 Rows.intervalEvalsRow.domain false) (Rows.intervalEvalsSpec.post enc Tryz.prog Tryz.f4 false true false false) := by
  refine returnsInHanded_of_change (C := Tryz.checked) own started (by kernel_rfl) Tryz.func4
    (ChangeSpec.witness6 (enc := enc) (C := Tryz.checked) false ⟨#[], #[.slice none 0 0, .agg #[.bool false, .slice none 0 0, .slice none 0 0, .bool false, .slice none 0 0, .slice none 0 0], .agg #[.bool false, .slice none 0 0, .slice none 0 0]], []⟩ 8 (by kernel_rfl) (by kernel_rfl) (by kernel_rfl) (by kernel_rfl)) ?_
  intro W base args ds gs before hval0 hW hcnd _
  exact law_post (P := Tryz.prog) (fn := Tryz.f4) (s := Rows.intervalEvalsSpec) laidOut fs_law06_IntervalEvals (fun τ h => gif_pos ⟨list_of h.1, DI_of h.2.1, DR_of h.2.2.1⟩) ⟨par_list, par_interval, par_rational, trivial⟩ rfl Tryz.underlying4 rfl
    (fun ds h => by
      match ds, h with
      | [d1, d2, d3], _ => exact ⟨rfl, rfl, rfl⟩) hval0 hW

theorem intervalEvals_inPlace : Tryz.prog.inPlace 4 = Rows.intervalEvalsRow.inPlace := by kernel_rfl
theorem intervalEvals_named : Tryz.prog.varsNamed 4 = Rows.intervalEvalsRow.named := by kernel_rfl
theorem intervalEvals_unfollowed : Tryz.prog.unfollowed 4 = true := by kernel_rfl
theorem intervalEvals_recurses : Tryz.prog.recurses 4 = true := by unfold Program.recurses; rw [intervalEvals_unfollowed]; rfl
theorem intervalEvals_facts : joinedFacts Tryz.prog 4 Tryz.f4 Rows.intervalEvalsSpec Rows.intervalEvalsRow = true := by
  unfold joinedFacts
  rw [intervalEvals_recurses, intervalEvals_unfollowed, intervalEvals_inPlace, intervalEvals_named]
  kernel_rfl

/-- THE STATEMENT. -/
theorem intervalEvals : Rows.IntervalEvalsSaid :=
  OpenClaim.holds_of_wide 4 Tryz.f4 rfl rfl rfl rfl rfl rfl rfl ⟨rfl, rfl, rfl, rfl, rfl⟩ rfl rfl rfl rfl rfl (by kernel_rfl) Tryz.func4 intervalEvals_facts
    (of_decide_eq_true (by kernel_rfl)) (by unfold Func.isWrapper; first | (rw [if_pos (by decide +kernel)]; kernel_rfl) | (rw [if_neg (by decide +kernel)]; exact ⟨rfl, rfl⟩))
    (fun os started H enc _ => intervalEvals_lifted os started H enc)
end Go.Proofs.YtgjgjobaohakgaaGreat

