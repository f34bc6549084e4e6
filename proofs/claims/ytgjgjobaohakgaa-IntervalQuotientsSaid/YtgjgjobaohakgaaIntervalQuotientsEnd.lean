/-
  PROVED: 'Rows.IntervalQuotientsSaid': cylinderlaw06.IntervalQuotients, called with whatever two intervals, returns true, and its arguments read behind the call as they read before. No condition beyond those of the row's own form.
  The road: an evaluator of the program's code over typed values, proved sound over the machine; each function's text printed as a plain function and its contract proved over numbers; the links from the program's text (.. Links); the row (here).
-/
import Derived.Test.YtgjgjobaohakgaaIntervalQuotientsLinks5
set_option linter.unusedVariables false
set_option linter.unusedSimpArgs false
set_option linter.unusedSectionVars false
set_option linter.unusedVariables false
namespace Go.Proofs.Ytgjgjobaohakgaa
open Go.ChangeShapes Go.WideShapes Go.ChangeAt Go.RowKit Go.W

set_option maxRecDepth 100000 in
theorem intervalQuotients_lifted (os : Os) (started : os.Started) (H : Type) (enc : TypeId × Value → H) :
    ReturnsInHanded {} Try.checked os 6 .any (Rows.intervalQuotientsSpec.pre6 enc Try.prog Try.f6 Rows.intervalQuotientsRow.domain false) (Rows.intervalQuotientsSpec.post enc Try.prog Try.f6 false true false false) := by
  refine returnsInHanded_of_change (C := Try.checked) own started (by kernel_rfl) Try.func6
    (ChangeSpec.witness6 (enc := enc) (C := Try.checked) false ⟨#[], #[.agg #[.bool false, .slice none 0 0, .slice none 0 0, .bool false, .slice none 0 0, .slice none 0 0], .agg #[.bool false, .slice none 0 0, .slice none 0 0, .bool false, .slice none 0 0, .slice none 0 0]], []⟩ 8 (by kernel_rfl) (by kernel_rfl) (by kernel_rfl) (by kernel_rfl)) ?_
  intro W base args ds gs before hval0 hW hcnd _
  exact law_post (P := Try.prog) (fn := Try.f6) (s := Rows.intervalQuotientsSpec) laidOut fs_law06_IntervalQuotients (fun τ h => gif_pos ⟨DI_of h.1, DI_of h.2.1⟩) ⟨par_interval, par_interval, trivial⟩ rfl Try.underlying4 rfl
    (fun ds h => by
      match ds, h with
      | [d1, d2], _ => exact ⟨rfl, rfl, rfl⟩) hval0 hW

theorem intervalQuotients_unfollowed : Try.prog.unfollowed 6 = false := by kernel_rfl
theorem intervalQuotients_rank : rankOK Try.prog [133, 102, 129, 82, 88, 25, 91, 85, 135, 134, 94, 137, 142, 149, 156, 184, 170, 183, 175, 194, 189, 176, 177, 154, 136, 96, 117, 153, 121, 93, 148, 109, 101, 56, 40, 100, 60, 111, 112, 59, 113, 63, 169, 171, 150, 118, 71, 45, 27, 76, 46, 140, 98, 38, 132, 87, 164, 165, 131, 86, 61, 104, 23, 90, 28, 84, 105, 47, 21, 48, 92, 29, 42, 78, 49, 50, 141, 99, 39, 166, 139, 178, 155, 122, 89, 51, 24, 145, 106, 52, 36, 31, 22, 107, 53, 6] = true := by kernel_rfl
theorem intervalQuotients_recurses : Try.prog.recurses 6 = false := recurses_false intervalQuotients_unfollowed intervalQuotients_rank (by kernel_rfl)
theorem intervalQuotients_facts : joinedFacts Try.prog 6 Try.f6 Rows.intervalQuotientsSpec Rows.intervalQuotientsRow = true := by
  unfold joinedFacts
  rw [intervalQuotients_recurses, intervalQuotients_unfollowed]
  kernel_rfl

/-- THE STATEMENT. -/
theorem intervalQuotients : Rows.IntervalQuotientsSaid :=
  OpenClaim.holds_of_wide 6 Try.f6 rfl rfl rfl rfl rfl rfl rfl ⟨rfl, rfl, rfl, rfl, rfl⟩ rfl rfl rfl rfl rfl (by kernel_rfl) Try.func6 intervalQuotients_facts
    (of_decide_eq_true (by kernel_rfl)) (by unfold Func.isWrapper; first | (rw [if_pos (by decide +kernel)]; kernel_rfl) | (rw [if_neg (by decide +kernel)]; exact ⟨rfl, rfl⟩))
    (fun os started H enc _ => intervalQuotients_lifted os started H enc)
end Go.Proofs.Ytgjgjobaohakgaa

