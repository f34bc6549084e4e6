/-
  PROVED: 'Rows.IntervalElementsSaid': cylinderlaw06.IntervalElements, called with whatever two intervals and an array of two rationals, returns true, and its arguments read behind the call as they read before. No condition beyond those of the row's own form.
  The road: an evaluator of the program's code over typed values, proved sound over the machine; each function's text printed as a plain function and its contract proved over numbers; the links from the program's text (.. Links); the row (here).
-/
import Derived.Test.YtgjgjobaohakgaaIntervalElementsLinks5
set_option linter.unusedVariables false
set_option linter.unusedSimpArgs false
set_option linter.unusedSectionVars false
set_option linter.unusedVariables false
namespace Go.Proofs.Ytgjgjobaohakgaa
open Go.ChangeShapes Go.WideShapes Go.ChangeAt Go.RowKit Go.W

set_option maxRecDepth 100000 in
theorem intervalElements_lifted (os : Os) (started : os.Started) (H : Type) (enc : TypeId × Value → H) :
    ReturnsInHanded {} Try.checked os 15 .any (Rows.intervalElementsSpec.pre6 enc Try.prog Try.f15 Rows.intervalElementsRow.domain false) (Rows.intervalElementsSpec.post enc Try.prog Try.f15 false true false false) := by
  refine returnsInHanded_of_change (C := Try.checked) own started (by kernel_rfl) Try.func15
    (ChangeSpec.witness6 (enc := enc) (C := Try.checked) false ⟨#[], #[.agg #[.bool false, .slice none 0 0, .slice none 0 0, .bool false, .slice none 0 0, .slice none 0 0], .agg #[.bool false, .slice none 0 0, .slice none 0 0, .bool false, .slice none 0 0, .slice none 0 0], .agg #[.bool false, .slice none 0 0, .slice none 0 0, .bool false, .slice none 0 0, .slice none 0 0]], []⟩ 8 (by kernel_rfl) (by kernel_rfl) (by kernel_rfl) (by kernel_rfl)) ?_
  intro W base args ds gs before hval0 hW hcnd _
  exact law_post (P := Try.prog) (fn := Try.f15) (s := Rows.intervalElementsSpec) laidOut fs_law06_IntervalElements (fun τ h => gif_pos ⟨DI_of h.1, DI_of h.2.1, two_of h.2.2.1⟩) ⟨par_interval, par_interval, par_two, trivial⟩ rfl Try.underlying4 rfl
    (fun ds h => by
      match ds, h with
      | [d1, d2, d3], _ => exact ⟨rfl, rfl, rfl⟩) hval0 hW

theorem intervalElements_inPlace : Try.prog.inPlace 15 = Rows.intervalElementsRow.inPlace := by kernel_rfl
theorem intervalElements_named : Try.prog.varsNamed 15 = Rows.intervalElementsRow.named := by kernel_rfl
theorem intervalElements_unfollowed : Try.prog.unfollowed 15 = true := by kernel_rfl
theorem intervalElements_recurses : Try.prog.recurses 15 = true := by unfold Program.recurses; rw [intervalElements_unfollowed]; rfl
theorem intervalElements_facts : joinedFacts Try.prog 15 Try.f15 Rows.intervalElementsSpec Rows.intervalElementsRow = true := by
  unfold joinedFacts
  rw [intervalElements_recurses, intervalElements_unfollowed, intervalElements_inPlace, intervalElements_named]
  kernel_rfl

/-- THE STATEMENT. -/
theorem intervalElements : Rows.IntervalElementsSaid :=
  OpenClaim.holds_of_wide 15 Try.f15 rfl rfl rfl rfl rfl rfl rfl ⟨rfl, rfl, rfl, rfl, rfl⟩ rfl rfl rfl rfl rfl (by kernel_rfl) Try.func15 intervalElements_facts
    (of_decide_eq_true (by kernel_rfl)) (by unfold Func.isWrapper; first | (rw [if_pos (by decide +kernel)]; kernel_rfl) | (rw [if_neg (by decide +kernel)]; exact ⟨rfl, rfl⟩))
    (fun os started H enc _ => intervalElements_lifted os started H enc)
end Go.Proofs.Ytgjgjobaohakgaa

