/-
  PROVED: 'Rows.IntervalPowersSaid': cylinderlaw06.IntervalPowers, called with whatever interval and int, returns true, and its arguments read behind the call as they read before. No condition beyond those of the row's own form.
  The road: an evaluator of the program's code over typed values, proved sound over the machine; each function's text printed as a plain function and its contract proved over numbers; the links from the program's text (.. Links); the row (here).
-/
import Derived.Test.YtgjgjobaohakgaaIntervalPowersLinks6
set_option linter.unusedVariables false
set_option linter.unusedSimpArgs false
set_option linter.unusedSectionVars false
set_option linter.unusedVariables false
namespace Go.Proofs.Ytgjgjobaohakgaa
open Go.ChangeShapes Go.WideShapes Go.ChangeAt Go.RowKit Go.W

set_option maxRecDepth 100000 in
theorem intervalPowers_lifted (os : Os) (started : os.Started) (H : Type) (enc : TypeId × Value → H) :
    ReturnsInHanded {} Try.checked os 10 .any (Rows.intervalPowersSpec.pre6 enc Try.prog Try.f10 Rows.intervalPowersRow.domain false) (Rows.intervalPowersSpec.post enc Try.prog Try.f10 false true false false) := by
  refine returnsInHanded_of_change (C := Try.checked) own started (by kernel_rfl) Try.func10
    (ChangeSpec.witness6 (enc := enc) (C := Try.checked) false ⟨#[], #[.agg #[.bool false, .slice none 0 0, .slice none 0 0, .bool false, .slice none 0 0, .slice none 0 0], .int .i64 0], []⟩ 8 (by kernel_rfl) (by kernel_rfl) (by kernel_rfl) (by kernel_rfl)) ?_
  intro W base args ds gs before hval0 hW hcnd _
  exact law_post (P := Try.prog) (fn := Try.f10) (s := Rows.intervalPowersSpec) laidOut fs_law06_IntervalPowers (fun τ h => gif_pos ⟨DI_of h.1, h.2.1⟩) ⟨par_interval, par_i64, trivial⟩ rfl Try.underlying4 rfl
    (fun ds h => by
      match ds, h with
      | [d1, d2], _ => exact ⟨rfl, rfl, rfl⟩) hval0 hW

theorem intervalPowers_inPlace : Try.prog.inPlace 10 = Rows.intervalPowersRow.inPlace := by kernel_rfl
theorem intervalPowers_named : Try.prog.varsNamed 10 = Rows.intervalPowersRow.named := by kernel_rfl
theorem intervalPowers_unfollowed : Try.prog.unfollowed 10 = false := by kernel_rfl
theorem intervalPowers_rank : rankOK Try.prog [133, 102, 129, 82, 88, 25, 91, 85, 135, 134, 94, 137, 142, 149, 156, 184, 170, 183, 175, 194, 189, 176, 177, 154, 136, 96, 117, 153, 121, 93, 148, 109, 101, 56, 40, 100, 60, 111, 112, 59, 113, 63, 169, 171, 150, 118, 71, 45, 27, 76, 46, 140, 98, 38, 132, 87, 164, 165, 131, 86, 61, 104, 23, 90, 28, 84, 105, 47, 21, 50, 141, 99, 39, 166, 139, 178, 155, 122, 89, 51, 92, 29, 163, 130, 83, 19, 78, 67, 145, 106, 107, 24, 114, 115, 68, 10] = true := by kernel_rfl
theorem intervalPowers_recurses : Try.prog.recurses 10 = false := recurses_false intervalPowers_unfollowed intervalPowers_rank (by kernel_rfl)
theorem intervalPowers_facts : joinedFacts Try.prog 10 Try.f10 Rows.intervalPowersSpec Rows.intervalPowersRow = true := by
  unfold joinedFacts
  rw [intervalPowers_recurses, intervalPowers_unfollowed, intervalPowers_inPlace, intervalPowers_named]
  kernel_rfl

/-- THE STATEMENT. -/
theorem intervalPowers : Rows.IntervalPowersSaid :=
  OpenClaim.holds_of_wide 10 Try.f10 rfl rfl rfl rfl rfl rfl rfl ⟨rfl, rfl, rfl, rfl, rfl⟩ rfl rfl rfl rfl rfl (by kernel_rfl) Try.func10 intervalPowers_facts
    (of_decide_eq_true (by kernel_rfl)) (by unfold Func.isWrapper; first | (rw [if_pos (by decide +kernel)]; kernel_rfl) | (rw [if_neg (by decide +kernel)]; exact ⟨rfl, rfl⟩))
    (fun os started H enc _ => intervalPowers_lifted os started H enc)
end Go.Proofs.Ytgjgjobaohakgaa

