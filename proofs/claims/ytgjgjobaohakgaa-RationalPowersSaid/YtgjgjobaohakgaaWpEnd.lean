/-
  PROVED: 'Rows.RationalPowersSaid': cylinderlaw05.RationalPowers, called with whatever rational and int8, returns true, and its arguments read behind the call as they read before. No condition beyond those of the row's own form.
  The road: an evaluator of the program's code over typed values, proved sound over the machine (YtgjgjobaohakgaaWp1, Wp2); each function's text printed as a plain function and its contract proved over numbers (Wp3, Wp4); the links from the program's text (Wp5); the row (here).
-/
import Derived.Test.YtgjgjobaohakgaaWp5
set_option linter.unusedVariables false
set_option linter.unusedSimpArgs false
set_option linter.unusedSectionVars false
set_option linter.unusedVariables false
namespace Go.Proofs.Ytgjgjobaohakgaa
open Go.ChangeShapes Go.WideShapes Go.ChangeAt Go.RowKit Go.W

set_option maxRecDepth 100000 in
theorem rationalPowers_lifted (os : Os) (started : os.Started) (H : Type) (enc : TypeId × Value → H) :
    ReturnsInHanded {} Try.checked os 3 .any (Rows.rationalPowersSpec.pre6 enc Try.prog Try.f3 Rows.rationalPowersRow.domain false) (Rows.rationalPowersSpec.post enc Try.prog Try.f3 false true false false) := by
  refine returnsInHanded_of_change (C := Try.checked) own started (by kernel_rfl) Try.func3
    (ChangeSpec.witness6 (enc := enc) (C := Try.checked) false ⟨#[], #[.agg #[.bool false, .slice none 0 0, .slice none 0 0], .int .i8 0], []⟩ 8 (by kernel_rfl) (by kernel_rfl) (by kernel_rfl) (by kernel_rfl)) ?_
  intro W base args ds gs before hval0 hW hcnd _
  exact law_post (P := Try.prog) (fn := Try.f3) (s := Rows.rationalPowersSpec) laidOut fs_law05_RationalPowers (fun τ h => gif_pos ⟨DR_of h.1, h.2.1⟩) ⟨par_rational, par_i8, trivial⟩ rfl Try.underlying4 rfl
    (fun ds h => by
      match ds, h with
      | [d1, d2], _ => exact ⟨rfl, rfl, rfl⟩) hval0 hW

theorem powers_unfollowed : Try.prog.unfollowed 3 = false := by kernel_rfl
theorem powers_rank : rankOK Try.prog [133, 91, 129, 135, 134, 92, 102, 88, 94, 137, 142, 149, 156, 184, 170, 183, 175, 194, 189, 176, 177, 154, 136, 96, 117, 153, 121, 93, 29, 59, 169, 171, 150, 118, 71, 82, 17, 27, 18, 40, 85, 21, 148, 109, 101, 163, 130, 83, 19, 132, 87, 23, 90, 28, 84, 20, 36, 31, 164, 165, 131, 86, 22, 24, 25, 141, 99, 39, 166, 139, 178, 155, 122, 89, 26, 3] = true := by kernel_rfl
theorem powers_recurses : Try.prog.recurses 3 = false := recurses_false powers_unfollowed powers_rank (by kernel_rfl)
theorem powers_facts : joinedFacts Try.prog 3 Try.f3 Rows.rationalPowersSpec Rows.rationalPowersRow = true := by
  unfold joinedFacts
  rw [powers_recurses, powers_unfollowed]
  kernel_rfl

/-- THE STATEMENT. -/
theorem rationalPowers : Rows.RationalPowersSaid :=
  OpenClaim.holds_of_wide 3 Try.f3 rfl rfl rfl rfl rfl rfl rfl ⟨rfl, rfl, rfl, rfl, rfl⟩ rfl rfl rfl rfl rfl (by kernel_rfl) Try.func3 powers_facts
    (of_decide_eq_true (by kernel_rfl)) (by unfold Func.isWrapper; first | (rw [if_pos (by decide +kernel)]; kernel_rfl) | (rw [if_neg (by decide +kernel)]; exact ⟨rfl, rfl⟩))
    (fun os started H enc _ => rationalPowers_lifted os started H enc)
end Go.Proofs.Ytgjgjobaohakgaa

