/-
  PROVED: 'Rows.RationalDecimalsSaid': cylinderlaw05.RationalDecimals, called with whatever rational and int, returns true, and its arguments read behind the call as they read before. No condition beyond those of the row's own form.
  The road: an evaluator of the program's code over typed values, proved sound over the machine; each function's text printed as a plain function and its contract proved over numbers; the links from the program's text (.. Links); the row (here).
-/
import Derived.Test.YtgjgjobaohakgaaRationalDecimalsLinks4
set_option linter.unusedVariables false
set_option linter.unusedSimpArgs false
set_option linter.unusedSectionVars false
set_option linter.unusedVariables false
namespace Go.Proofs.Ytgjgjobaohakgaa
open Go.ChangeShapes Go.WideShapes Go.ChangeAt Go.RowKit Go.W

set_option maxRecDepth 100000 in
theorem rationalDecimals_lifted (os : Os) (started : os.Started) (H : Type) (enc : TypeId × Value → H) :
    ReturnsInHanded {} Try.checked os 16 .any (Rows.rationalDecimalsSpec.pre6 enc Try.prog Try.f16 Rows.rationalDecimalsRow.domain false) (Rows.rationalDecimalsSpec.post enc Try.prog Try.f16 false true false false) := by
  refine returnsInHanded_of_change (C := Try.checked) own started (by kernel_rfl) Try.func16
    (ChangeSpec.witness6 (enc := enc) (C := Try.checked) false ⟨#[], #[.agg #[.bool false, .slice none 0 0, .slice none 0 0], .int .i64 0], []⟩ 8 (by kernel_rfl) (by kernel_rfl) (by kernel_rfl) (by kernel_rfl)) ?_
  intro W base args ds gs before hval0 hW hcnd _
  exact law_post (P := Try.prog) (fn := Try.f16) (s := Rows.rationalDecimalsSpec) laidOut fs_law05_RationalDecimals (fun τ h => gif_pos ⟨DR_of h.1, h.2.1⟩) ⟨par_rational, par_i64, trivial⟩ rfl Try.underlying4 rfl
    (fun ds h => by
      match ds, h with
      | [d1, d2], _ => exact ⟨rfl, rfl, rfl⟩) hval0 hW

theorem rationalDecimals_inPlace : Try.prog.inPlace 16 = Rows.rationalDecimalsRow.inPlace := by kernel_rfl
theorem rationalDecimals_named : Try.prog.varsNamed 16 = Rows.rationalDecimalsRow.named := by kernel_rfl
theorem rationalDecimals_unfollowed : Try.prog.unfollowed 16 = true := by kernel_rfl
theorem rationalDecimals_recurses : Try.prog.recurses 16 = true := by unfold Program.recurses; rw [rationalDecimals_unfollowed]; rfl
theorem rationalDecimals_facts : joinedFacts Try.prog 16 Try.f16 Rows.rationalDecimalsSpec Rows.rationalDecimalsRow = true := by
  unfold joinedFacts
  rw [rationalDecimals_recurses, rationalDecimals_unfollowed, rationalDecimals_inPlace, rationalDecimals_named]
  kernel_rfl

/-- THE STATEMENT. -/
theorem rationalDecimals : Rows.RationalDecimalsSaid :=
  OpenClaim.holds_of_wide 16 Try.f16 rfl rfl rfl rfl rfl rfl rfl ⟨rfl, rfl, rfl, rfl, rfl⟩ rfl rfl rfl rfl rfl (by kernel_rfl) Try.func16 rationalDecimals_facts
    (of_decide_eq_true (by kernel_rfl)) (by unfold Func.isWrapper; first | (rw [if_pos (by decide +kernel)]; kernel_rfl) | (rw [if_neg (by decide +kernel)]; exact ⟨rfl, rfl⟩))
    (fun os started H enc _ => rationalDecimals_lifted os started H enc)
end Go.Proofs.Ytgjgjobaohakgaa

