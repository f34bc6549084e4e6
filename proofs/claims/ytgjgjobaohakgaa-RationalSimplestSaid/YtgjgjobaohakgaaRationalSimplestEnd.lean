/-
  PROVED: 'Rows.RationalSimplestSaid': cylinderlaw05.RationalSimplest, called with whatever two rationals, returns true, and its arguments read behind the call as they read before. No condition beyond those of the row's own form.
  The road: an evaluator of the program's code over typed values, proved sound over the machine; each function's text printed as a plain function and its contract proved over numbers; the links from the program's text (.. Links); the row (here).
-/
import Derived.Test.YtgjgjobaohakgaaRationalSimplestLinks5
set_option linter.unusedVariables false
set_option linter.unusedSimpArgs false
set_option linter.unusedSectionVars false
set_option linter.unusedVariables false
namespace Go.Proofs.Ytgjgjobaohakgaa
open Go.ChangeShapes Go.WideShapes Go.ChangeAt Go.RowKit Go.W

set_option maxRecDepth 100000 in
theorem rationalSimplest_lifted (os : Os) (started : os.Started) (H : Type) (enc : TypeId × Value → H) :
    ReturnsInHanded {} Try.checked os 11 .any (Rows.rationalSimplestSpec.pre6 enc Try.prog Try.f11 Rows.rationalSimplestRow.domain false) (Rows.rationalSimplestSpec.post enc Try.prog Try.f11 false true false false) := by
  refine returnsInHanded_of_change (C := Try.checked) own started (by kernel_rfl) Try.func11
    (ChangeSpec.witness6 (enc := enc) (C := Try.checked) false ⟨#[], #[.agg #[.bool false, .slice none 0 0, .slice none 0 0], .agg #[.bool false, .slice none 0 0, .slice none 0 0]], []⟩ 8 (by kernel_rfl) (by kernel_rfl) (by kernel_rfl) (by kernel_rfl)) ?_
  intro W base args ds gs before hval0 hW hcnd _
  exact law_post (P := Try.prog) (fn := Try.f11) (s := Rows.rationalSimplestSpec) laidOut fs_law05_RationalSimplest (fun τ h => gif_pos ⟨DR_of h.1, DR_of h.2.1⟩) ⟨par_rational, par_rational, trivial⟩ rfl Try.underlying4 rfl
    (fun ds h => by
      match ds, h with
      | [d1, d2], _ => exact ⟨rfl, rfl, rfl⟩) hval0 hW

theorem rationalSimplest_inPlace : Try.prog.inPlace 11 = Rows.rationalSimplestRow.inPlace := by kernel_rfl
theorem rationalSimplest_named : Try.prog.varsNamed 11 = Rows.rationalSimplestRow.named := by kernel_rfl
theorem rationalSimplest_unfollowed : Try.prog.unfollowed 11 = true := by kernel_rfl
theorem rationalSimplest_recurses : Try.prog.recurses 11 = true := by unfold Program.recurses; rw [rationalSimplest_unfollowed]; rfl
theorem rationalSimplest_facts : joinedFacts Try.prog 11 Try.f11 Rows.rationalSimplestSpec Rows.rationalSimplestRow = true := by
  unfold joinedFacts
  rw [rationalSimplest_recurses, rationalSimplest_unfollowed, rationalSimplest_inPlace, rationalSimplest_named]
  kernel_rfl

/-- THE STATEMENT. -/
theorem rationalSimplest : Rows.RationalSimplestSaid :=
  OpenClaim.holds_of_wide 11 Try.f11 rfl rfl rfl rfl rfl rfl rfl ⟨rfl, rfl, rfl, rfl, rfl⟩ rfl rfl rfl rfl rfl (by kernel_rfl) Try.func11 rationalSimplest_facts
    (of_decide_eq_true (by kernel_rfl)) (by unfold Func.isWrapper; first | (rw [if_pos (by decide +kernel)]; kernel_rfl) | (rw [if_neg (by decide +kernel)]; exact ⟨rfl, rfl⟩))
    (fun os started H enc _ => rationalSimplest_lifted os started H enc)
end Go.Proofs.Ytgjgjobaohakgaa

