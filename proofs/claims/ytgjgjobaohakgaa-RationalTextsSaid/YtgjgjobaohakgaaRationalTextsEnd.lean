/-
  PROVED: 'Rows.RationalTextsSaid': cylinderlaw05.RationalTexts, called with whatever rational and string, returns true, and its arguments read behind the call as they read before. No condition beyond those of the row's own form.
  The road: an evaluator of the program's code over typed values, proved sound over the machine; each function's text printed as a plain function and its contract proved over numbers; the links from the program's text (.. Links); the row (here).
-/
import Derived.Test.YtgjgjobaohakgaaRationalTextsLinks4
set_option linter.unusedVariables false
set_option linter.unusedSimpArgs false
set_option linter.unusedSectionVars false
set_option linter.unusedVariables false
namespace Go.Proofs.Ytgjgjobaohakgaa
open Go.ChangeShapes Go.WideShapes Go.ChangeAt Go.RowKit Go.W

set_option maxRecDepth 100000 in
theorem rationalTexts_lifted (os : Os) (started : os.Started) (H : Type) (enc : TypeId × Value → H) :
    ReturnsInHanded {} Try.checked os 13 .any (Rows.rationalTextsSpec.pre6 enc Try.prog Try.f13 Rows.rationalTextsRow.domain false) (Rows.rationalTextsSpec.post enc Try.prog Try.f13 false true false false) := by
  refine returnsInHanded_of_change (C := Try.checked) own started (by kernel_rfl) Try.func13
    (ChangeSpec.witness6 (enc := enc) (C := Try.checked) false ⟨#[], #[.agg #[.bool false, .slice none 0 0, .slice none 0 0], .string ⟨#[]⟩], []⟩ 8 (by kernel_rfl) (by kernel_rfl) (by kernel_rfl) (by kernel_rfl)) ?_
  intro W base args ds gs before hval0 hW hcnd _
  exact law_post (P := Try.prog) (fn := Try.f13) (s := Rows.rationalTextsSpec) laidOut fs_law05_RationalTexts (fun τ h => gif_pos ⟨DR_of h.1, h.2.1⟩) ⟨par_rational, par_str, trivial⟩ rfl Try.underlying4 rfl
    (fun ds h => by
      match ds, h with
      | [d1, d2], _ => exact ⟨rfl, rfl, rfl⟩) hval0 hW

theorem rationalTexts_inPlace : Try.prog.inPlace 13 = Rows.rationalTextsRow.inPlace := by kernel_rfl
theorem rationalTexts_named : Try.prog.varsNamed 13 = Rows.rationalTextsRow.named := by kernel_rfl
theorem rationalTexts_unfollowed : Try.prog.unfollowed 13 = false := by kernel_rfl
theorem rationalTexts_rank : rankOK Try.prog [133, 91, 129, 135, 134, 92, 102, 88, 94, 137, 142, 149, 156, 184, 170, 183, 175, 194, 189, 176, 177, 154, 136, 96, 117, 153, 121, 93, 29, 59, 169, 171, 150, 118, 71, 82, 17, 27, 18, 132, 87, 23, 90, 28, 84, 20, 40, 85, 21, 141, 99, 39, 164, 165, 166, 139, 178, 155, 122, 89, 26, 30, 100, 192, 185, 186, 187, 193, 188, 172, 151, 119, 173, 148, 174, 152, 120, 72, 140, 98, 38, 123, 73, 13] = true := by kernel_rfl
theorem rationalTexts_recurses : Try.prog.recurses 13 = false := recurses_false rationalTexts_unfollowed rationalTexts_rank (by kernel_rfl)
theorem rationalTexts_facts : joinedFacts Try.prog 13 Try.f13 Rows.rationalTextsSpec Rows.rationalTextsRow = true := by
  unfold joinedFacts
  rw [rationalTexts_recurses, rationalTexts_unfollowed, rationalTexts_inPlace, rationalTexts_named]
  kernel_rfl

/-- THE STATEMENT. -/
theorem rationalTexts : Rows.RationalTextsSaid :=
  OpenClaim.holds_of_wide 13 Try.f13 rfl rfl rfl rfl rfl rfl rfl ⟨rfl, rfl, rfl, rfl, rfl⟩ rfl rfl rfl rfl rfl (by kernel_rfl) Try.func13 rationalTexts_facts
    (of_decide_eq_true (by kernel_rfl)) (by unfold Func.isWrapper; first | (rw [if_pos (by decide +kernel)]; kernel_rfl) | (rw [if_neg (by decide +kernel)]; exact ⟨rfl, rfl⟩))
    (fun os started H enc _ => rationalTexts_lifted os started H enc)
end Go.Proofs.Ytgjgjobaohakgaa

