/-
  PROVED: 'Rows.SturmVariationsSaid': cylinderlaw15.SturmVariations, called with whatever array of three slices of int16 and array of two int8, returns true, and its arguments read behind the call as they read before. No condition beyond those of the row's own form.
  The road: an evaluator of the program's code over typed values, proved sound over the machine; each function's text printed as a plain function and its contract proved over numbers; the links from the program's text (.. Links); the row (here).
-/
import Derived.Test.YtgchnnhghmlfdaaSturmVariationsLinks4
set_option linter.unusedVariables false
set_option linter.unusedSimpArgs false
set_option linter.unusedSectionVars false
set_option linter.unusedVariables false
namespace Go.Proofs.Ytgchnnhghmlfdaa
open Go.ChangeShapes Go.WideShapes Go.ChangeAt Go.RowKit Go.W

set_option maxRecDepth 100000 in
theorem sturmVariations_lifted (os : Os) (started : os.Started) (H : Type) (enc : TypeId × Value → H) :
    ReturnsInHanded {} Try.checked os 4 .any (Rows.sturmVariationsSpec.pre6 enc Try.prog Try.f4 Rows.sturmVariationsRow.domain false) (Rows.sturmVariationsSpec.post enc Try.prog Try.f4 false true false false) := by
  refine returnsInHanded_of_change (C := Try.checked) own started (by kernel_rfl) Try.func4
    (ChangeSpec.witness6 (enc := enc) (C := Try.checked) false ⟨#[], #[.agg #[.slice none 0 0, .slice none 0 0, .slice none 0 0], .agg #[.int .i8 0, .int .i8 0]], []⟩ 8 (by kernel_rfl) (by kernel_rfl) (by kernel_rfl) (by kernel_rfl)) ?_
  intro W base args ds gs before hval0 hW hcnd _
  exact law_post (P := Try.prog) (fn := Try.f4) (s := Rows.sturmVariationsSpec) laidOut fs_law15_SturmVariations (fun τ h => gif_pos ⟨⟨h.1.1, fun l hl => ⟨(h.1.2 l hl).1, fun x hx => (h.1.2 l hl).2 x hx⟩⟩, h.2.1.1, fun x hx => h.2.1.2 x hx⟩) ⟨par_t42, par_t44, trivial⟩ rfl Try.underlying4 rfl
    (fun ds h => by
      match ds, h with
      | [d1, d2], _ => exact ⟨rfl, rfl, rfl⟩) hval0 hW

theorem sturmVariations_inPlace : Try.prog.inPlace 4 = Rows.sturmVariationsRow.inPlace := by kernel_rfl
theorem sturmVariations_named : Try.prog.varsNamed 4 = Rows.sturmVariationsRow.named := by kernel_rfl
theorem sturmVariations_unfollowed : Try.prog.unfollowed 4 = true := by kernel_rfl
theorem sturmVariations_recurses : Try.prog.recurses 4 = true := by unfold Program.recurses; rw [sturmVariations_unfollowed]; rfl
theorem sturmVariations_facts : joinedFacts Try.prog 4 Try.f4 Rows.sturmVariationsSpec Rows.sturmVariationsRow = true := by
  unfold joinedFacts
  rw [sturmVariations_recurses, sturmVariations_unfollowed, sturmVariations_inPlace, sturmVariations_named]
  kernel_rfl

/-- THE STATEMENT. -/
theorem sturmVariations : Rows.SturmVariationsSaid :=
  OpenClaim.holds_of_wide 4 Try.f4 rfl rfl rfl rfl rfl rfl rfl ⟨rfl, rfl, rfl, rfl, rfl⟩ rfl rfl rfl rfl rfl (by kernel_rfl) Try.func4 sturmVariations_facts
    (of_decide_eq_true (by kernel_rfl)) (by unfold Func.isWrapper; first | (rw [if_pos (by decide +kernel)]; kernel_rfl) | (rw [if_neg (by decide +kernel)]; exact ⟨rfl, rfl⟩))
    (fun os started H enc _ => sturmVariations_lifted os started H enc)
end Go.Proofs.Ytgchnnhghmlfdaa

