/-
  PROVED: 'Rows.RationalNarrowsSaid': cylinderlaw05.RationalNarrows, called with whatever three rationals, returns true, and its arguments read behind the call as they read before. No condition beyond those of the row's own form.
  The road: an evaluator of the program's code over typed values, proved sound over the machine; each function's text printed as a plain function and its contract proved over numbers; the links from the program's text (.. Links); the row (here).
-/
import Derived.Test.YtgjgjobaohakgaaRationalNarrowsLinks4
set_option linter.unusedVariables false
set_option linter.unusedSimpArgs false
set_option linter.unusedSectionVars false
set_option linter.unusedVariables false
namespace Go.Proofs.Ytgjgjobaohakgaa
open Go.ChangeShapes Go.WideShapes Go.ChangeAt Go.RowKit Go.W

set_option maxRecDepth 100000 in
theorem rationalNarrows_lifted (os : Os) (started : os.Started) (H : Type) (enc : TypeId × Value → H) :
    ReturnsInHanded {} Try.checked os 12 .any (Rows.rationalNarrowsSpec.pre6 enc Try.prog Try.f12 Rows.rationalNarrowsRow.domain false) (Rows.rationalNarrowsSpec.post enc Try.prog Try.f12 false true false false) := by
  refine returnsInHanded_of_change (C := Try.checked) own started (by kernel_rfl) Try.func12
    (ChangeSpec.witness6 (enc := enc) (C := Try.checked) false ⟨#[], #[.agg #[.bool false, .slice none 0 0, .slice none 0 0], .agg #[.bool false, .slice none 0 0, .slice none 0 0], .agg #[.bool false, .slice none 0 0, .slice none 0 0]], []⟩ 8 (by kernel_rfl) (by kernel_rfl) (by kernel_rfl) (by kernel_rfl)) ?_
  intro W base args ds gs before hval0 hW hcnd _
  exact law_post (P := Try.prog) (fn := Try.f12) (s := Rows.rationalNarrowsSpec) laidOut fs_law05_RationalNarrows (fun τ h => gif_pos ⟨DR_of h.1, DR_of h.2.1, DR_of h.2.2.1⟩) ⟨par_rational, par_rational, par_rational, trivial⟩ rfl Try.underlying4 rfl
    (fun ds h => by
      match ds, h with
      | [d1, d2, d3], _ => exact ⟨rfl, rfl, rfl⟩) hval0 hW

theorem rationalNarrows_inPlace : Try.prog.inPlace 12 = Rows.rationalNarrowsRow.inPlace := by kernel_rfl
theorem rationalNarrows_named : Try.prog.varsNamed 12 = Rows.rationalNarrowsRow.named := by kernel_rfl
theorem rationalNarrows_unfollowed : Try.prog.unfollowed 12 = true := by kernel_rfl
theorem rationalNarrows_recurses : Try.prog.recurses 12 = true := by unfold Program.recurses; rw [rationalNarrows_unfollowed]; rfl
theorem rationalNarrows_facts : joinedFacts Try.prog 12 Try.f12 Rows.rationalNarrowsSpec Rows.rationalNarrowsRow = true := by
  unfold joinedFacts
  rw [rationalNarrows_recurses, rationalNarrows_unfollowed, rationalNarrows_inPlace, rationalNarrows_named]
  kernel_rfl

/-- THE STATEMENT. -/
theorem rationalNarrows : Rows.RationalNarrowsSaid :=
  OpenClaim.holds_of_wide 12 Try.f12 rfl rfl rfl rfl rfl rfl rfl ⟨rfl, rfl, rfl, rfl, rfl⟩ rfl rfl rfl rfl rfl (by kernel_rfl) Try.func12 rationalNarrows_facts
    (of_decide_eq_true (by kernel_rfl)) (by unfold Func.isWrapper; first | (rw [if_pos (by decide +kernel)]; kernel_rfl) | (rw [if_neg (by decide +kernel)]; exact ⟨rfl, rfl⟩))
    (fun os started H enc _ => rationalNarrows_lifted os started H enc)
end Go.Proofs.Ytgjgjobaohakgaa

