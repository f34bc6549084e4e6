/-
  PROVED: 'Rows.IsolateSeparatesSaid': cylinderlaw16.IsolateSeparates, called with whatever slice of pairs of pairs of int8, returns true, and its arguments read behind the call as they read before. No condition beyond those of the row's own form.
  The road: an evaluator of the program's code over typed values, proved sound over the machine; each function's text printed as a plain function and its contract proved over numbers; the links from the program's text (.. Links); the row (here).
-/
import Derived.Test.YtedncdlpemnpaaaIsolateSeparatesLinks5
set_option linter.unusedVariables false
set_option linter.unusedSimpArgs false
set_option linter.unusedSectionVars false
set_option linter.unusedVariables false
namespace Go.Proofs.Ytedncdlpemnpaaa
open Go.ChangeShapes Go.WideShapes Go.ChangeAt Go.RowKit Go.W

set_option maxRecDepth 100000 in
theorem isolateSeparates_lifted (os : Os) (started : os.Started) (H : Type) (enc : TypeId × Value → H) :
    ReturnsInHanded {} Try.checked os 4 .any (Rows.isolateSeparatesSpec.pre6 enc Try.prog Try.f4 Rows.isolateSeparatesRow.domain false) (Rows.isolateSeparatesSpec.post enc Try.prog Try.f4 false true false false) := by
  refine returnsInHanded_of_change (C := Try.checked) own started (by kernel_rfl) Try.func4
    (ChangeSpec.witness6 (enc := enc) (C := Try.checked) false ⟨#[], #[.slice none 0 0], []⟩ 8 (by kernel_rfl) (by kernel_rfl) (by kernel_rfl) (by kernel_rfl)) ?_
  intro W base args ds gs before hval0 hW hcnd _
  exact law_post (P := Try.prog) (fn := Try.f4) (s := Rows.isolateSeparatesSpec) laidOut fs_law16_IsolateSeparates (fun τ h => gif_pos ⟨h.1.1, fun x hx => ⟨(h.1.2 x hx).1, fun q hq => ⟨((h.1.2 x hx).2 q hq).1, fun c hc => ((h.1.2 x hx).2 q hq).2 c hc⟩⟩⟩) ⟨par_t41, trivial⟩ rfl Try.underlying4 rfl
    (fun ds h => by
      match ds, h with
      | [d1], _ => exact ⟨rfl, rfl, rfl⟩) hval0 hW

theorem isolateSeparates_inPlace : Try.prog.inPlace 4 = Rows.isolateSeparatesRow.inPlace := by kernel_rfl
theorem isolateSeparates_named : Try.prog.varsNamed 4 = Rows.isolateSeparatesRow.named := by kernel_rfl
theorem isolateSeparates_unfollowed : Try.prog.unfollowed 4 = true := by kernel_rfl
theorem isolateSeparates_recurses : Try.prog.recurses 4 = true := by unfold Program.recurses; rw [isolateSeparates_unfollowed]; rfl
theorem isolateSeparates_facts : joinedFacts Try.prog 4 Try.f4 Rows.isolateSeparatesSpec Rows.isolateSeparatesRow = true := by
  unfold joinedFacts
  rw [isolateSeparates_recurses, isolateSeparates_unfollowed, isolateSeparates_inPlace, isolateSeparates_named]
  kernel_rfl

/-- THE STATEMENT. -/
theorem isolateSeparates : Rows.IsolateSeparatesSaid :=
  OpenClaim.holds_of_wide 4 Try.f4 rfl rfl rfl rfl rfl rfl rfl ⟨rfl, rfl, rfl, rfl, rfl⟩ rfl rfl rfl rfl rfl (by kernel_rfl) Try.func4 isolateSeparates_facts
    (of_decide_eq_true (by kernel_rfl)) (by unfold Func.isWrapper; first | (rw [if_pos (by decide +kernel)]; kernel_rfl) | (rw [if_neg (by decide +kernel)]; exact ⟨rfl, rfl⟩))
    (fun os started H enc _ => isolateSeparates_lifted os started H enc)
end Go.Proofs.Ytedncdlpemnpaaa

