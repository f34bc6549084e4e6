/-
  PROVED: 'Rows.IntervalSetsSaid': cylinderlaw06.IntervalSets, called with whatever two intervals and rational, returns true, and its arguments read behind the call as they read before. No condition beyond those of the row's own form.
  The road: an evaluator of the program's code over typed values, proved sound over the machine; each function's text printed as a plain function and its contract proved over numbers; the links from the program's text (.. Links); the row (here).
-/
import Derived.Test.YtgjgjobaohakgaaGreatIntervalSetsLinks5
set_option linter.unusedVariables false
set_option linter.unusedSimpArgs false
set_option linter.unusedSectionVars false
set_option linter.unusedVariables false
namespace Go.Proofs.YtgjgjobaohakgaaGreat
open Go.ChangeShapes Go.WideShapes Go.ChangeAt Go.RowKit Go.W

set_option maxRecDepth 100000 in
theorem intervalSets_lifted (os : Os) (started : os.Started) (H : Type) (enc : TypeId × Value → H) :
    ReturnsInHanded {} Tryz.checked os 5 .any (Rows.intervalSetsSpec.pre6 enc Tryz.prog Tryz.f5 Rows.intervalSetsRow.domain false) (Rows.intervalSetsSpec.post enc Tryz.prog Tryz.f5 false true false false) := by
  refine returnsInHanded_of_change (C := Tryz.checked) own started (by kernel_rfl) Tryz.func5
    (ChangeSpec.witness6 (enc := enc) (C := Tryz.checked) false ⟨#[], #[.agg #[.bool false, .slice none 0 0, .slice none 0 0, .bool false, .slice none 0 0, .slice none 0 0], .agg #[.bool false, .slice none 0 0, .slice none 0 0, .bool false, .slice none 0 0, .slice none 0 0], .agg #[.bool false, .slice none 0 0, .slice none 0 0]], []⟩ 8 (by kernel_rfl) (by kernel_rfl) (by kernel_rfl) (by kernel_rfl)) ?_
  intro W base args ds gs before hval0 hW hcnd _
  exact law_post (P := Tryz.prog) (fn := Tryz.f5) (s := Rows.intervalSetsSpec) laidOut fs_law06_IntervalSets (fun τ h => gif_pos ⟨DI_of h.1, DI_of h.2.1, DR_of h.2.2.1⟩) ⟨par_interval, par_interval, par_rational, trivial⟩ rfl Tryz.underlying4 rfl
    (fun ds h => by
      match ds, h with
      | [d1, d2, d3], _ => exact ⟨rfl, rfl, rfl⟩) hval0 hW

theorem intervalSets_inPlace : Tryz.prog.inPlace 5 = Rows.intervalSetsRow.inPlace := by kernel_rfl
theorem intervalSets_named : Tryz.prog.varsNamed 5 = Rows.intervalSetsRow.named := by kernel_rfl
theorem intervalSets_unfollowed : Tryz.prog.unfollowed 5 = true := by kernel_rfl
theorem intervalSets_recurses : Tryz.prog.recurses 5 = true := by unfold Program.recurses; rw [intervalSets_unfollowed]; rfl
theorem intervalSets_facts : joinedFacts Tryz.prog 5 Tryz.f5 Rows.intervalSetsSpec Rows.intervalSetsRow = true := by
  unfold joinedFacts
  rw [intervalSets_recurses, intervalSets_unfollowed, intervalSets_inPlace, intervalSets_named]
  kernel_rfl

/-- THE STATEMENT. -/
theorem intervalSets : Rows.IntervalSetsSaid :=
  OpenClaim.holds_of_wide 5 Tryz.f5 rfl rfl rfl rfl rfl rfl rfl ⟨rfl, rfl, rfl, rfl, rfl⟩ rfl rfl rfl rfl rfl (by kernel_rfl) Tryz.func5 intervalSets_facts
    (of_decide_eq_true (by kernel_rfl)) (by unfold Func.isWrapper; first | (rw [if_pos (by decide +kernel)]; kernel_rfl) | (rw [if_neg (by decide +kernel)]; exact ⟨rfl, rfl⟩))
    (fun os started H enc _ => intervalSets_lifted os started H enc)
end Go.Proofs.YtgjgjobaohakgaaGreat

