/-
  PROVED: 'Rows.IntervalMonotonicSaid': cylinderlaw06.IntervalMonotonic, called with whatever three intervals, returns true, and its arguments read behind the call as they read before. No condition beyond those of the row's own form.
  The road: an evaluator of the program's code over typed values, proved sound over the machine; each function's text printed as a plain function and its contract proved over numbers; the links from the program's text (.. Links); the row (here).
-/
import Derived.Test.YtgjgjobaohakgaaIntervalMonotonicLinks5
set_option linter.unusedVariables false
set_option linter.unusedSimpArgs false
set_option linter.unusedSectionVars false
set_option linter.unusedVariables false
namespace Go.Proofs.Ytgjgjobaohakgaa
open Go.ChangeShapes Go.WideShapes Go.ChangeAt Go.RowKit Go.W

set_option maxRecDepth 100000 in
theorem intervalMonotonic_lifted (os : Os) (started : os.Started) (H : Type) (enc : TypeId × Value → H) :
    ReturnsInHanded {} Try.checked os 14 .any (Rows.intervalMonotonicSpec.pre6 enc Try.prog Try.f14 Rows.intervalMonotonicRow.domain false) (Rows.intervalMonotonicSpec.post enc Try.prog Try.f14 false true false false) := by
  refine returnsInHanded_of_change (C := Try.checked) own started (by kernel_rfl) Try.func14
    (ChangeSpec.witness6 (enc := enc) (C := Try.checked) false ⟨#[], #[.agg #[.bool false, .slice none 0 0, .slice none 0 0, .bool false, .slice none 0 0, .slice none 0 0], .agg #[.bool false, .slice none 0 0, .slice none 0 0, .bool false, .slice none 0 0, .slice none 0 0], .agg #[.bool false, .slice none 0 0, .slice none 0 0, .bool false, .slice none 0 0, .slice none 0 0]], []⟩ 8 (by kernel_rfl) (by kernel_rfl) (by kernel_rfl) (by kernel_rfl)) ?_
  intro W base args ds gs before hval0 hW hcnd _
  exact law_post (P := Try.prog) (fn := Try.f14) (s := Rows.intervalMonotonicSpec) laidOut fs_law06_IntervalMonotonic (fun τ h => gif_pos ⟨DI_of h.1, DI_of h.2.1, DI_of h.2.2.1⟩) ⟨par_interval, par_interval, par_interval, trivial⟩ rfl Try.underlying4 rfl
    (fun ds h => by
      match ds, h with
      | [d1, d2, d3], _ => exact ⟨rfl, rfl, rfl⟩) hval0 hW

theorem intervalMonotonic_inPlace : Try.prog.inPlace 14 = Rows.intervalMonotonicRow.inPlace := by kernel_rfl
theorem intervalMonotonic_named : Try.prog.varsNamed 14 = Rows.intervalMonotonicRow.named := by kernel_rfl
theorem intervalMonotonic_unfollowed : Try.prog.unfollowed 14 = true := by kernel_rfl
theorem intervalMonotonic_recurses : Try.prog.recurses 14 = true := by unfold Program.recurses; rw [intervalMonotonic_unfollowed]; rfl
theorem intervalMonotonic_facts : joinedFacts Try.prog 14 Try.f14 Rows.intervalMonotonicSpec Rows.intervalMonotonicRow = true := by
  unfold joinedFacts
  rw [intervalMonotonic_recurses, intervalMonotonic_unfollowed, intervalMonotonic_inPlace, intervalMonotonic_named]
  kernel_rfl

/-- THE STATEMENT. -/
theorem intervalMonotonic : Rows.IntervalMonotonicSaid :=
  OpenClaim.holds_of_wide 14 Try.f14 rfl rfl rfl rfl rfl rfl rfl ⟨rfl, rfl, rfl, rfl, rfl⟩ rfl rfl rfl rfl rfl (by kernel_rfl) Try.func14 intervalMonotonic_facts
    (of_decide_eq_true (by kernel_rfl)) (by unfold Func.isWrapper; first | (rw [if_pos (by decide +kernel)]; kernel_rfl) | (rw [if_neg (by decide +kernel)]; exact ⟨rfl, rfl⟩))
    (fun os started H enc _ => intervalMonotonic_lifted os started H enc)
end Go.Proofs.Ytgjgjobaohakgaa

