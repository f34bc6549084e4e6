/-
  PROVED: 'Rows.SturmChainsSaid': cylinderlaw15.SturmChains, called with whatever two slices of int16, returns true, and its arguments read behind the call as they read before. No condition beyond those of the row's own form.
  The road: an evaluator of the program's code over typed values, proved sound over the machine; each function's text printed as a plain function and its contract proved over numbers; the links from the program's text (.. Links); the row (here).
-/
import Derived.Test.YtgchnnhghmlfdaaSturmChainsLinks4
set_option linter.unusedVariables false
set_option linter.unusedSimpArgs false
set_option linter.unusedSectionVars false
set_option linter.unusedVariables false
namespace Go.Proofs.Ytgchnnhghmlfdaa
open Go.ChangeShapes Go.WideShapes Go.ChangeAt Go.RowKit Go.W

set_option maxRecDepth 100000 in
theorem sturmChains_lifted (os : Os) (started : os.Started) (H : Type) (enc : TypeId × Value → H) :
    ReturnsInHanded {} Try.checked os 3 .any (Rows.sturmChainsSpec.pre6 enc Try.prog Try.f3 Rows.sturmChainsRow.domain false) (Rows.sturmChainsSpec.post enc Try.prog Try.f3 false true false false) := by
  refine returnsInHanded_of_change (C := Try.checked) own started (by kernel_rfl) Try.func3
    (ChangeSpec.witness6 (enc := enc) (C := Try.checked) false ⟨#[], #[.slice none 0 0, .slice none 0 0], []⟩ 8 (by kernel_rfl) (by kernel_rfl) (by kernel_rfl) (by kernel_rfl)) ?_
  intro W base args ds gs before hval0 hW hcnd _
  exact law_post (P := Try.prog) (fn := Try.f3) (s := Rows.sturmChainsSpec) laidOut fs_law15_SturmChains (fun τ h => gif_pos ⟨⟨h.1.1, fun x hx => h.1.2 x hx⟩, h.2.1.1, fun x hx => h.2.1.2 x hx⟩) ⟨par_t22, par_t22, trivial⟩ rfl Try.underlying4 rfl
    (fun ds h => by
      match ds, h with
      | [d1, d2], _ => exact ⟨rfl, rfl, rfl⟩) hval0 hW

theorem sturmChains_inPlace : Try.prog.inPlace 3 = Rows.sturmChainsRow.inPlace := by kernel_rfl
theorem sturmChains_named : Try.prog.varsNamed 3 = Rows.sturmChainsRow.named := by kernel_rfl
theorem sturmChains_unfollowed : Try.prog.unfollowed 3 = true := by kernel_rfl
theorem sturmChains_recurses : Try.prog.recurses 3 = true := by unfold Program.recurses; rw [sturmChains_unfollowed]; rfl
theorem sturmChains_facts : joinedFacts Try.prog 3 Try.f3 Rows.sturmChainsSpec Rows.sturmChainsRow = true := by
  unfold joinedFacts
  rw [sturmChains_recurses, sturmChains_unfollowed, sturmChains_inPlace, sturmChains_named]
  kernel_rfl

/-- THE STATEMENT. -/
theorem sturmChains : Rows.SturmChainsSaid :=
  OpenClaim.holds_of_wide 3 Try.f3 rfl rfl rfl rfl rfl rfl rfl ⟨rfl, rfl, rfl, rfl, rfl⟩ rfl rfl rfl rfl rfl (by kernel_rfl) Try.func3 sturmChains_facts
    (of_decide_eq_true (by kernel_rfl)) (by unfold Func.isWrapper; first | (rw [if_pos (by decide +kernel)]; kernel_rfl) | (rw [if_neg (by decide +kernel)]; exact ⟨rfl, rfl⟩))
    (fun os started H enc _ => sturmChains_lifted os started H enc)
end Go.Proofs.Ytgchnnhghmlfdaa

