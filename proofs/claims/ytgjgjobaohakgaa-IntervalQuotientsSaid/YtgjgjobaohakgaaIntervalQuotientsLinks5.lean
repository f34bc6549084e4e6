/- A part of the proof: texts RowT, RowR. What is proved in the end stands in the last file. -/
import Derived.Test.YtgjgjobaohakgaaIntervalQuotientsLinks4
import Derived.Test.YtgjgjobaohakgaaRows
import Derived.JoinedOf
import Derived.KernelRfl
set_option linter.unusedVariables false
set_option linter.unusedSimpArgs false
set_option linter.unusedSectionVars false
set_option linter.unusedVariables false
namespace Go.W
open Go.Proofs Go.ChangeShapes Go.WideShapes Go.ChangeAt Go.RowKit

/-! ### The types of the laws' arguments -/
theorem own : ownKnob Try.prog.godebug = none := by kernel_rfl
theorem laidOut : laidOutB Try.prog = true := by kernel_rfl
theorem opens_nat : Opens Try.prog 23 (.slice (.int .u32)) := opens_slice Try.underlying23 (by kernel_rfl) (by decide) (opens_int Try.underlying153)
theorem opens_integer : Opens Try.prog 25 (.pair .bool (.slice (.int .u32))) := opens_pair Try.underlying25 (by kernel_rfl) rfl rfl (by kernel_rfl) (by kernel_rfl) (opens_bool Try.underlying4) opens_nat
theorem opens_rational : Opens Try.prog 27 (.pair (.pair .bool (.slice (.int .u32))) (.slice (.int .u32))) := opens_pair Try.underlying27 (by kernel_rfl) rfl rfl (by kernel_rfl) (by kernel_rfl) opens_integer opens_nat
abbrev tInt : Ty := .pair .bool (.slice (.int .u32))
abbrev tRat : Ty := .pair (.pair .bool (.slice (.int .u32))) (.slice (.int .u32))
abbrev tIv : Ty := .pair tRat tRat
theorem opens_interval : Opens Try.prog 65 (.pair tRat tRat) := opens_pair Try.underlying65 (by kernel_rfl) rfl rfl (by kernel_rfl) (by kernel_rfl) opens_rational opens_rational
theorem par_interval : OpensV Try.prog 65 tIv ∧ Try.prog.readableRec 65 = true ∧ 65 < Try.prog.types.size := ⟨opensV_struct Try.underlying65 opens_interval, by kernel_rfl, of_decide_eq_true (by kernel_rfl)⟩
theorem par_i64 : OpensV Try.prog 3 (.int .i64) ∧ Try.prog.readableRec 3 = true ∧ 3 < Try.prog.types.size := ⟨opensV_int Try.underlying3, by kernel_rfl, of_decide_eq_true (by kernel_rfl)⟩
theorem par_str : OpensV Try.prog 9 .str ∧ Try.prog.readableRec 9 = true ∧ 9 < Try.prog.types.size := ⟨opensV_str Try.underlying9, by kernel_rfl, of_decide_eq_true (by kernel_rfl)⟩
theorem par_rational : OpensV Try.prog 27 tRat ∧ Try.prog.readableRec 27 = true ∧ 27 < Try.prog.types.size := ⟨opensV_struct Try.underlying27 opens_rational, by kernel_rfl, of_decide_eq_true (by kernel_rfl)⟩
theorem par_integer : OpensV Try.prog 25 tInt ∧ Try.prog.readableRec 25 = true ∧ 25 < Try.prog.types.size := ⟨opensV_struct Try.underlying25 opens_integer, by kernel_rfl, of_decide_eq_true (by kernel_rfl)⟩
theorem par_i8 : OpensV Try.prog 28 (.int .i8) ∧ Try.prog.readableRec 28 = true ∧ 28 < Try.prog.types.size := ⟨opensV_int Try.underlying28, by kernel_rfl, of_decide_eq_true (by kernel_rfl)⟩

theorem DV_of {l : List Int} (h : wfT (.slice (.int .u32)) l) : DV 4294967296 l := fun x hx => by
  have h1 : (0 : Int) ≤ x ∧ x ≤ 4294967295 := h.2 x hx
  omega
theorem DI_of0 {a : tIv.D} (h : wfT tIv a) : (∀ {x : tRat.D}, wfT tRat x → DR x) → DI a := fun f => ⟨f h.1, f h.2⟩
theorem DR_of {a : tRat.D} (h : wfT tRat a) : DR a := ⟨DV_of h.1.2, DV_of h.2⟩
theorem DI_of {a : tIv.D} (h : wfT tIv a) : DI a := DI_of0 h DR_of
end Go.W

set_option linter.unusedVariables false
namespace Go.W

/-! ### No function of a closure calls itself: by a rank -/
def leads (P : Program) (g : FuncId) : List FuncId := (P.funcs[g]?).elim [] P.leadsTo

theorem mem_closureVia {P : Program} {J : Nat → Prop} (hJ : ∀ g, J g → ∀ h ∈ leads P g, J h) : ∀ (n : Nat) (todo seen : List FuncId), (∀ x ∈ todo, J x) → (∀ x ∈ seen, J x) → ∀ x ∈ P.closureVia n todo seen, J x
  | 0, todo, seen, _, hs, x, hx => hs x (by simpa [Program.closureVia] using hx)
  | n + 1, [], seen, _, hs, x, hx => hs x (by simpa [Program.closureVia] using hx)
  | n + 1, f :: todo, seen, ht, hs, x, hx => by
    rw [Program.closureVia] at hx
    split at hx
    · exact mem_closureVia hJ n todo seen (fun y hy => ht y (List.mem_cons_of_mem _ hy)) hs x hx
    · refine mem_closureVia hJ n _ (f :: seen) (fun y hy => ?_) (fun y hy => ?_) x hx
      · rcases List.mem_append.1 hy with hy | hy
        · exact hJ f (ht f (by simp)) y hy
        · exact ht y (List.mem_cons_of_mem _ hy)
      · rcases List.mem_cons.1 hy with rfl | hy
        · exact ht _ (by simp)
        · exact hs y hy

def rankOK (P : Program) (l : List Nat) : Bool := l.all fun g => (leads P g).all fun h => Nat.blt (l.idxOf h) (l.idxOf g)

theorem recurses_false {P : Program} {f : FuncId} {l : List Nat} (hu : P.unfollowed f = false) (h : rankOK P l = true) (hf : l.contains f = true) : P.recurses f = false := by
  have hr : ∀ g, g ∈ l → ∀ h ∈ leads P g, h ∈ l ∧ l.idxOf h < l.idxOf g := fun g hg k hk => by
    have h1 := List.all_eq_true.1 h g hg
    have h2 := List.all_eq_true.1 h1 k hk
    have h3 : l.idxOf k < l.idxOf g := by simpa [Nat.blt_eq] using h2
    exact ⟨List.idxOf_lt_length_iff.1 (Nat.lt_of_lt_of_le h3 (List.idxOf_le_length)), h3⟩
  have hf : f ∈ l := by simpa using hf
  unfold Program.recurses
  rw [hu, Bool.false_or]
  rw [Bool.eq_false_iff]
  intro hx
  obtain ⟨g, hg, hx⟩ := List.any_eq_true.1 hx
  obtain ⟨k, hk, hx⟩ := List.any_eq_true.1 hx
  have hgl : g ∈ l := mem_closureVia (J := fun x => x ∈ l) (fun a ha b hb => (hr a ha b hb).1) _ [f] [] (fun x hx => by simpa using (by simpa using hx : x = f) ▸ hf) (fun x hx => by simp at hx) g hg
  obtain ⟨hkl, hlt⟩ := hr g hgl k hk
  have := mem_closureVia (J := fun x => x ∈ l ∧ l.idxOf x ≤ l.idxOf k) (fun a ha b hb => ⟨(hr a ha.1 b hb).1, Nat.le_trans (Nat.le_of_lt (hr a ha.1 b hb).2) ha.2⟩) _ [k] [] (fun x hx => by
    obtain rfl : x = k := by simpa using hx
    exact ⟨hkl, Nat.le_refl _⟩) (fun x hx => by simp at hx) g (by simpa [Program.closure] using hx)
  omega
end Go.W

