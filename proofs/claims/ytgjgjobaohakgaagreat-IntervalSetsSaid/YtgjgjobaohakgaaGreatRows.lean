/-
  No cell of these rows narrows 'for every input' (looked for: loops, veiled, ifaces, maps, wideKeys, modest, calm, conditions, laid).
  DERIVED. THE GIVEN ROWS OF THIS SEAT. 3 by the template 'for every input the law returns true; each argument reads behind the call as it read before'; 0 by the template 'total and deterministic' (their statements: YtgjgjobaohakgaaGreatTotals.lean).
  GIVEN WITH THE SEED: the statements are not yours to turn. If you find one false, say at which input.
  Laid BY PROGRAM, IN A SANDBOX (cutbox-rows.mjs): the forced cells as the released guide's own fill.sh prints them over the translation fdce9c1f56beec6c… (all of the seat's roots in one cut). By AI agents, Wed Nov 11 2026. No macro, syntax, notation, axiom, sorry.
-/
import Derived.Test.YtgjgjobaohakgaaGreatChecked
import GoSem.Claim
import GoSem.ClaimJoined
import GoSem.ClaimMapViews
import Derived.JoinedTies
import Derived.KernelRfl
namespace Go.Proofs.YtgjgjobaohakgaaGreat
/- THE CELL 'sum', in the pinned program and in every row, IS THE sha256 OF THE DUMP (.gsa) THAT YtgjgjobaohakgaaGreatProg.lean LOADS. Nothing in Lean hashes anything: it is a label: what it is worth is what the hold of that sum in a sandbox is worth. -/
noncomputable def Tryz.pinned : Pinned := { name := "ytgjgjobaohakgaagreat", sum := "fdce9c1f56beec6cdf537c46624e60ce1da2fe7a5dd3c226b3adbd0f71584f8f", checked := Tryz.checked }
namespace Rows
def none {H : Type} : Left H := { results := [], args := [] }

/-- 'cylinderlaw06.IntervalArithmetic': WHATEVER THE INPUT: true; the input reads as it did. -/
def intervalArithmeticSpec : ChangeSpec := { name := "intervalArithmetic", fn := fun _ => fun
  | [d1, d2, d3] => { results := [.lit (.bool true)], args := [d1, d2, d3] }
  | _ => none }
def intervalArithmeticRow : OpenClaim := { program := "ytgjgjobaohakgaagreat", sum := "fdce9c1f56beec6cdf537c46624e60ce1da2fe7a5dd3c226b3adbd0f71584f8f", func := "cylinder/cylinderlaw06.IntervalArithmetic", spec := "intervalArithmetic", unfollowed := true, recurses := true, named := ["math/bits.overflowError", "math/bits.divideError"], apart := false }
def IntervalArithmeticSaid : Prop := intervalArithmeticRow.holds Tryz.pinned (OpenSpec.ofChange intervalArithmeticSpec)

/-- ITS FALSE NEIGHBOUR: 'it returns false'. Refute it at one input. -/
def intervalArithmeticWrong : ChangeSpec := { name := "intervalArithmetic", fn := fun _ => fun
  | [d1, d2, d3] => { results := [.lit (.bool false)], args := [d1, d2, d3] }
  | _ => none }
def IntervalArithmeticWrongFalsely : Prop := intervalArithmeticRow.holds Tryz.pinned (OpenSpec.ofChange intervalArithmeticWrong)

/-- 'cylinderlaw06.IntervalEvals': WHATEVER THE INPUT: true; the input reads as it did. -/
def intervalEvalsSpec : ChangeSpec := { name := "intervalEvals", fn := fun _ => fun
  | [d1, d2, d3] => { results := [.lit (.bool true)], args := [d1, d2, d3] }
  | _ => none }
def intervalEvalsRow : OpenClaim := { program := "ytgjgjobaohakgaagreat", sum := "fdce9c1f56beec6cdf537c46624e60ce1da2fe7a5dd3c226b3adbd0f71584f8f", func := "cylinder/cylinderlaw06.IntervalEvals", spec := "intervalEvals", unfollowed := true, recurses := true, named := ["math/bits.overflowError", "math/bits.divideError"], apart := false }
def IntervalEvalsSaid : Prop := intervalEvalsRow.holds Tryz.pinned (OpenSpec.ofChange intervalEvalsSpec)

/-- ITS FALSE NEIGHBOUR: 'it returns false'. Refute it at one input. -/
def intervalEvalsWrong : ChangeSpec := { name := "intervalEvals", fn := fun _ => fun
  | [d1, d2, d3] => { results := [.lit (.bool false)], args := [d1, d2, d3] }
  | _ => none }
def IntervalEvalsWrongFalsely : Prop := intervalEvalsRow.holds Tryz.pinned (OpenSpec.ofChange intervalEvalsWrong)

/-- 'cylinderlaw06.IntervalSets': WHATEVER THE INPUT: true; the input reads as it did. -/
def intervalSetsSpec : ChangeSpec := { name := "intervalSets", fn := fun _ => fun
  | [d1, d2, d3] => { results := [.lit (.bool true)], args := [d1, d2, d3] }
  | _ => none }
def intervalSetsRow : OpenClaim := { program := "ytgjgjobaohakgaagreat", sum := "fdce9c1f56beec6cdf537c46624e60ce1da2fe7a5dd3c226b3adbd0f71584f8f", func := "cylinder/cylinderlaw06.IntervalSets", spec := "intervalSets", unfollowed := true, recurses := true, named := ["math/bits.overflowError", "math/bits.divideError"], apart := false }
def IntervalSetsSaid : Prop := intervalSetsRow.holds Tryz.pinned (OpenSpec.ofChange intervalSetsSpec)

/-- ITS FALSE NEIGHBOUR: 'it returns false'. Refute it at one input. -/
def intervalSetsWrong : ChangeSpec := { name := "intervalSets", fn := fun _ => fun
  | [d1, d2, d3] => { results := [.lit (.bool false)], args := [d1, d2, d3] }
  | _ => none }
def IntervalSetsWrongFalsely : Prop := intervalSetsRow.holds Tryz.pinned (OpenSpec.ofChange intervalSetsWrong)

/- THE SECOND FORM. 'bulk': how many values and letters a reading holds, each counted each time it is reached (what is shared counts as often as it is met; a slice's spare places count too). A statement '..UptoSaid' is the law's where the arguments, and the package variables that the reading takes, are together of bulk at most 1048576: NARROWER than '..Said'. Prove '..Said' where nothing that the law and all that it calls make is longer than what came in: it says more and counts as full. Else prove '..UptoSaid'. A law counts once. -/
mutual
def uptoBulk {H : Type} : DataW H → Nat
  | .lit (.string bytes) => bytes.length + 1
  | .lit _ => 1
  | .nil => 1
  | .ptr d => uptoBulk d + 1
  | .slice elems spare => uptoBulkAll elems + uptoBulkAll spare + 1
  | .agg parts => uptoBulkAll parts + 1
  | .iface _ d => uptoBulk d + 1
  | .map entries => uptoBulkEntries entries + 1
  | .held _ => 1
def uptoBulkAll {H : Type} : List (DataW H) → Nat
  | [] => 0
  | d :: r => uptoBulk d + uptoBulkAll r
def uptoBulkEntries {H : Type} : List (Lit × DataW H) → Nat
  | [] => 0
  | x :: r => uptoBulkEntry x + uptoBulkEntries r
def uptoBulkEntry {H : Type} : Lit × DataW H → Nat
  | (.string bytes, d) => bytes.length + uptoBulk d + 1
  | (_, d) => uptoBulk d + 1
 end
def uptoSmall : (H : Type) → List (DataW H) → Bool := fun _ ds => decide (uptoBulkAll ds ≤ 1048576)
def OpenSpec.upto (s : _root_.Go.ChangeSpec) : _root_.Go.OpenSpec := { _root_.Go.OpenSpec.ofChange s with cond := some uptoSmall }

/-- 'cylinderlaw06.IntervalArithmetic', WHERE WHAT IT READS IS OF BULK AT MOST 1048576: true; the input reads as it did. -/
def intervalArithmeticUptoRow : OpenClaim := { program := "ytgjgjobaohakgaagreat", sum := "fdce9c1f56beec6cdf537c46624e60ce1da2fe7a5dd3c226b3adbd0f71584f8f", func := "cylinder/cylinderlaw06.IntervalArithmetic", spec := "intervalArithmetic", unfollowed := true, recurses := true, named := ["math/bits.overflowError", "math/bits.divideError"], apart := false, narrowed := true }
def IntervalArithmeticUptoSaid : Prop := intervalArithmeticUptoRow.holds Tryz.pinned (OpenSpec.upto intervalArithmeticSpec)

/-- 'cylinderlaw06.IntervalEvals', WHERE WHAT IT READS IS OF BULK AT MOST 1048576: true; the input reads as it did. -/
def intervalEvalsUptoRow : OpenClaim := { program := "ytgjgjobaohakgaagreat", sum := "fdce9c1f56beec6cdf537c46624e60ce1da2fe7a5dd3c226b3adbd0f71584f8f", func := "cylinder/cylinderlaw06.IntervalEvals", spec := "intervalEvals", unfollowed := true, recurses := true, named := ["math/bits.overflowError", "math/bits.divideError"], apart := false, narrowed := true }
def IntervalEvalsUptoSaid : Prop := intervalEvalsUptoRow.holds Tryz.pinned (OpenSpec.upto intervalEvalsSpec)

/-- 'cylinderlaw06.IntervalSets', WHERE WHAT IT READS IS OF BULK AT MOST 1048576: true; the input reads as it did. -/
def intervalSetsUptoRow : OpenClaim := { program := "ytgjgjobaohakgaagreat", sum := "fdce9c1f56beec6cdf537c46624e60ce1da2fe7a5dd3c226b3adbd0f71584f8f", func := "cylinder/cylinderlaw06.IntervalSets", spec := "intervalSets", unfollowed := true, recurses := true, named := ["math/bits.overflowError", "math/bits.divideError"], apart := false, narrowed := true }
def IntervalSetsUptoSaid : Prop := intervalSetsUptoRow.holds Tryz.pinned (OpenSpec.upto intervalSetsSpec)

end Rows
end Go.Proofs.YtgjgjobaohakgaaGreat
