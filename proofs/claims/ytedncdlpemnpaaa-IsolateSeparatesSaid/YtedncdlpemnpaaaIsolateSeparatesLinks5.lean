/- A part of the proof: texts Lk, Row, RowN, RowR. What is proved in the end stands in the last file. -/
import Derived.Test.YtedncdlpemnpaaaIs5
import Derived.Test.YtedncdlpemnpaaaProg
import Derived.WalkKit
import Derived.ProofKit
import Derived.OpenShut
import Derived.ChangeOld
import Derived.Below
import Derived.ChangeArms
import Derived.Test.YtedncdlpemnpaaaRows
import Derived.JoinedOf
import Derived.KernelRfl
set_option linter.unusedVariables false
set_option linter.unusedSimpArgs false
set_option linter.unusedSectionVars false
set_option linter.unusedVariables false
namespace Go.W
open Go.Proofs
noncomputable section

abbrev E_unidiv_Exact : Env := mkE tys [(19, callE [tP] [(.int .i64, false)] (fun τ => F_unipoly_Degree τ.1)), (55, callE [tP] [(tP, true)] (fun τ => F_unipoly_Normal τ.1)), (57, callE [tP] [(tI, false)] (fun τ => F_unipoly_Lead τ.1)), (66, callE [tI, tI] [(tI, false), (.int .i64, false)] (fun τ => F_division_Exact τ.1 τ.2.1)), (73, callE [tP] [(.bool, false)] (fun τ => F_unidiv_zero τ.1)), (88, callE [tP, tP] [(tP, false)] (fun τ => F_unipoly_Sub τ.1 τ.2.1)), (89, callE [tP, tI, .int .i64] [(tP, false)] (fun τ => F_unidiv_shifted τ.1 τ.2.1 τ.2.2.1))] []
def c_unidiv_Exact : List (Nat × Live) := [(25, ⟨[(1, tP), (6, tP), (7, .int .i64)], [(true, 8, tI), (false, 9, tI)], []⟩)]
noncomputable abbrev fe_unidiv_Exact := (finE (E_unidiv_Exact) [(tP, false), (.int .i64, false)] Try.f76.results.toList)
noncomputable abbrev cn_unidiv_Exact_25 (x1 : List (Bool × List Int)) (x6 : List (Bool × List Int)) (x7 : Int) (x8 : Bool × List Int) (x9 : List (Bool × List Int)) : St := ⟨[(9, .one (.loc tI 10001)), (8, .one (.ptr 10000 0 [])), (7, .one (.val (.int .i64) x7)), (6, .one (.val tP x6)), (1, .one (.val tP x1))], [(10001, some ⟨tI, x9, false⟩), (10000, some ⟨tI, [x8], false⟩)]⟩
noncomputable abbrev kk_unidiv_Exact_25 (S : Nat → KT (RT [(tP, false), (.int .i64, false)])) := fun (x1 : List (Bool × List Int)) (x6 : List (Bool × List Int)) (x7 : Int) (x8 : Bool × List Int) (x9 : List (Bool × List Int)) => S 25 (cn_unidiv_Exact_25 x1 x6 x7 x8 x9)
theorem top_unidiv_Exact (S : Nat → KT (RT [(tP, false), (.int .i64, false)])) (a0 : List (Bool × List Int)) (a1 : List (Bool × List Int)) : evA (E_unidiv_Exact) (lk c_unidiv_Exact) S (bodyOf Try.f76) noX (fe_unidiv_Exact) (fe_unidiv_Exact) (initSt [tP, tP] (a0, a1, ())) = T_unidiv_Exact (kk_unidiv_Exact_25 S) a0 a1 := by kernel_rfl
theorem seg_unidiv_Exact_25 (S : Nat → KT (RT [(tP, false), (.int .i64, false)])) (x1 : List (Bool × List Int)) (x6 : List (Bool × List Int)) (x7 : Int) (x8 : Bool × List Int) (x9 : List (Bool × List Int)) : stepT (entry (E_unidiv_Exact) (lk c_unidiv_Exact) S 25 (bodyOf Try.f76) noX (fe_unidiv_Exact) (fe_unidiv_Exact)) (cn_unidiv_Exact_25 x1 x6 x7 x8 x9) = S_unidiv_Exact_25 (kk_unidiv_Exact_25 S) x1 x6 x7 x8 x9 := by kernel_rfl
noncomputable abbrev tb_unidiv_Exact := tab (E_unidiv_Exact) (lk c_unidiv_Exact) (bodyOf Try.f76) (fe_unidiv_Exact)
theorem ok_unidiv_Exact : EnvOK Try.prog (E_unidiv_Exact) := mkE_ok tys_ok ⟨⟨fs_unipoly_Degree.csound, ⟨Try.f19, by kernel_rfl, by kernel_rfl, by kernel_rfl⟩⟩, ⟨fs_unipoly_Normal.csound, ⟨Try.f55, by kernel_rfl, by kernel_rfl, by kernel_rfl⟩⟩, ⟨fs_unipoly_Lead.csound, ⟨Try.f57, by kernel_rfl, by kernel_rfl, by kernel_rfl⟩⟩, ⟨fs_division_Exact.csound, ⟨Try.f66, by kernel_rfl, by kernel_rfl, by kernel_rfl⟩⟩, ⟨fs_unidiv_zero.csound, ⟨Try.f73, by kernel_rfl, by kernel_rfl, by kernel_rfl⟩⟩, ⟨fs_unipoly_Sub.csound, ⟨Try.f88, by kernel_rfl, by kernel_rfl, by kernel_rfl⟩⟩, ⟨fs_unidiv_shifted.csound, ⟨Try.f89, by kernel_rfl, by kernel_rfl, by kernel_rfl⟩⟩, trivial⟩ trivial
theorem fs_unidiv_Exact : FSound Try.prog 76 [tP, tP] [(tP, false), (.int .i64, false)] (fun τ => F_unidiv_Exact τ.1 τ.2.1) :=
  evG_sound (E := (E_unidiv_Exact)) (C := (lk c_unidiv_Exact)) ok_unidiv_Exact mixed_ok (fn := Try.f76) (c := (bodyOf Try.f76)) (by kernel_rfl) (by kernel_rfl) (by kernel_rfl) (by kernel_rfl) (by kernel_rfl) (by kernel_rfl) (fun τ r h => by
    obtain ⟨a0, a1, ⟨⟩⟩ := τ
    obtain ⟨m, hm⟩ := Rn_unidiv_Exact (fun m => kk_unidiv_Exact_25 (tb_unidiv_Exact m)) (fun m x1 x6 x7 x8 x9 => (tab_succ (E_unidiv_Exact) (lk c_unidiv_Exact) (bodyOf Try.f76) (fe_unidiv_Exact) m 25 (cn_unidiv_Exact_25 x1 x6 x7 x8 x9)).trans (seg_unidiv_Exact_25 (tb_unidiv_Exact m) x1 x6 x7 x8 x9)) a0 a1 r h
    exact ⟨m, (top_unidiv_Exact (tb_unidiv_Exact m) a0 a1).trans (hm m (Nat.le_refl m))⟩)

abbrev E_squarefree_quotient : Env := mkE tys [(76, callE [tP, tP] [(tP, false), (.int .i64, false)] (fun τ => F_unidiv_Exact τ.1 τ.2.1))] []
def c_squarefree_quotient : List (Nat × Live) := []
noncomputable abbrev fe_squarefree_quotient := (finE (E_squarefree_quotient) [(tP, false)] Try.f51.results.toList)
theorem top_squarefree_quotient (S : Nat → KT (RT [(tP, false)])) (a0 : List (Bool × List Int)) (a1 : List (Bool × List Int)) : evA (E_squarefree_quotient) (lk c_squarefree_quotient) S (bodyOf Try.f51) noX (fe_squarefree_quotient) (fe_squarefree_quotient) (initSt [tP, tP] (a0, a1, ())) = T_squarefree_quotient a0 a1 := by kernel_rfl
noncomputable abbrev tb_squarefree_quotient := tab (E_squarefree_quotient) (lk c_squarefree_quotient) (bodyOf Try.f51) (fe_squarefree_quotient)
theorem ok_squarefree_quotient : EnvOK Try.prog (E_squarefree_quotient) := mkE_ok tys_ok ⟨⟨fs_unidiv_Exact.csound, ⟨Try.f76, by kernel_rfl, by kernel_rfl, by kernel_rfl⟩⟩, trivial⟩ trivial
theorem fs_squarefree_quotient : FSound Try.prog 51 [tP, tP] [(tP, false)] (fun τ => F_squarefree_quotient τ.1 τ.2.1) :=
  evG_sound (E := (E_squarefree_quotient)) (C := (lk c_squarefree_quotient)) ok_squarefree_quotient mixed_ok (fn := Try.f51) (c := (bodyOf Try.f51)) (by kernel_rfl) (by kernel_rfl) (by kernel_rfl) (by kernel_rfl) (by kernel_rfl) (by kernel_rfl) (fun τ r h => by
    obtain ⟨a0, a1, ⟨⟩⟩ := τ
    obtain ⟨m, hm⟩ := Rn_squarefree_quotient a0 a1 r h
    exact ⟨m, (top_squarefree_quotient (tb_squarefree_quotient m) a0 a1).trans (hm m (Nat.le_refl m))⟩)

abbrev E_unipoly_Derivative : Env := mkE tys [(18, callE [.int .i64] [(tI, false)] (fun τ => F_integer_Of τ.1)), (30, callE [tI, tI] [(tI, false)] (fun τ => F_integer_Mul τ.1 τ.2.1))] [(37, mixO (callO [] false tI .pre (fun τ l => O_unipoly_trim l)) (callI (callE [tP] [(tP, false)] (fun τ => F_unipoly_trim τ.1))))]
def c_unipoly_Derivative : List (Nat × Live) := [(25, ⟨[(0, tP), (15, .int .i64), (16, .int .i64)], [(false, 3, tI)], []⟩)]
noncomputable abbrev fe_unipoly_Derivative := (finE (E_unipoly_Derivative) [(tP, false)] Try.f53.results.toList)
noncomputable abbrev cn_unipoly_Derivative_25 (x0 : List (Bool × List Int)) (x15 : Int) (x16 : Int) (x3 : List (Bool × List Int)) : St := ⟨[(3, .one (.loc tI 10000)), (16, .one (.val (.int .i64) x16)), (15, .one (.val (.int .i64) x15)), (0, .one (.val tP x0))], [(10000, some ⟨tI, x3, false⟩)]⟩
noncomputable abbrev kk_unipoly_Derivative_25 (S : Nat → KT (RT [(tP, false)])) := fun (x0 : List (Bool × List Int)) (x15 : Int) (x16 : Int) (x3 : List (Bool × List Int)) => S 25 (cn_unipoly_Derivative_25 x0 x15 x16 x3)
theorem top_unipoly_Derivative (S : Nat → KT (RT [(tP, false)])) (a0 : List (Bool × List Int)) : evA (E_unipoly_Derivative) (lk c_unipoly_Derivative) S (bodyOf Try.f53) noX (fe_unipoly_Derivative) (fe_unipoly_Derivative) (initSt [tP] (a0, ())) = T_unipoly_Derivative (kk_unipoly_Derivative_25 S) a0 := by kernel_rfl
theorem seg_unipoly_Derivative_25 (S : Nat → KT (RT [(tP, false)])) (x0 : List (Bool × List Int)) (x15 : Int) (x16 : Int) (x3 : List (Bool × List Int)) : stepT (entry (E_unipoly_Derivative) (lk c_unipoly_Derivative) S 25 (bodyOf Try.f53) noX (fe_unipoly_Derivative) (fe_unipoly_Derivative)) (cn_unipoly_Derivative_25 x0 x15 x16 x3) = S_unipoly_Derivative_25 (kk_unipoly_Derivative_25 S) x0 x15 x16 x3 := by kernel_rfl
noncomputable abbrev tb_unipoly_Derivative := tab (E_unipoly_Derivative) (lk c_unipoly_Derivative) (bodyOf Try.f53) (fe_unipoly_Derivative)
theorem ok_unipoly_Derivative : EnvOK Try.prog (E_unipoly_Derivative) := mkE_ok tys_ok ⟨⟨fs_integer_Of.csound, ⟨Try.f18, by kernel_rfl, by kernel_rfl, by kernel_rfl⟩⟩, ⟨fs_integer_Mul.csound, ⟨Try.f30, by kernel_rfl, by kernel_rfl, by kernel_rfl⟩⟩, trivial⟩ ⟨⟨PSound.mix os_unipoly_trim.psound (CSound.psound fs_unipoly_trim.csound), ⟨Try.f37, by kernel_rfl, by kernel_rfl, by kernel_rfl⟩⟩, trivial⟩
theorem fs_unipoly_Derivative : FSound Try.prog 53 [tP] [(tP, false)] (fun τ => F_unipoly_Derivative τ.1) :=
  evG_sound (E := (E_unipoly_Derivative)) (C := (lk c_unipoly_Derivative)) ok_unipoly_Derivative mixed_ok (fn := Try.f53) (c := (bodyOf Try.f53)) (by kernel_rfl) (by kernel_rfl) (by kernel_rfl) (by kernel_rfl) (by kernel_rfl) (by kernel_rfl) (fun τ r h => by
    obtain ⟨a0, ⟨⟩⟩ := τ
    obtain ⟨m, hm⟩ := Rn_unipoly_Derivative (fun m => kk_unipoly_Derivative_25 (tb_unipoly_Derivative m)) (fun m x0 x15 x16 x3 => (tab_succ (E_unipoly_Derivative) (lk c_unipoly_Derivative) (bodyOf Try.f53) (fe_unipoly_Derivative) m 25 (cn_unipoly_Derivative_25 x0 x15 x16 x3)).trans (seg_unipoly_Derivative_25 (tb_unipoly_Derivative m) x0 x15 x16 x3)) a0 r h
    exact ⟨m, (top_unipoly_Derivative (tb_unipoly_Derivative m) a0).trans (hm m (Nat.le_refl m))⟩)

abbrev E_squarefree_Part : Env := mkE tys [(19, callE [tP] [(.int .i64, false)] (fun τ => F_unipoly_Degree τ.1)), (50, callE [tP] [(tP, false)] (fun τ => F_unidiv_Primitive τ.1)), (51, callE [tP, tP] [(tP, false)] (fun τ => F_squarefree_quotient τ.1 τ.2.1)), (52, callE [tP, tP] [(tP, false)] (fun τ => F_unidiv_Gcd τ.1 τ.2.1)), (53, callE [tP] [(tP, false)] (fun τ => F_unipoly_Derivative τ.1))] []
def c_squarefree_Part : List (Nat × Live) := []
noncomputable abbrev fe_squarefree_Part := (finE (E_squarefree_Part) [(tP, false)] Try.f31.results.toList)
theorem top_squarefree_Part (S : Nat → KT (RT [(tP, false)])) (a0 : List (Bool × List Int)) : evA (E_squarefree_Part) (lk c_squarefree_Part) S (bodyOf Try.f31) noX (fe_squarefree_Part) (fe_squarefree_Part) (initSt [tP] (a0, ())) = T_squarefree_Part a0 := by kernel_rfl
noncomputable abbrev tb_squarefree_Part := tab (E_squarefree_Part) (lk c_squarefree_Part) (bodyOf Try.f31) (fe_squarefree_Part)
theorem ok_squarefree_Part : EnvOK Try.prog (E_squarefree_Part) := mkE_ok tys_ok ⟨⟨fs_unipoly_Degree.csound, ⟨Try.f19, by kernel_rfl, by kernel_rfl, by kernel_rfl⟩⟩, ⟨fs_unidiv_Primitive.csound, ⟨Try.f50, by kernel_rfl, by kernel_rfl, by kernel_rfl⟩⟩, ⟨fs_squarefree_quotient.csound, ⟨Try.f51, by kernel_rfl, by kernel_rfl, by kernel_rfl⟩⟩, ⟨fs_unidiv_Gcd.csound, ⟨Try.f52, by kernel_rfl, by kernel_rfl, by kernel_rfl⟩⟩, ⟨fs_unipoly_Derivative.csound, ⟨Try.f53, by kernel_rfl, by kernel_rfl, by kernel_rfl⟩⟩, trivial⟩ trivial
theorem fs_squarefree_Part : FSound Try.prog 31 [tP] [(tP, false)] (fun τ => F_squarefree_Part τ.1) :=
  evG_sound (E := (E_squarefree_Part)) (C := (lk c_squarefree_Part)) ok_squarefree_Part mixed_ok (fn := Try.f31) (c := (bodyOf Try.f31)) (by kernel_rfl) (by kernel_rfl) (by kernel_rfl) (by kernel_rfl) (by kernel_rfl) (by kernel_rfl) (fun τ r h => by
    obtain ⟨a0, ⟨⟩⟩ := τ
    obtain ⟨m, hm⟩ := Rn_squarefree_Part a0 r h
    exact ⟨m, (top_squarefree_Part (tb_squarefree_Part m) a0).trans (hm m (Nat.le_refl m))⟩)

abbrev E_rational_one : Env := mkE tys [(42, callE [.int .u64] [(tN, false)] (fun τ => F_natural_Of τ.1))] []
def c_rational_one : List (Nat × Live) := []
noncomputable abbrev fe_rational_one := (finE (E_rational_one) [(tN, false)] Try.f45.results.toList)
theorem top_rational_one (S : Nat → KT (RT [(tN, false)])) : evA (E_rational_one) (lk c_rational_one) S (bodyOf Try.f45) noX (fe_rational_one) (fe_rational_one) (initSt [] ()) = T_rational_one := by kernel_rfl
noncomputable abbrev tb_rational_one := tab (E_rational_one) (lk c_rational_one) (bodyOf Try.f45) (fe_rational_one)
theorem ok_rational_one : EnvOK Try.prog (E_rational_one) := mkE_ok tys_ok ⟨⟨fs_natural_Of.csound, ⟨Try.f42, by kernel_rfl, by kernel_rfl, by kernel_rfl⟩⟩, trivial⟩ trivial
theorem fs_rational_one : FSound Try.prog 45 [] [(tN, false)] (fun τ => F_rational_one) :=
  evG_sound (E := (E_rational_one)) (C := (lk c_rational_one)) ok_rational_one mixed_ok (fn := Try.f45) (c := (bodyOf Try.f45)) (by kernel_rfl) (by kernel_rfl) (by kernel_rfl) (by kernel_rfl) (by kernel_rfl) (by kernel_rfl) (fun τ r h => by
    obtain ⟨⟩ := τ
    obtain ⟨m, hm⟩ := Rn_rational_one r h
    exact ⟨m, (top_rational_one (tb_rational_one m)).trans (hm m (Nat.le_refl m))⟩)

abbrev E_rational_From : Env := mkE tys [(45, callE [] [(tN, false)] (fun τ => F_rational_one)), (54, callE [tI] [(tI, false)] (fun τ => F_integer_Normal τ.1))] []
def c_rational_From : List (Nat × Live) := []
noncomputable abbrev fe_rational_From := (finE (E_rational_From) [(.pair tI tN, false)] Try.f32.results.toList)
theorem top_rational_From (S : Nat → KT (RT [(.pair tI tN, false)])) (a0 : Bool × List Int) : evA (E_rational_From) (lk c_rational_From) S (bodyOf Try.f32) noX (fe_rational_From) (fe_rational_From) (initSt [tI] (a0, ())) = T_rational_From a0 := by kernel_rfl
noncomputable abbrev tb_rational_From := tab (E_rational_From) (lk c_rational_From) (bodyOf Try.f32) (fe_rational_From)
theorem ok_rational_From : EnvOK Try.prog (E_rational_From) := mkE_ok tys_ok ⟨⟨fs_rational_one.csound, ⟨Try.f45, by kernel_rfl, by kernel_rfl, by kernel_rfl⟩⟩, ⟨fs_integer_Normal.csound, ⟨Try.f54, by kernel_rfl, by kernel_rfl, by kernel_rfl⟩⟩, trivial⟩ trivial
theorem fs_rational_From : FSound Try.prog 32 [tI] [(.pair tI tN, false)] (fun τ => F_rational_From τ.1) :=
  evG_sound (E := (E_rational_From)) (C := (lk c_rational_From)) ok_rational_From mixed_ok (fn := Try.f32) (c := (bodyOf Try.f32)) (by kernel_rfl) (by kernel_rfl) (by kernel_rfl) (by kernel_rfl) (by kernel_rfl) (by kernel_rfl) (fun τ r h => by
    obtain ⟨a0, ⟨⟩⟩ := τ
    obtain ⟨m, hm⟩ := Rn_rational_From a0 r h
    exact ⟨m, (top_rational_From (tb_rational_From m) a0).trans (hm m (Nat.le_refl m))⟩)

abbrev E_integer_Cmp : Env := mkE tys [(28, callE [tI] [(.int .i64, false)] (fun τ => F_integer_Sign τ.1)), (49, callE [tN, tN] [(.int .i64, false)] (fun τ => F_natural_Cmp τ.1 τ.2.1))] []
def c_integer_Cmp : List (Nat × Live) := []
noncomputable abbrev fe_integer_Cmp := (finE (E_integer_Cmp) [(.int .i64, false)] Try.f29.results.toList)
theorem top_integer_Cmp (S : Nat → KT (RT [(.int .i64, false)])) (a0 : Bool × List Int) (a1 : Bool × List Int) : evA (E_integer_Cmp) (lk c_integer_Cmp) S (bodyOf Try.f29) noX (fe_integer_Cmp) (fe_integer_Cmp) (initSt [tI, tI] (a0, a1, ())) = T_integer_Cmp a0 a1 := by kernel_rfl
noncomputable abbrev tb_integer_Cmp := tab (E_integer_Cmp) (lk c_integer_Cmp) (bodyOf Try.f29) (fe_integer_Cmp)
theorem ok_integer_Cmp : EnvOK Try.prog (E_integer_Cmp) := mkE_ok tys_ok ⟨⟨fs_integer_Sign.csound, ⟨Try.f28, by kernel_rfl, by kernel_rfl, by kernel_rfl⟩⟩, ⟨fs_natural_Cmp.csound, ⟨Try.f49, by kernel_rfl, by kernel_rfl, by kernel_rfl⟩⟩, trivial⟩ trivial
theorem fs_integer_Cmp : FSound Try.prog 29 [tI, tI] [(.int .i64, false)] (fun τ => F_integer_Cmp τ.1 τ.2.1) :=
  evG_sound (E := (E_integer_Cmp)) (C := (lk c_integer_Cmp)) ok_integer_Cmp mixed_ok (fn := Try.f29) (c := (bodyOf Try.f29)) (by kernel_rfl) (by kernel_rfl) (by kernel_rfl) (by kernel_rfl) (by kernel_rfl) (by kernel_rfl) (fun τ r h => by
    obtain ⟨a0, a1, ⟨⟩⟩ := τ
    obtain ⟨m, hm⟩ := Rn_integer_Cmp a0 a1 r h
    exact ⟨m, (top_integer_Cmp (tb_integer_Cmp m) a0 a1).trans (hm m (Nat.le_refl m))⟩)

abbrev E_integer_Abs : Env := mkE tys [(62, callE [.bool, tN] [(tI, false)] (fun τ => F_integer_From τ.1 τ.2.1))] []
def c_integer_Abs : List (Nat × Live) := []
noncomputable abbrev fe_integer_Abs := (finE (E_integer_Abs) [(tI, false)] Try.f56.results.toList)
theorem top_integer_Abs (S : Nat → KT (RT [(tI, false)])) (a0 : Bool × List Int) : evA (E_integer_Abs) (lk c_integer_Abs) S (bodyOf Try.f56) noX (fe_integer_Abs) (fe_integer_Abs) (initSt [tI] (a0, ())) = T_integer_Abs a0 := by kernel_rfl
noncomputable abbrev tb_integer_Abs := tab (E_integer_Abs) (lk c_integer_Abs) (bodyOf Try.f56) (fe_integer_Abs)
theorem ok_integer_Abs : EnvOK Try.prog (E_integer_Abs) := mkE_ok tys_ok ⟨⟨fs_integer_From.csound, ⟨Try.f62, by kernel_rfl, by kernel_rfl, by kernel_rfl⟩⟩, trivial⟩ trivial
theorem fs_integer_Abs : FSound Try.prog 56 [tI] [(tI, false)] (fun τ => F_integer_Abs τ.1) :=
  evG_sound (E := (E_integer_Abs)) (C := (lk c_integer_Abs)) ok_integer_Abs mixed_ok (fn := Try.f56) (c := (bodyOf Try.f56)) (by kernel_rfl) (by kernel_rfl) (by kernel_rfl) (by kernel_rfl) (by kernel_rfl) (by kernel_rfl) (fun τ r h => by
    obtain ⟨a0, ⟨⟩⟩ := τ
    obtain ⟨m, hm⟩ := Rn_integer_Abs a0 r h
    exact ⟨m, (top_integer_Abs (tb_integer_Abs m) a0).trans (hm m (Nat.le_refl m))⟩)

abbrev E_division_Floor : Env := mkE tys [(18, callE [.int .i64] [(tI, false)] (fun τ => F_integer_Of τ.1)), (47, callE [tI, tI] [(tI, false)] (fun τ => F_integer_Add τ.1 τ.2.1)), (79, callE [tI, tI] [(tI, false), (tI, false), (.int .i64, false)] (fun τ => F_division_Quo τ.1 τ.2.1)), (80, callE [tI] [(.bool, false)] (fun τ => F_division_zero τ.1)), (81, callE [tI, tI] [(tI, false)] (fun τ => F_integer_Sub τ.1 τ.2.1))] []
def c_division_Floor : List (Nat × Live) := []
noncomputable abbrev fe_division_Floor := (finE (E_division_Floor) [(tI, false), (tI, false), (.int .i64, false)] Try.f58.results.toList)
theorem top_division_Floor (S : Nat → KT (RT [(tI, false), (tI, false), (.int .i64, false)])) (a0 : Bool × List Int) (a1 : Bool × List Int) : evA (E_division_Floor) (lk c_division_Floor) S (bodyOf Try.f58) noX (fe_division_Floor) (fe_division_Floor) (initSt [tI, tI] (a0, a1, ())) = T_division_Floor a0 a1 := by kernel_rfl
noncomputable abbrev tb_division_Floor := tab (E_division_Floor) (lk c_division_Floor) (bodyOf Try.f58) (fe_division_Floor)
theorem ok_division_Floor : EnvOK Try.prog (E_division_Floor) := mkE_ok tys_ok ⟨⟨fs_integer_Of.csound, ⟨Try.f18, by kernel_rfl, by kernel_rfl, by kernel_rfl⟩⟩, ⟨fs_integer_Add.csound, ⟨Try.f47, by kernel_rfl, by kernel_rfl, by kernel_rfl⟩⟩, ⟨fs_division_Quo.csound, ⟨Try.f79, by kernel_rfl, by kernel_rfl, by kernel_rfl⟩⟩, ⟨fs_division_zero.csound, ⟨Try.f80, by kernel_rfl, by kernel_rfl, by kernel_rfl⟩⟩, ⟨fs_integer_Sub.csound, ⟨Try.f81, by kernel_rfl, by kernel_rfl, by kernel_rfl⟩⟩, trivial⟩ trivial
theorem fs_division_Floor : FSound Try.prog 58 [tI, tI] [(tI, false), (tI, false), (.int .i64, false)] (fun τ => F_division_Floor τ.1 τ.2.1) :=
  evG_sound (E := (E_division_Floor)) (C := (lk c_division_Floor)) ok_division_Floor mixed_ok (fn := Try.f58) (c := (bodyOf Try.f58)) (by kernel_rfl) (by kernel_rfl) (by kernel_rfl) (by kernel_rfl) (by kernel_rfl) (by kernel_rfl) (fun τ r h => by
    obtain ⟨a0, a1, ⟨⟩⟩ := τ
    obtain ⟨m, hm⟩ := Rn_division_Floor a0 a1 r h
    exact ⟨m, (top_division_Floor (tb_division_Floor m) a0 a1).trans (hm m (Nat.le_refl m))⟩)

abbrev E_rootbound_Cauchy : Env := mkE tys [(18, callE [.int .i64] [(tI, false)] (fun τ => F_integer_Of τ.1)), (19, callE [tP] [(.int .i64, false)] (fun τ => F_unipoly_Degree τ.1)), (28, callE [tI] [(.int .i64, false)] (fun τ => F_integer_Sign τ.1)), (29, callE [tI, tI] [(.int .i64, false)] (fun τ => F_integer_Cmp τ.1 τ.2.1)), (47, callE [tI, tI] [(tI, false)] (fun τ => F_integer_Add τ.1 τ.2.1)), (55, callE [tP] [(tP, true)] (fun τ => F_unipoly_Normal τ.1)), (56, callE [tI] [(tI, false)] (fun τ => F_integer_Abs τ.1)), (57, callE [tP] [(tI, false)] (fun τ => F_unipoly_Lead τ.1)), (58, callE [tI, tI] [(tI, false), (tI, false), (.int .i64, false)] (fun τ => F_division_Floor τ.1 τ.2.1))] []
def c_rootbound_Cauchy : List (Nat × Live) := [(33, ⟨[(25, tP), (26, .int .i64), (27, .int .i64)], [(true, 2, tI), (true, 5, tI), (true, 6, tI)], []⟩)]
noncomputable abbrev fe_rootbound_Cauchy := (finE (E_rootbound_Cauchy) [(tI, false)] Try.f33.results.toList)
noncomputable abbrev cn_rootbound_Cauchy_33 (x25 : List (Bool × List Int)) (x26 : Int) (x27 : Int) (x2 : Bool × List Int) (x5 : Bool × List Int) (x6 : Bool × List Int) : St := ⟨[(6, .one (.ptr 10002 0 [])), (5, .one (.ptr 10001 0 [])), (2, .one (.ptr 10000 0 [])), (27, .one (.val (.int .i64) x27)), (26, .one (.val (.int .i64) x26)), (25, .one (.val tP x25))], [(10002, some ⟨tI, [x6], false⟩), (10001, some ⟨tI, [x5], false⟩), (10000, some ⟨tI, [x2], false⟩)]⟩
noncomputable abbrev kk_rootbound_Cauchy_33 (S : Nat → KT (RT [(tI, false)])) := fun (x25 : List (Bool × List Int)) (x26 : Int) (x27 : Int) (x2 : Bool × List Int) (x5 : Bool × List Int) (x6 : Bool × List Int) => S 33 (cn_rootbound_Cauchy_33 x25 x26 x27 x2 x5 x6)
theorem top_rootbound_Cauchy (S : Nat → KT (RT [(tI, false)])) (a0 : List (Bool × List Int)) : evA (E_rootbound_Cauchy) (lk c_rootbound_Cauchy) S (bodyOf Try.f33) noX (fe_rootbound_Cauchy) (fe_rootbound_Cauchy) (initSt [tP] (a0, ())) = T_rootbound_Cauchy (kk_rootbound_Cauchy_33 S) a0 := by kernel_rfl
theorem seg_rootbound_Cauchy_33 (S : Nat → KT (RT [(tI, false)])) (x25 : List (Bool × List Int)) (x26 : Int) (x27 : Int) (x2 : Bool × List Int) (x5 : Bool × List Int) (x6 : Bool × List Int) : stepT (entry (E_rootbound_Cauchy) (lk c_rootbound_Cauchy) S 33 (bodyOf Try.f33) noX (fe_rootbound_Cauchy) (fe_rootbound_Cauchy)) (cn_rootbound_Cauchy_33 x25 x26 x27 x2 x5 x6) = S_rootbound_Cauchy_33 (kk_rootbound_Cauchy_33 S) x25 x26 x27 x2 x5 x6 := by kernel_rfl
noncomputable abbrev tb_rootbound_Cauchy := tab (E_rootbound_Cauchy) (lk c_rootbound_Cauchy) (bodyOf Try.f33) (fe_rootbound_Cauchy)
theorem ok_rootbound_Cauchy : EnvOK Try.prog (E_rootbound_Cauchy) := mkE_ok tys_ok ⟨⟨fs_integer_Of.csound, ⟨Try.f18, by kernel_rfl, by kernel_rfl, by kernel_rfl⟩⟩, ⟨fs_unipoly_Degree.csound, ⟨Try.f19, by kernel_rfl, by kernel_rfl, by kernel_rfl⟩⟩, ⟨fs_integer_Sign.csound, ⟨Try.f28, by kernel_rfl, by kernel_rfl, by kernel_rfl⟩⟩, ⟨fs_integer_Cmp.csound, ⟨Try.f29, by kernel_rfl, by kernel_rfl, by kernel_rfl⟩⟩, ⟨fs_integer_Add.csound, ⟨Try.f47, by kernel_rfl, by kernel_rfl, by kernel_rfl⟩⟩, ⟨fs_unipoly_Normal.csound, ⟨Try.f55, by kernel_rfl, by kernel_rfl, by kernel_rfl⟩⟩, ⟨fs_integer_Abs.csound, ⟨Try.f56, by kernel_rfl, by kernel_rfl, by kernel_rfl⟩⟩, ⟨fs_unipoly_Lead.csound, ⟨Try.f57, by kernel_rfl, by kernel_rfl, by kernel_rfl⟩⟩, ⟨fs_division_Floor.csound, ⟨Try.f58, by kernel_rfl, by kernel_rfl, by kernel_rfl⟩⟩, trivial⟩ trivial
theorem fs_rootbound_Cauchy : FSound Try.prog 33 [tP] [(tI, false)] (fun τ => F_rootbound_Cauchy τ.1) :=
  evG_sound (E := (E_rootbound_Cauchy)) (C := (lk c_rootbound_Cauchy)) ok_rootbound_Cauchy mixed_ok (fn := Try.f33) (c := (bodyOf Try.f33)) (by kernel_rfl) (by kernel_rfl) (by kernel_rfl) (by kernel_rfl) (by kernel_rfl) (by kernel_rfl) (fun τ r h => by
    obtain ⟨a0, ⟨⟩⟩ := τ
    obtain ⟨m, hm⟩ := Rn_rootbound_Cauchy (fun m => kk_rootbound_Cauchy_33 (tb_rootbound_Cauchy m)) (fun m x25 x26 x27 x2 x5 x6 => (tab_succ (E_rootbound_Cauchy) (lk c_rootbound_Cauchy) (bodyOf Try.f33) (fe_rootbound_Cauchy) m 33 (cn_rootbound_Cauchy_33 x25 x26 x27 x2 x5 x6)).trans (seg_rootbound_Cauchy_33 (tb_rootbound_Cauchy m) x25 x26 x27 x2 x5 x6)) a0 r h
    exact ⟨m, (top_rootbound_Cauchy (tb_rootbound_Cauchy m) a0).trans (hm m (Nat.le_refl m))⟩)

abbrev E_sturm_reduced : Env := mkE tys [(28, callE [tI] [(.int .i64, false)] (fun τ => F_integer_Sign τ.1)), (55, callE [tP] [(tP, true)] (fun τ => F_unipoly_Normal τ.1)), (66, callE [tI, tI] [(tI, false), (.int .i64, false)] (fun τ => F_division_Exact τ.1 τ.2.1)), (74, callE [tP] [(tI, false)] (fun τ => F_unidiv_Content τ.1))] []
def c_sturm_reduced : List (Nat × Live) := [(25, ⟨[(0, tP), (15, .int .i64), (16, .int .i64)], [(true, 3, tI), (false, 4, tI)], []⟩)]
noncomputable abbrev fe_sturm_reduced := (finE (E_sturm_reduced) [(tP, false)] Try.f82.results.toList)
noncomputable abbrev cn_sturm_reduced_25 (x0 : List (Bool × List Int)) (x15 : Int) (x16 : Int) (x3 : Bool × List Int) (x4 : List (Bool × List Int)) : St := ⟨[(4, .one (.loc tI 10001)), (3, .one (.ptr 10000 0 [])), (16, .one (.val (.int .i64) x16)), (15, .one (.val (.int .i64) x15)), (0, .one (.val tP x0))], [(10001, some ⟨tI, x4, false⟩), (10000, some ⟨tI, [x3], false⟩)]⟩
noncomputable abbrev kk_sturm_reduced_25 (S : Nat → KT (RT [(tP, false)])) := fun (x0 : List (Bool × List Int)) (x15 : Int) (x16 : Int) (x3 : Bool × List Int) (x4 : List (Bool × List Int)) => S 25 (cn_sturm_reduced_25 x0 x15 x16 x3 x4)
theorem top_sturm_reduced (S : Nat → KT (RT [(tP, false)])) (a0 : List (Bool × List Int)) : evA (E_sturm_reduced) (lk c_sturm_reduced) S (bodyOf Try.f82) noX (fe_sturm_reduced) (fe_sturm_reduced) (initSt [tP] (a0, ())) = T_sturm_reduced (kk_sturm_reduced_25 S) a0 := by kernel_rfl
theorem seg_sturm_reduced_25 (S : Nat → KT (RT [(tP, false)])) (x0 : List (Bool × List Int)) (x15 : Int) (x16 : Int) (x3 : Bool × List Int) (x4 : List (Bool × List Int)) : stepT (entry (E_sturm_reduced) (lk c_sturm_reduced) S 25 (bodyOf Try.f82) noX (fe_sturm_reduced) (fe_sturm_reduced)) (cn_sturm_reduced_25 x0 x15 x16 x3 x4) = S_sturm_reduced_25 (kk_sturm_reduced_25 S) x0 x15 x16 x3 x4 := by kernel_rfl
noncomputable abbrev tb_sturm_reduced := tab (E_sturm_reduced) (lk c_sturm_reduced) (bodyOf Try.f82) (fe_sturm_reduced)
theorem ok_sturm_reduced : EnvOK Try.prog (E_sturm_reduced) := mkE_ok tys_ok ⟨⟨fs_integer_Sign.csound, ⟨Try.f28, by kernel_rfl, by kernel_rfl, by kernel_rfl⟩⟩, ⟨fs_unipoly_Normal.csound, ⟨Try.f55, by kernel_rfl, by kernel_rfl, by kernel_rfl⟩⟩, ⟨fs_division_Exact.csound, ⟨Try.f66, by kernel_rfl, by kernel_rfl, by kernel_rfl⟩⟩, ⟨fs_unidiv_Content.csound, ⟨Try.f74, by kernel_rfl, by kernel_rfl, by kernel_rfl⟩⟩, trivial⟩ trivial
theorem fs_sturm_reduced : FSound Try.prog 82 [tP] [(tP, false)] (fun τ => F_sturm_reduced τ.1) :=
  evG_sound (E := (E_sturm_reduced)) (C := (lk c_sturm_reduced)) ok_sturm_reduced mixed_ok (fn := Try.f82) (c := (bodyOf Try.f82)) (by kernel_rfl) (by kernel_rfl) (by kernel_rfl) (by kernel_rfl) (by kernel_rfl) (by kernel_rfl) (fun τ r h => by
    obtain ⟨a0, ⟨⟩⟩ := τ
    obtain ⟨m, hm⟩ := Rn_sturm_reduced (fun m => kk_sturm_reduced_25 (tb_sturm_reduced m)) (fun m x0 x15 x16 x3 x4 => (tab_succ (E_sturm_reduced) (lk c_sturm_reduced) (bodyOf Try.f82) (fe_sturm_reduced) m 25 (cn_sturm_reduced_25 x0 x15 x16 x3 x4)).trans (seg_sturm_reduced_25 (tb_sturm_reduced m) x0 x15 x16 x3 x4)) a0 r h
    exact ⟨m, (top_sturm_reduced (tb_sturm_reduced m) a0).trans (hm m (Nat.le_refl m))⟩)

abbrev E_unipoly_Neg : Env := mkE tys [(88, callE [tP, tP] [(tP, false)] (fun τ => F_unipoly_Sub τ.1 τ.2.1))] []
def c_unipoly_Neg : List (Nat × Live) := []
noncomputable abbrev fe_unipoly_Neg := (finE (E_unipoly_Neg) [(tP, false)] Try.f93.results.toList)
theorem top_unipoly_Neg (S : Nat → KT (RT [(tP, false)])) (a0 : List (Bool × List Int)) : evA (E_unipoly_Neg) (lk c_unipoly_Neg) S (bodyOf Try.f93) noX (fe_unipoly_Neg) (fe_unipoly_Neg) (initSt [tP] (a0, ())) = T_unipoly_Neg a0 := by kernel_rfl
noncomputable abbrev tb_unipoly_Neg := tab (E_unipoly_Neg) (lk c_unipoly_Neg) (bodyOf Try.f93) (fe_unipoly_Neg)
theorem ok_unipoly_Neg : EnvOK Try.prog (E_unipoly_Neg) := mkE_ok tys_ok ⟨⟨fs_unipoly_Sub.csound, ⟨Try.f88, by kernel_rfl, by kernel_rfl, by kernel_rfl⟩⟩, trivial⟩ trivial
theorem fs_unipoly_Neg : FSound Try.prog 93 [tP] [(tP, false)] (fun τ => F_unipoly_Neg τ.1) :=
  evG_sound (E := (E_unipoly_Neg)) (C := (lk c_unipoly_Neg)) ok_unipoly_Neg mixed_ok (fn := Try.f93) (c := (bodyOf Try.f93)) (by kernel_rfl) (by kernel_rfl) (by kernel_rfl) (by kernel_rfl) (by kernel_rfl) (by kernel_rfl) (fun τ r h => by
    obtain ⟨a0, ⟨⟩⟩ := τ
    obtain ⟨m, hm⟩ := Rn_unipoly_Neg a0 r h
    exact ⟨m, (top_unipoly_Neg (tb_unipoly_Neg m) a0).trans (hm m (Nat.le_refl m))⟩)

abbrev E_sturm_negRemainder : Env := mkE tys [(19, callE [tP] [(.int .i64, false)] (fun τ => F_unipoly_Degree τ.1)), (28, callE [tI] [(.int .i64, false)] (fun τ => F_integer_Sign τ.1)), (57, callE [tP] [(tI, false)] (fun τ => F_unipoly_Lead τ.1)), (82, callE [tP] [(tP, false)] (fun τ => F_sturm_reduced τ.1)), (92, callE [tP, tP] [(tP, false), (tP, false), (.int .i64, false)] (fun τ => F_unidiv_Pseudo τ.1 τ.2.1)), (93, callE [tP] [(tP, false)] (fun τ => F_unipoly_Neg τ.1))] []
def c_sturm_negRemainder : List (Nat × Live) := []
noncomputable abbrev fe_sturm_negRemainder := (finE (E_sturm_negRemainder) [(tP, false)] Try.f83.results.toList)
theorem top_sturm_negRemainder (S : Nat → KT (RT [(tP, false)])) (a0 : List (Bool × List Int)) (a1 : List (Bool × List Int)) : evA (E_sturm_negRemainder) (lk c_sturm_negRemainder) S (bodyOf Try.f83) noX (fe_sturm_negRemainder) (fe_sturm_negRemainder) (initSt [tP, tP] (a0, a1, ())) = T_sturm_negRemainder a0 a1 := by kernel_rfl
noncomputable abbrev tb_sturm_negRemainder := tab (E_sturm_negRemainder) (lk c_sturm_negRemainder) (bodyOf Try.f83) (fe_sturm_negRemainder)
theorem ok_sturm_negRemainder : EnvOK Try.prog (E_sturm_negRemainder) := mkE_ok tys_ok ⟨⟨fs_unipoly_Degree.csound, ⟨Try.f19, by kernel_rfl, by kernel_rfl, by kernel_rfl⟩⟩, ⟨fs_integer_Sign.csound, ⟨Try.f28, by kernel_rfl, by kernel_rfl, by kernel_rfl⟩⟩, ⟨fs_unipoly_Lead.csound, ⟨Try.f57, by kernel_rfl, by kernel_rfl, by kernel_rfl⟩⟩, ⟨fs_sturm_reduced.csound, ⟨Try.f82, by kernel_rfl, by kernel_rfl, by kernel_rfl⟩⟩, ⟨fs_unidiv_Pseudo.csound, ⟨Try.f92, by kernel_rfl, by kernel_rfl, by kernel_rfl⟩⟩, ⟨fs_unipoly_Neg.csound, ⟨Try.f93, by kernel_rfl, by kernel_rfl, by kernel_rfl⟩⟩, trivial⟩ trivial
theorem fs_sturm_negRemainder : FSound Try.prog 83 [tP, tP] [(tP, false)] (fun τ => F_sturm_negRemainder τ.1 τ.2.1) :=
  evG_sound (E := (E_sturm_negRemainder)) (C := (lk c_sturm_negRemainder)) ok_sturm_negRemainder mixed_ok (fn := Try.f83) (c := (bodyOf Try.f83)) (by kernel_rfl) (by kernel_rfl) (by kernel_rfl) (by kernel_rfl) (by kernel_rfl) (by kernel_rfl) (fun τ r h => by
    obtain ⟨a0, a1, ⟨⟩⟩ := τ
    obtain ⟨m, hm⟩ := Rn_sturm_negRemainder a0 a1 r h
    exact ⟨m, (top_sturm_negRemainder (tb_sturm_negRemainder m) a0 a1).trans (hm m (Nat.le_refl m))⟩)

abbrev E_sturm_Chain : Env := mkE tys [(82, callE [tP] [(tP, false)] (fun τ => F_sturm_reduced τ.1)), (83, callE [tP, tP] [(tP, false)] (fun τ => F_sturm_negRemainder τ.1 τ.2.1))] []
def c_sturm_Chain : List (Nat × Live) := [(21, ⟨[(5, tP), (6, tP)], [(false, 7, tP)], []⟩)]
noncomputable abbrev fe_sturm_Chain := (finE (E_sturm_Chain) [(.slice tP, false)] Try.f59.results.toList)
noncomputable abbrev cn_sturm_Chain_21 (x5 : List (Bool × List Int)) (x6 : List (Bool × List Int)) (x7 : List (List (Bool × List Int))) : St := ⟨[(7, .one (.loc tP 10000)), (6, .one (.val tP x6)), (5, .one (.val tP x5))], [(10000, some ⟨tP, x7, false⟩)]⟩
noncomputable abbrev kk_sturm_Chain_21 (S : Nat → KT (RT [(.slice tP, false)])) := fun (x5 : List (Bool × List Int)) (x6 : List (Bool × List Int)) (x7 : List (List (Bool × List Int))) => S 21 (cn_sturm_Chain_21 x5 x6 x7)
theorem top_sturm_Chain (S : Nat → KT (RT [(.slice tP, false)])) (a0 : List (Bool × List Int)) (a1 : List (Bool × List Int)) : evA (E_sturm_Chain) (lk c_sturm_Chain) S (bodyOf Try.f59) noX (fe_sturm_Chain) (fe_sturm_Chain) (initSt [tP, tP] (a0, a1, ())) = T_sturm_Chain (kk_sturm_Chain_21 S) a0 a1 := by kernel_rfl
theorem seg_sturm_Chain_21 (S : Nat → KT (RT [(.slice tP, false)])) (x5 : List (Bool × List Int)) (x6 : List (Bool × List Int)) (x7 : List (List (Bool × List Int))) : stepT (entry (E_sturm_Chain) (lk c_sturm_Chain) S 21 (bodyOf Try.f59) noX (fe_sturm_Chain) (fe_sturm_Chain)) (cn_sturm_Chain_21 x5 x6 x7) = S_sturm_Chain_21 (kk_sturm_Chain_21 S) x5 x6 x7 := by kernel_rfl
noncomputable abbrev tb_sturm_Chain := tab (E_sturm_Chain) (lk c_sturm_Chain) (bodyOf Try.f59) (fe_sturm_Chain)
theorem ok_sturm_Chain : EnvOK Try.prog (E_sturm_Chain) := mkE_ok tys_ok ⟨⟨fs_sturm_reduced.csound, ⟨Try.f82, by kernel_rfl, by kernel_rfl, by kernel_rfl⟩⟩, ⟨fs_sturm_negRemainder.csound, ⟨Try.f83, by kernel_rfl, by kernel_rfl, by kernel_rfl⟩⟩, trivial⟩ trivial
theorem fs_sturm_Chain : FSound Try.prog 59 [tP, tP] [(.slice tP, false)] (fun τ => F_sturm_Chain τ.1 τ.2.1) :=
  evG_sound (E := (E_sturm_Chain)) (C := (lk c_sturm_Chain)) ok_sturm_Chain mixed_ok (fn := Try.f59) (c := (bodyOf Try.f59)) (by kernel_rfl) (by kernel_rfl) (by kernel_rfl) (by kernel_rfl) (by kernel_rfl) (by kernel_rfl) (fun τ r h => by
    obtain ⟨a0, a1, ⟨⟩⟩ := τ
    obtain ⟨m, hm⟩ := Rn_sturm_Chain (fun m => kk_sturm_Chain_21 (tb_sturm_Chain m)) (fun m x5 x6 x7 => (tab_succ (E_sturm_Chain) (lk c_sturm_Chain) (bodyOf Try.f59) (fe_sturm_Chain) m 21 (cn_sturm_Chain_21 x5 x6 x7)).trans (seg_sturm_Chain_21 (tb_sturm_Chain m) x5 x6 x7)) a0 a1 r h
    exact ⟨m, (top_sturm_Chain (tb_sturm_Chain m) a0 a1).trans (hm m (Nat.le_refl m))⟩)

abbrev E_sturm_Of : Env := mkE tys [(53, callE [tP] [(tP, false)] (fun τ => F_unipoly_Derivative τ.1)), (59, callE [tP, tP] [(.slice tP, false)] (fun τ => F_sturm_Chain τ.1 τ.2.1))] []
def c_sturm_Of : List (Nat × Live) := []
noncomputable abbrev fe_sturm_Of := (finE (E_sturm_Of) [(.slice tP, false)] Try.f34.results.toList)
theorem top_sturm_Of (S : Nat → KT (RT [(.slice tP, false)])) (a0 : List (Bool × List Int)) : evA (E_sturm_Of) (lk c_sturm_Of) S (bodyOf Try.f34) noX (fe_sturm_Of) (fe_sturm_Of) (initSt [tP] (a0, ())) = T_sturm_Of a0 := by kernel_rfl
noncomputable abbrev tb_sturm_Of := tab (E_sturm_Of) (lk c_sturm_Of) (bodyOf Try.f34) (fe_sturm_Of)
theorem ok_sturm_Of : EnvOK Try.prog (E_sturm_Of) := mkE_ok tys_ok ⟨⟨fs_unipoly_Derivative.csound, ⟨Try.f53, by kernel_rfl, by kernel_rfl, by kernel_rfl⟩⟩, ⟨fs_sturm_Chain.csound, ⟨Try.f59, by kernel_rfl, by kernel_rfl, by kernel_rfl⟩⟩, trivial⟩ trivial
theorem fs_sturm_Of : FSound Try.prog 34 [tP] [(.slice tP, false)] (fun τ => F_sturm_Of τ.1) :=
  evG_sound (E := (E_sturm_Of)) (C := (lk c_sturm_Of)) ok_sturm_Of mixed_ok (fn := Try.f34) (c := (bodyOf Try.f34)) (by kernel_rfl) (by kernel_rfl) (by kernel_rfl) (by kernel_rfl) (by kernel_rfl) (by kernel_rfl) (fun τ r h => by
    obtain ⟨a0, ⟨⟩⟩ := τ
    obtain ⟨m, hm⟩ := Rn_sturm_Of a0 r h
    exact ⟨m, (top_sturm_Of (tb_sturm_Of m) a0).trans (hm m (Nat.le_refl m))⟩)

abbrev E_rational_isOne : Env := mkE tys [] []
def c_rational_isOne : List (Nat × Live) := []
noncomputable abbrev fe_rational_isOne := (finE (E_rational_isOne) [(.bool, false)] Try.f64.results.toList)
theorem top_rational_isOne (S : Nat → KT (RT [(.bool, false)])) (a0 : List Int) : evA (E_rational_isOne) (lk c_rational_isOne) S (bodyOf Try.f64) noX (fe_rational_isOne) (fe_rational_isOne) (initSt [tN] (a0, ())) = T_rational_isOne a0 := by kernel_rfl
noncomputable abbrev tb_rational_isOne := tab (E_rational_isOne) (lk c_rational_isOne) (bodyOf Try.f64) (fe_rational_isOne)
theorem ok_rational_isOne : EnvOK Try.prog (E_rational_isOne) := mkE_ok tys_ok trivial trivial
theorem fs_rational_isOne : FSound Try.prog 64 [tN] [(.bool, false)] (fun τ => F_rational_isOne τ.1) :=
  evG_sound (E := (E_rational_isOne)) (C := (lk c_rational_isOne)) ok_rational_isOne mixed_ok (fn := Try.f64) (c := (bodyOf Try.f64)) (by kernel_rfl) (by kernel_rfl) (by kernel_rfl) (by kernel_rfl) (by kernel_rfl) (by kernel_rfl) (fun τ r h => by
    obtain ⟨a0, ⟨⟩⟩ := τ
    obtain ⟨m, hm⟩ := Rn_rational_isOne a0 r h
    exact ⟨m, (top_rational_isOne (tb_rational_isOne m) a0).trans (hm m (Nat.le_refl m))⟩)

abbrev E_rational_made : Env := mkE tys [(38, callE [tN] [(.bool, false)] (fun τ => F_natural_IsZero τ.1)), (45, callE [] [(tN, false)] (fun τ => F_rational_one)), (54, callE [tI] [(tI, false)] (fun τ => F_integer_Normal τ.1)), (62, callE [.bool, tN] [(tI, false)] (fun τ => F_integer_From τ.1 τ.2.1)), (63, callE [tN] [(tN, true)] (fun τ => F_natural_Normal τ.1)), (64, callE [tN] [(.bool, false)] (fun τ => F_rational_isOne τ.1)), (65, callE [tI, tI] [(tI, false)] (fun τ => F_division_Gcd τ.1 τ.2.1)), (66, callE [tI, tI] [(tI, false), (.int .i64, false)] (fun τ => F_division_Exact τ.1 τ.2.1))] []
def c_rational_made : List (Nat × Live) := [(12, ⟨[(20, .bool)], [(false, 1, .int .u32), (true, 2, tI), (true, 4, .pair tI tN)], []⟩)]
noncomputable abbrev fe_rational_made := (finE (E_rational_made) [(.pair tI tN, false)] Try.f40.results.toList)
noncomputable abbrev cn_rational_made_12 (x20 : Bool) (x1 : List Int) (x2 : Bool × List Int) (x4 : (Bool × List Int) × List Int) : St := ⟨[(4, .one (.ptr 10002 0 [])), (2, .one (.ptr 10001 0 [])), (1, .one (.loc (.int .u32) 10000)), (20, .one (.val (.bool) x20))], [(10002, some ⟨.pair tI tN, [x4], false⟩), (10001, some ⟨tI, [x2], false⟩), (10000, some ⟨.int .u32, x1, false⟩)]⟩
noncomputable abbrev kk_rational_made_12 (S : Nat → KT (RT [(.pair tI tN, false)])) := fun (x20 : Bool) (x1 : List Int) (x2 : Bool × List Int) (x4 : (Bool × List Int) × List Int) => S 12 (cn_rational_made_12 x20 x1 x2 x4)
theorem top_rational_made (S : Nat → KT (RT [(.pair tI tN, false)])) (a0 : Bool × List Int) (a1 : List Int) : evA (E_rational_made) (lk c_rational_made) S (bodyOf Try.f40) noX (fe_rational_made) (fe_rational_made) (initSt [tI, tN] (a0, a1, ())) = T_rational_made (kk_rational_made_12 S) a0 a1 := by kernel_rfl
theorem seg_rational_made_12 (S : Nat → KT (RT [(.pair tI tN, false)])) (x20 : Bool) (x1 : List Int) (x2 : Bool × List Int) (x4 : (Bool × List Int) × List Int) : stepT (entry (E_rational_made) (lk c_rational_made) S 12 (bodyOf Try.f40) noX (fe_rational_made) (fe_rational_made)) (cn_rational_made_12 x20 x1 x2 x4) = S_rational_made_12 (kk_rational_made_12 S) x20 x1 x2 x4 := by kernel_rfl
noncomputable abbrev tb_rational_made := tab (E_rational_made) (lk c_rational_made) (bodyOf Try.f40) (fe_rational_made)
theorem ok_rational_made : EnvOK Try.prog (E_rational_made) := mkE_ok tys_ok ⟨⟨fs_natural_IsZero.csound, ⟨Try.f38, by kernel_rfl, by kernel_rfl, by kernel_rfl⟩⟩, ⟨fs_rational_one.csound, ⟨Try.f45, by kernel_rfl, by kernel_rfl, by kernel_rfl⟩⟩, ⟨fs_integer_Normal.csound, ⟨Try.f54, by kernel_rfl, by kernel_rfl, by kernel_rfl⟩⟩, ⟨fs_integer_From.csound, ⟨Try.f62, by kernel_rfl, by kernel_rfl, by kernel_rfl⟩⟩, ⟨fs_natural_Normal.csound, ⟨Try.f63, by kernel_rfl, by kernel_rfl, by kernel_rfl⟩⟩, ⟨fs_rational_isOne.csound, ⟨Try.f64, by kernel_rfl, by kernel_rfl, by kernel_rfl⟩⟩, ⟨fs_division_Gcd.csound, ⟨Try.f65, by kernel_rfl, by kernel_rfl, by kernel_rfl⟩⟩, ⟨fs_division_Exact.csound, ⟨Try.f66, by kernel_rfl, by kernel_rfl, by kernel_rfl⟩⟩, trivial⟩ trivial
theorem fs_rational_made : FSound Try.prog 40 [tI, tN] [(.pair tI tN, false)] (fun τ => F_rational_made τ.1 τ.2.1) :=
  evG_sound (E := (E_rational_made)) (C := (lk c_rational_made)) ok_rational_made mixed_ok (fn := Try.f40) (c := (bodyOf Try.f40)) (by kernel_rfl) (by kernel_rfl) (by kernel_rfl) (by kernel_rfl) (by kernel_rfl) (by kernel_rfl) (fun τ r h => by
    obtain ⟨a0, a1, ⟨⟩⟩ := τ
    obtain ⟨m, hm⟩ := Rn_rational_made (fun m => kk_rational_made_12 (tb_rational_made m)) (fun m x20 x1 x2 x4 => (tab_succ (E_rational_made) (lk c_rational_made) (bodyOf Try.f40) (fe_rational_made) m 12 (cn_rational_made_12 x20 x1 x2 x4)).trans (seg_rational_made_12 (tb_rational_made m) x20 x1 x2 x4)) a0 a1 r h
    exact ⟨m, (top_rational_made (tb_rational_made m) a0 a1).trans (hm m (Nat.le_refl m))⟩)

abbrev E_rational_Normal : Env := mkE tys [(40, callE [tI, tN] [(.pair tI tN, false)] (fun τ => F_rational_made τ.1 τ.2.1))] []
def c_rational_Normal : List (Nat × Live) := []
noncomputable abbrev fe_rational_Normal := (finE (E_rational_Normal) [(.pair tI tN, false)] Try.f67.results.toList)
theorem top_rational_Normal (S : Nat → KT (RT [(.pair tI tN, false)])) (a0 : (Bool × List Int) × List Int) : evA (E_rational_Normal) (lk c_rational_Normal) S (bodyOf Try.f67) noX (fe_rational_Normal) (fe_rational_Normal) (initSt [.pair tI tN] (a0, ())) = T_rational_Normal a0 := by kernel_rfl
noncomputable abbrev tb_rational_Normal := tab (E_rational_Normal) (lk c_rational_Normal) (bodyOf Try.f67) (fe_rational_Normal)
theorem ok_rational_Normal : EnvOK Try.prog (E_rational_Normal) := mkE_ok tys_ok ⟨⟨fs_rational_made.csound, ⟨Try.f40, by kernel_rfl, by kernel_rfl, by kernel_rfl⟩⟩, trivial⟩ trivial
theorem fs_rational_Normal : FSound Try.prog 67 [.pair tI tN] [(.pair tI tN, false)] (fun τ => F_rational_Normal τ.1) :=
  evG_sound (E := (E_rational_Normal)) (C := (lk c_rational_Normal)) ok_rational_Normal mixed_ok (fn := Try.f67) (c := (bodyOf Try.f67)) (by kernel_rfl) (by kernel_rfl) (by kernel_rfl) (by kernel_rfl) (by kernel_rfl) (by kernel_rfl) (fun τ r h => by
    obtain ⟨a0, ⟨⟩⟩ := τ
    obtain ⟨m, hm⟩ := Rn_rational_Normal a0 r h
    exact ⟨m, (top_rational_Normal (tb_rational_Normal m) a0).trans (hm m (Nat.le_refl m))⟩)

abbrev E_unipoly_scaled : Env := mkE tys [(18, callE [.int .i64] [(tI, false)] (fun τ => F_integer_Of τ.1)), (30, callE [tI, tI] [(tI, false)] (fun τ => F_integer_Mul τ.1 τ.2.1)), (47, callE [tI, tI] [(tI, false)] (fun τ => F_integer_Add τ.1 τ.2.1)), (67, callE [.pair tI tN] [(.pair tI tN, false)] (fun τ => F_rational_Normal τ.1))] [(37, mixO (callO [] false tI .pre (fun τ l => O_unipoly_trim l)) (callI (callE [tP] [(tP, false)] (fun τ => F_unipoly_trim τ.1))))]
def c_unipoly_scaled : List (Nat × Live) := [(21, ⟨[(0, tP), (9, .int .i64)], [(true, 3, .pair tI tN), (true, 4, tI), (true, 5, tI), (true, 6, tI), (true, 7, tI), (true, 8, tI)], []⟩)]
noncomputable abbrev fe_unipoly_scaled := (finE (E_unipoly_scaled) [(tI, false), (tI, false)] Try.f43.results.toList)
noncomputable abbrev cn_unipoly_scaled_21 (x0 : List (Bool × List Int)) (x9 : Int) (x3 : (Bool × List Int) × List Int) (x4 : Bool × List Int) (x5 : Bool × List Int) (x6 : Bool × List Int) (x7 : Bool × List Int) (x8 : Bool × List Int) : St := ⟨[(8, .one (.ptr 10005 0 [])), (7, .one (.ptr 10004 0 [])), (6, .one (.ptr 10003 0 [])), (5, .one (.ptr 10002 0 [])), (4, .one (.ptr 10001 0 [])), (3, .one (.ptr 10000 0 [])), (9, .one (.val (.int .i64) x9)), (0, .one (.val tP x0))], [(10005, some ⟨tI, [x8], false⟩), (10004, some ⟨tI, [x7], false⟩), (10003, some ⟨tI, [x6], false⟩), (10002, some ⟨tI, [x5], false⟩), (10001, some ⟨tI, [x4], false⟩), (10000, some ⟨.pair tI tN, [x3], false⟩)]⟩
noncomputable abbrev kk_unipoly_scaled_21 (S : Nat → KT (RT [(tI, false), (tI, false)])) := fun (x0 : List (Bool × List Int)) (x9 : Int) (x3 : (Bool × List Int) × List Int) (x4 : Bool × List Int) (x5 : Bool × List Int) (x6 : Bool × List Int) (x7 : Bool × List Int) (x8 : Bool × List Int) => S 21 (cn_unipoly_scaled_21 x0 x9 x3 x4 x5 x6 x7 x8)
theorem top_unipoly_scaled (S : Nat → KT (RT [(tI, false), (tI, false)])) (a0 : List (Bool × List Int)) (a1 : (Bool × List Int) × List Int) : evA (E_unipoly_scaled) (lk c_unipoly_scaled) S (bodyOf Try.f43) noX (fe_unipoly_scaled) (fe_unipoly_scaled) (initSt [tP, .pair tI tN] (a0, a1, ())) = T_unipoly_scaled (kk_unipoly_scaled_21 S) a0 a1 := by kernel_rfl
theorem seg_unipoly_scaled_21 (S : Nat → KT (RT [(tI, false), (tI, false)])) (x0 : List (Bool × List Int)) (x9 : Int) (x3 : (Bool × List Int) × List Int) (x4 : Bool × List Int) (x5 : Bool × List Int) (x6 : Bool × List Int) (x7 : Bool × List Int) (x8 : Bool × List Int) : stepT (entry (E_unipoly_scaled) (lk c_unipoly_scaled) S 21 (bodyOf Try.f43) noX (fe_unipoly_scaled) (fe_unipoly_scaled)) (cn_unipoly_scaled_21 x0 x9 x3 x4 x5 x6 x7 x8) = S_unipoly_scaled_21 (kk_unipoly_scaled_21 S) x0 x9 x3 x4 x5 x6 x7 x8 := by kernel_rfl
noncomputable abbrev tb_unipoly_scaled := tab (E_unipoly_scaled) (lk c_unipoly_scaled) (bodyOf Try.f43) (fe_unipoly_scaled)
theorem ok_unipoly_scaled : EnvOK Try.prog (E_unipoly_scaled) := mkE_ok tys_ok ⟨⟨fs_integer_Of.csound, ⟨Try.f18, by kernel_rfl, by kernel_rfl, by kernel_rfl⟩⟩, ⟨fs_integer_Mul.csound, ⟨Try.f30, by kernel_rfl, by kernel_rfl, by kernel_rfl⟩⟩, ⟨fs_integer_Add.csound, ⟨Try.f47, by kernel_rfl, by kernel_rfl, by kernel_rfl⟩⟩, ⟨fs_rational_Normal.csound, ⟨Try.f67, by kernel_rfl, by kernel_rfl, by kernel_rfl⟩⟩, trivial⟩ ⟨⟨PSound.mix os_unipoly_trim.psound (CSound.psound fs_unipoly_trim.csound), ⟨Try.f37, by kernel_rfl, by kernel_rfl, by kernel_rfl⟩⟩, trivial⟩
theorem fs_unipoly_scaled : FSound Try.prog 43 [tP, .pair tI tN] [(tI, false), (tI, false)] (fun τ => F_unipoly_scaled τ.1 τ.2.1) :=
  evG_sound (E := (E_unipoly_scaled)) (C := (lk c_unipoly_scaled)) ok_unipoly_scaled mixed_ok (fn := Try.f43) (c := (bodyOf Try.f43)) (by kernel_rfl) (by kernel_rfl) (by kernel_rfl) (by kernel_rfl) (by kernel_rfl) (by kernel_rfl) (fun τ r h => by
    obtain ⟨a0, a1, ⟨⟩⟩ := τ
    obtain ⟨m, hm⟩ := Rn_unipoly_scaled (fun m => kk_unipoly_scaled_21 (tb_unipoly_scaled m)) (fun m x0 x9 x3 x4 x5 x6 x7 x8 => (tab_succ (E_unipoly_scaled) (lk c_unipoly_scaled) (bodyOf Try.f43) (fe_unipoly_scaled) m 21 (cn_unipoly_scaled_21 x0 x9 x3 x4 x5 x6 x7 x8)).trans (seg_unipoly_scaled_21 (tb_unipoly_scaled m) x0 x9 x3 x4 x5 x6 x7 x8)) a0 a1 r h
    exact ⟨m, (top_unipoly_scaled (tb_unipoly_scaled m) a0 a1).trans (hm m (Nat.le_refl m))⟩)

abbrev E_unipoly_SignAt : Env := mkE tys [(28, callE [tI] [(.int .i64, false)] (fun τ => F_integer_Sign τ.1)), (43, callE [tP, .pair tI tN] [(tI, false), (tI, false)] (fun τ => F_unipoly_scaled τ.1 τ.2.1))] []
def c_unipoly_SignAt : List (Nat × Live) := []
noncomputable abbrev fe_unipoly_SignAt := (finE (E_unipoly_SignAt) [(.int .i64, false)] Try.f20.results.toList)
theorem top_unipoly_SignAt (S : Nat → KT (RT [(.int .i64, false)])) (a0 : List (Bool × List Int)) (a1 : (Bool × List Int) × List Int) : evA (E_unipoly_SignAt) (lk c_unipoly_SignAt) S (bodyOf Try.f20) noX (fe_unipoly_SignAt) (fe_unipoly_SignAt) (initSt [tP, .pair tI tN] (a0, a1, ())) = T_unipoly_SignAt a0 a1 := by kernel_rfl
noncomputable abbrev tb_unipoly_SignAt := tab (E_unipoly_SignAt) (lk c_unipoly_SignAt) (bodyOf Try.f20) (fe_unipoly_SignAt)
theorem ok_unipoly_SignAt : EnvOK Try.prog (E_unipoly_SignAt) := mkE_ok tys_ok ⟨⟨fs_integer_Sign.csound, ⟨Try.f28, by kernel_rfl, by kernel_rfl, by kernel_rfl⟩⟩, ⟨fs_unipoly_scaled.csound, ⟨Try.f43, by kernel_rfl, by kernel_rfl, by kernel_rfl⟩⟩, trivial⟩ trivial
theorem fs_unipoly_SignAt : FSound Try.prog 20 [tP, .pair tI tN] [(.int .i64, false)] (fun τ => F_unipoly_SignAt τ.1 τ.2.1) :=
  evG_sound (E := (E_unipoly_SignAt)) (C := (lk c_unipoly_SignAt)) ok_unipoly_SignAt mixed_ok (fn := Try.f20) (c := (bodyOf Try.f20)) (by kernel_rfl) (by kernel_rfl) (by kernel_rfl) (by kernel_rfl) (by kernel_rfl) (by kernel_rfl) (fun τ r h => by
    obtain ⟨a0, a1, ⟨⟩⟩ := τ
    obtain ⟨m, hm⟩ := Rn_unipoly_SignAt a0 a1 r h
    exact ⟨m, (top_unipoly_SignAt (tb_unipoly_SignAt m) a0 a1).trans (hm m (Nat.le_refl m))⟩)

abbrev E_rational_Of : Env := mkE tys [(18, callE [.int .i64] [(tI, false)] (fun τ => F_integer_Of τ.1)), (45, callE [] [(tN, false)] (fun τ => F_rational_one))] []
def c_rational_Of : List (Nat × Live) := []
noncomputable abbrev fe_rational_Of := (finE (E_rational_Of) [(.pair tI tN, false)] Try.f22.results.toList)
theorem top_rational_Of (S : Nat → KT (RT [(.pair tI tN, false)])) (a0 : Int) : evA (E_rational_Of) (lk c_rational_Of) S (bodyOf Try.f22) noX (fe_rational_Of) (fe_rational_Of) (initSt [.int .i64] (a0, ())) = T_rational_Of a0 := by kernel_rfl
noncomputable abbrev tb_rational_Of := tab (E_rational_Of) (lk c_rational_Of) (bodyOf Try.f22) (fe_rational_Of)
theorem ok_rational_Of : EnvOK Try.prog (E_rational_Of) := mkE_ok tys_ok ⟨⟨fs_integer_Of.csound, ⟨Try.f18, by kernel_rfl, by kernel_rfl, by kernel_rfl⟩⟩, ⟨fs_rational_one.csound, ⟨Try.f45, by kernel_rfl, by kernel_rfl, by kernel_rfl⟩⟩, trivial⟩ trivial
theorem fs_rational_Of : FSound Try.prog 22 [.int .i64] [(.pair tI tN, false)] (fun τ => F_rational_Of τ.1) :=
  evG_sound (E := (E_rational_Of)) (C := (lk c_rational_Of)) ok_rational_Of mixed_ok (fn := Try.f22) (c := (bodyOf Try.f22)) (by kernel_rfl) (by kernel_rfl) (by kernel_rfl) (by kernel_rfl) (by kernel_rfl) (by kernel_rfl) (fun τ r h => by
    obtain ⟨a0, ⟨⟩⟩ := τ
    obtain ⟨m, hm⟩ := Rn_rational_Of a0 r h
    exact ⟨m, (top_rational_Of (tb_rational_Of m) a0).trans (hm m (Nat.le_refl m))⟩)

abbrev E_rational_parts : Env := mkE tys [(18, callE [.int .i64] [(tI, false)] (fun τ => F_integer_Of τ.1)), (38, callE [tN] [(.bool, false)] (fun τ => F_natural_IsZero τ.1))] []
def c_rational_parts : List (Nat × Live) := []
noncomputable abbrev fe_rational_parts := (finE (E_rational_parts) [(tI, false), (tI, false)] Try.f27.results.toList)
theorem top_rational_parts (S : Nat → KT (RT [(tI, false), (tI, false)])) (a0 : (Bool × List Int) × List Int) : evA (E_rational_parts) (lk c_rational_parts) S (bodyOf Try.f27) noX (fe_rational_parts) (fe_rational_parts) (initSt [.pair tI tN] (a0, ())) = T_rational_parts a0 := by kernel_rfl
noncomputable abbrev tb_rational_parts := tab (E_rational_parts) (lk c_rational_parts) (bodyOf Try.f27) (fe_rational_parts)
theorem ok_rational_parts : EnvOK Try.prog (E_rational_parts) := mkE_ok tys_ok ⟨⟨fs_integer_Of.csound, ⟨Try.f18, by kernel_rfl, by kernel_rfl, by kernel_rfl⟩⟩, ⟨fs_natural_IsZero.csound, ⟨Try.f38, by kernel_rfl, by kernel_rfl, by kernel_rfl⟩⟩, trivial⟩ trivial
theorem fs_rational_parts : FSound Try.prog 27 [.pair tI tN] [(tI, false), (tI, false)] (fun τ => F_rational_parts τ.1) :=
  evG_sound (E := (E_rational_parts)) (C := (lk c_rational_parts)) ok_rational_parts mixed_ok (fn := Try.f27) (c := (bodyOf Try.f27)) (by kernel_rfl) (by kernel_rfl) (by kernel_rfl) (by kernel_rfl) (by kernel_rfl) (by kernel_rfl) (fun τ r h => by
    obtain ⟨a0, ⟨⟩⟩ := τ
    obtain ⟨m, hm⟩ := Rn_rational_parts a0 r h
    exact ⟨m, (top_rational_parts (tb_rational_parts m) a0).trans (hm m (Nat.le_refl m))⟩)

abbrev E_rational_Add : Env := mkE tys [(27, callE [.pair tI tN] [(tI, false), (tI, false)] (fun τ => F_rational_parts τ.1)), (30, callE [tI, tI] [(tI, false)] (fun τ => F_integer_Mul τ.1 τ.2.1)), (40, callE [tI, tN] [(.pair tI tN, false)] (fun τ => F_rational_made τ.1 τ.2.1)), (47, callE [tI, tI] [(tI, false)] (fun τ => F_integer_Add τ.1 τ.2.1)), (48, callE [tN, tN] [(tN, false)] (fun τ => F_natural_Mul τ.1 τ.2.1))] []
def c_rational_Add : List (Nat × Live) := []
noncomputable abbrev fe_rational_Add := (finE (E_rational_Add) [(.pair tI tN, false)] Try.f25.results.toList)
theorem top_rational_Add (S : Nat → KT (RT [(.pair tI tN, false)])) (a0 : (Bool × List Int) × List Int) (a1 : (Bool × List Int) × List Int) : evA (E_rational_Add) (lk c_rational_Add) S (bodyOf Try.f25) noX (fe_rational_Add) (fe_rational_Add) (initSt [.pair tI tN, .pair tI tN] (a0, a1, ())) = T_rational_Add a0 a1 := by kernel_rfl
noncomputable abbrev tb_rational_Add := tab (E_rational_Add) (lk c_rational_Add) (bodyOf Try.f25) (fe_rational_Add)
theorem ok_rational_Add : EnvOK Try.prog (E_rational_Add) := mkE_ok tys_ok ⟨⟨fs_rational_parts.csound, ⟨Try.f27, by kernel_rfl, by kernel_rfl, by kernel_rfl⟩⟩, ⟨fs_integer_Mul.csound, ⟨Try.f30, by kernel_rfl, by kernel_rfl, by kernel_rfl⟩⟩, ⟨fs_rational_made.csound, ⟨Try.f40, by kernel_rfl, by kernel_rfl, by kernel_rfl⟩⟩, ⟨fs_integer_Add.csound, ⟨Try.f47, by kernel_rfl, by kernel_rfl, by kernel_rfl⟩⟩, ⟨fs_natural_Mul.csound, ⟨Try.f48, by kernel_rfl, by kernel_rfl, by kernel_rfl⟩⟩, trivial⟩ trivial
theorem fs_rational_Add : FSound Try.prog 25 [.pair tI tN, .pair tI tN] [(.pair tI tN, false)] (fun τ => F_rational_Add τ.1 τ.2.1) :=
  evG_sound (E := (E_rational_Add)) (C := (lk c_rational_Add)) ok_rational_Add mixed_ok (fn := Try.f25) (c := (bodyOf Try.f25)) (by kernel_rfl) (by kernel_rfl) (by kernel_rfl) (by kernel_rfl) (by kernel_rfl) (by kernel_rfl) (fun τ r h => by
    obtain ⟨a0, a1, ⟨⟩⟩ := τ
    obtain ⟨m, hm⟩ := Rn_rational_Add a0 a1 r h
    exact ⟨m, (top_rational_Add (tb_rational_Add m) a0 a1).trans (hm m (Nat.le_refl m))⟩)

abbrev E_rational_Sub : Env := mkE tys [(25, callE [.pair tI tN, .pair tI tN] [(.pair tI tN, false)] (fun τ => F_rational_Add τ.1 τ.2.1)), (39, callE [tI] [(tI, false)] (fun τ => F_integer_Neg τ.1))] []
def c_rational_Sub : List (Nat × Live) := []
noncomputable abbrev fe_rational_Sub := (finE (E_rational_Sub) [(.pair tI tN, false)] Try.f23.results.toList)
theorem top_rational_Sub (S : Nat → KT (RT [(.pair tI tN, false)])) (a0 : (Bool × List Int) × List Int) (a1 : (Bool × List Int) × List Int) : evA (E_rational_Sub) (lk c_rational_Sub) S (bodyOf Try.f23) noX (fe_rational_Sub) (fe_rational_Sub) (initSt [.pair tI tN, .pair tI tN] (a0, a1, ())) = T_rational_Sub a0 a1 := by kernel_rfl
noncomputable abbrev tb_rational_Sub := tab (E_rational_Sub) (lk c_rational_Sub) (bodyOf Try.f23) (fe_rational_Sub)
theorem ok_rational_Sub : EnvOK Try.prog (E_rational_Sub) := mkE_ok tys_ok ⟨⟨fs_rational_Add.csound, ⟨Try.f25, by kernel_rfl, by kernel_rfl, by kernel_rfl⟩⟩, ⟨fs_integer_Neg.csound, ⟨Try.f39, by kernel_rfl, by kernel_rfl, by kernel_rfl⟩⟩, trivial⟩ trivial
theorem fs_rational_Sub : FSound Try.prog 23 [.pair tI tN, .pair tI tN] [(.pair tI tN, false)] (fun τ => F_rational_Sub τ.1 τ.2.1) :=
  evG_sound (E := (E_rational_Sub)) (C := (lk c_rational_Sub)) ok_rational_Sub mixed_ok (fn := Try.f23) (c := (bodyOf Try.f23)) (by kernel_rfl) (by kernel_rfl) (by kernel_rfl) (by kernel_rfl) (by kernel_rfl) (by kernel_rfl) (fun τ r h => by
    obtain ⟨a0, a1, ⟨⟩⟩ := τ
    obtain ⟨m, hm⟩ := Rn_rational_Sub a0 a1 r h
    exact ⟨m, (top_rational_Sub (tb_rational_Sub m) a0 a1).trans (hm m (Nat.le_refl m))⟩)

abbrev E_rational_Mul : Env := mkE tys [(27, callE [.pair tI tN] [(tI, false), (tI, false)] (fun τ => F_rational_parts τ.1)), (30, callE [tI, tI] [(tI, false)] (fun τ => F_integer_Mul τ.1 τ.2.1)), (40, callE [tI, tN] [(.pair tI tN, false)] (fun τ => F_rational_made τ.1 τ.2.1)), (48, callE [tN, tN] [(tN, false)] (fun τ => F_natural_Mul τ.1 τ.2.1))] []
def c_rational_Mul : List (Nat × Live) := []
noncomputable abbrev fe_rational_Mul := (finE (E_rational_Mul) [(.pair tI tN, false)] Try.f46.results.toList)
theorem top_rational_Mul (S : Nat → KT (RT [(.pair tI tN, false)])) (a0 : (Bool × List Int) × List Int) (a1 : (Bool × List Int) × List Int) : evA (E_rational_Mul) (lk c_rational_Mul) S (bodyOf Try.f46) noX (fe_rational_Mul) (fe_rational_Mul) (initSt [.pair tI tN, .pair tI tN] (a0, a1, ())) = T_rational_Mul a0 a1 := by kernel_rfl
noncomputable abbrev tb_rational_Mul := tab (E_rational_Mul) (lk c_rational_Mul) (bodyOf Try.f46) (fe_rational_Mul)
theorem ok_rational_Mul : EnvOK Try.prog (E_rational_Mul) := mkE_ok tys_ok ⟨⟨fs_rational_parts.csound, ⟨Try.f27, by kernel_rfl, by kernel_rfl, by kernel_rfl⟩⟩, ⟨fs_integer_Mul.csound, ⟨Try.f30, by kernel_rfl, by kernel_rfl, by kernel_rfl⟩⟩, ⟨fs_rational_made.csound, ⟨Try.f40, by kernel_rfl, by kernel_rfl, by kernel_rfl⟩⟩, ⟨fs_natural_Mul.csound, ⟨Try.f48, by kernel_rfl, by kernel_rfl, by kernel_rfl⟩⟩, trivial⟩ trivial
theorem fs_rational_Mul : FSound Try.prog 46 [.pair tI tN, .pair tI tN] [(.pair tI tN, false)] (fun τ => F_rational_Mul τ.1 τ.2.1) :=
  evG_sound (E := (E_rational_Mul)) (C := (lk c_rational_Mul)) ok_rational_Mul mixed_ok (fn := Try.f46) (c := (bodyOf Try.f46)) (by kernel_rfl) (by kernel_rfl) (by kernel_rfl) (by kernel_rfl) (by kernel_rfl) (by kernel_rfl) (fun τ r h => by
    obtain ⟨a0, a1, ⟨⟩⟩ := τ
    obtain ⟨m, hm⟩ := Rn_rational_Mul a0 a1 r h
    exact ⟨m, (top_rational_Mul (tb_rational_Mul m) a0 a1).trans (hm m (Nat.le_refl m))⟩)

abbrev E_rational_Mid : Env := mkE tys [(18, callE [.int .i64] [(tI, false)] (fun τ => F_integer_Of τ.1)), (25, callE [.pair tI tN, .pair tI tN] [(.pair tI tN, false)] (fun τ => F_rational_Add τ.1 τ.2.1)), (42, callE [.int .u64] [(tN, false)] (fun τ => F_natural_Of τ.1)), (46, callE [.pair tI tN, .pair tI tN] [(.pair tI tN, false)] (fun τ => F_rational_Mul τ.1 τ.2.1))] []
def c_rational_Mid : List (Nat × Live) := []
noncomputable abbrev fe_rational_Mid := (finE (E_rational_Mid) [(.pair tI tN, false)] Try.f24.results.toList)
theorem top_rational_Mid (S : Nat → KT (RT [(.pair tI tN, false)])) (a0 : (Bool × List Int) × List Int) (a1 : (Bool × List Int) × List Int) : evA (E_rational_Mid) (lk c_rational_Mid) S (bodyOf Try.f24) noX (fe_rational_Mid) (fe_rational_Mid) (initSt [.pair tI tN, .pair tI tN] (a0, a1, ())) = T_rational_Mid a0 a1 := by kernel_rfl
noncomputable abbrev tb_rational_Mid := tab (E_rational_Mid) (lk c_rational_Mid) (bodyOf Try.f24) (fe_rational_Mid)
theorem ok_rational_Mid : EnvOK Try.prog (E_rational_Mid) := mkE_ok tys_ok ⟨⟨fs_integer_Of.csound, ⟨Try.f18, by kernel_rfl, by kernel_rfl, by kernel_rfl⟩⟩, ⟨fs_rational_Add.csound, ⟨Try.f25, by kernel_rfl, by kernel_rfl, by kernel_rfl⟩⟩, ⟨fs_natural_Of.csound, ⟨Try.f42, by kernel_rfl, by kernel_rfl, by kernel_rfl⟩⟩, ⟨fs_rational_Mul.csound, ⟨Try.f46, by kernel_rfl, by kernel_rfl, by kernel_rfl⟩⟩, trivial⟩ trivial
theorem fs_rational_Mid : FSound Try.prog 24 [.pair tI tN, .pair tI tN] [(.pair tI tN, false)] (fun τ => F_rational_Mid τ.1 τ.2.1) :=
  evG_sound (E := (E_rational_Mid)) (C := (lk c_rational_Mid)) ok_rational_Mid mixed_ok (fn := Try.f24) (c := (bodyOf Try.f24)) (by kernel_rfl) (by kernel_rfl) (by kernel_rfl) (by kernel_rfl) (by kernel_rfl) (by kernel_rfl) (fun τ r h => by
    obtain ⟨a0, a1, ⟨⟩⟩ := τ
    obtain ⟨m, hm⟩ := Rn_rational_Mid a0 a1 r h
    exact ⟨m, (top_rational_Mid (tb_rational_Mid m) a0 a1).trans (hm m (Nat.le_refl m))⟩)

abbrev E_sturm_changes : Env := mkE tys [] []
def c_sturm_changes : List (Nat × Live) := [(13, ⟨[(3, .int .i64), (4, .int .i64), (7, .slice (.int .i64)), (8, .int .i64), (9, .int .i64)], [], []⟩)]
noncomputable abbrev fe_sturm_changes := (finE (E_sturm_changes) [(.int .i64, false)] Try.f68.results.toList)
noncomputable abbrev cn_sturm_changes_13 (x3 : Int) (x4 : Int) (x7 : List Int) (x8 : Int) (x9 : Int) : St := ⟨[(9, .one (.val (.int .i64) x9)), (8, .one (.val (.int .i64) x8)), (7, .one (.val (.slice (.int .i64)) x7)), (4, .one (.val (.int .i64) x4)), (3, .one (.val (.int .i64) x3))], []⟩
noncomputable abbrev kk_sturm_changes_13 (S : Nat → KT (RT [(.int .i64, false)])) := fun (x3 : Int) (x4 : Int) (x7 : List Int) (x8 : Int) (x9 : Int) => S 13 (cn_sturm_changes_13 x3 x4 x7 x8 x9)
theorem top_sturm_changes (S : Nat → KT (RT [(.int .i64, false)])) (a0 : List Int) : evA (E_sturm_changes) (lk c_sturm_changes) S (bodyOf Try.f68) noX (fe_sturm_changes) (fe_sturm_changes) (initSt [.slice (.int .i64)] (a0, ())) = T_sturm_changes (kk_sturm_changes_13 S) a0 := by kernel_rfl
theorem seg_sturm_changes_13 (S : Nat → KT (RT [(.int .i64, false)])) (x3 : Int) (x4 : Int) (x7 : List Int) (x8 : Int) (x9 : Int) : stepT (entry (E_sturm_changes) (lk c_sturm_changes) S 13 (bodyOf Try.f68) noX (fe_sturm_changes) (fe_sturm_changes)) (cn_sturm_changes_13 x3 x4 x7 x8 x9) = S_sturm_changes_13 (kk_sturm_changes_13 S) x3 x4 x7 x8 x9 := by kernel_rfl
noncomputable abbrev tb_sturm_changes := tab (E_sturm_changes) (lk c_sturm_changes) (bodyOf Try.f68) (fe_sturm_changes)
theorem ok_sturm_changes : EnvOK Try.prog (E_sturm_changes) := mkE_ok tys_ok trivial trivial
theorem fs_sturm_changes : FSound Try.prog 68 [.slice (.int .i64)] [(.int .i64, false)] (fun τ => F_sturm_changes τ.1) :=
  evG_sound (E := (E_sturm_changes)) (C := (lk c_sturm_changes)) ok_sturm_changes mixed_ok (fn := Try.f68) (c := (bodyOf Try.f68)) (by kernel_rfl) (by kernel_rfl) (by kernel_rfl) (by kernel_rfl) (by kernel_rfl) (by kernel_rfl) (fun τ r h => by
    obtain ⟨a0, ⟨⟩⟩ := τ
    obtain ⟨m, hm⟩ := Rn_sturm_changes (fun m => kk_sturm_changes_13 (tb_sturm_changes m)) (fun m x3 x4 x7 x8 x9 => (tab_succ (E_sturm_changes) (lk c_sturm_changes) (bodyOf Try.f68) (fe_sturm_changes) m 13 (cn_sturm_changes_13 x3 x4 x7 x8 x9)).trans (seg_sturm_changes_13 (tb_sturm_changes m) x3 x4 x7 x8 x9)) a0 r h
    exact ⟨m, (top_sturm_changes (tb_sturm_changes m) a0).trans (hm m (Nat.le_refl m))⟩)

abbrev E_sturm_Variations : Env := mkE tys [(20, callE [tP, .pair tI tN] [(.int .i64, false)] (fun τ => F_unipoly_SignAt τ.1 τ.2.1)), (68, callE [.slice (.int .i64)] [(.int .i64, false)] (fun τ => F_sturm_changes τ.1))] []
def c_sturm_Variations : List (Nat × Live) := [(13, ⟨[(11, .slice tP), (12, .int .i64), (13, .int .i64)], [(true, 3, .pair tI tN), (false, 5, .int .i64)], []⟩)]
noncomputable abbrev fe_sturm_Variations := (finE (E_sturm_Variations) [(.int .i64, false)] Try.f44.results.toList)
noncomputable abbrev cn_sturm_Variations_13 (x11 : List (List (Bool × List Int))) (x12 : Int) (x13 : Int) (x3 : (Bool × List Int) × List Int) (x5 : List Int) : St := ⟨[(5, .one (.loc (.int .i64) 10001)), (3, .one (.ptr 10000 0 [])), (13, .one (.val (.int .i64) x13)), (12, .one (.val (.int .i64) x12)), (11, .one (.val (.slice tP) x11))], [(10001, some ⟨.int .i64, x5, false⟩), (10000, some ⟨.pair tI tN, [x3], false⟩)]⟩
noncomputable abbrev kk_sturm_Variations_13 (S : Nat → KT (RT [(.int .i64, false)])) := fun (x11 : List (List (Bool × List Int))) (x12 : Int) (x13 : Int) (x3 : (Bool × List Int) × List Int) (x5 : List Int) => S 13 (cn_sturm_Variations_13 x11 x12 x13 x3 x5)
theorem top_sturm_Variations (S : Nat → KT (RT [(.int .i64, false)])) (a0 : List (List (Bool × List Int))) (a1 : (Bool × List Int) × List Int) : evA (E_sturm_Variations) (lk c_sturm_Variations) S (bodyOf Try.f44) noX (fe_sturm_Variations) (fe_sturm_Variations) (initSt [.slice tP, .pair tI tN] (a0, a1, ())) = T_sturm_Variations (kk_sturm_Variations_13 S) a0 a1 := by kernel_rfl
theorem seg_sturm_Variations_13 (S : Nat → KT (RT [(.int .i64, false)])) (x11 : List (List (Bool × List Int))) (x12 : Int) (x13 : Int) (x3 : (Bool × List Int) × List Int) (x5 : List Int) : stepT (entry (E_sturm_Variations) (lk c_sturm_Variations) S 13 (bodyOf Try.f44) noX (fe_sturm_Variations) (fe_sturm_Variations)) (cn_sturm_Variations_13 x11 x12 x13 x3 x5) = S_sturm_Variations_13 (kk_sturm_Variations_13 S) x11 x12 x13 x3 x5 := by kernel_rfl
noncomputable abbrev tb_sturm_Variations := tab (E_sturm_Variations) (lk c_sturm_Variations) (bodyOf Try.f44) (fe_sturm_Variations)
theorem ok_sturm_Variations : EnvOK Try.prog (E_sturm_Variations) := mkE_ok tys_ok ⟨⟨fs_unipoly_SignAt.csound, ⟨Try.f20, by kernel_rfl, by kernel_rfl, by kernel_rfl⟩⟩, ⟨fs_sturm_changes.csound, ⟨Try.f68, by kernel_rfl, by kernel_rfl, by kernel_rfl⟩⟩, trivial⟩ trivial
theorem fs_sturm_Variations : FSound Try.prog 44 [.slice tP, .pair tI tN] [(.int .i64, false)] (fun τ => F_sturm_Variations τ.1 τ.2.1) :=
  evG_sound (E := (E_sturm_Variations)) (C := (lk c_sturm_Variations)) ok_sturm_Variations mixed_ok (fn := Try.f44) (c := (bodyOf Try.f44)) (by kernel_rfl) (by kernel_rfl) (by kernel_rfl) (by kernel_rfl) (by kernel_rfl) (by kernel_rfl) (fun τ r h => by
    obtain ⟨a0, a1, ⟨⟩⟩ := τ
    obtain ⟨m, hm⟩ := Rn_sturm_Variations (fun m => kk_sturm_Variations_13 (tb_sturm_Variations m)) (fun m x11 x12 x13 x3 x5 => (tab_succ (E_sturm_Variations) (lk c_sturm_Variations) (bodyOf Try.f44) (fe_sturm_Variations) m 13 (cn_sturm_Variations_13 x11 x12 x13 x3 x5)).trans (seg_sturm_Variations_13 (tb_sturm_Variations m) x11 x12 x13 x3 x5)) a0 a1 r h
    exact ⟨m, (top_sturm_Variations (tb_sturm_Variations m) a0 a1).trans (hm m (Nat.le_refl m))⟩)

abbrev E_isolate_search_count : Env := mkE tys [(44, callE [.slice tP, .pair tI tN] [(.int .i64, false)] (fun τ => F_sturm_Variations τ.1 τ.2.1))] []
def c_isolate_search_count : List (Nat × Live) := []
noncomputable abbrev fe_isolate_search_count := (finE (E_isolate_search_count) [(.int .i64, false)] Try.f60.results.toList)
theorem top_isolate_search_count (S : Nat → KT (RT [(.int .i64, false)])) (a0 : List (Bool × List Int) × List (List (Bool × List Int))) (a1 : (Bool × List Int) × List Int) (a2 : (Bool × List Int) × List Int) : evA (E_isolate_search_count) (lk c_isolate_search_count) S (bodyOf Try.f60) noX (fe_isolate_search_count) (fe_isolate_search_count) (initSt [.pair tP (.slice tP), .pair tI tN, .pair tI tN] (a0, a1, a2, ())) = T_isolate_search_count a0 a1 a2 := by kernel_rfl
noncomputable abbrev tb_isolate_search_count := tab (E_isolate_search_count) (lk c_isolate_search_count) (bodyOf Try.f60) (fe_isolate_search_count)
theorem ok_isolate_search_count : EnvOK Try.prog (E_isolate_search_count) := mkE_ok tys_ok ⟨⟨fs_sturm_Variations.csound, ⟨Try.f44, by kernel_rfl, by kernel_rfl, by kernel_rfl⟩⟩, trivial⟩ trivial
theorem fs_isolate_search_count : FSound Try.prog 60 [.pair tP (.slice tP), .pair tI tN, .pair tI tN] [(.int .i64, false)] (fun τ => F_isolate_search_count τ.1 τ.2.1 τ.2.2.1) :=
  evG_sound (E := (E_isolate_search_count)) (C := (lk c_isolate_search_count)) ok_isolate_search_count mixed_ok (fn := Try.f60) (c := (bodyOf Try.f60)) (by kernel_rfl) (by kernel_rfl) (by kernel_rfl) (by kernel_rfl) (by kernel_rfl) (by kernel_rfl) (fun τ r h => by
    obtain ⟨a0, a1, a2, ⟨⟩⟩ := τ
    obtain ⟨m, hm⟩ := Rn_isolate_search_count a0 a1 a2 r h
    exact ⟨m, (top_isolate_search_count (tb_isolate_search_count m) a0 a1 a2).trans (hm m (Nat.le_refl m))⟩)

abbrev E_isolate_search_between (G_isolate_search_between : (List (Bool × List Int) × List (List (Bool × List Int))) → ((Bool × List Int) × List Int) → ((Bool × List Int) × List Int) → Option (List (((Bool × List Int) × List Int) × (Bool × List Int) × List Int))) : Env := mkE tys [(20, callE [tP, .pair tI tN] [(.int .i64, false)] (fun τ => F_unipoly_SignAt τ.1 τ.2.1)), (22, callE [.int .i64] [(.pair tI tN, false)] (fun τ => F_rational_Of τ.1)), (23, callE [.pair tI tN, .pair tI tN] [(.pair tI tN, false)] (fun τ => F_rational_Sub τ.1 τ.2.1)), (24, callE [.pair tI tN, .pair tI tN] [(.pair tI tN, false)] (fun τ => F_rational_Mid τ.1 τ.2.1)), (25, callE [.pair tI tN, .pair tI tN] [(.pair tI tN, false)] (fun τ => F_rational_Add τ.1 τ.2.1)), (35, callE [.pair tP (.slice tP), .pair tI tN, .pair tI tN] [(.slice (.pair (.pair tI tN) (.pair tI tN)), true)] (fun τ => G_isolate_search_between τ.1 τ.2.1 τ.2.2.1)), (60, callE [.pair tP (.slice tP), .pair tI tN, .pair tI tN] [(.int .i64, false)] (fun τ => F_isolate_search_count τ.1 τ.2.1 τ.2.2.1))] []
def c_isolate_search_between : List (Nat × Live) := [(45, ⟨[], [(true, 3, .pair tP (.slice tP)), (true, 4, .pair tI tN), (true, 5, .pair tI tN), (true, 7, .pair tI tN), (true, 8, .pair tI tN), (true, 9, .pair tI tN), (true, 10, .pair tI tN)], []⟩)]
noncomputable abbrev fe_isolate_search_between (G_isolate_search_between : (List (Bool × List Int) × List (List (Bool × List Int))) → ((Bool × List Int) × List Int) → ((Bool × List Int) × List Int) → Option (List (((Bool × List Int) × List Int) × (Bool × List Int) × List Int))) := (finE (E_isolate_search_between G_isolate_search_between) [(.slice (.pair (.pair tI tN) (.pair tI tN)), true)] Try.f35.results.toList)
noncomputable abbrev cn_isolate_search_between_45 (x3 : List (Bool × List Int) × List (List (Bool × List Int))) (x4 : (Bool × List Int) × List Int) (x5 : (Bool × List Int) × List Int) (x7 : (Bool × List Int) × List Int) (x8 : (Bool × List Int) × List Int) (x9 : (Bool × List Int) × List Int) (x10 : (Bool × List Int) × List Int) : St := ⟨[(10, .one (.ptr 10006 0 [])), (9, .one (.ptr 10005 0 [])), (8, .one (.ptr 10004 0 [])), (7, .one (.ptr 10003 0 [])), (5, .one (.ptr 10002 0 [])), (4, .one (.ptr 10001 0 [])), (3, .one (.ptr 10000 0 []))], [(10006, some ⟨.pair tI tN, [x10], false⟩), (10005, some ⟨.pair tI tN, [x9], false⟩), (10004, some ⟨.pair tI tN, [x8], false⟩), (10003, some ⟨.pair tI tN, [x7], false⟩), (10002, some ⟨.pair tI tN, [x5], false⟩), (10001, some ⟨.pair tI tN, [x4], false⟩), (10000, some ⟨.pair tP (.slice tP), [x3], false⟩)]⟩
noncomputable abbrev kk_isolate_search_between_45 (S : Nat → KT (RT [(.slice (.pair (.pair tI tN) (.pair tI tN)), true)])) := fun (x3 : List (Bool × List Int) × List (List (Bool × List Int))) (x4 : (Bool × List Int) × List Int) (x5 : (Bool × List Int) × List Int) (x7 : (Bool × List Int) × List Int) (x8 : (Bool × List Int) × List Int) (x9 : (Bool × List Int) × List Int) (x10 : (Bool × List Int) × List Int) => S 45 (cn_isolate_search_between_45 x3 x4 x5 x7 x8 x9 x10)
theorem top_isolate_search_between (G_isolate_search_between : (List (Bool × List Int) × List (List (Bool × List Int))) → ((Bool × List Int) × List Int) → ((Bool × List Int) × List Int) → Option (List (((Bool × List Int) × List Int) × (Bool × List Int) × List Int))) (S : Nat → KT (RT [(.slice (.pair (.pair tI tN) (.pair tI tN)), true)])) (a0 : List (Bool × List Int) × List (List (Bool × List Int))) (a1 : (Bool × List Int) × List Int) (a2 : (Bool × List Int) × List Int) : evA (E_isolate_search_between G_isolate_search_between) (lk c_isolate_search_between) S (bodyOf Try.f35) noX (fe_isolate_search_between G_isolate_search_between) (fe_isolate_search_between G_isolate_search_between) (initSt [.pair tP (.slice tP), .pair tI tN, .pair tI tN] (a0, a1, a2, ())) = T_isolate_search_between G_isolate_search_between (kk_isolate_search_between_45 S) a0 a1 a2 := by kernel_rfl
theorem seg_isolate_search_between_45 (G_isolate_search_between : (List (Bool × List Int) × List (List (Bool × List Int))) → ((Bool × List Int) × List Int) → ((Bool × List Int) × List Int) → Option (List (((Bool × List Int) × List Int) × (Bool × List Int) × List Int))) (S : Nat → KT (RT [(.slice (.pair (.pair tI tN) (.pair tI tN)), true)])) (x3 : List (Bool × List Int) × List (List (Bool × List Int))) (x4 : (Bool × List Int) × List Int) (x5 : (Bool × List Int) × List Int) (x7 : (Bool × List Int) × List Int) (x8 : (Bool × List Int) × List Int) (x9 : (Bool × List Int) × List Int) (x10 : (Bool × List Int) × List Int) : stepT (entry (E_isolate_search_between G_isolate_search_between) (lk c_isolate_search_between) S 45 (bodyOf Try.f35) noX (fe_isolate_search_between G_isolate_search_between) (fe_isolate_search_between G_isolate_search_between)) (cn_isolate_search_between_45 x3 x4 x5 x7 x8 x9 x10) = S_isolate_search_between_45 G_isolate_search_between (kk_isolate_search_between_45 S) x3 x4 x5 x7 x8 x9 x10 := by kernel_rfl
noncomputable abbrev tb_isolate_search_between (G_isolate_search_between : (List (Bool × List Int) × List (List (Bool × List Int))) → ((Bool × List Int) × List Int) → ((Bool × List Int) × List Int) → Option (List (((Bool × List Int) × List Int) × (Bool × List Int) × List Int))) := tab (E_isolate_search_between G_isolate_search_between) (lk c_isolate_search_between) (bodyOf Try.f35) (fe_isolate_search_between G_isolate_search_between)
theorem ok_isolate_search_between (G_isolate_search_between : (List (Bool × List Int) × List (List (Bool × List Int))) → ((Bool × List Int) × List Int) → ((Bool × List Int) × List Int) → Option (List (((Bool × List Int) × List Int) × (Bool × List Int) × List Int))) (hG : FSound Try.prog 35 [.pair tP (.slice tP), .pair tI tN, .pair tI tN] [(.slice (.pair (.pair tI tN) (.pair tI tN)), true)] (fun τ => G_isolate_search_between τ.1 τ.2.1 τ.2.2.1)) : EnvOK Try.prog (E_isolate_search_between G_isolate_search_between) := mkE_ok tys_ok ⟨⟨fs_unipoly_SignAt.csound, ⟨Try.f20, by kernel_rfl, by kernel_rfl, by kernel_rfl⟩⟩, ⟨fs_rational_Of.csound, ⟨Try.f22, by kernel_rfl, by kernel_rfl, by kernel_rfl⟩⟩, ⟨fs_rational_Sub.csound, ⟨Try.f23, by kernel_rfl, by kernel_rfl, by kernel_rfl⟩⟩, ⟨fs_rational_Mid.csound, ⟨Try.f24, by kernel_rfl, by kernel_rfl, by kernel_rfl⟩⟩, ⟨fs_rational_Add.csound, ⟨Try.f25, by kernel_rfl, by kernel_rfl, by kernel_rfl⟩⟩, ⟨hG.csound, ⟨Try.f35, by kernel_rfl, by kernel_rfl, by kernel_rfl⟩⟩, ⟨fs_isolate_search_count.csound, ⟨Try.f60, by kernel_rfl, by kernel_rfl, by kernel_rfl⟩⟩, trivial⟩ trivial
theorem fsr_isolate_search_between (d : Nat) (hG : FSound Try.prog 35 [.pair tP (.slice tP), .pair tI tN, .pair tI tN] [(.slice (.pair (.pair tI tN) (.pair tI tN)), true)] (fun τ => R_isolate_search_between d τ.1 τ.2.1 τ.2.2.1)) : FSound Try.prog 35 [.pair tP (.slice tP), .pair tI tN, .pair tI tN] [(.slice (.pair (.pair tI tN) (.pair tI tN)), true)] (fun τ => R_isolate_search_between (d + 1) τ.1 τ.2.1 τ.2.2.1) :=
  evG_sound (E := (E_isolate_search_between (R_isolate_search_between d))) (C := (lk c_isolate_search_between)) (ok_isolate_search_between (R_isolate_search_between d) hG) mixed_ok (fn := Try.f35) (c := (bodyOf Try.f35)) (by kernel_rfl) (by kernel_rfl) (by kernel_rfl) (by kernel_rfl) (by kernel_rfl) (by kernel_rfl) (fun τ r h => by
    obtain ⟨a0, a1, a2, ⟨⟩⟩ := τ
    obtain ⟨m, hm⟩ := Rn_isolate_search_between (R_isolate_search_between d) (fun m => kk_isolate_search_between_45 ((tb_isolate_search_between (R_isolate_search_between d)) m)) (fun m x3 x4 x5 x7 x8 x9 x10 => (tab_succ (E_isolate_search_between (R_isolate_search_between d)) (lk c_isolate_search_between) (bodyOf Try.f35) (fe_isolate_search_between (R_isolate_search_between d)) m 45 (cn_isolate_search_between_45 x3 x4 x5 x7 x8 x9 x10)).trans (seg_isolate_search_between_45 (R_isolate_search_between d) (tb_isolate_search_between (R_isolate_search_between d) m) x3 x4 x5 x7 x8 x9 x10)) d (fun _ _ _ => rfl) a0 a1 a2 r h
    exact ⟨m, (top_isolate_search_between (R_isolate_search_between d) (tb_isolate_search_between (R_isolate_search_between d) m) a0 a1 a2).trans (hm m (Nat.le_refl m))⟩)
theorem fs_isolate_search_between : FSound Try.prog 35 [.pair tP (.slice tP), .pair tI tN, .pair tI tN] [(.slice (.pair (.pair tI tN) (.pair tI tN)), true)] (fun τ => F_isolate_search_between τ.1 τ.2.1 τ.2.2.1) :=
  fsound_lim (fun d => (fun τ => R_isolate_search_between d τ.1 τ.2.1 τ.2.2.1)) (fun τ => Rz_isolate_search_between τ.1 τ.2.1 τ.2.2.1) (fun d h => fsr_isolate_search_between d h) (fun τ r h => Rl_isolate_search_between τ.1 τ.2.1 τ.2.2.1 r h)

abbrev E_rational_Neg : Env := mkE tys [(39, callE [tI] [(tI, false)] (fun τ => F_integer_Neg τ.1)), (40, callE [tI, tN] [(.pair tI tN, false)] (fun τ => F_rational_made τ.1 τ.2.1))] []
def c_rational_Neg : List (Nat × Live) := []
noncomputable abbrev fe_rational_Neg := (finE (E_rational_Neg) [(.pair tI tN, false)] Try.f36.results.toList)
theorem top_rational_Neg (S : Nat → KT (RT [(.pair tI tN, false)])) (a0 : (Bool × List Int) × List Int) : evA (E_rational_Neg) (lk c_rational_Neg) S (bodyOf Try.f36) noX (fe_rational_Neg) (fe_rational_Neg) (initSt [.pair tI tN] (a0, ())) = T_rational_Neg a0 := by kernel_rfl
noncomputable abbrev tb_rational_Neg := tab (E_rational_Neg) (lk c_rational_Neg) (bodyOf Try.f36) (fe_rational_Neg)
theorem ok_rational_Neg : EnvOK Try.prog (E_rational_Neg) := mkE_ok tys_ok ⟨⟨fs_integer_Neg.csound, ⟨Try.f39, by kernel_rfl, by kernel_rfl, by kernel_rfl⟩⟩, ⟨fs_rational_made.csound, ⟨Try.f40, by kernel_rfl, by kernel_rfl, by kernel_rfl⟩⟩, trivial⟩ trivial
theorem fs_rational_Neg : FSound Try.prog 36 [.pair tI tN] [(.pair tI tN, false)] (fun τ => F_rational_Neg τ.1) :=
  evG_sound (E := (E_rational_Neg)) (C := (lk c_rational_Neg)) ok_rational_Neg mixed_ok (fn := Try.f36) (c := (bodyOf Try.f36)) (by kernel_rfl) (by kernel_rfl) (by kernel_rfl) (by kernel_rfl) (by kernel_rfl) (by kernel_rfl) (fun τ r h => by
    obtain ⟨a0, ⟨⟩⟩ := τ
    obtain ⟨m, hm⟩ := Rn_rational_Neg a0 r h
    exact ⟨m, (top_rational_Neg (tb_rational_Neg m) a0).trans (hm m (Nat.le_refl m))⟩)

abbrev E_isolate_Roots : Env := mkE tys [(19, callE [tP] [(.int .i64, false)] (fun τ => F_unipoly_Degree τ.1)), (31, callE [tP] [(tP, false)] (fun τ => F_squarefree_Part τ.1)), (32, callE [tI] [(.pair tI tN, false)] (fun τ => F_rational_From τ.1)), (33, callE [tP] [(tI, false)] (fun τ => F_rootbound_Cauchy τ.1)), (34, callE [tP] [(.slice tP, false)] (fun τ => F_sturm_Of τ.1)), (35, callE [.pair tP (.slice tP), .pair tI tN, .pair tI tN] [(.slice (.pair (.pair tI tN) (.pair tI tN)), true)] (fun τ => F_isolate_search_between τ.1 τ.2.1 τ.2.2.1)), (36, callE [.pair tI tN] [(.pair tI tN, false)] (fun τ => F_rational_Neg τ.1))] []
def c_isolate_Roots : List (Nat × Live) := []
noncomputable abbrev fe_isolate_Roots := (finE (E_isolate_Roots) [(.slice (.pair (.pair tI tN) (.pair tI tN)), false)] Try.f14.results.toList)
theorem top_isolate_Roots (S : Nat → KT (RT [(.slice (.pair (.pair tI tN) (.pair tI tN)), false)])) (a0 : List (Bool × List Int)) : evA (E_isolate_Roots) (lk c_isolate_Roots) S (bodyOf Try.f14) noX (fe_isolate_Roots) (fe_isolate_Roots) (initSt [tP] (a0, ())) = T_isolate_Roots a0 := by kernel_rfl
noncomputable abbrev tb_isolate_Roots := tab (E_isolate_Roots) (lk c_isolate_Roots) (bodyOf Try.f14) (fe_isolate_Roots)
theorem ok_isolate_Roots : EnvOK Try.prog (E_isolate_Roots) := mkE_ok tys_ok ⟨⟨fs_unipoly_Degree.csound, ⟨Try.f19, by kernel_rfl, by kernel_rfl, by kernel_rfl⟩⟩, ⟨fs_squarefree_Part.csound, ⟨Try.f31, by kernel_rfl, by kernel_rfl, by kernel_rfl⟩⟩, ⟨fs_rational_From.csound, ⟨Try.f32, by kernel_rfl, by kernel_rfl, by kernel_rfl⟩⟩, ⟨fs_rootbound_Cauchy.csound, ⟨Try.f33, by kernel_rfl, by kernel_rfl, by kernel_rfl⟩⟩, ⟨fs_sturm_Of.csound, ⟨Try.f34, by kernel_rfl, by kernel_rfl, by kernel_rfl⟩⟩, ⟨fs_isolate_search_between.csound, ⟨Try.f35, by kernel_rfl, by kernel_rfl, by kernel_rfl⟩⟩, ⟨fs_rational_Neg.csound, ⟨Try.f36, by kernel_rfl, by kernel_rfl, by kernel_rfl⟩⟩, trivial⟩ trivial
theorem fs_isolate_Roots : FSound Try.prog 14 [tP] [(.slice (.pair (.pair tI tN) (.pair tI tN)), false)] (fun τ => F_isolate_Roots τ.1) :=
  evG_sound (E := (E_isolate_Roots)) (C := (lk c_isolate_Roots)) ok_isolate_Roots mixed_ok (fn := Try.f14) (c := (bodyOf Try.f14)) (by kernel_rfl) (by kernel_rfl) (by kernel_rfl) (by kernel_rfl) (by kernel_rfl) (by kernel_rfl) (fun τ r h => by
    obtain ⟨a0, ⟨⟩⟩ := τ
    obtain ⟨m, hm⟩ := Rn_isolate_Roots a0 r h
    exact ⟨m, (top_isolate_Roots (tb_isolate_Roots m) a0).trans (hm m (Nat.le_refl m))⟩)

abbrev E_law16_awake : Env := mkE tys [(14, callE [tP] [(.slice (.pair (.pair tI tN) (.pair tI tN)), false)] (fun τ => F_isolate_Roots τ.1)), (15, callE [.slice (.int .i64)] [(tP, false)] (fun τ => F_unipoly_Of τ.1))] []
def c_law16_awake : List (Nat × Live) := []
noncomputable abbrev fe_law16_awake := (finE (E_law16_awake) [(.bool, false)] Try.f5.results.toList)
theorem top_law16_awake (S : Nat → KT (RT [(.bool, false)])) : evA (E_law16_awake) (lk c_law16_awake) S (bodyOf Try.f5) noX (fe_law16_awake) (fe_law16_awake) (initSt [] ()) = T_law16_awake := by kernel_rfl
noncomputable abbrev tb_law16_awake := tab (E_law16_awake) (lk c_law16_awake) (bodyOf Try.f5) (fe_law16_awake)
theorem ok_law16_awake : EnvOK Try.prog (E_law16_awake) := mkE_ok tys_ok ⟨⟨fs_isolate_Roots.csound, ⟨Try.f14, by kernel_rfl, by kernel_rfl, by kernel_rfl⟩⟩, ⟨fs_unipoly_Of.csound, ⟨Try.f15, by kernel_rfl, by kernel_rfl, by kernel_rfl⟩⟩, trivial⟩ trivial
theorem fs_law16_awake : FSound Try.prog 5 [] [(.bool, false)] (fun τ => F_law16_awake) :=
  evG_sound (E := (E_law16_awake)) (C := (lk c_law16_awake)) ok_law16_awake mixed_ok (fn := Try.f5) (c := (bodyOf Try.f5)) (by kernel_rfl) (by kernel_rfl) (by kernel_rfl) (by kernel_rfl) (by kernel_rfl) (by kernel_rfl) (fun τ r h => by
    obtain ⟨⟩ := τ
    obtain ⟨m, hm⟩ := Rn_law16_awake r h
    exact ⟨m, (top_law16_awake (tb_law16_awake m)).trans (hm m (Nat.le_refl m))⟩)

abbrev E_ref15_Frac : Env := mkE tys [] []
def c_ref15_Frac : List (Nat × Live) := []
noncomputable abbrev fe_ref15_Frac := (finE (E_ref15_Frac) [(.int .i64, false), (.int .i64, false)] Try.f16.results.toList)
theorem top_ref15_Frac (S : Nat → KT (RT [(.int .i64, false), (.int .i64, false)])) (a0 : List Int) : evA (E_ref15_Frac) (lk c_ref15_Frac) S (bodyOf Try.f16) noX (fe_ref15_Frac) (fe_ref15_Frac) (initSt [.arr 2 (.int .i8)] (a0, ())) = T_ref15_Frac a0 := by kernel_rfl
noncomputable abbrev tb_ref15_Frac := tab (E_ref15_Frac) (lk c_ref15_Frac) (bodyOf Try.f16) (fe_ref15_Frac)
theorem ok_ref15_Frac : EnvOK Try.prog (E_ref15_Frac) := mkE_ok tys_ok trivial trivial
theorem fs_ref15_Frac : FSound Try.prog 16 [.arr 2 (.int .i8)] [(.int .i64, false), (.int .i64, false)] (fun τ => F_ref15_Frac τ.1) :=
  evG_sound (E := (E_ref15_Frac)) (C := (lk c_ref15_Frac)) ok_ref15_Frac mixed_ok (fn := Try.f16) (c := (bodyOf Try.f16)) (by kernel_rfl) (by kernel_rfl) (by kernel_rfl) (by kernel_rfl) (by kernel_rfl) (by kernel_rfl) (fun τ r h => by
    obtain ⟨a0, ⟨⟩⟩ := τ
    obtain ⟨m, hm⟩ := Rn_ref15_Frac a0 r h
    exact ⟨m, (top_ref15_Frac (tb_ref15_Frac m) a0).trans (hm m (Nat.le_refl m))⟩)

abbrev E_rational_Make : Env := mkE tys [(38, callE [tN] [(.bool, false)] (fun τ => F_natural_IsZero τ.1)), (39, callE [tI] [(tI, false)] (fun τ => F_integer_Neg τ.1)), (40, callE [tI, tN] [(.pair tI tN, false)] (fun τ => F_rational_made τ.1 τ.2.1))] []
def c_rational_Make : List (Nat × Live) := []
noncomputable abbrev fe_rational_Make := (finE (E_rational_Make) [(.pair tI tN, false), (.int .i64, false)] Try.f17.results.toList)
theorem top_rational_Make (S : Nat → KT (RT [(.pair tI tN, false), (.int .i64, false)])) (a0 : Bool × List Int) (a1 : Bool × List Int) : evA (E_rational_Make) (lk c_rational_Make) S (bodyOf Try.f17) noX (fe_rational_Make) (fe_rational_Make) (initSt [tI, tI] (a0, a1, ())) = T_rational_Make a0 a1 := by kernel_rfl
noncomputable abbrev tb_rational_Make := tab (E_rational_Make) (lk c_rational_Make) (bodyOf Try.f17) (fe_rational_Make)
theorem ok_rational_Make : EnvOK Try.prog (E_rational_Make) := mkE_ok tys_ok ⟨⟨fs_natural_IsZero.csound, ⟨Try.f38, by kernel_rfl, by kernel_rfl, by kernel_rfl⟩⟩, ⟨fs_integer_Neg.csound, ⟨Try.f39, by kernel_rfl, by kernel_rfl, by kernel_rfl⟩⟩, ⟨fs_rational_made.csound, ⟨Try.f40, by kernel_rfl, by kernel_rfl, by kernel_rfl⟩⟩, trivial⟩ trivial
theorem fs_rational_Make : FSound Try.prog 17 [tI, tI] [(.pair tI tN, false), (.int .i64, false)] (fun τ => F_rational_Make τ.1 τ.2.1) :=
  evG_sound (E := (E_rational_Make)) (C := (lk c_rational_Make)) ok_rational_Make mixed_ok (fn := Try.f17) (c := (bodyOf Try.f17)) (by kernel_rfl) (by kernel_rfl) (by kernel_rfl) (by kernel_rfl) (by kernel_rfl) (by kernel_rfl) (fun τ r h => by
    obtain ⟨a0, a1, ⟨⟩⟩ := τ
    obtain ⟨m, hm⟩ := Rn_rational_Make a0 a1 r h
    exact ⟨m, (top_rational_Make (tb_rational_Make m) a0 a1).trans (hm m (Nat.le_refl m))⟩)

abbrev E_law15_Rat : Env := mkE tys [(16, callE [.arr 2 (.int .i8)] [(.int .i64, false), (.int .i64, false)] (fun τ => F_ref15_Frac τ.1)), (17, callE [tI, tI] [(.pair tI tN, false), (.int .i64, false)] (fun τ => F_rational_Make τ.1 τ.2.1)), (18, callE [.int .i64] [(tI, false)] (fun τ => F_integer_Of τ.1))] []
def c_law15_Rat : List (Nat × Live) := []
noncomputable abbrev fe_law15_Rat := (finE (E_law15_Rat) [(.pair tI tN, false)] Try.f7.results.toList)
theorem top_law15_Rat (S : Nat → KT (RT [(.pair tI tN, false)])) (a0 : List Int) : evA (E_law15_Rat) (lk c_law15_Rat) S (bodyOf Try.f7) noX (fe_law15_Rat) (fe_law15_Rat) (initSt [.arr 2 (.int .i8)] (a0, ())) = T_law15_Rat a0 := by kernel_rfl
noncomputable abbrev tb_law15_Rat := tab (E_law15_Rat) (lk c_law15_Rat) (bodyOf Try.f7) (fe_law15_Rat)
theorem ok_law15_Rat : EnvOK Try.prog (E_law15_Rat) := mkE_ok tys_ok ⟨⟨fs_ref15_Frac.csound, ⟨Try.f16, by kernel_rfl, by kernel_rfl, by kernel_rfl⟩⟩, ⟨fs_rational_Make.csound, ⟨Try.f17, by kernel_rfl, by kernel_rfl, by kernel_rfl⟩⟩, ⟨fs_integer_Of.csound, ⟨Try.f18, by kernel_rfl, by kernel_rfl, by kernel_rfl⟩⟩, trivial⟩ trivial
theorem fs_law15_Rat : FSound Try.prog 7 [.arr 2 (.int .i8)] [(.pair tI tN, false)] (fun τ => F_law15_Rat τ.1) :=
  evG_sound (E := (E_law15_Rat)) (C := (lk c_law15_Rat)) ok_law15_Rat mixed_ok (fn := Try.f7) (c := (bodyOf Try.f7)) (by kernel_rfl) (by kernel_rfl) (by kernel_rfl) (by kernel_rfl) (by kernel_rfl) (by kernel_rfl) (fun τ r h => by
    obtain ⟨a0, ⟨⟩⟩ := τ
    obtain ⟨m, hm⟩ := Rn_law15_Rat a0 r h
    exact ⟨m, (top_law15_Rat (tb_law15_Rat m) a0).trans (hm m (Nat.le_refl m))⟩)

abbrev E_rational_Cmp : Env := mkE tys [(27, callE [.pair tI tN] [(tI, false), (tI, false)] (fun τ => F_rational_parts τ.1)), (28, callE [tI] [(.int .i64, false)] (fun τ => F_integer_Sign τ.1)), (29, callE [tI, tI] [(.int .i64, false)] (fun τ => F_integer_Cmp τ.1 τ.2.1)), (30, callE [tI, tI] [(tI, false)] (fun τ => F_integer_Mul τ.1 τ.2.1))] []
def c_rational_Cmp : List (Nat × Live) := []
noncomputable abbrev fe_rational_Cmp := (finE (E_rational_Cmp) [(.int .i64, false)] Try.f12.results.toList)
theorem top_rational_Cmp (S : Nat → KT (RT [(.int .i64, false)])) (a0 : (Bool × List Int) × List Int) (a1 : (Bool × List Int) × List Int) : evA (E_rational_Cmp) (lk c_rational_Cmp) S (bodyOf Try.f12) noX (fe_rational_Cmp) (fe_rational_Cmp) (initSt [.pair tI tN, .pair tI tN] (a0, a1, ())) = T_rational_Cmp a0 a1 := by kernel_rfl
noncomputable abbrev tb_rational_Cmp := tab (E_rational_Cmp) (lk c_rational_Cmp) (bodyOf Try.f12) (fe_rational_Cmp)
theorem ok_rational_Cmp : EnvOK Try.prog (E_rational_Cmp) := mkE_ok tys_ok ⟨⟨fs_rational_parts.csound, ⟨Try.f27, by kernel_rfl, by kernel_rfl, by kernel_rfl⟩⟩, ⟨fs_integer_Sign.csound, ⟨Try.f28, by kernel_rfl, by kernel_rfl, by kernel_rfl⟩⟩, ⟨fs_integer_Cmp.csound, ⟨Try.f29, by kernel_rfl, by kernel_rfl, by kernel_rfl⟩⟩, ⟨fs_integer_Mul.csound, ⟨Try.f30, by kernel_rfl, by kernel_rfl, by kernel_rfl⟩⟩, trivial⟩ trivial
theorem fs_rational_Cmp : FSound Try.prog 12 [.pair tI tN, .pair tI tN] [(.int .i64, false)] (fun τ => F_rational_Cmp τ.1 τ.2.1) :=
  evG_sound (E := (E_rational_Cmp)) (C := (lk c_rational_Cmp)) ok_rational_Cmp mixed_ok (fn := Try.f12) (c := (bodyOf Try.f12)) (by kernel_rfl) (by kernel_rfl) (by kernel_rfl) (by kernel_rfl) (by kernel_rfl) (by kernel_rfl) (fun τ r h => by
    obtain ⟨a0, a1, ⟨⟩⟩ := τ
    obtain ⟨m, hm⟩ := Rn_rational_Cmp a0 a1 r h
    exact ⟨m, (top_rational_Cmp (tb_rational_Cmp m) a0 a1).trans (hm m (Nat.le_refl m))⟩)

abbrev E_isolate_Gaps : Env := mkE tys [(12, callE [.pair tI tN, .pair tI tN] [(.int .i64, false)] (fun τ => F_rational_Cmp τ.1 τ.2.1)), (22, callE [.int .i64] [(.pair tI tN, false)] (fun τ => F_rational_Of τ.1)), (23, callE [.pair tI tN, .pair tI tN] [(.pair tI tN, false)] (fun τ => F_rational_Sub τ.1 τ.2.1)), (24, callE [.pair tI tN, .pair tI tN] [(.pair tI tN, false)] (fun τ => F_rational_Mid τ.1 τ.2.1)), (25, callE [.pair tI tN, .pair tI tN] [(.pair tI tN, false)] (fun τ => F_rational_Add τ.1 τ.2.1))] []
def c_isolate_Gaps : List (Nat × Live) := [(21, ⟨[(0, .slice (.pair (.pair tI tN) (.pair tI tN))), (20, .slice (.pair (.pair tI tN) (.pair tI tN))), (21, .int .i64), (22, .int .i64)], [(false, 3, .pair tI tN)], []⟩), (52, ⟨[(0, .slice (.pair (.pair tI tN) (.pair tI tN))), (20, .slice (.pair (.pair tI tN) (.pair tI tN))), (21, .int .i64), (22, .int .i64), (66, .bool)], [(false, 3, .pair tI tN), (true, 5, .pair (.pair tI tN) (.pair tI tN)), (true, 6, .pair (.pair tI tN) (.pair tI tN))], []⟩)]
noncomputable abbrev fe_isolate_Gaps := (finE (E_isolate_Gaps) [(.slice (.pair tI tN), false)] Try.f10.results.toList)
noncomputable abbrev cn_isolate_Gaps_21 (x0 : List (((Bool × List Int) × List Int) × (Bool × List Int) × List Int)) (x20 : List (((Bool × List Int) × List Int) × (Bool × List Int) × List Int)) (x21 : Int) (x22 : Int) (x3 : List ((Bool × List Int) × List Int)) : St := ⟨[(3, .one (.loc (.pair tI tN) 10000)), (22, .one (.val (.int .i64) x22)), (21, .one (.val (.int .i64) x21)), (20, .one (.val (.slice (.pair (.pair tI tN) (.pair tI tN))) x20)), (0, .one (.val (.slice (.pair (.pair tI tN) (.pair tI tN))) x0))], [(10000, some ⟨.pair tI tN, x3, false⟩)]⟩
noncomputable abbrev kk_isolate_Gaps_21 (S : Nat → KT (RT [(.slice (.pair tI tN), false)])) := fun (x0 : List (((Bool × List Int) × List Int) × (Bool × List Int) × List Int)) (x20 : List (((Bool × List Int) × List Int) × (Bool × List Int) × List Int)) (x21 : Int) (x22 : Int) (x3 : List ((Bool × List Int) × List Int)) => S 21 (cn_isolate_Gaps_21 x0 x20 x21 x22 x3)
noncomputable abbrev cn_isolate_Gaps_52 (x0 : List (((Bool × List Int) × List Int) × (Bool × List Int) × List Int)) (x20 : List (((Bool × List Int) × List Int) × (Bool × List Int) × List Int)) (x21 : Int) (x22 : Int) (x66 : Bool) (x3 : List ((Bool × List Int) × List Int)) (x5 : ((Bool × List Int) × List Int) × (Bool × List Int) × List Int) (x6 : ((Bool × List Int) × List Int) × (Bool × List Int) × List Int) : St := ⟨[(6, .one (.ptr 10002 0 [])), (5, .one (.ptr 10001 0 [])), (3, .one (.loc (.pair tI tN) 10000)), (66, .one (.val (.bool) x66)), (22, .one (.val (.int .i64) x22)), (21, .one (.val (.int .i64) x21)), (20, .one (.val (.slice (.pair (.pair tI tN) (.pair tI tN))) x20)), (0, .one (.val (.slice (.pair (.pair tI tN) (.pair tI tN))) x0))], [(10002, some ⟨.pair (.pair tI tN) (.pair tI tN), [x6], false⟩), (10001, some ⟨.pair (.pair tI tN) (.pair tI tN), [x5], false⟩), (10000, some ⟨.pair tI tN, x3, false⟩)]⟩
noncomputable abbrev kk_isolate_Gaps_52 (S : Nat → KT (RT [(.slice (.pair tI tN), false)])) := fun (x0 : List (((Bool × List Int) × List Int) × (Bool × List Int) × List Int)) (x20 : List (((Bool × List Int) × List Int) × (Bool × List Int) × List Int)) (x21 : Int) (x22 : Int) (x66 : Bool) (x3 : List ((Bool × List Int) × List Int)) (x5 : ((Bool × List Int) × List Int) × (Bool × List Int) × List Int) (x6 : ((Bool × List Int) × List Int) × (Bool × List Int) × List Int) => S 52 (cn_isolate_Gaps_52 x0 x20 x21 x22 x66 x3 x5 x6)
theorem top_isolate_Gaps (S : Nat → KT (RT [(.slice (.pair tI tN), false)])) (a0 : List (((Bool × List Int) × List Int) × (Bool × List Int) × List Int)) : evA (E_isolate_Gaps) (lk c_isolate_Gaps) S (bodyOf Try.f10) noX (fe_isolate_Gaps) (fe_isolate_Gaps) (initSt [.slice (.pair (.pair tI tN) (.pair tI tN))] (a0, ())) = T_isolate_Gaps (kk_isolate_Gaps_21 S) (kk_isolate_Gaps_52 S) a0 := by kernel_rfl
theorem seg_isolate_Gaps_21 (S : Nat → KT (RT [(.slice (.pair tI tN), false)])) (x0 : List (((Bool × List Int) × List Int) × (Bool × List Int) × List Int)) (x20 : List (((Bool × List Int) × List Int) × (Bool × List Int) × List Int)) (x21 : Int) (x22 : Int) (x3 : List ((Bool × List Int) × List Int)) : stepT (entry (E_isolate_Gaps) (lk c_isolate_Gaps) S 21 (bodyOf Try.f10) noX (fe_isolate_Gaps) (fe_isolate_Gaps)) (cn_isolate_Gaps_21 x0 x20 x21 x22 x3) = S_isolate_Gaps_21 (kk_isolate_Gaps_21 S) (kk_isolate_Gaps_52 S) x0 x20 x21 x22 x3 := by kernel_rfl
theorem seg_isolate_Gaps_52 (S : Nat → KT (RT [(.slice (.pair tI tN), false)])) (x0 : List (((Bool × List Int) × List Int) × (Bool × List Int) × List Int)) (x20 : List (((Bool × List Int) × List Int) × (Bool × List Int) × List Int)) (x21 : Int) (x22 : Int) (x66 : Bool) (x3 : List ((Bool × List Int) × List Int)) (x5 : ((Bool × List Int) × List Int) × (Bool × List Int) × List Int) (x6 : ((Bool × List Int) × List Int) × (Bool × List Int) × List Int) : stepT (entry (E_isolate_Gaps) (lk c_isolate_Gaps) S 52 (bodyOf Try.f10) noX (fe_isolate_Gaps) (fe_isolate_Gaps)) (cn_isolate_Gaps_52 x0 x20 x21 x22 x66 x3 x5 x6) = S_isolate_Gaps_52 (kk_isolate_Gaps_21 S) (kk_isolate_Gaps_52 S) x0 x20 x21 x22 x66 x3 x5 x6 := by kernel_rfl
noncomputable abbrev tb_isolate_Gaps := tab (E_isolate_Gaps) (lk c_isolate_Gaps) (bodyOf Try.f10) (fe_isolate_Gaps)
theorem ok_isolate_Gaps : EnvOK Try.prog (E_isolate_Gaps) := mkE_ok tys_ok ⟨⟨fs_rational_Cmp.csound, ⟨Try.f12, by kernel_rfl, by kernel_rfl, by kernel_rfl⟩⟩, ⟨fs_rational_Of.csound, ⟨Try.f22, by kernel_rfl, by kernel_rfl, by kernel_rfl⟩⟩, ⟨fs_rational_Sub.csound, ⟨Try.f23, by kernel_rfl, by kernel_rfl, by kernel_rfl⟩⟩, ⟨fs_rational_Mid.csound, ⟨Try.f24, by kernel_rfl, by kernel_rfl, by kernel_rfl⟩⟩, ⟨fs_rational_Add.csound, ⟨Try.f25, by kernel_rfl, by kernel_rfl, by kernel_rfl⟩⟩, trivial⟩ trivial
theorem fs_isolate_Gaps : FSound Try.prog 10 [.slice (.pair (.pair tI tN) (.pair tI tN))] [(.slice (.pair tI tN), false)] (fun τ => F_isolate_Gaps τ.1) :=
  evG_sound (E := (E_isolate_Gaps)) (C := (lk c_isolate_Gaps)) ok_isolate_Gaps mixed_ok (fn := Try.f10) (c := (bodyOf Try.f10)) (by kernel_rfl) (by kernel_rfl) (by kernel_rfl) (by kernel_rfl) (by kernel_rfl) (by kernel_rfl) (fun τ r h => by
    obtain ⟨a0, ⟨⟩⟩ := τ
    obtain ⟨m, hm⟩ := Rn_isolate_Gaps (fun m => kk_isolate_Gaps_21 (tb_isolate_Gaps m)) (fun m => kk_isolate_Gaps_52 (tb_isolate_Gaps m)) (fun m x0 x20 x21 x22 x3 => (tab_succ (E_isolate_Gaps) (lk c_isolate_Gaps) (bodyOf Try.f10) (fe_isolate_Gaps) m 21 (cn_isolate_Gaps_21 x0 x20 x21 x22 x3)).trans (seg_isolate_Gaps_21 (tb_isolate_Gaps m) x0 x20 x21 x22 x3)) (fun m x0 x20 x21 x22 x66 x3 x5 x6 => (tab_succ (E_isolate_Gaps) (lk c_isolate_Gaps) (bodyOf Try.f10) (fe_isolate_Gaps) m 52 (cn_isolate_Gaps_52 x0 x20 x21 x22 x66 x3 x5 x6)).trans (seg_isolate_Gaps_52 (tb_isolate_Gaps m) x0 x20 x21 x22 x66 x3 x5 x6)) a0 r h
    exact ⟨m, (top_isolate_Gaps (tb_isolate_Gaps m) a0).trans (hm m (Nat.le_refl m))⟩)

abbrev E_ref15_Less : Env := mkE tys [(16, callE [.arr 2 (.int .i8)] [(.int .i64, false), (.int .i64, false)] (fun τ => F_ref15_Frac τ.1))] []
def c_ref15_Less : List (Nat × Live) := []
noncomputable abbrev fe_ref15_Less := (finE (E_ref15_Less) [(.bool, false)] Try.f26.results.toList)
theorem top_ref15_Less (S : Nat → KT (RT [(.bool, false)])) (a0 : List Int) (a1 : List Int) : evA (E_ref15_Less) (lk c_ref15_Less) S (bodyOf Try.f26) noX (fe_ref15_Less) (fe_ref15_Less) (initSt [.arr 2 (.int .i8), .arr 2 (.int .i8)] (a0, a1, ())) = T_ref15_Less a0 a1 := by kernel_rfl
noncomputable abbrev tb_ref15_Less := tab (E_ref15_Less) (lk c_ref15_Less) (bodyOf Try.f26) (fe_ref15_Less)
theorem ok_ref15_Less : EnvOK Try.prog (E_ref15_Less) := mkE_ok tys_ok ⟨⟨fs_ref15_Frac.csound, ⟨Try.f16, by kernel_rfl, by kernel_rfl, by kernel_rfl⟩⟩, trivial⟩ trivial
theorem fs_ref15_Less : FSound Try.prog 26 [.arr 2 (.int .i8), .arr 2 (.int .i8)] [(.bool, false)] (fun τ => F_ref15_Less τ.1 τ.2.1) :=
  evG_sound (E := (E_ref15_Less)) (C := (lk c_ref15_Less)) ok_ref15_Less mixed_ok (fn := Try.f26) (c := (bodyOf Try.f26)) (by kernel_rfl) (by kernel_rfl) (by kernel_rfl) (by kernel_rfl) (by kernel_rfl) (by kernel_rfl) (fun τ r h => by
    obtain ⟨a0, a1, ⟨⟩⟩ := τ
    obtain ⟨m, hm⟩ := Rn_ref15_Less a0 a1 r h
    exact ⟨m, (top_ref15_Less (tb_ref15_Less m) a0 a1).trans (hm m (Nat.le_refl m))⟩)

abbrev E_ref16_Point : Env := mkE tys [(26, callE [.arr 2 (.int .i8), .arr 2 (.int .i8)] [(.bool, false)] (fun τ => F_ref15_Less τ.1 τ.2.1))] []
def c_ref16_Point : List (Nat × Live) := []
noncomputable abbrev fe_ref16_Point := (finE (E_ref16_Point) [(.bool, false)] Try.f13.results.toList)
theorem top_ref16_Point (S : Nat → KT (RT [(.bool, false)])) (a0 : List (List Int)) : evA (E_ref16_Point) (lk c_ref16_Point) S (bodyOf Try.f13) noX (fe_ref16_Point) (fe_ref16_Point) (initSt [.arr 2 (.arr 2 (.int .i8))] (a0, ())) = T_ref16_Point a0 := by kernel_rfl
noncomputable abbrev tb_ref16_Point := tab (E_ref16_Point) (lk c_ref16_Point) (bodyOf Try.f13) (fe_ref16_Point)
theorem ok_ref16_Point : EnvOK Try.prog (E_ref16_Point) := mkE_ok tys_ok ⟨⟨fs_ref15_Less.csound, ⟨Try.f26, by kernel_rfl, by kernel_rfl, by kernel_rfl⟩⟩, trivial⟩ trivial
theorem fs_ref16_Point : FSound Try.prog 13 [.arr 2 (.arr 2 (.int .i8))] [(.bool, false)] (fun τ => F_ref16_Point τ.1) :=
  evG_sound (E := (E_ref16_Point)) (C := (lk c_ref16_Point)) ok_ref16_Point mixed_ok (fn := Try.f13) (c := (bodyOf Try.f13)) (by kernel_rfl) (by kernel_rfl) (by kernel_rfl) (by kernel_rfl) (by kernel_rfl) (by kernel_rfl) (fun τ r h => by
    obtain ⟨a0, ⟨⟩⟩ := τ
    obtain ⟨m, hm⟩ := Rn_ref16_Point a0 r h
    exact ⟨m, (top_ref16_Point (tb_ref16_Point m) a0).trans (hm m (Nat.le_refl m))⟩)

abbrev E_ref16_Separate : Env := mkE tys [(13, callE [.arr 2 (.arr 2 (.int .i8))] [(.bool, false)] (fun τ => F_ref16_Point τ.1)), (26, callE [.arr 2 (.int .i8), .arr 2 (.int .i8)] [(.bool, false)] (fun τ => F_ref15_Less τ.1 τ.2.1))] []
def c_ref16_Separate : List (Nat × Live) := [(9, ⟨[(0, .slice (.arr 2 (.arr 2 (.int .i8)))), (3, .int .i64)], [], []⟩)]
noncomputable abbrev fe_ref16_Separate := (finE (E_ref16_Separate) [(.bool, false)] Try.f11.results.toList)
noncomputable abbrev cn_ref16_Separate_9 (x0 : List (List (List Int))) (x3 : Int) : St := ⟨[(3, .one (.val (.int .i64) x3)), (0, .one (.val (.slice (.arr 2 (.arr 2 (.int .i8)))) x0))], []⟩
noncomputable abbrev kk_ref16_Separate_9 (S : Nat → KT (RT [(.bool, false)])) := fun (x0 : List (List (List Int))) (x3 : Int) => S 9 (cn_ref16_Separate_9 x0 x3)
theorem top_ref16_Separate (S : Nat → KT (RT [(.bool, false)])) (a0 : List (List (List Int))) : evA (E_ref16_Separate) (lk c_ref16_Separate) S (bodyOf Try.f11) noX (fe_ref16_Separate) (fe_ref16_Separate) (initSt [.slice (.arr 2 (.arr 2 (.int .i8)))] (a0, ())) = T_ref16_Separate (kk_ref16_Separate_9 S) a0 := by kernel_rfl
theorem seg_ref16_Separate_9 (S : Nat → KT (RT [(.bool, false)])) (x0 : List (List (List Int))) (x3 : Int) : stepT (entry (E_ref16_Separate) (lk c_ref16_Separate) S 9 (bodyOf Try.f11) noX (fe_ref16_Separate) (fe_ref16_Separate)) (cn_ref16_Separate_9 x0 x3) = S_ref16_Separate_9 (kk_ref16_Separate_9 S) x0 x3 := by kernel_rfl
noncomputable abbrev tb_ref16_Separate := tab (E_ref16_Separate) (lk c_ref16_Separate) (bodyOf Try.f11) (fe_ref16_Separate)
theorem ok_ref16_Separate : EnvOK Try.prog (E_ref16_Separate) := mkE_ok tys_ok ⟨⟨fs_ref16_Point.csound, ⟨Try.f13, by kernel_rfl, by kernel_rfl, by kernel_rfl⟩⟩, ⟨fs_ref15_Less.csound, ⟨Try.f26, by kernel_rfl, by kernel_rfl, by kernel_rfl⟩⟩, trivial⟩ trivial
theorem fs_ref16_Separate : FSound Try.prog 11 [.slice (.arr 2 (.arr 2 (.int .i8)))] [(.bool, false)] (fun τ => F_ref16_Separate τ.1) :=
  evG_sound (E := (E_ref16_Separate)) (C := (lk c_ref16_Separate)) ok_ref16_Separate mixed_ok (fn := Try.f11) (c := (bodyOf Try.f11)) (by kernel_rfl) (by kernel_rfl) (by kernel_rfl) (by kernel_rfl) (by kernel_rfl) (by kernel_rfl) (fun τ r h => by
    obtain ⟨a0, ⟨⟩⟩ := τ
    obtain ⟨m, hm⟩ := Rn_ref16_Separate (fun m => kk_ref16_Separate_9 (tb_ref16_Separate m)) (fun m x0 x3 => (tab_succ (E_ref16_Separate) (lk c_ref16_Separate) (bodyOf Try.f11) (fe_ref16_Separate) m 9 (cn_ref16_Separate_9 x0 x3)).trans (seg_ref16_Separate_9 (tb_ref16_Separate m) x0 x3)) a0 r h
    exact ⟨m, (top_ref16_Separate (tb_ref16_Separate m) a0).trans (hm m (Nat.le_refl m))⟩)

abbrev E_law16_IsolateSeparates : Env := mkE tys [(5, callE [] [(.bool, false)] (fun τ => F_law16_awake)), (7, callE [.arr 2 (.int .i8)] [(.pair tI tN, false)] (fun τ => F_law15_Rat τ.1)), (10, callE [.slice (.pair (.pair tI tN) (.pair tI tN))] [(.slice (.pair tI tN), false)] (fun τ => F_isolate_Gaps τ.1)), (11, callE [.slice (.arr 2 (.arr 2 (.int .i8)))] [(.bool, false)] (fun τ => F_ref16_Separate τ.1)), (12, callE [.pair tI tN, .pair tI tN] [(.int .i64, false)] (fun τ => F_rational_Cmp τ.1 τ.2.1)), (13, callE [.arr 2 (.arr 2 (.int .i8))] [(.bool, false)] (fun τ => F_ref16_Point τ.1))] []
def c_law16_IsolateSeparates : List (Nat × Live) := [(21, ⟨[(0, .slice (.arr 2 (.arr 2 (.int .i8)))), (4, .int .i64)], [(false, 3, .pair (.pair tI tN) (.pair tI tN))], []⟩), (57, ⟨[(0, .slice (.arr 2 (.arr 2 (.int .i8)))), (3, .slice (.pair (.pair tI tN) (.pair tI tN))), (5, .slice (.pair tI tN)), (6, .int .i64)], [], []⟩)]
noncomputable abbrev fe_law16_IsolateSeparates := (finE (E_law16_IsolateSeparates) [(.bool, false)] Try.f4.results.toList)
noncomputable abbrev cn_law16_IsolateSeparates_21 (x0 : List (List (List Int))) (x4 : Int) (x3 : List (((Bool × List Int) × List Int) × (Bool × List Int) × List Int)) : St := ⟨[(3, .one (.loc (.pair (.pair tI tN) (.pair tI tN)) 10000)), (4, .one (.val (.int .i64) x4)), (0, .one (.val (.slice (.arr 2 (.arr 2 (.int .i8)))) x0))], [(10000, some ⟨.pair (.pair tI tN) (.pair tI tN), x3, false⟩)]⟩
noncomputable abbrev kk_law16_IsolateSeparates_21 (S : Nat → KT (RT [(.bool, false)])) := fun (x0 : List (List (List Int))) (x4 : Int) (x3 : List (((Bool × List Int) × List Int) × (Bool × List Int) × List Int)) => S 21 (cn_law16_IsolateSeparates_21 x0 x4 x3)
noncomputable abbrev cn_law16_IsolateSeparates_57 (x0 : List (List (List Int))) (x3 : List (((Bool × List Int) × List Int) × (Bool × List Int) × List Int)) (x5 : List ((Bool × List Int) × List Int)) (x6 : Int) : St := ⟨[(6, .one (.val (.int .i64) x6)), (5, .one (.val (.slice (.pair tI tN)) x5)), (3, .one (.val (.slice (.pair (.pair tI tN) (.pair tI tN))) x3)), (0, .one (.val (.slice (.arr 2 (.arr 2 (.int .i8)))) x0))], []⟩
noncomputable abbrev kk_law16_IsolateSeparates_57 (S : Nat → KT (RT [(.bool, false)])) := fun (x0 : List (List (List Int))) (x3 : List (((Bool × List Int) × List Int) × (Bool × List Int) × List Int)) (x5 : List ((Bool × List Int) × List Int)) (x6 : Int) => S 57 (cn_law16_IsolateSeparates_57 x0 x3 x5 x6)
theorem top_law16_IsolateSeparates (S : Nat → KT (RT [(.bool, false)])) (a0 : List (List (List Int))) : evA (E_law16_IsolateSeparates) (lk c_law16_IsolateSeparates) S (bodyOf Try.f4) noX (fe_law16_IsolateSeparates) (fe_law16_IsolateSeparates) (initSt [.slice (.arr 2 (.arr 2 (.int .i8)))] (a0, ())) = T_law16_IsolateSeparates (kk_law16_IsolateSeparates_21 S) (kk_law16_IsolateSeparates_57 S) a0 := by kernel_rfl
theorem seg_law16_IsolateSeparates_21 (S : Nat → KT (RT [(.bool, false)])) (x0 : List (List (List Int))) (x4 : Int) (x3 : List (((Bool × List Int) × List Int) × (Bool × List Int) × List Int)) : stepT (entry (E_law16_IsolateSeparates) (lk c_law16_IsolateSeparates) S 21 (bodyOf Try.f4) noX (fe_law16_IsolateSeparates) (fe_law16_IsolateSeparates)) (cn_law16_IsolateSeparates_21 x0 x4 x3) = S_law16_IsolateSeparates_21 (kk_law16_IsolateSeparates_21 S) (kk_law16_IsolateSeparates_57 S) x0 x4 x3 := by kernel_rfl
theorem seg_law16_IsolateSeparates_57 (S : Nat → KT (RT [(.bool, false)])) (x0 : List (List (List Int))) (x3 : List (((Bool × List Int) × List Int) × (Bool × List Int) × List Int)) (x5 : List ((Bool × List Int) × List Int)) (x6 : Int) : stepT (entry (E_law16_IsolateSeparates) (lk c_law16_IsolateSeparates) S 57 (bodyOf Try.f4) noX (fe_law16_IsolateSeparates) (fe_law16_IsolateSeparates)) (cn_law16_IsolateSeparates_57 x0 x3 x5 x6) = S_law16_IsolateSeparates_57 (kk_law16_IsolateSeparates_21 S) (kk_law16_IsolateSeparates_57 S) x0 x3 x5 x6 := by kernel_rfl
noncomputable abbrev tb_law16_IsolateSeparates := tab (E_law16_IsolateSeparates) (lk c_law16_IsolateSeparates) (bodyOf Try.f4) (fe_law16_IsolateSeparates)
theorem ok_law16_IsolateSeparates : EnvOK Try.prog (E_law16_IsolateSeparates) := mkE_ok tys_ok ⟨⟨fs_law16_awake.csound, ⟨Try.f5, by kernel_rfl, by kernel_rfl, by kernel_rfl⟩⟩, ⟨fs_law15_Rat.csound, ⟨Try.f7, by kernel_rfl, by kernel_rfl, by kernel_rfl⟩⟩, ⟨fs_isolate_Gaps.csound, ⟨Try.f10, by kernel_rfl, by kernel_rfl, by kernel_rfl⟩⟩, ⟨fs_ref16_Separate.csound, ⟨Try.f11, by kernel_rfl, by kernel_rfl, by kernel_rfl⟩⟩, ⟨fs_rational_Cmp.csound, ⟨Try.f12, by kernel_rfl, by kernel_rfl, by kernel_rfl⟩⟩, ⟨fs_ref16_Point.csound, ⟨Try.f13, by kernel_rfl, by kernel_rfl, by kernel_rfl⟩⟩, trivial⟩ trivial
theorem fs_law16_IsolateSeparates : FSound Try.prog 4 [.slice (.arr 2 (.arr 2 (.int .i8)))] [(.bool, false)] (fun τ => F_law16_IsolateSeparates τ.1) :=
  evG_sound (E := (E_law16_IsolateSeparates)) (C := (lk c_law16_IsolateSeparates)) ok_law16_IsolateSeparates mixed_ok (fn := Try.f4) (c := (bodyOf Try.f4)) (by kernel_rfl) (by kernel_rfl) (by kernel_rfl) (by kernel_rfl) (by kernel_rfl) (by kernel_rfl) (fun τ r h => by
    obtain ⟨a0, ⟨⟩⟩ := τ
    obtain ⟨m, hm⟩ := Rn_law16_IsolateSeparates (fun m => kk_law16_IsolateSeparates_21 (tb_law16_IsolateSeparates m)) (fun m => kk_law16_IsolateSeparates_57 (tb_law16_IsolateSeparates m)) (fun m x0 x4 x3 => (tab_succ (E_law16_IsolateSeparates) (lk c_law16_IsolateSeparates) (bodyOf Try.f4) (fe_law16_IsolateSeparates) m 21 (cn_law16_IsolateSeparates_21 x0 x4 x3)).trans (seg_law16_IsolateSeparates_21 (tb_law16_IsolateSeparates m) x0 x4 x3)) (fun m x0 x3 x5 x6 => (tab_succ (E_law16_IsolateSeparates) (lk c_law16_IsolateSeparates) (bodyOf Try.f4) (fe_law16_IsolateSeparates) m 57 (cn_law16_IsolateSeparates_57 x0 x3 x5 x6)).trans (seg_law16_IsolateSeparates_57 (tb_law16_IsolateSeparates m) x0 x3 x5 x6)) a0 r h
    exact ⟨m, (top_law16_IsolateSeparates (tb_law16_IsolateSeparates m) a0).trans (hm m (Nat.le_refl m))⟩)
end
end Go.W

set_option linter.unusedVariables false
set_option linter.unusedSimpArgs false
namespace Go.W
open Go.ChangeShapes Go.WideShapes Go.ChangeAt Go.RowKit

/-! ### What a statement's reading of an argument says -/
def wfT : (t : Ty) → t.D → Prop
  | .int k, n => k.min ≤ n ∧ n ≤ k.max
  | .bool, _ => True
  | .str, s => ByteArray.size s ≤ maxLen
  | .slice e, l => l.length ≤ maxLen ∧ ∀ x ∈ l, wfT e x
  | .pair a b, v => wfT a v.1 ∧ wfT b v.2
  | .arr n e, l => l.length = n ∧ ∀ x ∈ l, wfT e x
  | .fn _, _ => True

/-- a reading of cells opens to a typed value -/
def Opens (P : Program) (t : TypeId) (ty : Ty) : Prop := ∀ (H : Type) (enc : TypeId × Value → H) (w : World) (fuel : Nat) (cs : List Value) (x : DataW H × List MemPlace),
  DataW.trod enc P w 0 (fun _ => true) true fuel t cs = some x → ∃ v : ty.D, Rep w (fun g => g < w.heap.size) ty v cs ∧ wfT ty v

theorem opens_int {P : Program} {t : TypeId} {k : IntKind} (hu : P.underlying t = some (.int k)) : Opens P t (.int k) := by
  intro H enc w fuel cs x h
  obtain ⟨n, rfl, _, hw⟩ := DataW.trod_int hu h
  exact ⟨n, rfl, by simpa [wfT, Lit.wf] using hw⟩

theorem opens_bool {P : Program} {t : TypeId} (hu : P.underlying t = some .bool) : Opens P t .bool := by
  intro H enc w fuel cs x h
  obtain ⟨n, rfl, _⟩ := DataW.trod_bool hu h
  exact ⟨n, rfl, trivial⟩

theorem opens_str {P : Program} {t : TypeId} (hu : P.underlying t = some .string) : Opens P t .str := by
  intro H enc w fuel cs x h
  obtain ⟨n, rfl, _, hw⟩ := DataW.trod_string hu h
  exact ⟨n, rfl, hw⟩

theorem exists_listW {α : Type} {p : Nat → α → Prop} : ∀ n : Nat, (∀ i, i < n → ∃ x, p i x) → ∃ l : List α, l.length = n ∧ ∀ i (h : i < l.length), p i l[i]
  | 0, _ => ⟨[], rfl, fun i h => by simp at h⟩
  | n + 1, h => by
    obtain ⟨l, hl, hp⟩ := exists_listW n (fun i hi => h i (by omega))
    obtain ⟨x, hx⟩ := h n (by omega)
    refine ⟨l ++ [x], by simp [hl], fun i hi => ?_⟩
    by_cases hc : i < l.length
    · rw [List.getElem_append_left hc]; exact hp i hc
    · have : i = n := by simp at hi; omega
      subst this
      rw [List.getElem_append_right (by omega)]
      simpa [hl] using hx

theorem opens_slice {P : Program} {t e : TypeId} {ty : Ty} (hu : P.underlying t = some (.slice e)) (hc : P.cellsOf e = ty.size) (hp : 0 < ty.size) (he : Opens P e ty) : Opens P t (.slice ty) := by
  intro H enc w fuel cs x h
  rcases DataW.trod_slice hu h with ⟨rfl, _⟩ | ⟨a, len, cap, elems, rest, n, _, rfl, _, _, hl, hm, hlen, hel, _⟩
  · exact ⟨[], ⟨none, 0, rfl, Nat.le_refl _, fun i hi => by simp at hi⟩, by simp [wfT]⟩
  · obtain ⟨b, off, spot⟩ := a
    have hspot : 0 < len → spot = none := fun h0 => by
      have h1 := hel 0 h0
      have h2 : 0 < elems.length := by omega
      rw [List.getElem?_eq_getElem h2] at h1
      cases hcs : w.cells? 0 ((⟨b, off, spot⟩ : Addr).add (0 * P.cellsOf e)) (P.cellsOf e) with
      | none => rw [hcs] at h1; cases h1
      | some es =>
        unfold World.cells? at hcs
        rw [if_pos (Nat.zero_le _)] at hcs
        have := mapM_some_get hcs 0 0 (by rw [hc]; simp [hp])
        cases hz : es[0]? with
        | none =>
          rw [hz] at this
          have hlen := mapM_some_length hcs
          have := List.getElem?_eq_none_iff.1 hz
          simp at hlen; omega
        | some u => rw [hz] at this; exact World.cell?_spot (a := ⟨b, off, spot⟩) (by simpa [Addr.add] using this)
    have each : ∀ i, i < len → ∃ v : ty.D, (∃ es, Rep w (fun g => g < w.heap.size) ty v es ∧ b < w.heap.size ∧ spot = none ∧ ∀ j u, es[j]? = some u → w.cell? ⟨b, off + i * ty.size + j, none⟩ = some u) ∧ wfT ty v := fun i hi => by
      obtain rfl := hspot (by omega)
      have h1 := hel i hi
      have h2 : i < elems.length := by omega
      rw [List.getElem?_eq_getElem h2] at h1
      cases hcs : w.cells? 0 ((⟨b, off, none⟩ : Addr).add (i * P.cellsOf e)) (P.cellsOf e) with
      | none => rw [hcs] at h1; cases h1
      | some es =>
        rw [hcs] at h1
        obtain ⟨v, hr, hv⟩ := he H enc w n es _ h1
        unfold World.cells? at hcs
        rw [if_pos (Nat.zero_le _)] at hcs
        have hlen := mapM_some_length hcs
        have hget : ∀ j u, es[j]? = some u → w.cell? ⟨b, off + i * ty.size + j, none⟩ = some u := fun j u hj => by
          have hj' : j < P.cellsOf e := by
            have := (List.getElem?_eq_some_iff.1 hj).1
            simp at hlen; omega
          have := mapM_some_get hcs j j (by simp [hj'])
          rw [hj] at this
          rwa [Addr.add_lit, Addr.add_lit, hc] at this
        have hsz := hr.size
        obtain ⟨u, hu'⟩ : ∃ u, es[0]? = some u := ⟨es[0]'(by omega), by rw [List.getElem?_eq_getElem]⟩
        have h0 := hget 0 u hu'
        exact ⟨v, ⟨es, hr, World.block_lt_of_cell? w _ h0, rfl, hget⟩, hv⟩
    obtain ⟨l, hll, hl'⟩ := exists_listW len each
    refine ⟨l, ⟨_, cap, by rw [hll], by omega, fun i hi => ?_⟩, by omega, fun x hx => ?_⟩
    · obtain ⟨⟨es, hr, hb, rfl, hg⟩, _⟩ := hl' i hi
      exact ⟨b, off, es, rfl, hb, hr, hg⟩
    · obtain ⟨i, hi, rfl⟩ := List.getElem_of_mem hx
      exact (hl' i hi).2

theorem take_drop_all {α : Type} (l : List α) (a b : Nat) (h : l.length = a + b) : l = (l.drop 0).take a ++ (l.drop a).take b := by
  have : (l.drop a).take b = l.drop a := List.take_of_length_le (by simp; omega)
  rw [this, List.drop_zero, List.take_append_drop]

theorem opens_pair {P : Program} {t : TypeId} {f0 f1 : Field} {a b : Ty} (hu : P.underlying t = some (.struct #[f0, f1])) (hc : P.cellsOf t = a.size + b.size) (h0 : f0.offset = 0) (h1 : f1.offset = a.size)
    (c0 : P.cellsOf f0.type = a.size) (c1 : P.cellsOf f1.type = b.size) (o0 : Opens P f0.type a) (o1 : Opens P f1.type b) : Opens P t (.pair a b) := by
  intro H enc w fuel cs x h
  obtain ⟨y0, y1, n, _, hl, e0, e1⟩ := trod_struct2 hu h
  rw [h0, c0] at e0
  rw [h1, c1] at e1
  obtain ⟨v0, r0, w0⟩ := o0 H enc w n _ _ e0
  obtain ⟨v1, r1, w1⟩ := o1 H enc w n _ _ e1
  exact ⟨(v0, v1), ⟨_, _, take_drop_all cs _ _ (by omega), r0, r1⟩, w0, w1⟩

theorem opens_three {P : Program} {t : TypeId} {f0 f1 f2 : Field} {a b c : Ty} (hu : P.underlying t = some (.struct #[f0, f1, f2])) (hc : P.cellsOf t = a.size + (b.size + c.size)) (h0 : f0.offset = 0) (h1 : f1.offset = a.size)
    (h2 : f2.offset = a.size + b.size) (c0 : P.cellsOf f0.type = a.size) (c1 : P.cellsOf f1.type = b.size) (c2 : P.cellsOf f2.type = c.size) (o0 : Opens P f0.type a) (o1 : Opens P f1.type b) (o2 : Opens P f2.type c) : Opens P t (.pair a (.pair b c)) := by
  intro H enc w fuel cs x h
  obtain ⟨xs, n, _, rfl, hl, hlen, hf⟩ := DataW.trod_struct hu h
  match xs, hlen with
  | [y0, y1, y2], _ =>
    have e0 := hf 0 f0 rfl
    have e1 := hf 1 f1 rfl
    have e2 := hf 2 f2 rfl
    rw [h0, c0] at e0
    rw [h1, c1] at e1
    rw [h2, c2] at e2
    obtain ⟨v0, r0, w0⟩ := o0 H enc w n _ _ e0
    obtain ⟨v1, r1, w1⟩ := o1 H enc w n _ _ e1
    obtain ⟨v2, r2, w2⟩ := o2 H enc w n _ _ e2
    refine ⟨(v0, v1, v2), ⟨(cs.drop 0).take a.size, cs.drop a.size, by simp, r0, ⟨(cs.drop a.size).take b.size, (cs.drop (a.size + b.size)).take c.size, ?_, r1, r2⟩⟩, w0, w1, w2⟩
    have := take_drop_all (cs.drop a.size) b.size c.size (by simp; omega)
    simpa [List.drop_drop] using this

theorem opens_two {P : Program} {t e : TypeId} {ty : Ty} (hu : P.underlying t = some (.array 2 e)) (hc : P.cellsOf t = 2 * ty.size) (he : P.cellsOf e = ty.size) (o : Opens P e ty) : Opens P t (.arr 2 ty) := by
  intro H enc w fuel cs x h
  obtain ⟨xs, m, _, rfl, hl, hlen, hf⟩ := DataW.trod_array hu h
  match xs, hlen with
  | [y0, y1], _ =>
    have h0 := hf 0 (by omega)
    have h1 := hf 1 (by omega)
    rw [he] at h0 h1
    obtain ⟨v0, r0, w0⟩ := o H enc w m _ y0 h0
    obtain ⟨v1, r1, w1⟩ := o H enc w m _ y1 h1
    refine ⟨[v0, v1], ⟨rfl, [(cs.drop (0 * ty.size)).take ty.size, (cs.drop (1 * ty.size)).take ty.size], ?_, rfl, fun i hi hi' => ?_⟩, rfl, fun x hx => ?_⟩
    · have := take_drop_all cs ty.size ty.size (by omega)
      simpa using this
    · match i, hi with
      | 0, _ => exact r0
      | 1, _ => exact r1
    · simp only [List.mem_cons, List.not_mem_nil, or_false] at hx
      rcases hx with rfl | rfl
      · exact w0
      · exact w1

def chk {α : Type} (s : Nat) : Nat → List α → List (List α)
  | 0, _ => []
  | n + 1, l => l.take s :: chk s n (l.drop s)
theorem chk_len {α : Type} (s : Nat) : ∀ (n : Nat) (l : List α), (chk s n l).length = n
  | 0, _ => rfl
  | n + 1, l => by simp [chk, chk_len s n]
theorem chk_flat {α : Type} (s : Nat) : ∀ (n : Nat) (l : List α), l.length = n * s → (chk s n l).flatten = l
  | 0, l, h => by
    have : l = [] := List.eq_nil_of_length_eq_zero (by omega)
    rw [this]; rfl
  | n + 1, l, h => by
    rw [Nat.add_mul] at h
    simp only [chk, List.flatten_cons]
    rw [chk_flat s n (l.drop s) (by simp; omega), List.take_append_drop]
theorem chk_get {α : Type} (s : Nat) : ∀ (n i : Nat) (l : List α) (h : i < (chk s n l).length), (chk s n l)[i] = (l.drop (i * s)).take s
  | 0, i, l, h => by simp [chk] at h
  | n + 1, 0, l, h => by simp [chk]
  | n + 1, i + 1, l, h => by
    simp only [chk, List.getElem_cons_succ]
    rw [chk_get s n i (l.drop s), List.drop_drop, Nat.add_mul, Nat.one_mul, Nat.add_comm]
theorem opens_arr {P : Program} {t e : TypeId} {ty : Ty} {n : Nat} (hu : P.underlying t = some (.array n e)) (hc : P.cellsOf t = n * ty.size) (he : P.cellsOf e = ty.size) (o : Opens P e ty) : Opens P t (.arr n ty) := by
  intro H enc w fuel cs x h
  obtain ⟨xs, m, _, rfl, hl, hlen, hf⟩ := DataW.trod_array hu h
  obtain ⟨l, l1, l2⟩ := exists_listW (p := fun i v => Rep w (fun g => g < w.heap.size) ty v ((cs.drop (i * ty.size)).take ty.size) ∧ wfT ty v) n (fun i hi => by
    have h1 := hf i hi
    rw [he, List.getElem?_eq_getElem (by omega)] at h1
    obtain ⟨v, r, wf⟩ := o H enc w m _ _ h1
    exact ⟨v, r, wf⟩)
  refine ⟨l, ⟨l1, chk ty.size n cs, (chk_flat _ _ _ (by omega)).symm, by rw [chk_len, l1], fun i hi hi' => ?_⟩, l1, fun v hv => ?_⟩
  · rw [chk_get]; exact (l2 i hi).1
  · obtain ⟨i, hi, rfl⟩ := List.getElem_of_mem hv
    exact (l2 i hi).2

/-- a whole value opens -/
def OpensV (P : Program) (t : TypeId) (ty : Ty) : Prop := ∀ (H : Type) (enc : TypeId × Value → H) (w : World) (base : Nat) (v : Value) (d : DataW H) (ps : List MemPlace),
  Value.okWide P w .any base t v → DataW.Trod enc P w 0 (fun _ => true) true t v d ps → ∃ x : ty.D, RepV w (fun g => g < w.heap.size) ty x v ∧ wfT ty x

theorem opensV_int {P : Program} {t : TypeId} {k : IntKind} (hu : P.underlying t = some (.int k)) : OpensV P t (.int k) := by
  intro H enc w base v d ps ho ⟨fuel, h⟩
  obtain ⟨n, rfl⟩ := okWide_int hu ho
  obtain ⟨x, hr, hw⟩ := opens_int hu H enc w fuel _ _ h
  exact ⟨x, ⟨_, hr, .inr ⟨rfl, rfl⟩⟩, hw⟩
theorem opensV_bool {P : Program} {t : TypeId} (hu : P.underlying t = some .bool) : OpensV P t .bool := by
  intro H enc w base v d ps ho ⟨fuel, h⟩
  obtain ⟨n, rfl⟩ := okWide_bool hu ho
  obtain ⟨x, hr, hw⟩ := opens_bool hu H enc w fuel _ _ h
  exact ⟨x, ⟨_, hr, .inr ⟨rfl, rfl⟩⟩, hw⟩
theorem opensV_str {P : Program} {t : TypeId} (hu : P.underlying t = some .string) : OpensV P t .str := by
  intro H enc w base v d ps ho ⟨fuel, h⟩
  obtain ⟨n, rfl⟩ := okWide_string hu ho
  obtain ⟨x, hr, hw⟩ := opens_str hu H enc w fuel _ _ h
  exact ⟨x, ⟨_, hr, .inr ⟨rfl, rfl⟩⟩, hw⟩
theorem opensV_slice {P : Program} {t e : TypeId} {ty : Ty} (hu : P.underlying t = some (.slice e)) (ho : Opens P t (.slice ty)) : OpensV P t (.slice ty) := by
  intro H enc w base v d ps hk ⟨fuel, h⟩
  obtain ⟨a, len, cap, rfl⟩ := okWide_slice hu hk
  obtain ⟨x, hr, hw⟩ := ho H enc w fuel _ _ h
  exact ⟨x, ⟨_, hr, .inr ⟨rfl, rfl⟩⟩, hw⟩
theorem opensV_struct {P : Program} {t : TypeId} {fs : Array Field} {a b : Ty} (hu : P.underlying t = some (.struct fs)) (ho : Opens P t (.pair a b)) : OpensV P t (.pair a b) := by
  intro H enc w base v d ps hk ⟨fuel, h⟩
  obtain ⟨cs, rfl, _⟩ := okWide_struct hu hk
  obtain ⟨x, hr, hw⟩ := ho H enc w fuel _ _ h
  exact ⟨x, ⟨_, hr, .inl ⟨rfl, by simp [Value.cells]⟩⟩, hw⟩

theorem opensV_arr {P : Program} {t e : TypeId} {n : Nat} {ty : Ty} (hu : P.underlying t = some (.array n e)) (ho : Opens P t (.arr n ty)) : OpensV P t (.arr n ty) := by
  intro H enc w base v d ps hk ⟨fuel, h⟩
  have hk' : ∃ cs, v = .agg cs := by
    unfold Value.okWide at hk
    rw [hu] at hk
    obtain ⟨cs, e, _⟩ := hk
    exact ⟨cs, e⟩
  obtain ⟨cs, rfl⟩ := hk'
  obtain ⟨x, hr, hw⟩ := ho H enc w fuel _ _ h
  exact ⟨x, ⟨_, hr, .inl ⟨rfl, by simp [Value.cells]⟩⟩, hw⟩

/-! ### All arguments at once -/
def wfA : (ts : List Ty) → AT ts → Prop
  | [], _ => True
  | t :: ts, τ => wfT t τ.1 ∧ wfA ts τ.2
def ParsOK (P : Program) : List TypeId → List Ty → Prop
  | [], [] => True
  | t :: ts, ty :: tys => (OpensV P t ty ∧ P.readableRec t = true ∧ t < P.types.size) ∧ ParsOK P ts tys
  | _, _ => False

theorem args_open {P : Program} {H : Type} {enc : TypeId × Value → H} {w : World} {base : Nat} : ∀ {ts : List TypeId} {tys : List Ty} {vs : List Value} {ds : List (DataW H)} {ps : List MemPlace}, ParsOK P ts tys →
    DataW.TrodAll enc P w 0 (fun _ => true) true ts vs ds ps → (∀ (j : Nat) t v, ts[j]? = some t → vs[j]? = some v → Value.okWide P w .any base t v) →
    ∃ τ : AT tys, ArgsRep w (fun g => g < w.heap.size) tys τ vs ∧ wfA tys τ
  | [], [], vs, ds, ps, _, h, _ => by
    obtain ⟨rfl, rfl, rfl⟩ := trodAll_nil h
    exact ⟨(), rfl, trivial⟩
  | t :: ts, ty :: tys, vs, ds, ps, hp, h, hk => by
    obtain ⟨v, vs', d, ds', p, q, rfl, rfl, rfl, h1, h2⟩ := trodAll_cons h
    obtain ⟨x, hx, hw⟩ := hp.1.1 H enc w base v d p (hk 0 t v rfl rfl) h1
    obtain ⟨τ, hτ, hwτ⟩ := args_open hp.2 h2 (fun j t' v' ht hv => hk (j + 1) t' v' (by simpa using ht) (by simpa using hv))
    exact ⟨(x, τ), ⟨v, vs', rfl, hx, hτ⟩, hw, hwτ⟩
  | [], _ :: _, _, _, _, hp, _, _ => hp.elim
  | _ :: _, [], _, _, _, hp, _, _ => hp.elim

theorem args_shut {P : Program} (hl : laidOutB P = true) {H : Type} {enc : TypeId × Value → H} {w w' : World} (hb : Below w.heap.size w w') : ∀ {ts : List TypeId} {tys : List Ty} {vs : List Value} {ds : List (DataW H)} {ps : List MemPlace}, ParsOK P ts tys →
    DataW.TrodAll enc P w 0 (fun _ => true) true ts vs ds ps → DataW.TrodAll enc P w' 0 (fun b => decide (b < w.heap.size)) true ts vs ds ps
  | [], [], vs, ds, ps, _, h => by
    obtain ⟨rfl, rfl, rfl⟩ := trodAll_nil h
    exact rfl
  | t :: ts, ty :: tys, vs, ds, ps, hp, h => by
    obtain ⟨v, vs', d, ds', p, q, rfl, rfl, rfl, h1, h2⟩ := trodAll_cons h
    have lt : ∀ x ∈ p, x.block < w.heap.size := by obtain ⟨m, hm⟩ := h1; exact DataW.trod_lt m _ _ _ hm
    exact trodAll_cons_mk (Below.trod hl hp.1.2.1 hp.1.2.2 h1 hb lt) (args_shut hl hb hp.2 h2)
  | [], _ :: _, _, _, _, hp, _ => hp.elim
  | _ :: _, [], _, _, _, hp, _ => hp.elim

theorem Fr.below {w w' : World} (h : Fr (fun _ => False) w w') : Below w.heap.size w w' :=
  ⟨h.os, h.tape, h.output, h.size, fun k hk => h.block k hk (fun x => x)⟩

/-- A law that returns true for every input: its contract over the machine gives the statement's end. -/
theorem law_post {P : Program} {H : Type} {enc : TypeId × Value → H} {f : FuncId} {fn : Func} {s : ChangeSpec} {tys : List Ty} {F : AT tys → Option (RT [(.bool, false)])} (hl : laidOutB P = true) (hF : FSound P f tys [(.bool, false)] F) (hT : ∀ τ, wfA tys τ → F τ = some true)
    (hp : ParsOK P fn.params.toList tys) {rt : TypeId} (hr : fn.resultTypes = #[rt]) (hb : P.underlying rt = some .bool) (hv : s.vars = []) (hs : ∀ (ds : List (DataW H)), ds.length = fn.params.size → (s.fn H ds).results = [.lit (.bool true)] ∧ (s.fn H ds).args = ds ∧ (s.fn H ds).vars = [])
    {W : World} {base : Nat} {args : Array Value} {ds gs : List (DataW H)} {before : List MemPlace} (hval : ∀ (j : Nat) t v, fn.params[j]? = some t → args[j]? = some v → Value.okWide P W .any base t v)
    (hW : DataW.Whole enc P fn.params.toList s.vars false W args.toList ds gs before) :
    Calls P f args W fun e W' => ∃ v, e = .returned v ∧ s.post enc P fn false true false false W args v W' := by
  have hW' := hW
  obtain ⟨p, q, hA, hV, rfl, hfz, hnd⟩ := hW
  rw [hv] at hV
  obtain ⟨rfl, rfl⟩ := trodVars_none hV
  obtain ⟨τ, hτ, hw⟩ := args_open (base := base) hp hA (fun j t v ht hv => hval j t v (by simpa using ht) (by simpa using hv))
  have hc := hF τ true (hT τ hw) W (fun g => g < W.heap.size) args.toList (fun g hg => hg) hτ
  refine (show Calls P f args.toList.toArray W _ from hc).mono fun e W' ⟨xs, mg, he, hfr, _, hres⟩ => ?_
  obtain ⟨x, xs', rfl, hx, hxs⟩ := hres
  have hxs : xs' = [] := hxs
  subst hxs
  obtain ⟨cs, hcs, hcx⟩ := hx
  have hcs : cs = [.bool true] := hcs
  subst hcs
  have hxe : x = .bool true := by
    rcases hcx with ⟨h, _⟩ | ⟨_, h⟩
    · cases h
    · injection h with h _; exact h.symm
  subst hxe he
  have hbel := hfr.below
  have hlen : ds.length = fn.params.size := by
    have : ∀ {ts : List TypeId} {vs : List Value} {ds : List (DataW H)} {ps : List MemPlace}, DataW.TrodAll enc P W 0 (fun _ => true) true ts vs ds ps → ds.length = ts.length := by
      intro ts
      induction ts with
      | nil => intro vs ds ps h; obtain ⟨_, rfl, _⟩ := trodAll_nil h; rfl
      | cons t ts ih =>
        intro vs ds ps h
        obtain ⟨v, vs', d, ds', p, q, rfl, rfl, rfl, h1, h2⟩ := trodAll_cons h
        simp [ih h2]
    rw [this hA]; simp
  obtain ⟨e1, e2, e3⟩ := hs ds hlen
  refine ⟨_, rfl, ds, [], _, [], p, [], hW', ?_, ?_, ?_, hbel.frame _, fun h => by cases h⟩
  · rw [List.append_nil, e1, hr]
    exact trodAll_mk1 (shut_bool hb _)
  · rw [List.append_nil, e2]
    exact args_shut hl hbel hp hA
  · rw [List.append_nil, e3, hv]; exact rfl
end Go.W

set_option linter.unusedVariables false
namespace Go.W
open Go.Proofs Go.ChangeShapes Go.WideShapes Go.ChangeAt Go.RowKit

theorem own : ownKnob Try.prog.godebug = none := by kernel_rfl
theorem laidOut : laidOutB Try.prog = true := by kernel_rfl
theorem opens_t24 : Opens Try.prog 24 (.arr 2 (.int .i8)) := opens_arr Try.underlying24 (by kernel_rfl) (by kernel_rfl) (opens_int Try.underlying23)
theorem opens_t43 : Opens Try.prog 43 (.arr 2 (.arr 2 (.int .i8))) := opens_arr Try.underlying43 (by kernel_rfl) (by kernel_rfl) opens_t24
theorem opens_t41 : Opens Try.prog 41 (.slice (.arr 2 (.arr 2 (.int .i8)))) := opens_slice Try.underlying41 (by kernel_rfl) (by decide) opens_t43
theorem par_t41 : OpensV Try.prog 41 (.slice (.arr 2 (.arr 2 (.int .i8)))) ∧ Try.prog.readableRec 41 = true ∧ 41 < Try.prog.types.size := ⟨opensV_slice Try.underlying41 opens_t41, by kernel_rfl, of_decide_eq_true (by kernel_rfl)⟩
end Go.W

set_option linter.unusedVariables false
namespace Go.W

/-! ### No function of a closure calls itself: by a rank -/
def leads (P : Program) (g : FuncId) : List FuncId := (P.funcs[g]?).elim [] P.leadsTo

theorem mem_closureVia {P : Program} {J : Nat → Prop} (hJ : ∀ g, J g → ∀ h ∈ leads P g, J h) : ∀ (n : Nat) (todo seen : List FuncId), (∀ x ∈ todo, J x) → (∀ x ∈ seen, J x) → ∀ x ∈ P.closureVia n todo seen, J x
  | 0, todo, seen, _, hs, x, hx => hs x (by simpa [Program.closureVia] using hx)
  | n + 1, [], seen, _, hs, x, hx => hs x (by simpa [Program.closureVia] using hx)
  | n + 1, f :: todo, seen, ht, hs, x, hx => by
    rw [Program.closureVia] at hx
    split at hx
    · exact mem_closureVia hJ n todo seen (fun y hy => ht y (List.mem_cons_of_mem _ hy)) hs x hx
    · refine mem_closureVia hJ n _ (f :: seen) (fun y hy => ?_) (fun y hy => ?_) x hx
      · rcases List.mem_append.1 hy with hy | hy
        · exact hJ f (ht f (by simp)) y hy
        · exact ht y (List.mem_cons_of_mem _ hy)
      · rcases List.mem_cons.1 hy with rfl | hy
        · exact ht _ (by simp)
        · exact hs y hy

def rankOK (P : Program) (l : List Nat) : Bool := l.all fun g => (leads P g).all fun h => Nat.blt (l.idxOf h) (l.idxOf g)

theorem recurses_false {P : Program} {f : FuncId} {l : List Nat} (hu : P.unfollowed f = false) (h : rankOK P l = true) (hf : l.contains f = true) : P.recurses f = false := by
  have hr : ∀ g, g ∈ l → ∀ h ∈ leads P g, h ∈ l ∧ l.idxOf h < l.idxOf g := fun g hg k hk => by
    have h1 := List.all_eq_true.1 h g hg
    have h2 := List.all_eq_true.1 h1 k hk
    have h3 : l.idxOf k < l.idxOf g := by simpa [Nat.blt_eq] using h2
    exact ⟨List.idxOf_lt_length_iff.1 (Nat.lt_of_lt_of_le h3 (List.idxOf_le_length)), h3⟩
  have hf : f ∈ l := by simpa using hf
  unfold Program.recurses
  rw [hu, Bool.false_or]
  rw [Bool.eq_false_iff]
  intro hx
  obtain ⟨g, hg, hx⟩ := List.any_eq_true.1 hx
  obtain ⟨k, hk, hx⟩ := List.any_eq_true.1 hx
  have hgl : g ∈ l := mem_closureVia (J := fun x => x ∈ l) (fun a ha b hb => (hr a ha b hb).1) _ [f] [] (fun x hx => by simpa using (by simpa using hx : x = f) ▸ hf) (fun x hx => by simp at hx) g hg
  obtain ⟨hkl, hlt⟩ := hr g hgl k hk
  have := mem_closureVia (J := fun x => x ∈ l ∧ l.idxOf x ≤ l.idxOf k) (fun a ha b hb => ⟨(hr a ha.1 b hb).1, Nat.le_trans (Nat.le_of_lt (hr a ha.1 b hb).2) ha.2⟩) _ [k] [] (fun x hx => by
    obtain rfl : x = k := by simpa using hx
    exact ⟨hkl, Nat.le_refl _⟩) (fun x hx => by simp at hx) g (by simpa [Program.closure] using hx)
  omega
end Go.W

