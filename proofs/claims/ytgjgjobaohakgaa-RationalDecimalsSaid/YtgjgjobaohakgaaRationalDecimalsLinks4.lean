/- A part of the proof: texts Lk, Row, RowT, RowR. What is proved in the end stands in the last file. -/
import Derived.Test.YtgjgjobaohakgaaSc4
import Derived.Test.YtgjgjobaohakgaaProg
import Derived.WalkKit
import Derived.ProofKit
import Derived.OpenShut
import Derived.ChangeOld
import Derived.Below
import Derived.ChangeArms
import Derived.Test.YtgjgjobaohakgaaRows
import Derived.JoinedOf
import Derived.KernelRfl
set_option linter.unusedVariables false
set_option linter.unusedSimpArgs false
set_option linter.unusedSectionVars false
set_option linter.unusedVariables false
namespace Go.W
open Go.Proofs
noncomputable section

def tys : List (Nat × TI) := [(2, ⟨.int .i64, 0, 0⟩), (3, ⟨.int .i64, 0, 0⟩), (4, ⟨.bool, 0, 0⟩), (5, ⟨.int .u8, 0, 0⟩), (6, ⟨.int .u8, 0, 0⟩), (7, ⟨.pair (.int .i64) (.pair (.int .i64) (.pair (.bool) (.int .u8))), 4, 0⟩), (8, ⟨.pair (.int .i64) (.pair (.int .i64) (.pair (.bool) (.int .u8))), 4, 0⟩), (9, ⟨.str, 0, 0⟩), (10, ⟨.str, 0, 0⟩), (11, ⟨.str, 0, 0⟩), (12, ⟨.int .u64, 0, 0⟩), (13, ⟨.pair (.str) (.int .u64), 2, 0⟩), (14, ⟨.pair (.str) (.int .u64), 2, 0⟩), (21, ⟨.int .i32, 0, 0⟩), (22, ⟨.slice (.int .u32), 0, 4⟩), (23, ⟨.slice (.int .u32), 0, 4⟩), (24, ⟨.pair (.bool) (.slice (.int .u32)), 2, 0⟩), (25, ⟨.pair (.bool) (.slice (.int .u32)), 2, 0⟩), (26, ⟨.pair (.pair (.bool) (.slice (.int .u32))) (.slice (.int .u32)), 2, 0⟩), (27, ⟨.pair (.pair (.bool) (.slice (.int .u32))) (.slice (.int .u32)), 2, 0⟩), (28, ⟨.int .i8, 0, 0⟩), (31, ⟨.int .i64, 0, 0⟩), (34, ⟨.slice (.int .i64), 0, 8⟩), (35, ⟨.pair (.int .i64) (.slice (.int .i64)), 2, 0⟩), (36, ⟨.pair (.int .i64) (.slice (.int .i64)), 2, 0⟩), (37, ⟨.pair (.pair (.int .i64) (.slice (.int .i64))) (.pair (.int .i64) (.slice (.int .i64))), 2, 0⟩), (38, ⟨.pair (.pair (.int .i64) (.slice (.int .i64))) (.pair (.int .i64) (.slice (.int .i64))), 2, 0⟩), (64, ⟨.pair (.pair (.pair (.bool) (.slice (.int .u32))) (.slice (.int .u32))) (.pair (.pair (.bool) (.slice (.int .u32))) (.slice (.int .u32))), 2, 0⟩), (65, ⟨.pair (.pair (.pair (.bool) (.slice (.int .u32))) (.slice (.int .u32))) (.pair (.pair (.bool) (.slice (.int .u32))) (.slice (.int .u32))), 2, 0⟩), (67, ⟨.pair (.pair (.pair (.int .i64) (.slice (.int .i64))) (.pair (.int .i64) (.slice (.int .i64)))) (.pair (.pair (.int .i64) (.slice (.int .i64))) (.pair (.int .i64) (.slice (.int .i64)))), 2, 0⟩), (68, ⟨.pair (.pair (.pair (.int .i64) (.slice (.int .i64))) (.pair (.int .i64) (.slice (.int .i64)))) (.pair (.pair (.int .i64) (.slice (.int .i64))) (.pair (.int .i64) (.slice (.int .i64)))), 2, 0⟩), (94, ⟨.slice (.pair (.pair (.bool) (.slice (.int .u32))) (.slice (.int .u32))), 0, 56⟩), (96, ⟨.arr 2 (.pair (.pair (.bool) (.slice (.int .u32))) (.slice (.int .u32))), 0, 0⟩), (106, ⟨.int .u64, 0, 0⟩), (116, ⟨.slice (.slice (.int .u32)), 0, 24⟩), (133, ⟨.slice (.pair (.pair (.int .i64) (.slice (.int .i64))) (.pair (.int .i64) (.slice (.int .i64)))), 0, 64⟩), (136, ⟨.arr 3 (.pair (.pair (.bool) (.slice (.int .u32))) (.slice (.int .u32))), 0, 0⟩), (150, ⟨.int .u64, 0, 0⟩), (153, ⟨.int .u32, 0, 0⟩), (176, ⟨.slice (.int .u8), 0, 1⟩), (216, ⟨.int .u8, 0, 0⟩), (217, ⟨.int .u8, 0, 0⟩), (219, ⟨.int .i32, 0, 0⟩), (220, ⟨.int .i32, 0, 0⟩)]
theorem tys_ok : tysChk Try.prog (lk tys) tys = true := by kernel_rfl
theorem mixed_ok : Try.prog.follows .mixedOrders = true := by kernel_rfl

abbrev E_natural_trim : Env := mkE tys [] []
def c_natural_trim : List (Nat × Live) := [(9, ⟨[(0, .slice (.int .u32)), (3, .int .i64)], [], []⟩)]
noncomputable abbrev fe_natural_trim := (finE (E_natural_trim) [(.slice (.int .u32), false)] Try.f133.results.toList)
noncomputable abbrev cn_natural_trim_9 (x0 : List Int) (x3 : Int) : St := ⟨[(3, .one (.val (.int .i64) x3)), (0, .one (.val (.slice (.int .u32)) x0))], []⟩
noncomputable abbrev kk_natural_trim_9 (S : Nat → KT (RT [(.slice (.int .u32), false)])) := fun (x0 : List Int) (x3 : Int) => S 9 (cn_natural_trim_9 x0 x3)
theorem top_natural_trim (S : Nat → KT (RT [(.slice (.int .u32), false)])) (a0 : List Int) : evA (E_natural_trim) (lk c_natural_trim) S (bodyOf Try.f133) noX (fe_natural_trim) (fe_natural_trim) (initSt [.slice (.int .u32)] (a0, ())) = T_natural_trim (kk_natural_trim_9 S) a0 := by kernel_rfl
theorem seg_natural_trim_9 (S : Nat → KT (RT [(.slice (.int .u32), false)])) (x0 : List Int) (x3 : Int) : stepT (entry (E_natural_trim) (lk c_natural_trim) S 9 (bodyOf Try.f133) noX (fe_natural_trim) (fe_natural_trim)) (cn_natural_trim_9 x0 x3) = S_natural_trim_9 (kk_natural_trim_9 S) x0 x3 := by kernel_rfl
noncomputable abbrev tb_natural_trim := tab (E_natural_trim) (lk c_natural_trim) (bodyOf Try.f133) (fe_natural_trim)
theorem ok_natural_trim : EnvOK Try.prog (E_natural_trim) := mkE_ok tys_ok trivial trivial
theorem fs_natural_trim : FSound Try.prog 133 [.slice (.int .u32)] [(.slice (.int .u32), false)] (fun τ => F_natural_trim τ.1) :=
  evG_sound (E := (E_natural_trim)) (C := (lk c_natural_trim)) ok_natural_trim mixed_ok (fn := Try.f133) (c := (bodyOf Try.f133)) (by kernel_rfl) (by kernel_rfl) (by kernel_rfl) (by kernel_rfl) (by kernel_rfl) (by kernel_rfl) (fun τ r h => by
    obtain ⟨a0, ⟨⟩⟩ := τ
    obtain ⟨m, hm⟩ := Rn_natural_trim (fun m => kk_natural_trim_9 (tb_natural_trim m)) (fun m x0 x3 => (tab_succ (E_natural_trim) (lk c_natural_trim) (bodyOf Try.f133) (fe_natural_trim) m 9 (cn_natural_trim_9 x0 x3)).trans (seg_natural_trim_9 (tb_natural_trim m) x0 x3)) a0 r h
    exact ⟨m, (top_natural_trim (tb_natural_trim m) a0).trans (hm m (Nat.le_refl m))⟩)

abbrev Eo_natural_trim : Env := mkE tys [] []
def co_natural_trim : List (Nat × Live) := [(9, ⟨[(3, .int .i64)], [(false, 0, .int .u32)], []⟩)]
noncomputable abbrev feo_natural_trim := (finO (Eo_natural_trim) 0 false (.int .u32) .pre Try.f133.results.toList)
noncomputable abbrev cno_natural_trim_9 (x3 : Int) (x0 : List Int) : St := ⟨[(0, .one (.loc (.int .u32) 10000)), (3, .one (.val (.int .i64) x3))], [(10000, some ⟨.int .u32, x0, false⟩)]⟩
noncomputable abbrev kko_natural_trim_9 (S : Nat → KT (CD false (.int .u32) × RS.D .pre)) := fun (x3 : Int) (x0 : List Int) => S 9 (cno_natural_trim_9 x3 x0)
theorem topo_natural_trim (S : Nat → KT (CD false (.int .u32) × RS.D .pre)) (l : List Int) : evA (Eo_natural_trim) (lk co_natural_trim) S (bodyOf Try.f133) noX (feo_natural_trim) (feo_natural_trim) (initO [] () false (.int .u32) l) = To_natural_trim (kko_natural_trim_9 S) l := by kernel_rfl
theorem sego_natural_trim_9 (S : Nat → KT (CD false (.int .u32) × RS.D .pre)) (x3 : Int) (x0 : List Int) : stepT (entry (Eo_natural_trim) (lk co_natural_trim) S 9 (bodyOf Try.f133) noX (feo_natural_trim) (feo_natural_trim)) (cno_natural_trim_9 x3 x0) = So_natural_trim_9 (kko_natural_trim_9 S) x3 x0 := by kernel_rfl
noncomputable abbrev tbo_natural_trim := tab (Eo_natural_trim) (lk co_natural_trim) (bodyOf Try.f133) (feo_natural_trim)
theorem oko_natural_trim : EnvOK Try.prog (Eo_natural_trim) := mkE_ok tys_ok trivial trivial
theorem os_natural_trim : OSound Try.prog 133 [] false (.int .u32) .pre (fun τ l => O_natural_trim l) :=
  evO_sound (E := (Eo_natural_trim)) (C := (lk co_natural_trim)) oko_natural_trim mixed_ok (fn := Try.f133) (k := (bodyOf Try.f133)) (by kernel_rfl) (by kernel_rfl) (by kernel_rfl) (by kernel_rfl) (by kernel_rfl) (fun τ l r h => by
    obtain ⟨⟩ := τ
    obtain ⟨m, hm⟩ := Rno_natural_trim (fun m => kko_natural_trim_9 (tbo_natural_trim m)) (fun m x3 x0 => (tab_succ (Eo_natural_trim) (lk co_natural_trim) (bodyOf Try.f133) (feo_natural_trim) m 9 (cno_natural_trim_9 x3 x0)).trans (sego_natural_trim_9 (tbo_natural_trim m) x3 x0)) l r h
    exact ⟨m, (topo_natural_trim (tbo_natural_trim m) l).trans (hm m (Nat.le_refl m))⟩)

abbrev E_natural_IsZero : Env := mkE tys [] [(133, mixO (callO [] false (.int .u32) .pre (fun τ l => O_natural_trim l)) (callI (callE [.slice (.int .u32)] [(.slice (.int .u32), false)] (fun τ => F_natural_trim τ.1))))]
def c_natural_IsZero : List (Nat × Live) := []
noncomputable abbrev fe_natural_IsZero := (finE (E_natural_IsZero) [(.bool, false)] Try.f91.results.toList)
theorem top_natural_IsZero (S : Nat → KT (RT [(.bool, false)])) (a0 : List Int) : evA (E_natural_IsZero) (lk c_natural_IsZero) S (bodyOf Try.f91) noX (fe_natural_IsZero) (fe_natural_IsZero) (initSt [.slice (.int .u32)] (a0, ())) = T_natural_IsZero a0 := by kernel_rfl
noncomputable abbrev tb_natural_IsZero := tab (E_natural_IsZero) (lk c_natural_IsZero) (bodyOf Try.f91) (fe_natural_IsZero)
theorem ok_natural_IsZero : EnvOK Try.prog (E_natural_IsZero) := mkE_ok tys_ok trivial ⟨⟨PSound.mix os_natural_trim.psound (CSound.psound fs_natural_trim.csound), ⟨Try.f133, by kernel_rfl, by kernel_rfl, by kernel_rfl⟩⟩, trivial⟩
theorem fs_natural_IsZero : FSound Try.prog 91 [.slice (.int .u32)] [(.bool, false)] (fun τ => F_natural_IsZero τ.1) :=
  evG_sound (E := (E_natural_IsZero)) (C := (lk c_natural_IsZero)) ok_natural_IsZero mixed_ok (fn := Try.f91) (c := (bodyOf Try.f91)) (by kernel_rfl) (by kernel_rfl) (by kernel_rfl) (by kernel_rfl) (by kernel_rfl) (by kernel_rfl) (fun τ r h => by
    obtain ⟨a0, ⟨⟩⟩ := τ
    obtain ⟨m, hm⟩ := Rn_natural_IsZero a0 r h
    exact ⟨m, (top_natural_IsZero (tb_natural_IsZero m) a0).trans (hm m (Nat.le_refl m))⟩)

abbrev E_integer_made : Env := mkE tys [] []
def c_integer_made : List (Nat × Live) := []
noncomputable abbrev fe_integer_made := (finE (E_integer_made) [(.pair (.bool) (.slice (.int .u32)), false)] Try.f129.results.toList)
theorem top_integer_made (S : Nat → KT (RT [(.pair (.bool) (.slice (.int .u32)), false)])) (a0 : Bool) (a1 : List Int) : evA (E_integer_made) (lk c_integer_made) S (bodyOf Try.f129) noX (fe_integer_made) (fe_integer_made) (initSt [.bool, .slice (.int .u32)] (a0, a1, ())) = T_integer_made a0 a1 := by kernel_rfl
noncomputable abbrev tb_integer_made := tab (E_integer_made) (lk c_integer_made) (bodyOf Try.f129) (fe_integer_made)
theorem ok_integer_made : EnvOK Try.prog (E_integer_made) := mkE_ok tys_ok trivial trivial
theorem fs_integer_made : FSound Try.prog 129 [.bool, .slice (.int .u32)] [(.pair (.bool) (.slice (.int .u32)), false)] (fun τ => F_integer_made τ.1 τ.2.1) :=
  evG_sound (E := (E_integer_made)) (C := (lk c_integer_made)) ok_integer_made mixed_ok (fn := Try.f129) (c := (bodyOf Try.f129)) (by kernel_rfl) (by kernel_rfl) (by kernel_rfl) (by kernel_rfl) (by kernel_rfl) (by kernel_rfl) (fun τ r h => by
    obtain ⟨a0, a1, ⟨⟩⟩ := τ
    obtain ⟨m, hm⟩ := Rn_integer_made a0 a1 r h
    exact ⟨m, (top_integer_made (tb_integer_made m) a0 a1).trans (hm m (Nat.le_refl m))⟩)

abbrev E_natural_Normal : Env := mkE tys [] [(133, mixO (callO [] false (.int .u32) .pre (fun τ l => O_natural_trim l)) (callI (callE [.slice (.int .u32)] [(.slice (.int .u32), false)] (fun τ => F_natural_trim τ.1))))]
def c_natural_Normal : List (Nat × Live) := []
noncomputable abbrev fe_natural_Normal := (finE (E_natural_Normal) [(.slice (.int .u32), true)] Try.f135.results.toList)
theorem top_natural_Normal (S : Nat → KT (RT [(.slice (.int .u32), true)])) (a0 : List Int) : evA (E_natural_Normal) (lk c_natural_Normal) S (bodyOf Try.f135) noX (fe_natural_Normal) (fe_natural_Normal) (initSt [.slice (.int .u32)] (a0, ())) = T_natural_Normal a0 := by kernel_rfl
noncomputable abbrev tb_natural_Normal := tab (E_natural_Normal) (lk c_natural_Normal) (bodyOf Try.f135) (fe_natural_Normal)
theorem ok_natural_Normal : EnvOK Try.prog (E_natural_Normal) := mkE_ok tys_ok trivial ⟨⟨PSound.mix os_natural_trim.psound (CSound.psound fs_natural_trim.csound), ⟨Try.f133, by kernel_rfl, by kernel_rfl, by kernel_rfl⟩⟩, trivial⟩
theorem fs_natural_Normal : FSound Try.prog 135 [.slice (.int .u32)] [(.slice (.int .u32), true)] (fun τ => F_natural_Normal τ.1) :=
  evG_sound (E := (E_natural_Normal)) (C := (lk c_natural_Normal)) ok_natural_Normal mixed_ok (fn := Try.f135) (c := (bodyOf Try.f135)) (by kernel_rfl) (by kernel_rfl) (by kernel_rfl) (by kernel_rfl) (by kernel_rfl) (by kernel_rfl) (fun τ r h => by
    obtain ⟨a0, ⟨⟩⟩ := τ
    obtain ⟨m, hm⟩ := Rn_natural_Normal a0 r h
    exact ⟨m, (top_natural_Normal (tb_natural_Normal m) a0).trans (hm m (Nat.le_refl m))⟩)

abbrev E_integer_From : Env := mkE tys [(129, callE [.bool, .slice (.int .u32)] [(.pair (.bool) (.slice (.int .u32)), false)] (fun τ => F_integer_made τ.1 τ.2.1)), (135, callE [.slice (.int .u32)] [(.slice (.int .u32), true)] (fun τ => F_natural_Normal τ.1))] []
def c_integer_From : List (Nat × Live) := []
noncomputable abbrev fe_integer_From := (finE (E_integer_From) [(.pair (.bool) (.slice (.int .u32)), false)] Try.f134.results.toList)
theorem top_integer_From (S : Nat → KT (RT [(.pair (.bool) (.slice (.int .u32)), false)])) (a0 : Bool) (a1 : List Int) : evA (E_integer_From) (lk c_integer_From) S (bodyOf Try.f134) noX (fe_integer_From) (fe_integer_From) (initSt [.bool, .slice (.int .u32)] (a0, a1, ())) = T_integer_From a0 a1 := by kernel_rfl
noncomputable abbrev tb_integer_From := tab (E_integer_From) (lk c_integer_From) (bodyOf Try.f134) (fe_integer_From)
theorem ok_integer_From : EnvOK Try.prog (E_integer_From) := mkE_ok tys_ok ⟨⟨fs_integer_made.csound, ⟨Try.f129, by kernel_rfl, by kernel_rfl, by kernel_rfl⟩⟩, ⟨fs_natural_Normal.csound, ⟨Try.f135, by kernel_rfl, by kernel_rfl, by kernel_rfl⟩⟩, trivial⟩ trivial
theorem fs_integer_From : FSound Try.prog 134 [.bool, .slice (.int .u32)] [(.pair (.bool) (.slice (.int .u32)), false)] (fun τ => F_integer_From τ.1 τ.2.1) :=
  evG_sound (E := (E_integer_From)) (C := (lk c_integer_From)) ok_integer_From mixed_ok (fn := Try.f134) (c := (bodyOf Try.f134)) (by kernel_rfl) (by kernel_rfl) (by kernel_rfl) (by kernel_rfl) (by kernel_rfl) (by kernel_rfl) (fun τ r h => by
    obtain ⟨a0, a1, ⟨⟩⟩ := τ
    obtain ⟨m, hm⟩ := Rn_integer_From a0 a1 r h
    exact ⟨m, (top_integer_From (tb_integer_From m) a0 a1).trans (hm m (Nat.le_refl m))⟩)

abbrev E_integer_Neg : Env := mkE tys [(134, callE [.bool, .slice (.int .u32)] [(.pair (.bool) (.slice (.int .u32)), false)] (fun τ => F_integer_From τ.1 τ.2.1))] []
def c_integer_Neg : List (Nat × Live) := []
noncomputable abbrev fe_integer_Neg := (finE (E_integer_Neg) [(.pair (.bool) (.slice (.int .u32)), false)] Try.f92.results.toList)
theorem top_integer_Neg (S : Nat → KT (RT [(.pair (.bool) (.slice (.int .u32)), false)])) (a0 : Bool × List Int) : evA (E_integer_Neg) (lk c_integer_Neg) S (bodyOf Try.f92) noX (fe_integer_Neg) (fe_integer_Neg) (initSt [.pair (.bool) (.slice (.int .u32))] (a0, ())) = T_integer_Neg a0 := by kernel_rfl
noncomputable abbrev tb_integer_Neg := tab (E_integer_Neg) (lk c_integer_Neg) (bodyOf Try.f92) (fe_integer_Neg)
theorem ok_integer_Neg : EnvOK Try.prog (E_integer_Neg) := mkE_ok tys_ok ⟨⟨fs_integer_From.csound, ⟨Try.f134, by kernel_rfl, by kernel_rfl, by kernel_rfl⟩⟩, trivial⟩ trivial
theorem fs_integer_Neg : FSound Try.prog 92 [.pair (.bool) (.slice (.int .u32))] [(.pair (.bool) (.slice (.int .u32)), false)] (fun τ => F_integer_Neg τ.1) :=
  evG_sound (E := (E_integer_Neg)) (C := (lk c_integer_Neg)) ok_integer_Neg mixed_ok (fn := Try.f92) (c := (bodyOf Try.f92)) (by kernel_rfl) (by kernel_rfl) (by kernel_rfl) (by kernel_rfl) (by kernel_rfl) (by kernel_rfl) (fun τ r h => by
    obtain ⟨a0, ⟨⟩⟩ := τ
    obtain ⟨m, hm⟩ := Rn_integer_Neg a0 r h
    exact ⟨m, (top_integer_Neg (tb_integer_Neg m) a0).trans (hm m (Nat.le_refl m))⟩)

abbrev E_natural_Of : Env := mkE tys [] [(133, mixO (callO [] false (.int .u32) .pre (fun τ l => O_natural_trim l)) (callI (callE [.slice (.int .u32)] [(.slice (.int .u32), false)] (fun τ => F_natural_trim τ.1))))]
def c_natural_Of : List (Nat × Live) := []
noncomputable abbrev fe_natural_Of := (finE (E_natural_Of) [(.slice (.int .u32), false)] Try.f102.results.toList)
theorem top_natural_Of (S : Nat → KT (RT [(.slice (.int .u32), false)])) (a0 : Int) : evA (E_natural_Of) (lk c_natural_Of) S (bodyOf Try.f102) noX (fe_natural_Of) (fe_natural_Of) (initSt [.int .u64] (a0, ())) = T_natural_Of a0 := by kernel_rfl
noncomputable abbrev tb_natural_Of := tab (E_natural_Of) (lk c_natural_Of) (bodyOf Try.f102) (fe_natural_Of)
theorem ok_natural_Of : EnvOK Try.prog (E_natural_Of) := mkE_ok tys_ok trivial ⟨⟨PSound.mix os_natural_trim.psound (CSound.psound fs_natural_trim.csound), ⟨Try.f133, by kernel_rfl, by kernel_rfl, by kernel_rfl⟩⟩, trivial⟩
theorem fs_natural_Of : FSound Try.prog 102 [.int .u64] [(.slice (.int .u32), false)] (fun τ => F_natural_Of τ.1) :=
  evG_sound (E := (E_natural_Of)) (C := (lk c_natural_Of)) ok_natural_Of mixed_ok (fn := Try.f102) (c := (bodyOf Try.f102)) (by kernel_rfl) (by kernel_rfl) (by kernel_rfl) (by kernel_rfl) (by kernel_rfl) (by kernel_rfl) (fun τ r h => by
    obtain ⟨a0, ⟨⟩⟩ := τ
    obtain ⟨m, hm⟩ := Rn_natural_Of a0 r h
    exact ⟨m, (top_natural_Of (tb_natural_Of m) a0).trans (hm m (Nat.le_refl m))⟩)

abbrev E_rational_one : Env := mkE tys [(102, callE [.int .u64] [(.slice (.int .u32), false)] (fun τ => F_natural_Of τ.1))] []
def c_rational_one : List (Nat × Live) := []
noncomputable abbrev fe_rational_one := (finE (E_rational_one) [(.slice (.int .u32), false)] Try.f88.results.toList)
theorem top_rational_one (S : Nat → KT (RT [(.slice (.int .u32), false)])) : evA (E_rational_one) (lk c_rational_one) S (bodyOf Try.f88) noX (fe_rational_one) (fe_rational_one) (initSt [] ()) = T_rational_one := by kernel_rfl
noncomputable abbrev tb_rational_one := tab (E_rational_one) (lk c_rational_one) (bodyOf Try.f88) (fe_rational_one)
theorem ok_rational_one : EnvOK Try.prog (E_rational_one) := mkE_ok tys_ok ⟨⟨fs_natural_Of.csound, ⟨Try.f102, by kernel_rfl, by kernel_rfl, by kernel_rfl⟩⟩, trivial⟩ trivial
theorem fs_rational_one : FSound Try.prog 88 [] [(.slice (.int .u32), false)] (fun τ => F_rational_one) :=
  evG_sound (E := (E_rational_one)) (C := (lk c_rational_one)) ok_rational_one mixed_ok (fn := Try.f88) (c := (bodyOf Try.f88)) (by kernel_rfl) (by kernel_rfl) (by kernel_rfl) (by kernel_rfl) (by kernel_rfl) (by kernel_rfl) (fun τ r h => by
    obtain ⟨⟩ := τ
    obtain ⟨m, hm⟩ := Rn_rational_one r h
    exact ⟨m, (top_rational_one (tb_rational_one m)).trans (hm m (Nat.le_refl m))⟩)

abbrev E_integer_Normal : Env := mkE tys [(134, callE [.bool, .slice (.int .u32)] [(.pair (.bool) (.slice (.int .u32)), false)] (fun τ => F_integer_From τ.1 τ.2.1))] []
def c_integer_Normal : List (Nat × Live) := []
noncomputable abbrev fe_integer_Normal := (finE (E_integer_Normal) [(.pair (.bool) (.slice (.int .u32)), false)] Try.f94.results.toList)
theorem top_integer_Normal (S : Nat → KT (RT [(.pair (.bool) (.slice (.int .u32)), false)])) (a0 : Bool × List Int) : evA (E_integer_Normal) (lk c_integer_Normal) S (bodyOf Try.f94) noX (fe_integer_Normal) (fe_integer_Normal) (initSt [.pair (.bool) (.slice (.int .u32))] (a0, ())) = T_integer_Normal a0 := by kernel_rfl
noncomputable abbrev tb_integer_Normal := tab (E_integer_Normal) (lk c_integer_Normal) (bodyOf Try.f94) (fe_integer_Normal)
theorem ok_integer_Normal : EnvOK Try.prog (E_integer_Normal) := mkE_ok tys_ok ⟨⟨fs_integer_From.csound, ⟨Try.f134, by kernel_rfl, by kernel_rfl, by kernel_rfl⟩⟩, trivial⟩ trivial
theorem fs_integer_Normal : FSound Try.prog 94 [.pair (.bool) (.slice (.int .u32))] [(.pair (.bool) (.slice (.int .u32)), false)] (fun τ => F_integer_Normal τ.1) :=
  evG_sound (E := (E_integer_Normal)) (C := (lk c_integer_Normal)) ok_integer_Normal mixed_ok (fn := Try.f94) (c := (bodyOf Try.f94)) (by kernel_rfl) (by kernel_rfl) (by kernel_rfl) (by kernel_rfl) (by kernel_rfl) (by kernel_rfl) (fun τ r h => by
    obtain ⟨a0, ⟨⟩⟩ := τ
    obtain ⟨m, hm⟩ := Rn_integer_Normal a0 r h
    exact ⟨m, (top_integer_Normal (tb_integer_Normal m) a0).trans (hm m (Nat.le_refl m))⟩)

abbrev E_division_zero : Env := mkE tys [(91, callE [.slice (.int .u32)] [(.bool, false)] (fun τ => F_natural_IsZero τ.1))] []
def c_division_zero : List (Nat × Live) := []
noncomputable abbrev fe_division_zero := (finE (E_division_zero) [(.bool, false)] Try.f137.results.toList)
theorem top_division_zero (S : Nat → KT (RT [(.bool, false)])) (a0 : Bool × List Int) : evA (E_division_zero) (lk c_division_zero) S (bodyOf Try.f137) noX (fe_division_zero) (fe_division_zero) (initSt [.pair (.bool) (.slice (.int .u32))] (a0, ())) = T_division_zero a0 := by kernel_rfl
noncomputable abbrev tb_division_zero := tab (E_division_zero) (lk c_division_zero) (bodyOf Try.f137) (fe_division_zero)
theorem ok_division_zero : EnvOK Try.prog (E_division_zero) := mkE_ok tys_ok ⟨⟨fs_natural_IsZero.csound, ⟨Try.f91, by kernel_rfl, by kernel_rfl, by kernel_rfl⟩⟩, trivial⟩ trivial
theorem fs_division_zero : FSound Try.prog 137 [.pair (.bool) (.slice (.int .u32))] [(.bool, false)] (fun τ => F_division_zero τ.1) :=
  evG_sound (E := (E_division_zero)) (C := (lk c_division_zero)) ok_division_zero mixed_ok (fn := Try.f137) (c := (bodyOf Try.f137)) (by kernel_rfl) (by kernel_rfl) (by kernel_rfl) (by kernel_rfl) (by kernel_rfl) (by kernel_rfl) (fun τ r h => by
    obtain ⟨a0, ⟨⟩⟩ := τ
    obtain ⟨m, hm⟩ := Rn_division_zero a0 r h
    exact ⟨m, (top_division_zero (tb_division_zero m) a0).trans (hm m (Nat.le_refl m))⟩)

abbrev E_natural_Cmp : Env := mkE tys [] [(133, mixO (callO [] false (.int .u32) .pre (fun τ l => O_natural_trim l)) (callI (callE [.slice (.int .u32)] [(.slice (.int .u32), false)] (fun τ => F_natural_trim τ.1))))]
def c_natural_Cmp : List (Nat × Live) := [(29, ⟨[(0, .slice (.int .u32)), (1, .slice (.int .u32)), (5, .int .i64)], [], []⟩)]
noncomputable abbrev fe_natural_Cmp := (finE (E_natural_Cmp) [(.int .i64, false)] Try.f142.results.toList)
noncomputable abbrev cn_natural_Cmp_29 (x0 : List Int) (x1 : List Int) (x5 : Int) : St := ⟨[(5, .one (.val (.int .i64) x5)), (1, .one (.val (.slice (.int .u32)) x1)), (0, .one (.val (.slice (.int .u32)) x0))], []⟩
noncomputable abbrev kk_natural_Cmp_29 (S : Nat → KT (RT [(.int .i64, false)])) := fun (x0 : List Int) (x1 : List Int) (x5 : Int) => S 29 (cn_natural_Cmp_29 x0 x1 x5)
theorem top_natural_Cmp (S : Nat → KT (RT [(.int .i64, false)])) (a0 : List Int) (a1 : List Int) : evA (E_natural_Cmp) (lk c_natural_Cmp) S (bodyOf Try.f142) noX (fe_natural_Cmp) (fe_natural_Cmp) (initSt [.slice (.int .u32), .slice (.int .u32)] (a0, a1, ())) = T_natural_Cmp (kk_natural_Cmp_29 S) a0 a1 := by kernel_rfl
theorem seg_natural_Cmp_29 (S : Nat → KT (RT [(.int .i64, false)])) (x0 : List Int) (x1 : List Int) (x5 : Int) : stepT (entry (E_natural_Cmp) (lk c_natural_Cmp) S 29 (bodyOf Try.f142) noX (fe_natural_Cmp) (fe_natural_Cmp)) (cn_natural_Cmp_29 x0 x1 x5) = S_natural_Cmp_29 (kk_natural_Cmp_29 S) x0 x1 x5 := by kernel_rfl
noncomputable abbrev tb_natural_Cmp := tab (E_natural_Cmp) (lk c_natural_Cmp) (bodyOf Try.f142) (fe_natural_Cmp)
theorem ok_natural_Cmp : EnvOK Try.prog (E_natural_Cmp) := mkE_ok tys_ok trivial ⟨⟨PSound.mix os_natural_trim.psound (CSound.psound fs_natural_trim.csound), ⟨Try.f133, by kernel_rfl, by kernel_rfl, by kernel_rfl⟩⟩, trivial⟩
theorem fs_natural_Cmp : FSound Try.prog 142 [.slice (.int .u32), .slice (.int .u32)] [(.int .i64, false)] (fun τ => F_natural_Cmp τ.1 τ.2.1) :=
  evG_sound (E := (E_natural_Cmp)) (C := (lk c_natural_Cmp)) ok_natural_Cmp mixed_ok (fn := Try.f142) (c := (bodyOf Try.f142)) (by kernel_rfl) (by kernel_rfl) (by kernel_rfl) (by kernel_rfl) (by kernel_rfl) (by kernel_rfl) (fun τ r h => by
    obtain ⟨a0, a1, ⟨⟩⟩ := τ
    obtain ⟨m, hm⟩ := Rn_natural_Cmp (fun m => kk_natural_Cmp_29 (tb_natural_Cmp m)) (fun m x0 x1 x5 => (tab_succ (E_natural_Cmp) (lk c_natural_Cmp) (bodyOf Try.f142) (fe_natural_Cmp) m 29 (cn_natural_Cmp_29 x0 x1 x5)).trans (seg_natural_Cmp_29 (tb_natural_Cmp m) x0 x1 x5)) a0 a1 r h
    exact ⟨m, (top_natural_Cmp (tb_natural_Cmp m) a0 a1).trans (hm m (Nat.le_refl m))⟩)

abbrev E_bits_Add32 : Env := mkE tys [] []
def c_bits_Add32 : List (Nat × Live) := []
noncomputable abbrev fe_bits_Add32 := (finE (E_bits_Add32) [(.int .u32, false), (.int .u32, false)] Try.f149.results.toList)
theorem top_bits_Add32 (S : Nat → KT (RT [(.int .u32, false), (.int .u32, false)])) (a0 : Int) (a1 : Int) (a2 : Int) : evA (E_bits_Add32) (lk c_bits_Add32) S (bodyOf Try.f149) noX (fe_bits_Add32) (fe_bits_Add32) (initSt [.int .u32, .int .u32, .int .u32] (a0, a1, a2, ())) = T_bits_Add32 a0 a1 a2 := by kernel_rfl
noncomputable abbrev tb_bits_Add32 := tab (E_bits_Add32) (lk c_bits_Add32) (bodyOf Try.f149) (fe_bits_Add32)
theorem ok_bits_Add32 : EnvOK Try.prog (E_bits_Add32) := mkE_ok tys_ok trivial trivial
theorem fs_bits_Add32 : FSound Try.prog 149 [.int .u32, .int .u32, .int .u32] [(.int .u32, false), (.int .u32, false)] (fun τ => F_bits_Add32 τ.1 τ.2.1 τ.2.2.1) :=
  evG_sound (E := (E_bits_Add32)) (C := (lk c_bits_Add32)) ok_bits_Add32 mixed_ok (fn := Try.f149) (c := (bodyOf Try.f149)) (by kernel_rfl) (by kernel_rfl) (by kernel_rfl) (by kernel_rfl) (by kernel_rfl) (by kernel_rfl) (fun τ r h => by
    obtain ⟨a0, a1, a2, ⟨⟩⟩ := τ
    obtain ⟨m, hm⟩ := Rn_bits_Add32 a0 a1 a2 r h
    exact ⟨m, (top_bits_Add32 (tb_bits_Add32 m) a0 a1 a2).trans (hm m (Nat.le_refl m))⟩)

abbrev E_natural_Shl : Env := mkE tys [] [(133, mixO (callO [] false (.int .u32) .pre (fun τ l => O_natural_trim l)) (callI (callE [.slice (.int .u32)] [(.slice (.int .u32), false)] (fun τ => F_natural_trim τ.1))))]
def c_natural_Shl : List (Nat × Live) := [(45, ⟨[(6, .int .i64), (8, .int .u32), (9, .int .i64)], [(false, 7, .int .u32)], []⟩)]
noncomputable abbrev fe_natural_Shl := (finE (E_natural_Shl) [(.slice (.int .u32), true)] Try.f156.results.toList)
noncomputable abbrev cn_natural_Shl_45 (x6 : Int) (x8 : Int) (x9 : Int) (x7 : List Int) : St := ⟨[(7, .one (.loc (.int .u32) 10000)), (9, .one (.val (.int .i64) x9)), (8, .one (.val (.int .u32) x8)), (6, .one (.val (.int .i64) x6))], [(10000, some ⟨.int .u32, x7, false⟩)]⟩
noncomputable abbrev kk_natural_Shl_45 (S : Nat → KT (RT [(.slice (.int .u32), true)])) := fun (x6 : Int) (x8 : Int) (x9 : Int) (x7 : List Int) => S 45 (cn_natural_Shl_45 x6 x8 x9 x7)
theorem top_natural_Shl (S : Nat → KT (RT [(.slice (.int .u32), true)])) (a0 : List Int) (a1 : Int) : evA (E_natural_Shl) (lk c_natural_Shl) S (bodyOf Try.f156) noX (fe_natural_Shl) (fe_natural_Shl) (initSt [.slice (.int .u32), .int .i64] (a0, a1, ())) = T_natural_Shl (kk_natural_Shl_45 S) a0 a1 := by kernel_rfl
theorem seg_natural_Shl_45 (S : Nat → KT (RT [(.slice (.int .u32), true)])) (x6 : Int) (x8 : Int) (x9 : Int) (x7 : List Int) : stepT (entry (E_natural_Shl) (lk c_natural_Shl) S 45 (bodyOf Try.f156) noX (fe_natural_Shl) (fe_natural_Shl)) (cn_natural_Shl_45 x6 x8 x9 x7) = S_natural_Shl_45 (kk_natural_Shl_45 S) x6 x8 x9 x7 := by kernel_rfl
noncomputable abbrev tb_natural_Shl := tab (E_natural_Shl) (lk c_natural_Shl) (bodyOf Try.f156) (fe_natural_Shl)
theorem ok_natural_Shl : EnvOK Try.prog (E_natural_Shl) := mkE_ok tys_ok trivial ⟨⟨PSound.mix os_natural_trim.psound (CSound.psound fs_natural_trim.csound), ⟨Try.f133, by kernel_rfl, by kernel_rfl, by kernel_rfl⟩⟩, trivial⟩
theorem fs_natural_Shl : FSound Try.prog 156 [.slice (.int .u32), .int .i64] [(.slice (.int .u32), true)] (fun τ => F_natural_Shl τ.1 τ.2.1) :=
  evG_sound (E := (E_natural_Shl)) (C := (lk c_natural_Shl)) ok_natural_Shl mixed_ok (fn := Try.f156) (c := (bodyOf Try.f156)) (by kernel_rfl) (by kernel_rfl) (by kernel_rfl) (by kernel_rfl) (by kernel_rfl) (by kernel_rfl) (fun τ r h => by
    obtain ⟨a0, a1, ⟨⟩⟩ := τ
    obtain ⟨m, hm⟩ := Rn_natural_Shl (fun m => kk_natural_Shl_45 (tb_natural_Shl m)) (fun m x6 x8 x9 x7 => (tab_succ (E_natural_Shl) (lk c_natural_Shl) (bodyOf Try.f156) (fe_natural_Shl) m 45 (cn_natural_Shl_45 x6 x8 x9 x7)).trans (seg_natural_Shl_45 (tb_natural_Shl m) x6 x8 x9 x7)) a0 a1 r h
    exact ⟨m, (top_natural_Shl (tb_natural_Shl m) a0 a1).trans (hm m (Nat.le_refl m))⟩)

abbrev E_bits_Div32 : Env := mkE tys [] []
def c_bits_Div32 : List (Nat × Live) := [(8, ⟨[(0, .int .u32), (1, .int .u32), (2, .int .u32), (15, .bool)], [], []⟩)]
noncomputable abbrev fe_bits_Div32 := (finE (E_bits_Div32) [(.int .u32, false), (.int .u32, false)] Try.f184.results.toList)
noncomputable abbrev cn_bits_Div32_8 (x0 : Int) (x1 : Int) (x2 : Int) (x15 : Bool) : St := ⟨[(15, .one (.val (.bool) x15)), (2, .one (.val (.int .u32) x2)), (1, .one (.val (.int .u32) x1)), (0, .one (.val (.int .u32) x0))], []⟩
noncomputable abbrev kk_bits_Div32_8 (S : Nat → KT (RT [(.int .u32, false), (.int .u32, false)])) := fun (x0 : Int) (x1 : Int) (x2 : Int) (x15 : Bool) => S 8 (cn_bits_Div32_8 x0 x1 x2 x15)
theorem top_bits_Div32 (S : Nat → KT (RT [(.int .u32, false), (.int .u32, false)])) (a0 : Int) (a1 : Int) (a2 : Int) : evA (E_bits_Div32) (lk c_bits_Div32) S (bodyOf Try.f184) noX (fe_bits_Div32) (fe_bits_Div32) (initSt [.int .u32, .int .u32, .int .u32] (a0, a1, a2, ())) = T_bits_Div32 (kk_bits_Div32_8 S) a0 a1 a2 := by kernel_rfl
theorem seg_bits_Div32_8 (S : Nat → KT (RT [(.int .u32, false), (.int .u32, false)])) (x0 : Int) (x1 : Int) (x2 : Int) (x15 : Bool) : stepT (entry (E_bits_Div32) (lk c_bits_Div32) S 8 (bodyOf Try.f184) noX (fe_bits_Div32) (fe_bits_Div32)) (cn_bits_Div32_8 x0 x1 x2 x15) = S_bits_Div32_8 (kk_bits_Div32_8 S) x0 x1 x2 x15 := by kernel_rfl
noncomputable abbrev tb_bits_Div32 := tab (E_bits_Div32) (lk c_bits_Div32) (bodyOf Try.f184) (fe_bits_Div32)
theorem ok_bits_Div32 : EnvOK Try.prog (E_bits_Div32) := mkE_ok tys_ok trivial trivial
theorem fs_bits_Div32 : FSound Try.prog 184 [.int .u32, .int .u32, .int .u32] [(.int .u32, false), (.int .u32, false)] (fun τ => F_bits_Div32 τ.1 τ.2.1 τ.2.2.1) :=
  evG_sound (E := (E_bits_Div32)) (C := (lk c_bits_Div32)) ok_bits_Div32 mixed_ok (fn := Try.f184) (c := (bodyOf Try.f184)) (by kernel_rfl) (by kernel_rfl) (by kernel_rfl) (by kernel_rfl) (by kernel_rfl) (by kernel_rfl) (fun τ r h => by
    obtain ⟨a0, a1, a2, ⟨⟩⟩ := τ
    obtain ⟨m, hm⟩ := Rn_bits_Div32 (fun m => kk_bits_Div32_8 (tb_bits_Div32 m)) (fun m x0 x1 x2 x15 => (tab_succ (E_bits_Div32) (lk c_bits_Div32) (bodyOf Try.f184) (fe_bits_Div32) m 8 (cn_bits_Div32_8 x0 x1 x2 x15)).trans (seg_bits_Div32_8 (tb_bits_Div32 m) x0 x1 x2 x15)) a0 a1 a2 r h
    exact ⟨m, (top_bits_Div32 (tb_bits_Div32 m) a0 a1 a2).trans (hm m (Nat.le_refl m))⟩)

abbrev E_natural_DivSmall : Env := mkE tys [(184, callE [.int .u32, .int .u32, .int .u32] [(.int .u32, false), (.int .u32, false)] (fun τ => F_bits_Div32 τ.1 τ.2.1 τ.2.2.1))] [(133, mixO (callO [] false (.int .u32) .pre (fun τ l => O_natural_trim l)) (callI (callE [.slice (.int .u32)] [(.slice (.int .u32), false)] (fun τ => F_natural_trim τ.1))))]
def c_natural_DivSmall : List (Nat × Live) := [(29, ⟨[(0, .slice (.int .u32)), (1, .int .u32), (8, .int .u32), (9, .int .i64)], [(false, 7, .int .u32)], []⟩)]
noncomputable abbrev fe_natural_DivSmall := (finE (E_natural_DivSmall) [(.slice (.int .u32), false), (.int .u32, false), (.bool, false)] Try.f170.results.toList)
noncomputable abbrev cn_natural_DivSmall_29 (x0 : List Int) (x1 : Int) (x8 : Int) (x9 : Int) (x7 : List Int) : St := ⟨[(7, .one (.loc (.int .u32) 10000)), (9, .one (.val (.int .i64) x9)), (8, .one (.val (.int .u32) x8)), (1, .one (.val (.int .u32) x1)), (0, .one (.val (.slice (.int .u32)) x0))], [(10000, some ⟨.int .u32, x7, false⟩)]⟩
noncomputable abbrev kk_natural_DivSmall_29 (S : Nat → KT (RT [(.slice (.int .u32), false), (.int .u32, false), (.bool, false)])) := fun (x0 : List Int) (x1 : Int) (x8 : Int) (x9 : Int) (x7 : List Int) => S 29 (cn_natural_DivSmall_29 x0 x1 x8 x9 x7)
theorem top_natural_DivSmall (S : Nat → KT (RT [(.slice (.int .u32), false), (.int .u32, false), (.bool, false)])) (a0 : List Int) (a1 : Int) : evA (E_natural_DivSmall) (lk c_natural_DivSmall) S (bodyOf Try.f170) noX (fe_natural_DivSmall) (fe_natural_DivSmall) (initSt [.slice (.int .u32), .int .u32] (a0, a1, ())) = T_natural_DivSmall (kk_natural_DivSmall_29 S) a0 a1 := by kernel_rfl
theorem seg_natural_DivSmall_29 (S : Nat → KT (RT [(.slice (.int .u32), false), (.int .u32, false), (.bool, false)])) (x0 : List Int) (x1 : Int) (x8 : Int) (x9 : Int) (x7 : List Int) : stepT (entry (E_natural_DivSmall) (lk c_natural_DivSmall) S 29 (bodyOf Try.f170) noX (fe_natural_DivSmall) (fe_natural_DivSmall)) (cn_natural_DivSmall_29 x0 x1 x8 x9 x7) = S_natural_DivSmall_29 (kk_natural_DivSmall_29 S) x0 x1 x8 x9 x7 := by kernel_rfl
noncomputable abbrev tb_natural_DivSmall := tab (E_natural_DivSmall) (lk c_natural_DivSmall) (bodyOf Try.f170) (fe_natural_DivSmall)
theorem ok_natural_DivSmall : EnvOK Try.prog (E_natural_DivSmall) := mkE_ok tys_ok ⟨⟨fs_bits_Div32.csound, ⟨Try.f184, by kernel_rfl, by kernel_rfl, by kernel_rfl⟩⟩, trivial⟩ ⟨⟨PSound.mix os_natural_trim.psound (CSound.psound fs_natural_trim.csound), ⟨Try.f133, by kernel_rfl, by kernel_rfl, by kernel_rfl⟩⟩, trivial⟩
theorem fs_natural_DivSmall : FSound Try.prog 170 [.slice (.int .u32), .int .u32] [(.slice (.int .u32), false), (.int .u32, false), (.bool, false)] (fun τ => F_natural_DivSmall τ.1 τ.2.1) :=
  evG_sound (E := (E_natural_DivSmall)) (C := (lk c_natural_DivSmall)) ok_natural_DivSmall mixed_ok (fn := Try.f170) (c := (bodyOf Try.f170)) (by kernel_rfl) (by kernel_rfl) (by kernel_rfl) (by kernel_rfl) (by kernel_rfl) (by kernel_rfl) (fun τ r h => by
    obtain ⟨a0, a1, ⟨⟩⟩ := τ
    obtain ⟨m, hm⟩ := Rn_natural_DivSmall (fun m => kk_natural_DivSmall_29 (tb_natural_DivSmall m)) (fun m x0 x1 x8 x9 x7 => (tab_succ (E_natural_DivSmall) (lk c_natural_DivSmall) (bodyOf Try.f170) (fe_natural_DivSmall) m 29 (cn_natural_DivSmall_29 x0 x1 x8 x9 x7)).trans (seg_natural_DivSmall_29 (tb_natural_DivSmall m) x0 x1 x8 x9 x7)) a0 a1 r h
    exact ⟨m, (top_natural_DivSmall (tb_natural_DivSmall m) a0 a1).trans (hm m (Nat.le_refl m))⟩)

abbrev E_bits_Len32 : Env := mkE tys [] []
def c_bits_Len32 : List (Nat × Live) := [(16, ⟨[(0, .int .u32), (2, .int .i64)], [], []⟩), (28, ⟨[(0, .int .u32), (2, .int .i64)], [], []⟩)]
noncomputable abbrev fe_bits_Len32 := (finE (E_bits_Len32) [(.int .i64, false)] Try.f183.results.toList)
noncomputable abbrev cn_bits_Len32_16 (x0 : Int) (x2 : Int) : St := ⟨[(2, .one (.val (.int .i64) x2)), (0, .one (.val (.int .u32) x0))], []⟩
noncomputable abbrev kk_bits_Len32_16 (S : Nat → KT (RT [(.int .i64, false)])) := fun (x0 : Int) (x2 : Int) => S 16 (cn_bits_Len32_16 x0 x2)
noncomputable abbrev cn_bits_Len32_28 (x0 : Int) (x2 : Int) : St := ⟨[(2, .one (.val (.int .i64) x2)), (0, .one (.val (.int .u32) x0))], []⟩
noncomputable abbrev kk_bits_Len32_28 (S : Nat → KT (RT [(.int .i64, false)])) := fun (x0 : Int) (x2 : Int) => S 28 (cn_bits_Len32_28 x0 x2)
theorem top_bits_Len32 (S : Nat → KT (RT [(.int .i64, false)])) (a0 : Int) : evA (E_bits_Len32) (lk c_bits_Len32) S (bodyOf Try.f183) noX (fe_bits_Len32) (fe_bits_Len32) (initSt [.int .u32] (a0, ())) = T_bits_Len32 (kk_bits_Len32_16 S) (kk_bits_Len32_28 S) a0 := by kernel_rfl
theorem seg_bits_Len32_16 (S : Nat → KT (RT [(.int .i64, false)])) (x0 : Int) (x2 : Int) : stepT (entry (E_bits_Len32) (lk c_bits_Len32) S 16 (bodyOf Try.f183) noX (fe_bits_Len32) (fe_bits_Len32)) (cn_bits_Len32_16 x0 x2) = S_bits_Len32_16 (kk_bits_Len32_16 S) (kk_bits_Len32_28 S) x0 x2 := by kernel_rfl
theorem seg_bits_Len32_28 (S : Nat → KT (RT [(.int .i64, false)])) (x0 : Int) (x2 : Int) : stepT (entry (E_bits_Len32) (lk c_bits_Len32) S 28 (bodyOf Try.f183) noX (fe_bits_Len32) (fe_bits_Len32)) (cn_bits_Len32_28 x0 x2) = S_bits_Len32_28 (kk_bits_Len32_16 S) (kk_bits_Len32_28 S) x0 x2 := by kernel_rfl
noncomputable abbrev tb_bits_Len32 := tab (E_bits_Len32) (lk c_bits_Len32) (bodyOf Try.f183) (fe_bits_Len32)
theorem ok_bits_Len32 : EnvOK Try.prog (E_bits_Len32) := mkE_ok tys_ok trivial trivial
theorem fs_bits_Len32 : FSound Try.prog 183 [.int .u32] [(.int .i64, false)] (fun τ => F_bits_Len32 τ.1) :=
  evG_sound (E := (E_bits_Len32)) (C := (lk c_bits_Len32)) ok_bits_Len32 mixed_ok (fn := Try.f183) (c := (bodyOf Try.f183)) (by kernel_rfl) (by kernel_rfl) (by kernel_rfl) (by kernel_rfl) (by kernel_rfl) (by kernel_rfl) (fun τ r h => by
    obtain ⟨a0, ⟨⟩⟩ := τ
    obtain ⟨m, hm⟩ := Rn_bits_Len32 (fun m => kk_bits_Len32_16 (tb_bits_Len32 m)) (fun m => kk_bits_Len32_28 (tb_bits_Len32 m)) (fun m x0 x2 => (tab_succ (E_bits_Len32) (lk c_bits_Len32) (bodyOf Try.f183) (fe_bits_Len32) m 16 (cn_bits_Len32_16 x0 x2)).trans (seg_bits_Len32_16 (tb_bits_Len32 m) x0 x2)) (fun m x0 x2 => (tab_succ (E_bits_Len32) (lk c_bits_Len32) (bodyOf Try.f183) (fe_bits_Len32) m 28 (cn_bits_Len32_28 x0 x2)).trans (seg_bits_Len32_28 (tb_bits_Len32 m) x0 x2)) a0 r h
    exact ⟨m, (top_bits_Len32 (tb_bits_Len32 m) a0).trans (hm m (Nat.le_refl m))⟩)

abbrev E_bits_LeadingZeros32 : Env := mkE tys [(183, callE [.int .u32] [(.int .i64, false)] (fun τ => F_bits_Len32 τ.1))] []
def c_bits_LeadingZeros32 : List (Nat × Live) := []
noncomputable abbrev fe_bits_LeadingZeros32 := (finE (E_bits_LeadingZeros32) [(.int .i64, false)] Try.f175.results.toList)
theorem top_bits_LeadingZeros32 (S : Nat → KT (RT [(.int .i64, false)])) (a0 : Int) : evA (E_bits_LeadingZeros32) (lk c_bits_LeadingZeros32) S (bodyOf Try.f175) noX (fe_bits_LeadingZeros32) (fe_bits_LeadingZeros32) (initSt [.int .u32] (a0, ())) = T_bits_LeadingZeros32 a0 := by kernel_rfl
noncomputable abbrev tb_bits_LeadingZeros32 := tab (E_bits_LeadingZeros32) (lk c_bits_LeadingZeros32) (bodyOf Try.f175) (fe_bits_LeadingZeros32)
theorem ok_bits_LeadingZeros32 : EnvOK Try.prog (E_bits_LeadingZeros32) := mkE_ok tys_ok ⟨⟨fs_bits_Len32.csound, ⟨Try.f183, by kernel_rfl, by kernel_rfl, by kernel_rfl⟩⟩, trivial⟩ trivial
theorem fs_bits_LeadingZeros32 : FSound Try.prog 175 [.int .u32] [(.int .i64, false)] (fun τ => F_bits_LeadingZeros32 τ.1) :=
  evG_sound (E := (E_bits_LeadingZeros32)) (C := (lk c_bits_LeadingZeros32)) ok_bits_LeadingZeros32 mixed_ok (fn := Try.f175) (c := (bodyOf Try.f175)) (by kernel_rfl) (by kernel_rfl) (by kernel_rfl) (by kernel_rfl) (by kernel_rfl) (by kernel_rfl) (fun τ r h => by
    obtain ⟨a0, ⟨⟩⟩ := τ
    obtain ⟨m, hm⟩ := Rn_bits_LeadingZeros32 a0 r h
    exact ⟨m, (top_bits_LeadingZeros32 (tb_bits_LeadingZeros32 m) a0).trans (hm m (Nat.le_refl m))⟩)

abbrev E_bits_Len64 : Env := mkE tys [] []
def c_bits_Len64 : List (Nat × Live) := [(16, ⟨[(0, .int .u64), (2, .int .i64)], [], []⟩), (28, ⟨[(0, .int .u64), (2, .int .i64)], [], []⟩), (40, ⟨[(0, .int .u64), (2, .int .i64)], [], []⟩)]
noncomputable abbrev fe_bits_Len64 := (finE (E_bits_Len64) [(.int .i64, false)] Try.f194.results.toList)
noncomputable abbrev cn_bits_Len64_16 (x0 : Int) (x2 : Int) : St := ⟨[(2, .one (.val (.int .i64) x2)), (0, .one (.val (.int .u64) x0))], []⟩
noncomputable abbrev kk_bits_Len64_16 (S : Nat → KT (RT [(.int .i64, false)])) := fun (x0 : Int) (x2 : Int) => S 16 (cn_bits_Len64_16 x0 x2)
noncomputable abbrev cn_bits_Len64_28 (x0 : Int) (x2 : Int) : St := ⟨[(2, .one (.val (.int .i64) x2)), (0, .one (.val (.int .u64) x0))], []⟩
noncomputable abbrev kk_bits_Len64_28 (S : Nat → KT (RT [(.int .i64, false)])) := fun (x0 : Int) (x2 : Int) => S 28 (cn_bits_Len64_28 x0 x2)
noncomputable abbrev cn_bits_Len64_40 (x0 : Int) (x2 : Int) : St := ⟨[(2, .one (.val (.int .i64) x2)), (0, .one (.val (.int .u64) x0))], []⟩
noncomputable abbrev kk_bits_Len64_40 (S : Nat → KT (RT [(.int .i64, false)])) := fun (x0 : Int) (x2 : Int) => S 40 (cn_bits_Len64_40 x0 x2)
theorem top_bits_Len64 (S : Nat → KT (RT [(.int .i64, false)])) (a0 : Int) : evA (E_bits_Len64) (lk c_bits_Len64) S (bodyOf Try.f194) noX (fe_bits_Len64) (fe_bits_Len64) (initSt [.int .u64] (a0, ())) = T_bits_Len64 (kk_bits_Len64_16 S) (kk_bits_Len64_28 S) (kk_bits_Len64_40 S) a0 := by kernel_rfl
theorem seg_bits_Len64_16 (S : Nat → KT (RT [(.int .i64, false)])) (x0 : Int) (x2 : Int) : stepT (entry (E_bits_Len64) (lk c_bits_Len64) S 16 (bodyOf Try.f194) noX (fe_bits_Len64) (fe_bits_Len64)) (cn_bits_Len64_16 x0 x2) = S_bits_Len64_16 (kk_bits_Len64_16 S) (kk_bits_Len64_28 S) (kk_bits_Len64_40 S) x0 x2 := by kernel_rfl
theorem seg_bits_Len64_28 (S : Nat → KT (RT [(.int .i64, false)])) (x0 : Int) (x2 : Int) : stepT (entry (E_bits_Len64) (lk c_bits_Len64) S 28 (bodyOf Try.f194) noX (fe_bits_Len64) (fe_bits_Len64)) (cn_bits_Len64_28 x0 x2) = S_bits_Len64_28 (kk_bits_Len64_16 S) (kk_bits_Len64_28 S) (kk_bits_Len64_40 S) x0 x2 := by kernel_rfl
theorem seg_bits_Len64_40 (S : Nat → KT (RT [(.int .i64, false)])) (x0 : Int) (x2 : Int) : stepT (entry (E_bits_Len64) (lk c_bits_Len64) S 40 (bodyOf Try.f194) noX (fe_bits_Len64) (fe_bits_Len64)) (cn_bits_Len64_40 x0 x2) = S_bits_Len64_40 (kk_bits_Len64_16 S) (kk_bits_Len64_28 S) (kk_bits_Len64_40 S) x0 x2 := by kernel_rfl
noncomputable abbrev tb_bits_Len64 := tab (E_bits_Len64) (lk c_bits_Len64) (bodyOf Try.f194) (fe_bits_Len64)
theorem ok_bits_Len64 : EnvOK Try.prog (E_bits_Len64) := mkE_ok tys_ok trivial trivial
theorem fs_bits_Len64 : FSound Try.prog 194 [.int .u64] [(.int .i64, false)] (fun τ => F_bits_Len64 τ.1) :=
  evG_sound (E := (E_bits_Len64)) (C := (lk c_bits_Len64)) ok_bits_Len64 mixed_ok (fn := Try.f194) (c := (bodyOf Try.f194)) (by kernel_rfl) (by kernel_rfl) (by kernel_rfl) (by kernel_rfl) (by kernel_rfl) (by kernel_rfl) (fun τ r h => by
    obtain ⟨a0, ⟨⟩⟩ := τ
    obtain ⟨m, hm⟩ := Rn_bits_Len64 (fun m => kk_bits_Len64_16 (tb_bits_Len64 m)) (fun m => kk_bits_Len64_28 (tb_bits_Len64 m)) (fun m => kk_bits_Len64_40 (tb_bits_Len64 m)) (fun m x0 x2 => (tab_succ (E_bits_Len64) (lk c_bits_Len64) (bodyOf Try.f194) (fe_bits_Len64) m 16 (cn_bits_Len64_16 x0 x2)).trans (seg_bits_Len64_16 (tb_bits_Len64 m) x0 x2)) (fun m x0 x2 => (tab_succ (E_bits_Len64) (lk c_bits_Len64) (bodyOf Try.f194) (fe_bits_Len64) m 28 (cn_bits_Len64_28 x0 x2)).trans (seg_bits_Len64_28 (tb_bits_Len64 m) x0 x2)) (fun m x0 x2 => (tab_succ (E_bits_Len64) (lk c_bits_Len64) (bodyOf Try.f194) (fe_bits_Len64) m 40 (cn_bits_Len64_40 x0 x2)).trans (seg_bits_Len64_40 (tb_bits_Len64 m) x0 x2)) a0 r h
    exact ⟨m, (top_bits_Len64 (tb_bits_Len64 m) a0).trans (hm m (Nat.le_refl m))⟩)

abbrev E_bits_LeadingZeros64 : Env := mkE tys [(194, callE [.int .u64] [(.int .i64, false)] (fun τ => F_bits_Len64 τ.1))] []
def c_bits_LeadingZeros64 : List (Nat × Live) := []
noncomputable abbrev fe_bits_LeadingZeros64 := (finE (E_bits_LeadingZeros64) [(.int .i64, false)] Try.f189.results.toList)
theorem top_bits_LeadingZeros64 (S : Nat → KT (RT [(.int .i64, false)])) (a0 : Int) : evA (E_bits_LeadingZeros64) (lk c_bits_LeadingZeros64) S (bodyOf Try.f189) noX (fe_bits_LeadingZeros64) (fe_bits_LeadingZeros64) (initSt [.int .u64] (a0, ())) = T_bits_LeadingZeros64 a0 := by kernel_rfl
noncomputable abbrev tb_bits_LeadingZeros64 := tab (E_bits_LeadingZeros64) (lk c_bits_LeadingZeros64) (bodyOf Try.f189) (fe_bits_LeadingZeros64)
theorem ok_bits_LeadingZeros64 : EnvOK Try.prog (E_bits_LeadingZeros64) := mkE_ok tys_ok ⟨⟨fs_bits_Len64.csound, ⟨Try.f194, by kernel_rfl, by kernel_rfl, by kernel_rfl⟩⟩, trivial⟩ trivial
theorem fs_bits_LeadingZeros64 : FSound Try.prog 189 [.int .u64] [(.int .i64, false)] (fun τ => F_bits_LeadingZeros64 τ.1) :=
  evG_sound (E := (E_bits_LeadingZeros64)) (C := (lk c_bits_LeadingZeros64)) ok_bits_LeadingZeros64 mixed_ok (fn := Try.f189) (c := (bodyOf Try.f189)) (by kernel_rfl) (by kernel_rfl) (by kernel_rfl) (by kernel_rfl) (by kernel_rfl) (by kernel_rfl) (fun τ r h => by
    obtain ⟨a0, ⟨⟩⟩ := τ
    obtain ⟨m, hm⟩ := Rn_bits_LeadingZeros64 a0 r h
    exact ⟨m, (top_bits_LeadingZeros64 (tb_bits_LeadingZeros64 m) a0).trans (hm m (Nat.le_refl m))⟩)

abbrev E_bits_Div64 : Env := mkE tys [(189, callE [.int .u64] [(.int .i64, false)] (fun τ => F_bits_LeadingZeros64 τ.1))] []
def c_bits_Div64 : List (Nat × Live) := [(69, ⟨[(2, .int .u64), (8, .int .u64), (9, .int .u64), (10, .int .u64), (11, .int .u64), (13, .int .u64), (14, .int .u64), (15, .int .u64), (16, .int .u64)], [], []⟩), (72, ⟨[(2, .int .u64), (8, .int .u64), (9, .int .u64), (10, .int .u64), (11, .int .u64), (13, .int .u64), (14, .int .u64), (15, .int .u64), (16, .int .u64)], [], []⟩), (97, ⟨[(2, .int .u64), (8, .int .u64), (9, .int .u64), (10, .int .u64), (14, .int .u64), (15, .int .u64), (16, .int .u64), (17, .int .u64), (18, .int .u64)], [], []⟩), (100, ⟨[(2, .int .u64), (8, .int .u64), (9, .int .u64), (10, .int .u64), (14, .int .u64), (15, .int .u64), (16, .int .u64), (17, .int .u64), (18, .int .u64)], [], []⟩)]
noncomputable abbrev fe_bits_Div64 := (finE (E_bits_Div64) [(.int .u64, false), (.int .u64, false)] Try.f176.results.toList)
noncomputable abbrev cn_bits_Div64_69 (x2 : Int) (x8 : Int) (x9 : Int) (x10 : Int) (x11 : Int) (x13 : Int) (x14 : Int) (x15 : Int) (x16 : Int) : St := ⟨[(16, .one (.val (.int .u64) x16)), (15, .one (.val (.int .u64) x15)), (14, .one (.val (.int .u64) x14)), (13, .one (.val (.int .u64) x13)), (11, .one (.val (.int .u64) x11)), (10, .one (.val (.int .u64) x10)), (9, .one (.val (.int .u64) x9)), (8, .one (.val (.int .u64) x8)), (2, .one (.val (.int .u64) x2))], []⟩
noncomputable abbrev kk_bits_Div64_69 (S : Nat → KT (RT [(.int .u64, false), (.int .u64, false)])) := fun (x2 : Int) (x8 : Int) (x9 : Int) (x10 : Int) (x11 : Int) (x13 : Int) (x14 : Int) (x15 : Int) (x16 : Int) => S 69 (cn_bits_Div64_69 x2 x8 x9 x10 x11 x13 x14 x15 x16)
noncomputable abbrev cn_bits_Div64_72 (x2 : Int) (x8 : Int) (x9 : Int) (x10 : Int) (x11 : Int) (x13 : Int) (x14 : Int) (x15 : Int) (x16 : Int) : St := ⟨[(16, .one (.val (.int .u64) x16)), (15, .one (.val (.int .u64) x15)), (14, .one (.val (.int .u64) x14)), (13, .one (.val (.int .u64) x13)), (11, .one (.val (.int .u64) x11)), (10, .one (.val (.int .u64) x10)), (9, .one (.val (.int .u64) x9)), (8, .one (.val (.int .u64) x8)), (2, .one (.val (.int .u64) x2))], []⟩
noncomputable abbrev kk_bits_Div64_72 (S : Nat → KT (RT [(.int .u64, false), (.int .u64, false)])) := fun (x2 : Int) (x8 : Int) (x9 : Int) (x10 : Int) (x11 : Int) (x13 : Int) (x14 : Int) (x15 : Int) (x16 : Int) => S 72 (cn_bits_Div64_72 x2 x8 x9 x10 x11 x13 x14 x15 x16)
noncomputable abbrev cn_bits_Div64_97 (x2 : Int) (x8 : Int) (x9 : Int) (x10 : Int) (x14 : Int) (x15 : Int) (x16 : Int) (x17 : Int) (x18 : Int) : St := ⟨[(18, .one (.val (.int .u64) x18)), (17, .one (.val (.int .u64) x17)), (16, .one (.val (.int .u64) x16)), (15, .one (.val (.int .u64) x15)), (14, .one (.val (.int .u64) x14)), (10, .one (.val (.int .u64) x10)), (9, .one (.val (.int .u64) x9)), (8, .one (.val (.int .u64) x8)), (2, .one (.val (.int .u64) x2))], []⟩
noncomputable abbrev kk_bits_Div64_97 (S : Nat → KT (RT [(.int .u64, false), (.int .u64, false)])) := fun (x2 : Int) (x8 : Int) (x9 : Int) (x10 : Int) (x14 : Int) (x15 : Int) (x16 : Int) (x17 : Int) (x18 : Int) => S 97 (cn_bits_Div64_97 x2 x8 x9 x10 x14 x15 x16 x17 x18)
noncomputable abbrev cn_bits_Div64_100 (x2 : Int) (x8 : Int) (x9 : Int) (x10 : Int) (x14 : Int) (x15 : Int) (x16 : Int) (x17 : Int) (x18 : Int) : St := ⟨[(18, .one (.val (.int .u64) x18)), (17, .one (.val (.int .u64) x17)), (16, .one (.val (.int .u64) x16)), (15, .one (.val (.int .u64) x15)), (14, .one (.val (.int .u64) x14)), (10, .one (.val (.int .u64) x10)), (9, .one (.val (.int .u64) x9)), (8, .one (.val (.int .u64) x8)), (2, .one (.val (.int .u64) x2))], []⟩
noncomputable abbrev kk_bits_Div64_100 (S : Nat → KT (RT [(.int .u64, false), (.int .u64, false)])) := fun (x2 : Int) (x8 : Int) (x9 : Int) (x10 : Int) (x14 : Int) (x15 : Int) (x16 : Int) (x17 : Int) (x18 : Int) => S 100 (cn_bits_Div64_100 x2 x8 x9 x10 x14 x15 x16 x17 x18)
theorem top_bits_Div64 (S : Nat → KT (RT [(.int .u64, false), (.int .u64, false)])) (a0 : Int) (a1 : Int) (a2 : Int) : evA (E_bits_Div64) (lk c_bits_Div64) S (bodyOf Try.f176) noX (fe_bits_Div64) (fe_bits_Div64) (initSt [.int .u64, .int .u64, .int .u64] (a0, a1, a2, ())) = T_bits_Div64 (kk_bits_Div64_69 S) (kk_bits_Div64_72 S) (kk_bits_Div64_97 S) (kk_bits_Div64_100 S) a0 a1 a2 := by kernel_rfl
theorem seg_bits_Div64_69 (S : Nat → KT (RT [(.int .u64, false), (.int .u64, false)])) (x2 : Int) (x8 : Int) (x9 : Int) (x10 : Int) (x11 : Int) (x13 : Int) (x14 : Int) (x15 : Int) (x16 : Int) : stepT (entry (E_bits_Div64) (lk c_bits_Div64) S 69 (bodyOf Try.f176) noX (fe_bits_Div64) (fe_bits_Div64)) (cn_bits_Div64_69 x2 x8 x9 x10 x11 x13 x14 x15 x16) = S_bits_Div64_69 (kk_bits_Div64_69 S) (kk_bits_Div64_72 S) (kk_bits_Div64_97 S) (kk_bits_Div64_100 S) x2 x8 x9 x10 x11 x13 x14 x15 x16 := by kernel_rfl
theorem seg_bits_Div64_72 (S : Nat → KT (RT [(.int .u64, false), (.int .u64, false)])) (x2 : Int) (x8 : Int) (x9 : Int) (x10 : Int) (x11 : Int) (x13 : Int) (x14 : Int) (x15 : Int) (x16 : Int) : stepT (entry (E_bits_Div64) (lk c_bits_Div64) S 72 (bodyOf Try.f176) noX (fe_bits_Div64) (fe_bits_Div64)) (cn_bits_Div64_72 x2 x8 x9 x10 x11 x13 x14 x15 x16) = S_bits_Div64_72 (kk_bits_Div64_69 S) (kk_bits_Div64_72 S) (kk_bits_Div64_97 S) (kk_bits_Div64_100 S) x2 x8 x9 x10 x11 x13 x14 x15 x16 := by kernel_rfl
theorem seg_bits_Div64_97 (S : Nat → KT (RT [(.int .u64, false), (.int .u64, false)])) (x2 : Int) (x8 : Int) (x9 : Int) (x10 : Int) (x14 : Int) (x15 : Int) (x16 : Int) (x17 : Int) (x18 : Int) : stepT (entry (E_bits_Div64) (lk c_bits_Div64) S 97 (bodyOf Try.f176) noX (fe_bits_Div64) (fe_bits_Div64)) (cn_bits_Div64_97 x2 x8 x9 x10 x14 x15 x16 x17 x18) = S_bits_Div64_97 (kk_bits_Div64_69 S) (kk_bits_Div64_72 S) (kk_bits_Div64_97 S) (kk_bits_Div64_100 S) x2 x8 x9 x10 x14 x15 x16 x17 x18 := by kernel_rfl
theorem seg_bits_Div64_100 (S : Nat → KT (RT [(.int .u64, false), (.int .u64, false)])) (x2 : Int) (x8 : Int) (x9 : Int) (x10 : Int) (x14 : Int) (x15 : Int) (x16 : Int) (x17 : Int) (x18 : Int) : stepT (entry (E_bits_Div64) (lk c_bits_Div64) S 100 (bodyOf Try.f176) noX (fe_bits_Div64) (fe_bits_Div64)) (cn_bits_Div64_100 x2 x8 x9 x10 x14 x15 x16 x17 x18) = S_bits_Div64_100 (kk_bits_Div64_69 S) (kk_bits_Div64_72 S) (kk_bits_Div64_97 S) (kk_bits_Div64_100 S) x2 x8 x9 x10 x14 x15 x16 x17 x18 := by kernel_rfl
noncomputable abbrev tb_bits_Div64 := tab (E_bits_Div64) (lk c_bits_Div64) (bodyOf Try.f176) (fe_bits_Div64)
theorem ok_bits_Div64 : EnvOK Try.prog (E_bits_Div64) := mkE_ok tys_ok ⟨⟨fs_bits_LeadingZeros64.csound, ⟨Try.f189, by kernel_rfl, by kernel_rfl, by kernel_rfl⟩⟩, trivial⟩ trivial
theorem fs_bits_Div64 : FSound Try.prog 176 [.int .u64, .int .u64, .int .u64] [(.int .u64, false), (.int .u64, false)] (fun τ => F_bits_Div64 τ.1 τ.2.1 τ.2.2.1) :=
  evG_sound (E := (E_bits_Div64)) (C := (lk c_bits_Div64)) ok_bits_Div64 mixed_ok (fn := Try.f176) (c := (bodyOf Try.f176)) (by kernel_rfl) (by kernel_rfl) (by kernel_rfl) (by kernel_rfl) (by kernel_rfl) (by kernel_rfl) (fun τ r h => by
    obtain ⟨a0, a1, a2, ⟨⟩⟩ := τ
    obtain ⟨m, hm⟩ := Rn_bits_Div64 (fun m => kk_bits_Div64_69 (tb_bits_Div64 m)) (fun m => kk_bits_Div64_72 (tb_bits_Div64 m)) (fun m => kk_bits_Div64_97 (tb_bits_Div64 m)) (fun m => kk_bits_Div64_100 (tb_bits_Div64 m)) (fun m x2 x8 x9 x10 x11 x13 x14 x15 x16 => (tab_succ (E_bits_Div64) (lk c_bits_Div64) (bodyOf Try.f176) (fe_bits_Div64) m 69 (cn_bits_Div64_69 x2 x8 x9 x10 x11 x13 x14 x15 x16)).trans (seg_bits_Div64_69 (tb_bits_Div64 m) x2 x8 x9 x10 x11 x13 x14 x15 x16)) (fun m x2 x8 x9 x10 x11 x13 x14 x15 x16 => (tab_succ (E_bits_Div64) (lk c_bits_Div64) (bodyOf Try.f176) (fe_bits_Div64) m 72 (cn_bits_Div64_72 x2 x8 x9 x10 x11 x13 x14 x15 x16)).trans (seg_bits_Div64_72 (tb_bits_Div64 m) x2 x8 x9 x10 x11 x13 x14 x15 x16)) (fun m x2 x8 x9 x10 x14 x15 x16 x17 x18 => (tab_succ (E_bits_Div64) (lk c_bits_Div64) (bodyOf Try.f176) (fe_bits_Div64) m 97 (cn_bits_Div64_97 x2 x8 x9 x10 x14 x15 x16 x17 x18)).trans (seg_bits_Div64_97 (tb_bits_Div64 m) x2 x8 x9 x10 x14 x15 x16 x17 x18)) (fun m x2 x8 x9 x10 x14 x15 x16 x17 x18 => (tab_succ (E_bits_Div64) (lk c_bits_Div64) (bodyOf Try.f176) (fe_bits_Div64) m 100 (cn_bits_Div64_100 x2 x8 x9 x10 x14 x15 x16 x17 x18)).trans (seg_bits_Div64_100 (tb_bits_Div64 m) x2 x8 x9 x10 x14 x15 x16 x17 x18)) a0 a1 a2 r h
    exact ⟨m, (top_bits_Div64 (tb_bits_Div64 m) a0 a1 a2).trans (hm m (Nat.le_refl m))⟩)

abbrev E_natural_Shr : Env := mkE tys [] [(133, mixO (callO [] false (.int .u32) .pre (fun τ l => O_natural_trim l)) (callI (callE [.slice (.int .u32)] [(.slice (.int .u32), false)] (fun τ => F_natural_trim τ.1))))]
def c_natural_Shr : List (Nat × Live) := [(37, ⟨[(6, .int .i64), (29, .int .i64), (30, .int .i64)], [(false, 7, .int .u32)], []⟩), (56, ⟨[(6, .int .i64), (8, .int .i64), (9, .int .u32), (29, .int .i64), (30, .int .i64)], [(false, 7, .int .u32)], []⟩)]
noncomputable abbrev fe_natural_Shr := (finE (E_natural_Shr) [(.slice (.int .u32), false)] Try.f177.results.toList)
noncomputable abbrev cn_natural_Shr_37 (x6 : Int) (x29 : Int) (x30 : Int) (x7 : List Int) : St := ⟨[(7, .one (.loc (.int .u32) 10000)), (30, .one (.val (.int .i64) x30)), (29, .one (.val (.int .i64) x29)), (6, .one (.val (.int .i64) x6))], [(10000, some ⟨.int .u32, x7, false⟩)]⟩
noncomputable abbrev kk_natural_Shr_37 (S : Nat → KT (RT [(.slice (.int .u32), false)])) := fun (x6 : Int) (x29 : Int) (x30 : Int) (x7 : List Int) => S 37 (cn_natural_Shr_37 x6 x29 x30 x7)
noncomputable abbrev cn_natural_Shr_56 (x6 : Int) (x8 : Int) (x9 : Int) (x29 : Int) (x30 : Int) (x7 : List Int) : St := ⟨[(7, .one (.loc (.int .u32) 10000)), (30, .one (.val (.int .i64) x30)), (29, .one (.val (.int .i64) x29)), (9, .one (.val (.int .u32) x9)), (8, .one (.val (.int .i64) x8)), (6, .one (.val (.int .i64) x6))], [(10000, some ⟨.int .u32, x7, false⟩)]⟩
noncomputable abbrev kk_natural_Shr_56 (S : Nat → KT (RT [(.slice (.int .u32), false)])) := fun (x6 : Int) (x8 : Int) (x9 : Int) (x29 : Int) (x30 : Int) (x7 : List Int) => S 56 (cn_natural_Shr_56 x6 x8 x9 x29 x30 x7)
theorem top_natural_Shr (S : Nat → KT (RT [(.slice (.int .u32), false)])) (a0 : List Int) (a1 : Int) : evA (E_natural_Shr) (lk c_natural_Shr) S (bodyOf Try.f177) noX (fe_natural_Shr) (fe_natural_Shr) (initSt [.slice (.int .u32), .int .i64] (a0, a1, ())) = T_natural_Shr (kk_natural_Shr_37 S) (kk_natural_Shr_56 S) a0 a1 := by kernel_rfl
theorem seg_natural_Shr_37 (S : Nat → KT (RT [(.slice (.int .u32), false)])) (x6 : Int) (x29 : Int) (x30 : Int) (x7 : List Int) : stepT (entry (E_natural_Shr) (lk c_natural_Shr) S 37 (bodyOf Try.f177) noX (fe_natural_Shr) (fe_natural_Shr)) (cn_natural_Shr_37 x6 x29 x30 x7) = S_natural_Shr_37 (kk_natural_Shr_37 S) (kk_natural_Shr_56 S) x6 x29 x30 x7 := by kernel_rfl
theorem seg_natural_Shr_56 (S : Nat → KT (RT [(.slice (.int .u32), false)])) (x6 : Int) (x8 : Int) (x9 : Int) (x29 : Int) (x30 : Int) (x7 : List Int) : stepT (entry (E_natural_Shr) (lk c_natural_Shr) S 56 (bodyOf Try.f177) noX (fe_natural_Shr) (fe_natural_Shr)) (cn_natural_Shr_56 x6 x8 x9 x29 x30 x7) = S_natural_Shr_56 (kk_natural_Shr_37 S) (kk_natural_Shr_56 S) x6 x8 x9 x29 x30 x7 := by kernel_rfl
noncomputable abbrev tb_natural_Shr := tab (E_natural_Shr) (lk c_natural_Shr) (bodyOf Try.f177) (fe_natural_Shr)
theorem ok_natural_Shr : EnvOK Try.prog (E_natural_Shr) := mkE_ok tys_ok trivial ⟨⟨PSound.mix os_natural_trim.psound (CSound.psound fs_natural_trim.csound), ⟨Try.f133, by kernel_rfl, by kernel_rfl, by kernel_rfl⟩⟩, trivial⟩
theorem fs_natural_Shr : FSound Try.prog 177 [.slice (.int .u32), .int .i64] [(.slice (.int .u32), false)] (fun τ => F_natural_Shr τ.1 τ.2.1) :=
  evG_sound (E := (E_natural_Shr)) (C := (lk c_natural_Shr)) ok_natural_Shr mixed_ok (fn := Try.f177) (c := (bodyOf Try.f177)) (by kernel_rfl) (by kernel_rfl) (by kernel_rfl) (by kernel_rfl) (by kernel_rfl) (by kernel_rfl) (fun τ r h => by
    obtain ⟨a0, a1, ⟨⟩⟩ := τ
    obtain ⟨m, hm⟩ := Rn_natural_Shr (fun m => kk_natural_Shr_37 (tb_natural_Shr m)) (fun m => kk_natural_Shr_56 (tb_natural_Shr m)) (fun m x6 x29 x30 x7 => (tab_succ (E_natural_Shr) (lk c_natural_Shr) (bodyOf Try.f177) (fe_natural_Shr) m 37 (cn_natural_Shr_37 x6 x29 x30 x7)).trans (seg_natural_Shr_37 (tb_natural_Shr m) x6 x29 x30 x7)) (fun m x6 x8 x9 x29 x30 x7 => (tab_succ (E_natural_Shr) (lk c_natural_Shr) (bodyOf Try.f177) (fe_natural_Shr) m 56 (cn_natural_Shr_56 x6 x8 x9 x29 x30 x7)).trans (seg_natural_Shr_56 (tb_natural_Shr m) x6 x8 x9 x29 x30 x7)) a0 a1 r h
    exact ⟨m, (top_natural_Shr (tb_natural_Shr m) a0 a1).trans (hm m (Nat.le_refl m))⟩)

abbrev E_division_long : Env := mkE tys [(102, callE [.int .u64] [(.slice (.int .u32), false)] (fun τ => F_natural_Of τ.1)), (135, callE [.slice (.int .u32)] [(.slice (.int .u32), true)] (fun τ => F_natural_Normal τ.1)), (142, callE [.slice (.int .u32), .slice (.int .u32)] [(.int .i64, false)] (fun τ => F_natural_Cmp τ.1 τ.2.1)), (149, callE [.int .u32, .int .u32, .int .u32] [(.int .u32, false), (.int .u32, false)] (fun τ => F_bits_Add32 τ.1 τ.2.1 τ.2.2.1)), (156, callE [.slice (.int .u32), .int .i64] [(.slice (.int .u32), true)] (fun τ => F_natural_Shl τ.1 τ.2.1)), (170, callE [.slice (.int .u32), .int .u32] [(.slice (.int .u32), false), (.int .u32, false), (.bool, false)] (fun τ => F_natural_DivSmall τ.1 τ.2.1)), (175, callE [.int .u32] [(.int .i64, false)] (fun τ => F_bits_LeadingZeros32 τ.1)), (176, callE [.int .u64, .int .u64, .int .u64] [(.int .u64, false), (.int .u64, false)] (fun τ => F_bits_Div64 τ.1 τ.2.1 τ.2.2.1)), (177, callE [.slice (.int .u32), .int .i64] [(.slice (.int .u32), false)] (fun τ => F_natural_Shr τ.1 τ.2.1))] []
def c_division_long : List (Nat × Live) := [(57, ⟨[(6, .int .i64), (10, .int .i64), (13, .int .u64), (14, .int .u64), (15, .int .i64)], [(false, 4, .int .u32), (false, 11, .int .u32), (false, 12, .int .u32)], []⟩), (69, ⟨[(6, .int .i64), (10, .int .i64), (13, .int .u64), (14, .int .u64), (15, .int .i64), (16, .int .u64), (17, .int .u64)], [(false, 4, .int .u32), (false, 11, .int .u32), (false, 12, .int .u32)], []⟩), (93, ⟨[(6, .int .i64), (10, .int .i64), (13, .int .u64), (14, .int .u64), (15, .int .i64), (16, .int .u64), (18, .int .u64), (19, .int .u64), (142, .int .i64), (143, .int .i64)], [(false, 4, .int .u32), (false, 11, .int .u32), (false, 12, .int .u32)], [141]⟩), (153, ⟨[(6, .int .i64), (10, .int .i64), (13, .int .u64), (14, .int .u64), (15, .int .i64), (25, .int .u32), (211, .int .i64), (212, .int .i64)], [(false, 4, .int .u32), (false, 11, .int .u32), (false, 12, .int .u32)], [210]⟩)]
noncomputable abbrev fe_division_long := (finE (E_division_long) [(.slice (.int .u32), false), (.slice (.int .u32), false)] Try.f154.results.toList)
noncomputable abbrev cn_division_long_57 (x6 : Int) (x10 : Int) (x13 : Int) (x14 : Int) (x15 : Int) (x4 : List Int) (x11 : List Int) (x12 : List Int) : St := ⟨[(12, .one (.loc (.int .u32) 10002)), (11, .one (.loc (.int .u32) 10001)), (4, .one (.loc (.int .u32) 10000)), (15, .one (.val (.int .i64) x15)), (14, .one (.val (.int .u64) x14)), (13, .one (.val (.int .u64) x13)), (10, .one (.val (.int .i64) x10)), (6, .one (.val (.int .i64) x6))], [(10002, some ⟨.int .u32, x12, false⟩), (10001, some ⟨.int .u32, x11, false⟩), (10000, some ⟨.int .u32, x4, false⟩)]⟩
noncomputable abbrev kk_division_long_57 (S : Nat → KT (RT [(.slice (.int .u32), false), (.slice (.int .u32), false)])) := fun (x6 : Int) (x10 : Int) (x13 : Int) (x14 : Int) (x15 : Int) (x4 : List Int) (x11 : List Int) (x12 : List Int) => S 57 (cn_division_long_57 x6 x10 x13 x14 x15 x4 x11 x12)
noncomputable abbrev cn_division_long_69 (x6 : Int) (x10 : Int) (x13 : Int) (x14 : Int) (x15 : Int) (x16 : Int) (x17 : Int) (x4 : List Int) (x11 : List Int) (x12 : List Int) : St := ⟨[(12, .one (.loc (.int .u32) 10002)), (11, .one (.loc (.int .u32) 10001)), (4, .one (.loc (.int .u32) 10000)), (17, .one (.val (.int .u64) x17)), (16, .one (.val (.int .u64) x16)), (15, .one (.val (.int .i64) x15)), (14, .one (.val (.int .u64) x14)), (13, .one (.val (.int .u64) x13)), (10, .one (.val (.int .i64) x10)), (6, .one (.val (.int .i64) x6))], [(10002, some ⟨.int .u32, x12, false⟩), (10001, some ⟨.int .u32, x11, false⟩), (10000, some ⟨.int .u32, x4, false⟩)]⟩
noncomputable abbrev kk_division_long_69 (S : Nat → KT (RT [(.slice (.int .u32), false), (.slice (.int .u32), false)])) := fun (x6 : Int) (x10 : Int) (x13 : Int) (x14 : Int) (x15 : Int) (x16 : Int) (x17 : Int) (x4 : List Int) (x11 : List Int) (x12 : List Int) => S 69 (cn_division_long_69 x6 x10 x13 x14 x15 x16 x17 x4 x11 x12)
noncomputable abbrev cn_division_long_93 (x6 : Int) (x10 : Int) (x13 : Int) (x14 : Int) (x15 : Int) (x16 : Int) (x18 : Int) (x19 : Int) (x142 : Int) (x143 : Int) (x4 : List Int) (x11 : List Int) (x12 : List Int) : St := ⟨[(141, .one (.loc (.int .u32) 10001)), (12, .one (.loc (.int .u32) 10002)), (11, .one (.loc (.int .u32) 10001)), (4, .one (.loc (.int .u32) 10000)), (143, .one (.val (.int .i64) x143)), (142, .one (.val (.int .i64) x142)), (19, .one (.val (.int .u64) x19)), (18, .one (.val (.int .u64) x18)), (16, .one (.val (.int .u64) x16)), (15, .one (.val (.int .i64) x15)), (14, .one (.val (.int .u64) x14)), (13, .one (.val (.int .u64) x13)), (10, .one (.val (.int .i64) x10)), (6, .one (.val (.int .i64) x6))], [(10002, some ⟨.int .u32, x12, false⟩), (10001, some ⟨.int .u32, x11, false⟩), (10000, some ⟨.int .u32, x4, false⟩)]⟩
noncomputable abbrev kk_division_long_93 (S : Nat → KT (RT [(.slice (.int .u32), false), (.slice (.int .u32), false)])) := fun (x6 : Int) (x10 : Int) (x13 : Int) (x14 : Int) (x15 : Int) (x16 : Int) (x18 : Int) (x19 : Int) (x142 : Int) (x143 : Int) (x4 : List Int) (x11 : List Int) (x12 : List Int) => S 93 (cn_division_long_93 x6 x10 x13 x14 x15 x16 x18 x19 x142 x143 x4 x11 x12)
noncomputable abbrev cn_division_long_153 (x6 : Int) (x10 : Int) (x13 : Int) (x14 : Int) (x15 : Int) (x25 : Int) (x211 : Int) (x212 : Int) (x4 : List Int) (x11 : List Int) (x12 : List Int) : St := ⟨[(210, .one (.loc (.int .u32) 10001)), (12, .one (.loc (.int .u32) 10002)), (11, .one (.loc (.int .u32) 10001)), (4, .one (.loc (.int .u32) 10000)), (212, .one (.val (.int .i64) x212)), (211, .one (.val (.int .i64) x211)), (25, .one (.val (.int .u32) x25)), (15, .one (.val (.int .i64) x15)), (14, .one (.val (.int .u64) x14)), (13, .one (.val (.int .u64) x13)), (10, .one (.val (.int .i64) x10)), (6, .one (.val (.int .i64) x6))], [(10002, some ⟨.int .u32, x12, false⟩), (10001, some ⟨.int .u32, x11, false⟩), (10000, some ⟨.int .u32, x4, false⟩)]⟩
noncomputable abbrev kk_division_long_153 (S : Nat → KT (RT [(.slice (.int .u32), false), (.slice (.int .u32), false)])) := fun (x6 : Int) (x10 : Int) (x13 : Int) (x14 : Int) (x15 : Int) (x25 : Int) (x211 : Int) (x212 : Int) (x4 : List Int) (x11 : List Int) (x12 : List Int) => S 153 (cn_division_long_153 x6 x10 x13 x14 x15 x25 x211 x212 x4 x11 x12)
theorem top_division_long (S : Nat → KT (RT [(.slice (.int .u32), false), (.slice (.int .u32), false)])) (a0 : List Int) (a1 : List Int) : evA (E_division_long) (lk c_division_long) S (bodyOf Try.f154) noX (fe_division_long) (fe_division_long) (initSt [.slice (.int .u32), .slice (.int .u32)] (a0, a1, ())) = T_division_long (kk_division_long_57 S) (kk_division_long_69 S) (kk_division_long_93 S) (kk_division_long_153 S) a0 a1 := by kernel_rfl
theorem seg_division_long_57 (S : Nat → KT (RT [(.slice (.int .u32), false), (.slice (.int .u32), false)])) (x6 : Int) (x10 : Int) (x13 : Int) (x14 : Int) (x15 : Int) (x4 : List Int) (x11 : List Int) (x12 : List Int) : stepT (entry (E_division_long) (lk c_division_long) S 57 (bodyOf Try.f154) noX (fe_division_long) (fe_division_long)) (cn_division_long_57 x6 x10 x13 x14 x15 x4 x11 x12) = S_division_long_57 (kk_division_long_57 S) (kk_division_long_69 S) (kk_division_long_93 S) (kk_division_long_153 S) x6 x10 x13 x14 x15 x4 x11 x12 := by kernel_rfl
theorem seg_division_long_69 (S : Nat → KT (RT [(.slice (.int .u32), false), (.slice (.int .u32), false)])) (x6 : Int) (x10 : Int) (x13 : Int) (x14 : Int) (x15 : Int) (x16 : Int) (x17 : Int) (x4 : List Int) (x11 : List Int) (x12 : List Int) : stepT (entry (E_division_long) (lk c_division_long) S 69 (bodyOf Try.f154) noX (fe_division_long) (fe_division_long)) (cn_division_long_69 x6 x10 x13 x14 x15 x16 x17 x4 x11 x12) = S_division_long_69 (kk_division_long_57 S) (kk_division_long_69 S) (kk_division_long_93 S) (kk_division_long_153 S) x6 x10 x13 x14 x15 x16 x17 x4 x11 x12 := by kernel_rfl
theorem seg_division_long_93 (S : Nat → KT (RT [(.slice (.int .u32), false), (.slice (.int .u32), false)])) (x6 : Int) (x10 : Int) (x13 : Int) (x14 : Int) (x15 : Int) (x16 : Int) (x18 : Int) (x19 : Int) (x142 : Int) (x143 : Int) (x4 : List Int) (x11 : List Int) (x12 : List Int) : stepT (entry (E_division_long) (lk c_division_long) S 93 (bodyOf Try.f154) noX (fe_division_long) (fe_division_long)) (cn_division_long_93 x6 x10 x13 x14 x15 x16 x18 x19 x142 x143 x4 x11 x12) = S_division_long_93 (kk_division_long_57 S) (kk_division_long_69 S) (kk_division_long_93 S) (kk_division_long_153 S) x6 x10 x13 x14 x15 x16 x18 x19 x142 x143 x4 x11 x12 := by kernel_rfl
theorem seg_division_long_153 (S : Nat → KT (RT [(.slice (.int .u32), false), (.slice (.int .u32), false)])) (x6 : Int) (x10 : Int) (x13 : Int) (x14 : Int) (x15 : Int) (x25 : Int) (x211 : Int) (x212 : Int) (x4 : List Int) (x11 : List Int) (x12 : List Int) : stepT (entry (E_division_long) (lk c_division_long) S 153 (bodyOf Try.f154) noX (fe_division_long) (fe_division_long)) (cn_division_long_153 x6 x10 x13 x14 x15 x25 x211 x212 x4 x11 x12) = S_division_long_153 (kk_division_long_57 S) (kk_division_long_69 S) (kk_division_long_93 S) (kk_division_long_153 S) x6 x10 x13 x14 x15 x25 x211 x212 x4 x11 x12 := by kernel_rfl
noncomputable abbrev tb_division_long := tab (E_division_long) (lk c_division_long) (bodyOf Try.f154) (fe_division_long)
theorem ok_division_long : EnvOK Try.prog (E_division_long) := mkE_ok tys_ok ⟨⟨fs_natural_Of.csound, ⟨Try.f102, by kernel_rfl, by kernel_rfl, by kernel_rfl⟩⟩, ⟨fs_natural_Normal.csound, ⟨Try.f135, by kernel_rfl, by kernel_rfl, by kernel_rfl⟩⟩, ⟨fs_natural_Cmp.csound, ⟨Try.f142, by kernel_rfl, by kernel_rfl, by kernel_rfl⟩⟩, ⟨fs_bits_Add32.csound, ⟨Try.f149, by kernel_rfl, by kernel_rfl, by kernel_rfl⟩⟩, ⟨fs_natural_Shl.csound, ⟨Try.f156, by kernel_rfl, by kernel_rfl, by kernel_rfl⟩⟩, ⟨fs_natural_DivSmall.csound, ⟨Try.f170, by kernel_rfl, by kernel_rfl, by kernel_rfl⟩⟩, ⟨fs_bits_LeadingZeros32.csound, ⟨Try.f175, by kernel_rfl, by kernel_rfl, by kernel_rfl⟩⟩, ⟨fs_bits_Div64.csound, ⟨Try.f176, by kernel_rfl, by kernel_rfl, by kernel_rfl⟩⟩, ⟨fs_natural_Shr.csound, ⟨Try.f177, by kernel_rfl, by kernel_rfl, by kernel_rfl⟩⟩, trivial⟩ trivial
theorem fs_division_long : FSound Try.prog 154 [.slice (.int .u32), .slice (.int .u32)] [(.slice (.int .u32), false), (.slice (.int .u32), false)] (fun τ => F_division_long τ.1 τ.2.1) :=
  evG_sound (E := (E_division_long)) (C := (lk c_division_long)) ok_division_long mixed_ok (fn := Try.f154) (c := (bodyOf Try.f154)) (by kernel_rfl) (by kernel_rfl) (by kernel_rfl) (by kernel_rfl) (by kernel_rfl) (by kernel_rfl) (fun τ r h => by
    obtain ⟨a0, a1, ⟨⟩⟩ := τ
    obtain ⟨m, hm⟩ := Rn_division_long (fun m => kk_division_long_57 (tb_division_long m)) (fun m => kk_division_long_69 (tb_division_long m)) (fun m => kk_division_long_93 (tb_division_long m)) (fun m => kk_division_long_153 (tb_division_long m)) (fun m x6 x10 x13 x14 x15 x4 x11 x12 => (tab_succ (E_division_long) (lk c_division_long) (bodyOf Try.f154) (fe_division_long) m 57 (cn_division_long_57 x6 x10 x13 x14 x15 x4 x11 x12)).trans (seg_division_long_57 (tb_division_long m) x6 x10 x13 x14 x15 x4 x11 x12)) (fun m x6 x10 x13 x14 x15 x16 x17 x4 x11 x12 => (tab_succ (E_division_long) (lk c_division_long) (bodyOf Try.f154) (fe_division_long) m 69 (cn_division_long_69 x6 x10 x13 x14 x15 x16 x17 x4 x11 x12)).trans (seg_division_long_69 (tb_division_long m) x6 x10 x13 x14 x15 x16 x17 x4 x11 x12)) (fun m x6 x10 x13 x14 x15 x16 x18 x19 x142 x143 x4 x11 x12 => (tab_succ (E_division_long) (lk c_division_long) (bodyOf Try.f154) (fe_division_long) m 93 (cn_division_long_93 x6 x10 x13 x14 x15 x16 x18 x19 x142 x143 x4 x11 x12)).trans (seg_division_long_93 (tb_division_long m) x6 x10 x13 x14 x15 x16 x18 x19 x142 x143 x4 x11 x12)) (fun m x6 x10 x13 x14 x15 x25 x211 x212 x4 x11 x12 => (tab_succ (E_division_long) (lk c_division_long) (bodyOf Try.f154) (fe_division_long) m 153 (cn_division_long_153 x6 x10 x13 x14 x15 x25 x211 x212 x4 x11 x12)).trans (seg_division_long_153 (tb_division_long m) x6 x10 x13 x14 x15 x25 x211 x212 x4 x11 x12)) a0 a1 r h
    exact ⟨m, (top_division_long (tb_division_long m) a0 a1).trans (hm m (Nat.le_refl m))⟩)

abbrev E_division_Quo : Env := mkE tys [(134, callE [.bool, .slice (.int .u32)] [(.pair (.bool) (.slice (.int .u32)), false)] (fun τ => F_integer_From τ.1 τ.2.1)), (137, callE [.pair (.bool) (.slice (.int .u32))] [(.bool, false)] (fun τ => F_division_zero τ.1)), (154, callE [.slice (.int .u32), .slice (.int .u32)] [(.slice (.int .u32), false), (.slice (.int .u32), false)] (fun τ => F_division_long τ.1 τ.2.1))] []
def c_division_Quo : List (Nat × Live) := []
noncomputable abbrev fe_division_Quo := (finE (E_division_Quo) [(.pair (.bool) (.slice (.int .u32)), false), (.pair (.bool) (.slice (.int .u32)), false), (.int .i64, false)] Try.f136.results.toList)
theorem top_division_Quo (S : Nat → KT (RT [(.pair (.bool) (.slice (.int .u32)), false), (.pair (.bool) (.slice (.int .u32)), false), (.int .i64, false)])) (a0 : Bool × List Int) (a1 : Bool × List Int) : evA (E_division_Quo) (lk c_division_Quo) S (bodyOf Try.f136) noX (fe_division_Quo) (fe_division_Quo) (initSt [.pair (.bool) (.slice (.int .u32)), .pair (.bool) (.slice (.int .u32))] (a0, a1, ())) = T_division_Quo a0 a1 := by kernel_rfl
noncomputable abbrev tb_division_Quo := tab (E_division_Quo) (lk c_division_Quo) (bodyOf Try.f136) (fe_division_Quo)
theorem ok_division_Quo : EnvOK Try.prog (E_division_Quo) := mkE_ok tys_ok ⟨⟨fs_integer_From.csound, ⟨Try.f134, by kernel_rfl, by kernel_rfl, by kernel_rfl⟩⟩, ⟨fs_division_zero.csound, ⟨Try.f137, by kernel_rfl, by kernel_rfl, by kernel_rfl⟩⟩, ⟨fs_division_long.csound, ⟨Try.f154, by kernel_rfl, by kernel_rfl, by kernel_rfl⟩⟩, trivial⟩ trivial
theorem fs_division_Quo : FSound Try.prog 136 [.pair (.bool) (.slice (.int .u32)), .pair (.bool) (.slice (.int .u32))] [(.pair (.bool) (.slice (.int .u32)), false), (.pair (.bool) (.slice (.int .u32)), false), (.int .i64, false)] (fun τ => F_division_Quo τ.1 τ.2.1) :=
  evG_sound (E := (E_division_Quo)) (C := (lk c_division_Quo)) ok_division_Quo mixed_ok (fn := Try.f136) (c := (bodyOf Try.f136)) (by kernel_rfl) (by kernel_rfl) (by kernel_rfl) (by kernel_rfl) (by kernel_rfl) (by kernel_rfl) (fun τ r h => by
    obtain ⟨a0, a1, ⟨⟩⟩ := τ
    obtain ⟨m, hm⟩ := Rn_division_Quo a0 a1 r h
    exact ⟨m, (top_division_Quo (tb_division_Quo m) a0 a1).trans (hm m (Nat.le_refl m))⟩)

abbrev E_division_Exact : Env := mkE tys [(136, callE [.pair (.bool) (.slice (.int .u32)), .pair (.bool) (.slice (.int .u32))] [(.pair (.bool) (.slice (.int .u32)), false), (.pair (.bool) (.slice (.int .u32)), false), (.int .i64, false)] (fun τ => F_division_Quo τ.1 τ.2.1)), (137, callE [.pair (.bool) (.slice (.int .u32))] [(.bool, false)] (fun τ => F_division_zero τ.1))] []
def c_division_Exact : List (Nat × Live) := []
noncomputable abbrev fe_division_Exact := (finE (E_division_Exact) [(.pair (.bool) (.slice (.int .u32)), false), (.int .i64, false)] Try.f96.results.toList)
theorem top_division_Exact (S : Nat → KT (RT [(.pair (.bool) (.slice (.int .u32)), false), (.int .i64, false)])) (a0 : Bool × List Int) (a1 : Bool × List Int) : evA (E_division_Exact) (lk c_division_Exact) S (bodyOf Try.f96) noX (fe_division_Exact) (fe_division_Exact) (initSt [.pair (.bool) (.slice (.int .u32)), .pair (.bool) (.slice (.int .u32))] (a0, a1, ())) = T_division_Exact a0 a1 := by kernel_rfl
noncomputable abbrev tb_division_Exact := tab (E_division_Exact) (lk c_division_Exact) (bodyOf Try.f96) (fe_division_Exact)
theorem ok_division_Exact : EnvOK Try.prog (E_division_Exact) := mkE_ok tys_ok ⟨⟨fs_division_Quo.csound, ⟨Try.f136, by kernel_rfl, by kernel_rfl, by kernel_rfl⟩⟩, ⟨fs_division_zero.csound, ⟨Try.f137, by kernel_rfl, by kernel_rfl, by kernel_rfl⟩⟩, trivial⟩ trivial
theorem fs_division_Exact : FSound Try.prog 96 [.pair (.bool) (.slice (.int .u32)), .pair (.bool) (.slice (.int .u32))] [(.pair (.bool) (.slice (.int .u32)), false), (.int .i64, false)] (fun τ => F_division_Exact τ.1 τ.2.1) :=
  evG_sound (E := (E_division_Exact)) (C := (lk c_division_Exact)) ok_division_Exact mixed_ok (fn := Try.f96) (c := (bodyOf Try.f96)) (by kernel_rfl) (by kernel_rfl) (by kernel_rfl) (by kernel_rfl) (by kernel_rfl) (by kernel_rfl) (fun τ r h => by
    obtain ⟨a0, a1, ⟨⟩⟩ := τ
    obtain ⟨m, hm⟩ := Rn_division_Exact a0 a1 r h
    exact ⟨m, (top_division_Exact (tb_division_Exact m) a0 a1).trans (hm m (Nat.le_refl m))⟩)

abbrev E_rational_isOne : Env := mkE tys [] []
def c_rational_isOne : List (Nat × Live) := []
noncomputable abbrev fe_rational_isOne := (finE (E_rational_isOne) [(.bool, false)] Try.f117.results.toList)
theorem top_rational_isOne (S : Nat → KT (RT [(.bool, false)])) (a0 : List Int) : evA (E_rational_isOne) (lk c_rational_isOne) S (bodyOf Try.f117) noX (fe_rational_isOne) (fe_rational_isOne) (initSt [.slice (.int .u32)] (a0, ())) = T_rational_isOne a0 := by kernel_rfl
noncomputable abbrev tb_rational_isOne := tab (E_rational_isOne) (lk c_rational_isOne) (bodyOf Try.f117) (fe_rational_isOne)
theorem ok_rational_isOne : EnvOK Try.prog (E_rational_isOne) := mkE_ok tys_ok trivial trivial
theorem fs_rational_isOne : FSound Try.prog 117 [.slice (.int .u32)] [(.bool, false)] (fun τ => F_rational_isOne τ.1) :=
  evG_sound (E := (E_rational_isOne)) (C := (lk c_rational_isOne)) ok_rational_isOne mixed_ok (fn := Try.f117) (c := (bodyOf Try.f117)) (by kernel_rfl) (by kernel_rfl) (by kernel_rfl) (by kernel_rfl) (by kernel_rfl) (by kernel_rfl) (fun τ r h => by
    obtain ⟨a0, ⟨⟩⟩ := τ
    obtain ⟨m, hm⟩ := Rn_rational_isOne a0 r h
    exact ⟨m, (top_rational_isOne (tb_rational_isOne m) a0).trans (hm m (Nat.le_refl m))⟩)

abbrev E_natural_Uint64 : Env := mkE tys [] [(133, mixO (callO [] false (.int .u32) .pre (fun τ l => O_natural_trim l)) (callI (callE [.slice (.int .u32)] [(.slice (.int .u32), false)] (fun τ => F_natural_trim τ.1))))]
def c_natural_Uint64 : List (Nat × Live) := []
noncomputable abbrev fe_natural_Uint64 := (finE (E_natural_Uint64) [(.int .u64, false), (.bool, false)] Try.f153.results.toList)
theorem top_natural_Uint64 (S : Nat → KT (RT [(.int .u64, false), (.bool, false)])) (a0 : List Int) : evA (E_natural_Uint64) (lk c_natural_Uint64) S (bodyOf Try.f153) noX (fe_natural_Uint64) (fe_natural_Uint64) (initSt [.slice (.int .u32)] (a0, ())) = T_natural_Uint64 a0 := by kernel_rfl
noncomputable abbrev tb_natural_Uint64 := tab (E_natural_Uint64) (lk c_natural_Uint64) (bodyOf Try.f153) (fe_natural_Uint64)
theorem ok_natural_Uint64 : EnvOK Try.prog (E_natural_Uint64) := mkE_ok tys_ok trivial ⟨⟨PSound.mix os_natural_trim.psound (CSound.psound fs_natural_trim.csound), ⟨Try.f133, by kernel_rfl, by kernel_rfl, by kernel_rfl⟩⟩, trivial⟩
theorem fs_natural_Uint64 : FSound Try.prog 153 [.slice (.int .u32)] [(.int .u64, false), (.bool, false)] (fun τ => F_natural_Uint64 τ.1) :=
  evG_sound (E := (E_natural_Uint64)) (C := (lk c_natural_Uint64)) ok_natural_Uint64 mixed_ok (fn := Try.f153) (c := (bodyOf Try.f153)) (by kernel_rfl) (by kernel_rfl) (by kernel_rfl) (by kernel_rfl) (by kernel_rfl) (by kernel_rfl) (fun τ r h => by
    obtain ⟨a0, ⟨⟩⟩ := τ
    obtain ⟨m, hm⟩ := Rn_natural_Uint64 a0 r h
    exact ⟨m, (top_natural_Uint64 (tb_natural_Uint64 m) a0).trans (hm m (Nat.le_refl m))⟩)

abbrev E_division_Gcd : Env := mkE tys [(102, callE [.int .u64] [(.slice (.int .u32), false)] (fun τ => F_natural_Of τ.1)), (134, callE [.bool, .slice (.int .u32)] [(.pair (.bool) (.slice (.int .u32)), false)] (fun τ => F_integer_From τ.1 τ.2.1)), (135, callE [.slice (.int .u32)] [(.slice (.int .u32), true)] (fun τ => F_natural_Normal τ.1)), (153, callE [.slice (.int .u32)] [(.int .u64, false), (.bool, false)] (fun τ => F_natural_Uint64 τ.1)), (154, callE [.slice (.int .u32), .slice (.int .u32)] [(.slice (.int .u32), false), (.slice (.int .u32), false)] (fun τ => F_division_long τ.1 τ.2.1))] []
def c_division_Gcd : List (Nat × Live) := [(9, ⟨[(5, .slice (.int .u32)), (6, .slice (.int .u32))], [(true, 4, .pair (.bool) (.slice (.int .u32)))], []⟩), (29, ⟨[(7, .int .u64), (9, .int .u64)], [(true, 4, .pair (.bool) (.slice (.int .u32)))], []⟩)]
noncomputable abbrev fe_division_Gcd := (finE (E_division_Gcd) [(.pair (.bool) (.slice (.int .u32)), false)] Try.f121.results.toList)
noncomputable abbrev cn_division_Gcd_9 (x5 : List Int) (x6 : List Int) (x4 : Bool × List Int) : St := ⟨[(4, .one (.ptr 10000 0 [])), (6, .one (.val (.slice (.int .u32)) x6)), (5, .one (.val (.slice (.int .u32)) x5))], [(10000, some ⟨.pair (.bool) (.slice (.int .u32)), [x4], false⟩)]⟩
noncomputable abbrev kk_division_Gcd_9 (S : Nat → KT (RT [(.pair (.bool) (.slice (.int .u32)), false)])) := fun (x5 : List Int) (x6 : List Int) (x4 : Bool × List Int) => S 9 (cn_division_Gcd_9 x5 x6 x4)
noncomputable abbrev cn_division_Gcd_29 (x7 : Int) (x9 : Int) (x4 : Bool × List Int) : St := ⟨[(4, .one (.ptr 10000 0 [])), (9, .one (.val (.int .u64) x9)), (7, .one (.val (.int .u64) x7))], [(10000, some ⟨.pair (.bool) (.slice (.int .u32)), [x4], false⟩)]⟩
noncomputable abbrev kk_division_Gcd_29 (S : Nat → KT (RT [(.pair (.bool) (.slice (.int .u32)), false)])) := fun (x7 : Int) (x9 : Int) (x4 : Bool × List Int) => S 29 (cn_division_Gcd_29 x7 x9 x4)
theorem top_division_Gcd (S : Nat → KT (RT [(.pair (.bool) (.slice (.int .u32)), false)])) (a0 : Bool × List Int) (a1 : Bool × List Int) : evA (E_division_Gcd) (lk c_division_Gcd) S (bodyOf Try.f121) noX (fe_division_Gcd) (fe_division_Gcd) (initSt [.pair (.bool) (.slice (.int .u32)), .pair (.bool) (.slice (.int .u32))] (a0, a1, ())) = T_division_Gcd (kk_division_Gcd_9 S) (kk_division_Gcd_29 S) a0 a1 := by kernel_rfl
theorem seg_division_Gcd_9 (S : Nat → KT (RT [(.pair (.bool) (.slice (.int .u32)), false)])) (x5 : List Int) (x6 : List Int) (x4 : Bool × List Int) : stepT (entry (E_division_Gcd) (lk c_division_Gcd) S 9 (bodyOf Try.f121) noX (fe_division_Gcd) (fe_division_Gcd)) (cn_division_Gcd_9 x5 x6 x4) = S_division_Gcd_9 (kk_division_Gcd_9 S) (kk_division_Gcd_29 S) x5 x6 x4 := by kernel_rfl
theorem seg_division_Gcd_29 (S : Nat → KT (RT [(.pair (.bool) (.slice (.int .u32)), false)])) (x7 : Int) (x9 : Int) (x4 : Bool × List Int) : stepT (entry (E_division_Gcd) (lk c_division_Gcd) S 29 (bodyOf Try.f121) noX (fe_division_Gcd) (fe_division_Gcd)) (cn_division_Gcd_29 x7 x9 x4) = S_division_Gcd_29 (kk_division_Gcd_9 S) (kk_division_Gcd_29 S) x7 x9 x4 := by kernel_rfl
noncomputable abbrev tb_division_Gcd := tab (E_division_Gcd) (lk c_division_Gcd) (bodyOf Try.f121) (fe_division_Gcd)
theorem ok_division_Gcd : EnvOK Try.prog (E_division_Gcd) := mkE_ok tys_ok ⟨⟨fs_natural_Of.csound, ⟨Try.f102, by kernel_rfl, by kernel_rfl, by kernel_rfl⟩⟩, ⟨fs_integer_From.csound, ⟨Try.f134, by kernel_rfl, by kernel_rfl, by kernel_rfl⟩⟩, ⟨fs_natural_Normal.csound, ⟨Try.f135, by kernel_rfl, by kernel_rfl, by kernel_rfl⟩⟩, ⟨fs_natural_Uint64.csound, ⟨Try.f153, by kernel_rfl, by kernel_rfl, by kernel_rfl⟩⟩, ⟨fs_division_long.csound, ⟨Try.f154, by kernel_rfl, by kernel_rfl, by kernel_rfl⟩⟩, trivial⟩ trivial
theorem fs_division_Gcd : FSound Try.prog 121 [.pair (.bool) (.slice (.int .u32)), .pair (.bool) (.slice (.int .u32))] [(.pair (.bool) (.slice (.int .u32)), false)] (fun τ => F_division_Gcd τ.1 τ.2.1) :=
  evG_sound (E := (E_division_Gcd)) (C := (lk c_division_Gcd)) ok_division_Gcd mixed_ok (fn := Try.f121) (c := (bodyOf Try.f121)) (by kernel_rfl) (by kernel_rfl) (by kernel_rfl) (by kernel_rfl) (by kernel_rfl) (by kernel_rfl) (fun τ r h => by
    obtain ⟨a0, a1, ⟨⟩⟩ := τ
    obtain ⟨m, hm⟩ := Rn_division_Gcd (fun m => kk_division_Gcd_9 (tb_division_Gcd m)) (fun m => kk_division_Gcd_29 (tb_division_Gcd m)) (fun m x5 x6 x4 => (tab_succ (E_division_Gcd) (lk c_division_Gcd) (bodyOf Try.f121) (fe_division_Gcd) m 9 (cn_division_Gcd_9 x5 x6 x4)).trans (seg_division_Gcd_9 (tb_division_Gcd m) x5 x6 x4)) (fun m x7 x9 x4 => (tab_succ (E_division_Gcd) (lk c_division_Gcd) (bodyOf Try.f121) (fe_division_Gcd) m 29 (cn_division_Gcd_29 x7 x9 x4)).trans (seg_division_Gcd_29 (tb_division_Gcd m) x7 x9 x4)) a0 a1 r h
    exact ⟨m, (top_division_Gcd (tb_division_Gcd m) a0 a1).trans (hm m (Nat.le_refl m))⟩)

abbrev E_rational_made : Env := mkE tys [(88, callE [] [(.slice (.int .u32), false)] (fun τ => F_rational_one)), (91, callE [.slice (.int .u32)] [(.bool, false)] (fun τ => F_natural_IsZero τ.1)), (94, callE [.pair (.bool) (.slice (.int .u32))] [(.pair (.bool) (.slice (.int .u32)), false)] (fun τ => F_integer_Normal τ.1)), (96, callE [.pair (.bool) (.slice (.int .u32)), .pair (.bool) (.slice (.int .u32))] [(.pair (.bool) (.slice (.int .u32)), false), (.int .i64, false)] (fun τ => F_division_Exact τ.1 τ.2.1)), (117, callE [.slice (.int .u32)] [(.bool, false)] (fun τ => F_rational_isOne τ.1)), (121, callE [.pair (.bool) (.slice (.int .u32)), .pair (.bool) (.slice (.int .u32))] [(.pair (.bool) (.slice (.int .u32)), false)] (fun τ => F_division_Gcd τ.1 τ.2.1)), (134, callE [.bool, .slice (.int .u32)] [(.pair (.bool) (.slice (.int .u32)), false)] (fun τ => F_integer_From τ.1 τ.2.1)), (135, callE [.slice (.int .u32)] [(.slice (.int .u32), true)] (fun τ => F_natural_Normal τ.1))] []
def c_rational_made : List (Nat × Live) := [(12, ⟨[(20, .bool)], [(false, 1, .int .u32), (true, 2, .pair (.bool) (.slice (.int .u32))), (true, 4, .pair (.pair (.bool) (.slice (.int .u32))) (.slice (.int .u32)))], []⟩)]
noncomputable abbrev fe_rational_made := (finE (E_rational_made) [(.pair (.pair (.bool) (.slice (.int .u32))) (.slice (.int .u32)), false)] Try.f93.results.toList)
noncomputable abbrev cn_rational_made_12 (x20 : Bool) (x1 : List Int) (x2 : Bool × List Int) (x4 : (Bool × List Int) × List Int) : St := ⟨[(4, .one (.ptr 10002 0 [])), (2, .one (.ptr 10001 0 [])), (1, .one (.loc (.int .u32) 10000)), (20, .one (.val (.bool) x20))], [(10002, some ⟨.pair (.pair (.bool) (.slice (.int .u32))) (.slice (.int .u32)), [x4], false⟩), (10001, some ⟨.pair (.bool) (.slice (.int .u32)), [x2], false⟩), (10000, some ⟨.int .u32, x1, false⟩)]⟩
noncomputable abbrev kk_rational_made_12 (S : Nat → KT (RT [(.pair (.pair (.bool) (.slice (.int .u32))) (.slice (.int .u32)), false)])) := fun (x20 : Bool) (x1 : List Int) (x2 : Bool × List Int) (x4 : (Bool × List Int) × List Int) => S 12 (cn_rational_made_12 x20 x1 x2 x4)
theorem top_rational_made (S : Nat → KT (RT [(.pair (.pair (.bool) (.slice (.int .u32))) (.slice (.int .u32)), false)])) (a0 : Bool × List Int) (a1 : List Int) : evA (E_rational_made) (lk c_rational_made) S (bodyOf Try.f93) noX (fe_rational_made) (fe_rational_made) (initSt [.pair (.bool) (.slice (.int .u32)), .slice (.int .u32)] (a0, a1, ())) = T_rational_made (kk_rational_made_12 S) a0 a1 := by kernel_rfl
theorem seg_rational_made_12 (S : Nat → KT (RT [(.pair (.pair (.bool) (.slice (.int .u32))) (.slice (.int .u32)), false)])) (x20 : Bool) (x1 : List Int) (x2 : Bool × List Int) (x4 : (Bool × List Int) × List Int) : stepT (entry (E_rational_made) (lk c_rational_made) S 12 (bodyOf Try.f93) noX (fe_rational_made) (fe_rational_made)) (cn_rational_made_12 x20 x1 x2 x4) = S_rational_made_12 (kk_rational_made_12 S) x20 x1 x2 x4 := by kernel_rfl
noncomputable abbrev tb_rational_made := tab (E_rational_made) (lk c_rational_made) (bodyOf Try.f93) (fe_rational_made)
theorem ok_rational_made : EnvOK Try.prog (E_rational_made) := mkE_ok tys_ok ⟨⟨fs_rational_one.csound, ⟨Try.f88, by kernel_rfl, by kernel_rfl, by kernel_rfl⟩⟩, ⟨fs_natural_IsZero.csound, ⟨Try.f91, by kernel_rfl, by kernel_rfl, by kernel_rfl⟩⟩, ⟨fs_integer_Normal.csound, ⟨Try.f94, by kernel_rfl, by kernel_rfl, by kernel_rfl⟩⟩, ⟨fs_division_Exact.csound, ⟨Try.f96, by kernel_rfl, by kernel_rfl, by kernel_rfl⟩⟩, ⟨fs_rational_isOne.csound, ⟨Try.f117, by kernel_rfl, by kernel_rfl, by kernel_rfl⟩⟩, ⟨fs_division_Gcd.csound, ⟨Try.f121, by kernel_rfl, by kernel_rfl, by kernel_rfl⟩⟩, ⟨fs_integer_From.csound, ⟨Try.f134, by kernel_rfl, by kernel_rfl, by kernel_rfl⟩⟩, ⟨fs_natural_Normal.csound, ⟨Try.f135, by kernel_rfl, by kernel_rfl, by kernel_rfl⟩⟩, trivial⟩ trivial
theorem fs_rational_made : FSound Try.prog 93 [.pair (.bool) (.slice (.int .u32)), .slice (.int .u32)] [(.pair (.pair (.bool) (.slice (.int .u32))) (.slice (.int .u32)), false)] (fun τ => F_rational_made τ.1 τ.2.1) :=
  evG_sound (E := (E_rational_made)) (C := (lk c_rational_made)) ok_rational_made mixed_ok (fn := Try.f93) (c := (bodyOf Try.f93)) (by kernel_rfl) (by kernel_rfl) (by kernel_rfl) (by kernel_rfl) (by kernel_rfl) (by kernel_rfl) (fun τ r h => by
    obtain ⟨a0, a1, ⟨⟩⟩ := τ
    obtain ⟨m, hm⟩ := Rn_rational_made (fun m => kk_rational_made_12 (tb_rational_made m)) (fun m x20 x1 x2 x4 => (tab_succ (E_rational_made) (lk c_rational_made) (bodyOf Try.f93) (fe_rational_made) m 12 (cn_rational_made_12 x20 x1 x2 x4)).trans (seg_rational_made_12 (tb_rational_made m) x20 x1 x2 x4)) a0 a1 r h
    exact ⟨m, (top_rational_made (tb_rational_made m) a0 a1).trans (hm m (Nat.le_refl m))⟩)

abbrev E_rational_Make : Env := mkE tys [(91, callE [.slice (.int .u32)] [(.bool, false)] (fun τ => F_natural_IsZero τ.1)), (92, callE [.pair (.bool) (.slice (.int .u32))] [(.pair (.bool) (.slice (.int .u32)), false)] (fun τ => F_integer_Neg τ.1)), (93, callE [.pair (.bool) (.slice (.int .u32)), .slice (.int .u32)] [(.pair (.pair (.bool) (.slice (.int .u32))) (.slice (.int .u32)), false)] (fun τ => F_rational_made τ.1 τ.2.1))] []
def c_rational_Make : List (Nat × Live) := []
noncomputable abbrev fe_rational_Make := (finE (E_rational_Make) [(.pair (.pair (.bool) (.slice (.int .u32))) (.slice (.int .u32)), false), (.int .i64, false)] Try.f29.results.toList)
theorem top_rational_Make (S : Nat → KT (RT [(.pair (.pair (.bool) (.slice (.int .u32))) (.slice (.int .u32)), false), (.int .i64, false)])) (a0 : Bool × List Int) (a1 : Bool × List Int) : evA (E_rational_Make) (lk c_rational_Make) S (bodyOf Try.f29) noX (fe_rational_Make) (fe_rational_Make) (initSt [.pair (.bool) (.slice (.int .u32)), .pair (.bool) (.slice (.int .u32))] (a0, a1, ())) = T_rational_Make a0 a1 := by kernel_rfl
noncomputable abbrev tb_rational_Make := tab (E_rational_Make) (lk c_rational_Make) (bodyOf Try.f29) (fe_rational_Make)
theorem ok_rational_Make : EnvOK Try.prog (E_rational_Make) := mkE_ok tys_ok ⟨⟨fs_natural_IsZero.csound, ⟨Try.f91, by kernel_rfl, by kernel_rfl, by kernel_rfl⟩⟩, ⟨fs_integer_Neg.csound, ⟨Try.f92, by kernel_rfl, by kernel_rfl, by kernel_rfl⟩⟩, ⟨fs_rational_made.csound, ⟨Try.f93, by kernel_rfl, by kernel_rfl, by kernel_rfl⟩⟩, trivial⟩ trivial
theorem fs_rational_Make : FSound Try.prog 29 [.pair (.bool) (.slice (.int .u32)), .pair (.bool) (.slice (.int .u32))] [(.pair (.pair (.bool) (.slice (.int .u32))) (.slice (.int .u32)), false), (.int .i64, false)] (fun τ => F_rational_Make τ.1 τ.2.1) :=
  evG_sound (E := (E_rational_Make)) (C := (lk c_rational_Make)) ok_rational_Make mixed_ok (fn := Try.f29) (c := (bodyOf Try.f29)) (by kernel_rfl) (by kernel_rfl) (by kernel_rfl) (by kernel_rfl) (by kernel_rfl) (by kernel_rfl) (fun τ r h => by
    obtain ⟨a0, a1, ⟨⟩⟩ := τ
    obtain ⟨m, hm⟩ := Rn_rational_Make a0 a1 r h
    exact ⟨m, (top_rational_Make (tb_rational_Make m) a0 a1).trans (hm m (Nat.le_refl m))⟩)

abbrev E_rational_Normal : Env := mkE tys [(93, callE [.pair (.bool) (.slice (.int .u32)), .slice (.int .u32)] [(.pair (.pair (.bool) (.slice (.int .u32))) (.slice (.int .u32)), false)] (fun τ => F_rational_made τ.1 τ.2.1))] []
def c_rational_Normal : List (Nat × Live) := []
noncomputable abbrev fe_rational_Normal := (finE (E_rational_Normal) [(.pair (.pair (.bool) (.slice (.int .u32))) (.slice (.int .u32)), false)] Try.f59.results.toList)
theorem top_rational_Normal (S : Nat → KT (RT [(.pair (.pair (.bool) (.slice (.int .u32))) (.slice (.int .u32)), false)])) (a0 : (Bool × List Int) × List Int) : evA (E_rational_Normal) (lk c_rational_Normal) S (bodyOf Try.f59) noX (fe_rational_Normal) (fe_rational_Normal) (initSt [.pair (.pair (.bool) (.slice (.int .u32))) (.slice (.int .u32))] (a0, ())) = T_rational_Normal a0 := by kernel_rfl
noncomputable abbrev tb_rational_Normal := tab (E_rational_Normal) (lk c_rational_Normal) (bodyOf Try.f59) (fe_rational_Normal)
theorem ok_rational_Normal : EnvOK Try.prog (E_rational_Normal) := mkE_ok tys_ok ⟨⟨fs_rational_made.csound, ⟨Try.f93, by kernel_rfl, by kernel_rfl, by kernel_rfl⟩⟩, trivial⟩ trivial
theorem fs_rational_Normal : FSound Try.prog 59 [.pair (.pair (.bool) (.slice (.int .u32))) (.slice (.int .u32))] [(.pair (.pair (.bool) (.slice (.int .u32))) (.slice (.int .u32)), false)] (fun τ => F_rational_Normal τ.1) :=
  evG_sound (E := (E_rational_Normal)) (C := (lk c_rational_Normal)) ok_rational_Normal mixed_ok (fn := Try.f59) (c := (bodyOf Try.f59)) (by kernel_rfl) (by kernel_rfl) (by kernel_rfl) (by kernel_rfl) (by kernel_rfl) (by kernel_rfl) (fun τ r h => by
    obtain ⟨a0, ⟨⟩⟩ := τ
    obtain ⟨m, hm⟩ := Rn_rational_Normal a0 r h
    exact ⟨m, (top_rational_Normal (tb_rational_Normal m) a0).trans (hm m (Nat.le_refl m))⟩)

abbrev E_decimal_chunk : Env := mkE tys [] []
def c_decimal_chunk : List (Nat × Live) := [(9, ⟨[(0, .int .u32), (4, .int .u32), (5, .int .i64)], [], []⟩)]
noncomputable abbrev fe_decimal_chunk := (finE (E_decimal_chunk) [(.int .u32, false), (.int .i64, false)] Try.f169.results.toList)
noncomputable abbrev cn_decimal_chunk_9 (x0 : Int) (x4 : Int) (x5 : Int) : St := ⟨[(5, .one (.val (.int .i64) x5)), (4, .one (.val (.int .u32) x4)), (0, .one (.val (.int .u32) x0))], []⟩
noncomputable abbrev kk_decimal_chunk_9 (S : Nat → KT (RT [(.int .u32, false), (.int .i64, false)])) := fun (x0 : Int) (x4 : Int) (x5 : Int) => S 9 (cn_decimal_chunk_9 x0 x4 x5)
theorem top_decimal_chunk (S : Nat → KT (RT [(.int .u32, false), (.int .i64, false)])) (a0 : Int) : evA (E_decimal_chunk) (lk c_decimal_chunk) S (bodyOf Try.f169) noX (fe_decimal_chunk) (fe_decimal_chunk) (initSt [.int .u32] (a0, ())) = T_decimal_chunk (kk_decimal_chunk_9 S) a0 := by kernel_rfl
theorem seg_decimal_chunk_9 (S : Nat → KT (RT [(.int .u32, false), (.int .i64, false)])) (x0 : Int) (x4 : Int) (x5 : Int) : stepT (entry (E_decimal_chunk) (lk c_decimal_chunk) S 9 (bodyOf Try.f169) noX (fe_decimal_chunk) (fe_decimal_chunk)) (cn_decimal_chunk_9 x0 x4 x5) = S_decimal_chunk_9 (kk_decimal_chunk_9 S) x0 x4 x5 := by kernel_rfl
noncomputable abbrev tb_decimal_chunk := tab (E_decimal_chunk) (lk c_decimal_chunk) (bodyOf Try.f169) (fe_decimal_chunk)
theorem ok_decimal_chunk : EnvOK Try.prog (E_decimal_chunk) := mkE_ok tys_ok trivial trivial
theorem fs_decimal_chunk : FSound Try.prog 169 [.int .u32] [(.int .u32, false), (.int .i64, false)] (fun τ => F_decimal_chunk τ.1) :=
  evG_sound (E := (E_decimal_chunk)) (C := (lk c_decimal_chunk)) ok_decimal_chunk mixed_ok (fn := Try.f169) (c := (bodyOf Try.f169)) (by kernel_rfl) (by kernel_rfl) (by kernel_rfl) (by kernel_rfl) (by kernel_rfl) (by kernel_rfl) (fun τ r h => by
    obtain ⟨a0, ⟨⟩⟩ := τ
    obtain ⟨m, hm⟩ := Rn_decimal_chunk (fun m => kk_decimal_chunk_9 (tb_decimal_chunk m)) (fun m x0 x4 x5 => (tab_succ (E_decimal_chunk) (lk c_decimal_chunk) (bodyOf Try.f169) (fe_decimal_chunk) m 9 (cn_decimal_chunk_9 x0 x4 x5)).trans (seg_decimal_chunk_9 (tb_decimal_chunk m) x0 x4 x5)) a0 r h
    exact ⟨m, (top_decimal_chunk (tb_decimal_chunk m) a0).trans (hm m (Nat.le_refl m))⟩)

abbrev E_decimal_write : Env := mkE tys [(135, callE [.slice (.int .u32)] [(.slice (.int .u32), true)] (fun τ => F_natural_Normal τ.1)), (169, callE [.int .u32] [(.int .u32, false), (.int .i64, false)] (fun τ => F_decimal_chunk τ.1)), (170, callE [.slice (.int .u32), .int .u32] [(.slice (.int .u32), false), (.int .u32, false), (.bool, false)] (fun τ => F_natural_DivSmall τ.1 τ.2.1))] [(171, callO [] false (.int .u8) .unit (fun τ l => O_slices_Reverse l))]
def c_decimal_write : List (Nat × Live) := [(17, ⟨[(1, .int .u32), (5, .slice (.int .u32)), (6, .int .u32), (7, .int .i64)], [(true, 2, .pair (.bool) (.slice (.int .u32))), (false, 8, .int .u8)], []⟩), (33, ⟨[(1, .int .u32), (5, .slice (.int .u32)), (6, .int .u32), (7, .int .i64), (10, .int .u32), (12, .int .i64)], [(true, 2, .pair (.bool) (.slice (.int .u32))), (false, 8, .int .u8)], []⟩), (40, ⟨[(1, .int .u32), (5, .slice (.int .u32)), (6, .int .u32), (7, .int .i64), (10, .int .u32), (12, .int .i64), (36, .int .u32), (37, .bool), (38, .bool), (42, .bool)], [(true, 2, .pair (.bool) (.slice (.int .u32))), (false, 8, .int .u8)], []⟩)]
noncomputable abbrev fe_decimal_write := (finE (E_decimal_write) [(.str, false)] Try.f150.results.toList)
noncomputable abbrev cn_decimal_write_17 (x1 : Int) (x5 : List Int) (x6 : Int) (x7 : Int) (x2 : Bool × List Int) (x8 : List Int) : St := ⟨[(8, .one (.loc (.int .u8) 10001)), (2, .one (.ptr 10000 0 [])), (7, .one (.val (.int .i64) x7)), (6, .one (.val (.int .u32) x6)), (5, .one (.val (.slice (.int .u32)) x5)), (1, .one (.val (.int .u32) x1))], [(10001, some ⟨.int .u8, x8, false⟩), (10000, some ⟨.pair (.bool) (.slice (.int .u32)), [x2], false⟩)]⟩
noncomputable abbrev kk_decimal_write_17 (S : Nat → KT (RT [(.str, false)])) := fun (x1 : Int) (x5 : List Int) (x6 : Int) (x7 : Int) (x2 : Bool × List Int) (x8 : List Int) => S 17 (cn_decimal_write_17 x1 x5 x6 x7 x2 x8)
noncomputable abbrev cn_decimal_write_33 (x1 : Int) (x5 : List Int) (x6 : Int) (x7 : Int) (x10 : Int) (x12 : Int) (x2 : Bool × List Int) (x8 : List Int) : St := ⟨[(8, .one (.loc (.int .u8) 10001)), (2, .one (.ptr 10000 0 [])), (12, .one (.val (.int .i64) x12)), (10, .one (.val (.int .u32) x10)), (7, .one (.val (.int .i64) x7)), (6, .one (.val (.int .u32) x6)), (5, .one (.val (.slice (.int .u32)) x5)), (1, .one (.val (.int .u32) x1))], [(10001, some ⟨.int .u8, x8, false⟩), (10000, some ⟨.pair (.bool) (.slice (.int .u32)), [x2], false⟩)]⟩
noncomputable abbrev kk_decimal_write_33 (S : Nat → KT (RT [(.str, false)])) := fun (x1 : Int) (x5 : List Int) (x6 : Int) (x7 : Int) (x10 : Int) (x12 : Int) (x2 : Bool × List Int) (x8 : List Int) => S 33 (cn_decimal_write_33 x1 x5 x6 x7 x10 x12 x2 x8)
noncomputable abbrev cn_decimal_write_40 (x1 : Int) (x5 : List Int) (x6 : Int) (x7 : Int) (x10 : Int) (x12 : Int) (x36 : Int) (x37 : Bool) (x38 : Bool) (x42 : Bool) (x2 : Bool × List Int) (x8 : List Int) : St := ⟨[(8, .one (.loc (.int .u8) 10001)), (2, .one (.ptr 10000 0 [])), (42, .one (.val (.bool) x42)), (38, .one (.val (.bool) x38)), (37, .one (.val (.bool) x37)), (36, .one (.val (.int .u32) x36)), (12, .one (.val (.int .i64) x12)), (10, .one (.val (.int .u32) x10)), (7, .one (.val (.int .i64) x7)), (6, .one (.val (.int .u32) x6)), (5, .one (.val (.slice (.int .u32)) x5)), (1, .one (.val (.int .u32) x1))], [(10001, some ⟨.int .u8, x8, false⟩), (10000, some ⟨.pair (.bool) (.slice (.int .u32)), [x2], false⟩)]⟩
noncomputable abbrev kk_decimal_write_40 (S : Nat → KT (RT [(.str, false)])) := fun (x1 : Int) (x5 : List Int) (x6 : Int) (x7 : Int) (x10 : Int) (x12 : Int) (x36 : Int) (x37 : Bool) (x38 : Bool) (x42 : Bool) (x2 : Bool × List Int) (x8 : List Int) => S 40 (cn_decimal_write_40 x1 x5 x6 x7 x10 x12 x36 x37 x38 x42 x2 x8)
theorem top_decimal_write (S : Nat → KT (RT [(.str, false)])) (a0 : Bool × List Int) (a1 : Int) : evA (E_decimal_write) (lk c_decimal_write) S (bodyOf Try.f150) noX (fe_decimal_write) (fe_decimal_write) (initSt [.pair (.bool) (.slice (.int .u32)), .int .u32] (a0, a1, ())) = T_decimal_write (kk_decimal_write_17 S) (kk_decimal_write_33 S) (kk_decimal_write_40 S) a0 a1 := by kernel_rfl
theorem seg_decimal_write_17 (S : Nat → KT (RT [(.str, false)])) (x1 : Int) (x5 : List Int) (x6 : Int) (x7 : Int) (x2 : Bool × List Int) (x8 : List Int) : stepT (entry (E_decimal_write) (lk c_decimal_write) S 17 (bodyOf Try.f150) noX (fe_decimal_write) (fe_decimal_write)) (cn_decimal_write_17 x1 x5 x6 x7 x2 x8) = S_decimal_write_17 (kk_decimal_write_17 S) (kk_decimal_write_33 S) (kk_decimal_write_40 S) x1 x5 x6 x7 x2 x8 := by kernel_rfl
theorem seg_decimal_write_33 (S : Nat → KT (RT [(.str, false)])) (x1 : Int) (x5 : List Int) (x6 : Int) (x7 : Int) (x10 : Int) (x12 : Int) (x2 : Bool × List Int) (x8 : List Int) : stepT (entry (E_decimal_write) (lk c_decimal_write) S 33 (bodyOf Try.f150) noX (fe_decimal_write) (fe_decimal_write)) (cn_decimal_write_33 x1 x5 x6 x7 x10 x12 x2 x8) = S_decimal_write_33 (kk_decimal_write_17 S) (kk_decimal_write_33 S) (kk_decimal_write_40 S) x1 x5 x6 x7 x10 x12 x2 x8 := by kernel_rfl
theorem seg_decimal_write_40 (S : Nat → KT (RT [(.str, false)])) (x1 : Int) (x5 : List Int) (x6 : Int) (x7 : Int) (x10 : Int) (x12 : Int) (x36 : Int) (x37 : Bool) (x38 : Bool) (x42 : Bool) (x2 : Bool × List Int) (x8 : List Int) : stepT (entry (E_decimal_write) (lk c_decimal_write) S 40 (bodyOf Try.f150) noX (fe_decimal_write) (fe_decimal_write)) (cn_decimal_write_40 x1 x5 x6 x7 x10 x12 x36 x37 x38 x42 x2 x8) = S_decimal_write_40 (kk_decimal_write_17 S) (kk_decimal_write_33 S) (kk_decimal_write_40 S) x1 x5 x6 x7 x10 x12 x36 x37 x38 x42 x2 x8 := by kernel_rfl
noncomputable abbrev tb_decimal_write := tab (E_decimal_write) (lk c_decimal_write) (bodyOf Try.f150) (fe_decimal_write)
theorem ok_decimal_write : EnvOK Try.prog (E_decimal_write) := mkE_ok tys_ok ⟨⟨fs_natural_Normal.csound, ⟨Try.f135, by kernel_rfl, by kernel_rfl, by kernel_rfl⟩⟩, ⟨fs_decimal_chunk.csound, ⟨Try.f169, by kernel_rfl, by kernel_rfl, by kernel_rfl⟩⟩, ⟨fs_natural_DivSmall.csound, ⟨Try.f170, by kernel_rfl, by kernel_rfl, by kernel_rfl⟩⟩, trivial⟩ ⟨⟨os_slices_Reverse.psound, ⟨Try.f171, by kernel_rfl, by kernel_rfl, by kernel_rfl⟩⟩, trivial⟩
theorem fs_decimal_write : FSound Try.prog 150 [.pair (.bool) (.slice (.int .u32)), .int .u32] [(.str, false)] (fun τ => F_decimal_write τ.1 τ.2.1) :=
  evG_sound (E := (E_decimal_write)) (C := (lk c_decimal_write)) ok_decimal_write mixed_ok (fn := Try.f150) (c := (bodyOf Try.f150)) (by kernel_rfl) (by kernel_rfl) (by kernel_rfl) (by kernel_rfl) (by kernel_rfl) (by kernel_rfl) (fun τ r h => by
    obtain ⟨a0, a1, ⟨⟩⟩ := τ
    obtain ⟨m, hm⟩ := Rn_decimal_write (fun m => kk_decimal_write_17 (tb_decimal_write m)) (fun m => kk_decimal_write_33 (tb_decimal_write m)) (fun m => kk_decimal_write_40 (tb_decimal_write m)) (fun m x1 x5 x6 x7 x2 x8 => (tab_succ (E_decimal_write) (lk c_decimal_write) (bodyOf Try.f150) (fe_decimal_write) m 17 (cn_decimal_write_17 x1 x5 x6 x7 x2 x8)).trans (seg_decimal_write_17 (tb_decimal_write m) x1 x5 x6 x7 x2 x8)) (fun m x1 x5 x6 x7 x10 x12 x2 x8 => (tab_succ (E_decimal_write) (lk c_decimal_write) (bodyOf Try.f150) (fe_decimal_write) m 33 (cn_decimal_write_33 x1 x5 x6 x7 x10 x12 x2 x8)).trans (seg_decimal_write_33 (tb_decimal_write m) x1 x5 x6 x7 x10 x12 x2 x8)) (fun m x1 x5 x6 x7 x10 x12 x36 x37 x38 x42 x2 x8 => (tab_succ (E_decimal_write) (lk c_decimal_write) (bodyOf Try.f150) (fe_decimal_write) m 40 (cn_decimal_write_40 x1 x5 x6 x7 x10 x12 x36 x37 x38 x42 x2 x8)).trans (seg_decimal_write_40 (tb_decimal_write m) x1 x5 x6 x7 x10 x12 x36 x37 x38 x42 x2 x8)) a0 a1 r h
    exact ⟨m, (top_decimal_write (tb_decimal_write m) a0 a1).trans (hm m (Nat.le_refl m))⟩)

abbrev E_decimal_Format : Env := mkE tys [(150, callE [.pair (.bool) (.slice (.int .u32)), .int .u32] [(.str, false)] (fun τ => F_decimal_write τ.1 τ.2.1))] []
def c_decimal_Format : List (Nat × Live) := []
noncomputable abbrev fe_decimal_Format := (finE (E_decimal_Format) [(.str, false)] Try.f118.results.toList)
theorem top_decimal_Format (S : Nat → KT (RT [(.str, false)])) (a0 : Bool × List Int) : evA (E_decimal_Format) (lk c_decimal_Format) S (bodyOf Try.f118) noX (fe_decimal_Format) (fe_decimal_Format) (initSt [.pair (.bool) (.slice (.int .u32))] (a0, ())) = T_decimal_Format a0 := by kernel_rfl
noncomputable abbrev tb_decimal_Format := tab (E_decimal_Format) (lk c_decimal_Format) (bodyOf Try.f118) (fe_decimal_Format)
theorem ok_decimal_Format : EnvOK Try.prog (E_decimal_Format) := mkE_ok tys_ok ⟨⟨fs_decimal_write.csound, ⟨Try.f150, by kernel_rfl, by kernel_rfl, by kernel_rfl⟩⟩, trivial⟩ trivial
theorem fs_decimal_Format : FSound Try.prog 118 [.pair (.bool) (.slice (.int .u32))] [(.str, false)] (fun τ => F_decimal_Format τ.1) :=
  evG_sound (E := (E_decimal_Format)) (C := (lk c_decimal_Format)) ok_decimal_Format mixed_ok (fn := Try.f118) (c := (bodyOf Try.f118)) (by kernel_rfl) (by kernel_rfl) (by kernel_rfl) (by kernel_rfl) (by kernel_rfl) (by kernel_rfl) (fun τ r h => by
    obtain ⟨a0, ⟨⟩⟩ := τ
    obtain ⟨m, hm⟩ := Rn_decimal_Format a0 r h
    exact ⟨m, (top_decimal_Format (tb_decimal_Format m) a0).trans (hm m (Nat.le_refl m))⟩)

abbrev E_rational_Format : Env := mkE tys [(59, callE [.pair (.pair (.bool) (.slice (.int .u32))) (.slice (.int .u32))] [(.pair (.pair (.bool) (.slice (.int .u32))) (.slice (.int .u32)), false)] (fun τ => F_rational_Normal τ.1)), (117, callE [.slice (.int .u32)] [(.bool, false)] (fun τ => F_rational_isOne τ.1)), (118, callE [.pair (.bool) (.slice (.int .u32))] [(.str, false)] (fun τ => F_decimal_Format τ.1))] []
def c_rational_Format : List (Nat × Live) := []
noncomputable abbrev fe_rational_Format := (finE (E_rational_Format) [(.str, false)] Try.f71.results.toList)
theorem top_rational_Format (S : Nat → KT (RT [(.str, false)])) (a0 : (Bool × List Int) × List Int) : evA (E_rational_Format) (lk c_rational_Format) S (bodyOf Try.f71) noX (fe_rational_Format) (fe_rational_Format) (initSt [.pair (.pair (.bool) (.slice (.int .u32))) (.slice (.int .u32))] (a0, ())) = T_rational_Format a0 := by kernel_rfl
noncomputable abbrev tb_rational_Format := tab (E_rational_Format) (lk c_rational_Format) (bodyOf Try.f71) (fe_rational_Format)
theorem ok_rational_Format : EnvOK Try.prog (E_rational_Format) := mkE_ok tys_ok ⟨⟨fs_rational_Normal.csound, ⟨Try.f59, by kernel_rfl, by kernel_rfl, by kernel_rfl⟩⟩, ⟨fs_rational_isOne.csound, ⟨Try.f117, by kernel_rfl, by kernel_rfl, by kernel_rfl⟩⟩, ⟨fs_decimal_Format.csound, ⟨Try.f118, by kernel_rfl, by kernel_rfl, by kernel_rfl⟩⟩, trivial⟩ trivial
theorem fs_rational_Format : FSound Try.prog 71 [.pair (.pair (.bool) (.slice (.int .u32))) (.slice (.int .u32))] [(.str, false)] (fun τ => F_rational_Format τ.1) :=
  evG_sound (E := (E_rational_Format)) (C := (lk c_rational_Format)) ok_rational_Format mixed_ok (fn := Try.f71) (c := (bodyOf Try.f71)) (by kernel_rfl) (by kernel_rfl) (by kernel_rfl) (by kernel_rfl) (by kernel_rfl) (by kernel_rfl) (fun τ r h => by
    obtain ⟨a0, ⟨⟩⟩ := τ
    obtain ⟨m, hm⟩ := Rn_rational_Format a0 r h
    exact ⟨m, (top_rational_Format (tb_rational_Format m) a0).trans (hm m (Nat.le_refl m))⟩)

abbrev E_integer_Of : Env := mkE tys [(102, callE [.int .u64] [(.slice (.int .u32), false)] (fun τ => F_natural_Of τ.1)), (129, callE [.bool, .slice (.int .u32)] [(.pair (.bool) (.slice (.int .u32)), false)] (fun τ => F_integer_made τ.1 τ.2.1))] []
def c_integer_Of : List (Nat × Live) := []
noncomputable abbrev fe_integer_Of := (finE (E_integer_Of) [(.pair (.bool) (.slice (.int .u32)), false)] Try.f82.results.toList)
theorem top_integer_Of (S : Nat → KT (RT [(.pair (.bool) (.slice (.int .u32)), false)])) (a0 : Int) : evA (E_integer_Of) (lk c_integer_Of) S (bodyOf Try.f82) noX (fe_integer_Of) (fe_integer_Of) (initSt [.int .i64] (a0, ())) = T_integer_Of a0 := by kernel_rfl
noncomputable abbrev tb_integer_Of := tab (E_integer_Of) (lk c_integer_Of) (bodyOf Try.f82) (fe_integer_Of)
theorem ok_integer_Of : EnvOK Try.prog (E_integer_Of) := mkE_ok tys_ok ⟨⟨fs_natural_Of.csound, ⟨Try.f102, by kernel_rfl, by kernel_rfl, by kernel_rfl⟩⟩, ⟨fs_integer_made.csound, ⟨Try.f129, by kernel_rfl, by kernel_rfl, by kernel_rfl⟩⟩, trivial⟩ trivial
theorem fs_integer_Of : FSound Try.prog 82 [.int .i64] [(.pair (.bool) (.slice (.int .u32)), false)] (fun τ => F_integer_Of τ.1) :=
  evG_sound (E := (E_integer_Of)) (C := (lk c_integer_Of)) ok_integer_Of mixed_ok (fn := Try.f82) (c := (bodyOf Try.f82)) (by kernel_rfl) (by kernel_rfl) (by kernel_rfl) (by kernel_rfl) (by kernel_rfl) (by kernel_rfl) (fun τ r h => by
    obtain ⟨a0, ⟨⟩⟩ := τ
    obtain ⟨m, hm⟩ := Rn_integer_Of a0 r h
    exact ⟨m, (top_integer_Of (tb_integer_Of m) a0).trans (hm m (Nat.le_refl m))⟩)

abbrev E_law05_awake : Env := mkE tys [(29, callE [.pair (.bool) (.slice (.int .u32)), .pair (.bool) (.slice (.int .u32))] [(.pair (.pair (.bool) (.slice (.int .u32))) (.slice (.int .u32)), false), (.int .i64, false)] (fun τ => F_rational_Make τ.1 τ.2.1)), (71, callE [.pair (.pair (.bool) (.slice (.int .u32))) (.slice (.int .u32))] [(.str, false)] (fun τ => F_rational_Format τ.1)), (82, callE [.int .i64] [(.pair (.bool) (.slice (.int .u32)), false)] (fun τ => F_integer_Of τ.1))] []
def c_law05_awake : List (Nat × Live) := []
noncomputable abbrev fe_law05_awake := (finE (E_law05_awake) [(.bool, false)] Try.f17.results.toList)
theorem top_law05_awake (S : Nat → KT (RT [(.bool, false)])) : evA (E_law05_awake) (lk c_law05_awake) S (bodyOf Try.f17) noX (fe_law05_awake) (fe_law05_awake) (initSt [] ()) = T_law05_awake := by kernel_rfl
noncomputable abbrev tb_law05_awake := tab (E_law05_awake) (lk c_law05_awake) (bodyOf Try.f17) (fe_law05_awake)
theorem ok_law05_awake : EnvOK Try.prog (E_law05_awake) := mkE_ok tys_ok ⟨⟨fs_rational_Make.csound, ⟨Try.f29, by kernel_rfl, by kernel_rfl, by kernel_rfl⟩⟩, ⟨fs_rational_Format.csound, ⟨Try.f71, by kernel_rfl, by kernel_rfl, by kernel_rfl⟩⟩, ⟨fs_integer_Of.csound, ⟨Try.f82, by kernel_rfl, by kernel_rfl, by kernel_rfl⟩⟩, trivial⟩ trivial
theorem fs_law05_awake : FSound Try.prog 17 [] [(.bool, false)] (fun τ => F_law05_awake) :=
  evG_sound (E := (E_law05_awake)) (C := (lk c_law05_awake)) ok_law05_awake mixed_ok (fn := Try.f17) (c := (bodyOf Try.f17)) (by kernel_rfl) (by kernel_rfl) (by kernel_rfl) (by kernel_rfl) (by kernel_rfl) (by kernel_rfl) (fun τ r h => by
    obtain ⟨⟩ := τ
    obtain ⟨m, hm⟩ := Rn_law05_awake r h
    exact ⟨m, (top_law05_awake (tb_law05_awake m)).trans (hm m (Nat.le_refl m))⟩)

abbrev E_ref01_Few : Env := mkE tys [] []
def c_ref01_Few : List (Nat × Live) := [(9, ⟨[(0, .int .i64), (1, .slice (.slice (.int .u32))), (5, .int .i64)], [], []⟩)]
noncomputable abbrev fe_ref01_Few := (finE (E_ref01_Few) [(.bool, false)] Try.f27.results.toList)
noncomputable abbrev cn_ref01_Few_9 (x0 : Int) (x1 : List (List Int)) (x5 : Int) : St := ⟨[(5, .one (.val (.int .i64) x5)), (1, .one (.val (.slice (.slice (.int .u32))) x1)), (0, .one (.val (.int .i64) x0))], []⟩
noncomputable abbrev kk_ref01_Few_9 (S : Nat → KT (RT [(.bool, false)])) := fun (x0 : Int) (x1 : List (List Int)) (x5 : Int) => S 9 (cn_ref01_Few_9 x0 x1 x5)
theorem top_ref01_Few (S : Nat → KT (RT [(.bool, false)])) (a0 : Int) (a1 : List (List Int)) : evA (E_ref01_Few) (lk c_ref01_Few) S (bodyOf Try.f27) noX (fe_ref01_Few) (fe_ref01_Few) (initSt [.int .i64, .slice (.slice (.int .u32))] (a0, a1, ())) = T_ref01_Few (kk_ref01_Few_9 S) a0 a1 := by kernel_rfl
theorem seg_ref01_Few_9 (S : Nat → KT (RT [(.bool, false)])) (x0 : Int) (x1 : List (List Int)) (x5 : Int) : stepT (entry (E_ref01_Few) (lk c_ref01_Few) S 9 (bodyOf Try.f27) noX (fe_ref01_Few) (fe_ref01_Few)) (cn_ref01_Few_9 x0 x1 x5) = S_ref01_Few_9 (kk_ref01_Few_9 S) x0 x1 x5 := by kernel_rfl
noncomputable abbrev tb_ref01_Few := tab (E_ref01_Few) (lk c_ref01_Few) (bodyOf Try.f27) (fe_ref01_Few)
theorem ok_ref01_Few : EnvOK Try.prog (E_ref01_Few) := mkE_ok tys_ok trivial trivial
theorem fs_ref01_Few : FSound Try.prog 27 [.int .i64, .slice (.slice (.int .u32))] [(.bool, false)] (fun τ => F_ref01_Few τ.1 τ.2.1) :=
  evG_sound (E := (E_ref01_Few)) (C := (lk c_ref01_Few)) ok_ref01_Few mixed_ok (fn := Try.f27) (c := (bodyOf Try.f27)) (by kernel_rfl) (by kernel_rfl) (by kernel_rfl) (by kernel_rfl) (by kernel_rfl) (by kernel_rfl) (fun τ r h => by
    obtain ⟨a0, a1, ⟨⟩⟩ := τ
    obtain ⟨m, hm⟩ := Rn_ref01_Few (fun m => kk_ref01_Few_9 (tb_ref01_Few m)) (fun m x0 x1 x5 => (tab_succ (E_ref01_Few) (lk c_ref01_Few) (bodyOf Try.f27) (fe_ref01_Few) m 9 (cn_ref01_Few_9 x0 x1 x5)).trans (seg_ref01_Few_9 (tb_ref01_Few m) x0 x1 x5)) a0 a1 r h
    exact ⟨m, (top_ref01_Few (tb_ref01_Few m) a0 a1).trans (hm m (Nat.le_refl m))⟩)

abbrev E_law05_few : Env := mkE tys [(27, callE [.int .i64, .slice (.slice (.int .u32))] [(.bool, false)] (fun τ => F_ref01_Few τ.1 τ.2.1))] []
def c_law05_few : List (Nat × Live) := []
noncomputable abbrev fe_law05_few := (finE (E_law05_few) [(.bool, false)] Try.f18.results.toList)
theorem top_law05_few (S : Nat → KT (RT [(.bool, false)])) (a0 : Int) (a1 : (Bool × List Int) × List Int) (a2 : (Bool × List Int) × List Int) (a3 : (Bool × List Int) × List Int) : evA (E_law05_few) (lk c_law05_few) S (bodyOf Try.f18) noX (fe_law05_few) (fe_law05_few) (initSt [.int .i64, .pair (.pair (.bool) (.slice (.int .u32))) (.slice (.int .u32)), .pair (.pair (.bool) (.slice (.int .u32))) (.slice (.int .u32)), .pair (.pair (.bool) (.slice (.int .u32))) (.slice (.int .u32))] (a0, a1, a2, a3, ())) = T_law05_few a0 a1 a2 a3 := by kernel_rfl
noncomputable abbrev tb_law05_few := tab (E_law05_few) (lk c_law05_few) (bodyOf Try.f18) (fe_law05_few)
theorem ok_law05_few : EnvOK Try.prog (E_law05_few) := mkE_ok tys_ok ⟨⟨fs_ref01_Few.csound, ⟨Try.f27, by kernel_rfl, by kernel_rfl, by kernel_rfl⟩⟩, trivial⟩ trivial
theorem fs_law05_few : FSound Try.prog 18 [.int .i64, .pair (.pair (.bool) (.slice (.int .u32))) (.slice (.int .u32)), .pair (.pair (.bool) (.slice (.int .u32))) (.slice (.int .u32)), .pair (.pair (.bool) (.slice (.int .u32))) (.slice (.int .u32))] [(.bool, false)] (fun τ => F_law05_few τ.1 τ.2.1 τ.2.2.1 τ.2.2.2.1) :=
  evG_sound (E := (E_law05_few)) (C := (lk c_law05_few)) ok_law05_few mixed_ok (fn := Try.f18) (c := (bodyOf Try.f18)) (by kernel_rfl) (by kernel_rfl) (by kernel_rfl) (by kernel_rfl) (by kernel_rfl) (by kernel_rfl) (fun τ r h => by
    obtain ⟨a0, a1, a2, a3, ⟨⟩⟩ := τ
    obtain ⟨m, hm⟩ := Rn_law05_few a0 a1 a2 a3 r h
    exact ⟨m, (top_law05_few (tb_law05_few m) a0 a1 a2 a3).trans (hm m (Nat.le_refl m))⟩)

abbrev E_ref01_Trim : Env := mkE tys [] []
def c_ref01_Trim : List (Nat × Live) := [(9, ⟨[(0, .slice (.int .i64)), (3, .int .i64)], [], []⟩)]
noncomputable abbrev fe_ref01_Trim := (finE (E_ref01_Trim) [(.slice (.int .i64), false)] Try.f132.results.toList)
noncomputable abbrev cn_ref01_Trim_9 (x0 : List Int) (x3 : Int) : St := ⟨[(3, .one (.val (.int .i64) x3)), (0, .one (.val (.slice (.int .i64)) x0))], []⟩
noncomputable abbrev kk_ref01_Trim_9 (S : Nat → KT (RT [(.slice (.int .i64), false)])) := fun (x0 : List Int) (x3 : Int) => S 9 (cn_ref01_Trim_9 x0 x3)
theorem top_ref01_Trim (S : Nat → KT (RT [(.slice (.int .i64), false)])) (a0 : List Int) : evA (E_ref01_Trim) (lk c_ref01_Trim) S (bodyOf Try.f132) noX (fe_ref01_Trim) (fe_ref01_Trim) (initSt [.slice (.int .i64)] (a0, ())) = T_ref01_Trim (kk_ref01_Trim_9 S) a0 := by kernel_rfl
theorem seg_ref01_Trim_9 (S : Nat → KT (RT [(.slice (.int .i64), false)])) (x0 : List Int) (x3 : Int) : stepT (entry (E_ref01_Trim) (lk c_ref01_Trim) S 9 (bodyOf Try.f132) noX (fe_ref01_Trim) (fe_ref01_Trim)) (cn_ref01_Trim_9 x0 x3) = S_ref01_Trim_9 (kk_ref01_Trim_9 S) x0 x3 := by kernel_rfl
noncomputable abbrev tb_ref01_Trim := tab (E_ref01_Trim) (lk c_ref01_Trim) (bodyOf Try.f132) (fe_ref01_Trim)
theorem ok_ref01_Trim : EnvOK Try.prog (E_ref01_Trim) := mkE_ok tys_ok trivial trivial
theorem fs_ref01_Trim : FSound Try.prog 132 [.slice (.int .i64)] [(.slice (.int .i64), false)] (fun τ => F_ref01_Trim τ.1) :=
  evG_sound (E := (E_ref01_Trim)) (C := (lk c_ref01_Trim)) ok_ref01_Trim mixed_ok (fn := Try.f132) (c := (bodyOf Try.f132)) (by kernel_rfl) (by kernel_rfl) (by kernel_rfl) (by kernel_rfl) (by kernel_rfl) (by kernel_rfl) (fun τ r h => by
    obtain ⟨a0, ⟨⟩⟩ := τ
    obtain ⟨m, hm⟩ := Rn_ref01_Trim (fun m => kk_ref01_Trim_9 (tb_ref01_Trim m)) (fun m x0 x3 => (tab_succ (E_ref01_Trim) (lk c_ref01_Trim) (bodyOf Try.f132) (fe_ref01_Trim) m 9 (cn_ref01_Trim_9 x0 x3)).trans (seg_ref01_Trim_9 (tb_ref01_Trim m) x0 x3)) a0 r h
    exact ⟨m, (top_ref01_Trim (tb_ref01_Trim m) a0).trans (hm m (Nat.le_refl m))⟩)

abbrev Eo_ref01_Trim : Env := mkE tys [] []
def co_ref01_Trim : List (Nat × Live) := [(9, ⟨[(3, .int .i64)], [(false, 0, .int .i64)], []⟩)]
noncomputable abbrev feo_ref01_Trim := (finO (Eo_ref01_Trim) 0 false (.int .i64) .pre Try.f132.results.toList)
noncomputable abbrev cno_ref01_Trim_9 (x3 : Int) (x0 : List Int) : St := ⟨[(0, .one (.loc (.int .i64) 10000)), (3, .one (.val (.int .i64) x3))], [(10000, some ⟨.int .i64, x0, false⟩)]⟩
noncomputable abbrev kko_ref01_Trim_9 (S : Nat → KT (CD false (.int .i64) × RS.D .pre)) := fun (x3 : Int) (x0 : List Int) => S 9 (cno_ref01_Trim_9 x3 x0)
theorem topo_ref01_Trim (S : Nat → KT (CD false (.int .i64) × RS.D .pre)) (l : List Int) : evA (Eo_ref01_Trim) (lk co_ref01_Trim) S (bodyOf Try.f132) noX (feo_ref01_Trim) (feo_ref01_Trim) (initO [] () false (.int .i64) l) = To_ref01_Trim (kko_ref01_Trim_9 S) l := by kernel_rfl
theorem sego_ref01_Trim_9 (S : Nat → KT (CD false (.int .i64) × RS.D .pre)) (x3 : Int) (x0 : List Int) : stepT (entry (Eo_ref01_Trim) (lk co_ref01_Trim) S 9 (bodyOf Try.f132) noX (feo_ref01_Trim) (feo_ref01_Trim)) (cno_ref01_Trim_9 x3 x0) = So_ref01_Trim_9 (kko_ref01_Trim_9 S) x3 x0 := by kernel_rfl
noncomputable abbrev tbo_ref01_Trim := tab (Eo_ref01_Trim) (lk co_ref01_Trim) (bodyOf Try.f132) (feo_ref01_Trim)
theorem oko_ref01_Trim : EnvOK Try.prog (Eo_ref01_Trim) := mkE_ok tys_ok trivial trivial
theorem os_ref01_Trim : OSound Try.prog 132 [] false (.int .i64) .pre (fun τ l => O_ref01_Trim l) :=
  evO_sound (E := (Eo_ref01_Trim)) (C := (lk co_ref01_Trim)) oko_ref01_Trim mixed_ok (fn := Try.f132) (k := (bodyOf Try.f132)) (by kernel_rfl) (by kernel_rfl) (by kernel_rfl) (by kernel_rfl) (by kernel_rfl) (fun τ l r h => by
    obtain ⟨⟩ := τ
    obtain ⟨m, hm⟩ := Rno_ref01_Trim (fun m => kko_ref01_Trim_9 (tbo_ref01_Trim m)) (fun m x3 x0 => (tab_succ (Eo_ref01_Trim) (lk co_ref01_Trim) (bodyOf Try.f132) (feo_ref01_Trim) m 9 (cno_ref01_Trim_9 x3 x0)).trans (sego_ref01_Trim_9 (tbo_ref01_Trim m) x3 x0)) l r h
    exact ⟨m, (topo_ref01_Trim (tbo_ref01_Trim m) l).trans (hm m (Nat.le_refl m))⟩)

abbrev E_ref02_Make : Env := mkE tys [] [(132, mixO (callO [] false (.int .i64) .pre (fun τ l => O_ref01_Trim l)) (callI (callE [.slice (.int .i64)] [(.slice (.int .i64), false)] (fun τ => F_ref01_Trim τ.1))))]
def c_ref02_Make : List (Nat × Live) := []
noncomputable abbrev fe_ref02_Make := (finE (E_ref02_Make) [(.pair (.int .i64) (.slice (.int .i64)), false)] Try.f87.results.toList)
theorem top_ref02_Make (S : Nat → KT (RT [(.pair (.int .i64) (.slice (.int .i64)), false)])) (a0 : Bool) (a1 : List Int) : evA (E_ref02_Make) (lk c_ref02_Make) S (bodyOf Try.f87) noX (fe_ref02_Make) (fe_ref02_Make) (initSt [.bool, .slice (.int .i64)] (a0, a1, ())) = T_ref02_Make a0 a1 := by kernel_rfl
noncomputable abbrev tb_ref02_Make := tab (E_ref02_Make) (lk c_ref02_Make) (bodyOf Try.f87) (fe_ref02_Make)
theorem ok_ref02_Make : EnvOK Try.prog (E_ref02_Make) := mkE_ok tys_ok trivial ⟨⟨PSound.mix os_ref01_Trim.psound (CSound.psound fs_ref01_Trim.csound), ⟨Try.f132, by kernel_rfl, by kernel_rfl, by kernel_rfl⟩⟩, trivial⟩
theorem fs_ref02_Make : FSound Try.prog 87 [.bool, .slice (.int .i64)] [(.pair (.int .i64) (.slice (.int .i64)), false)] (fun τ => F_ref02_Make τ.1 τ.2.1) :=
  evG_sound (E := (E_ref02_Make)) (C := (lk c_ref02_Make)) ok_ref02_Make mixed_ok (fn := Try.f87) (c := (bodyOf Try.f87)) (by kernel_rfl) (by kernel_rfl) (by kernel_rfl) (by kernel_rfl) (by kernel_rfl) (by kernel_rfl) (fun τ r h => by
    obtain ⟨a0, a1, ⟨⟩⟩ := τ
    obtain ⟨m, hm⟩ := Rn_ref02_Make a0 a1 r h
    exact ⟨m, (top_ref02_Make (tb_ref02_Make m) a0 a1).trans (hm m (Nat.le_refl m))⟩)

abbrev E_ref02_Small : Env := mkE tys [(87, callE [.bool, .slice (.int .i64)] [(.pair (.int .i64) (.slice (.int .i64)), false)] (fun τ => F_ref02_Make τ.1 τ.2.1))] []
def c_ref02_Small : List (Nat × Live) := [(21, ⟨[(0, .int .i64), (3, .bool)], [(true, 2, .pair (.int .i64) (.slice (.int .i64))), (false, 4, .int .i64)], []⟩)]
noncomputable abbrev fe_ref02_Small := (finE (E_ref02_Small) [(.pair (.int .i64) (.slice (.int .i64)), false)] Try.f23.results.toList)
noncomputable abbrev cn_ref02_Small_21 (x0 : Int) (x3 : Bool) (x2 : Int × List Int) (x4 : List Int) : St := ⟨[(4, .one (.loc (.int .i64) 10001)), (2, .one (.ptr 10000 0 [])), (3, .one (.val (.bool) x3)), (0, .one (.val (.int .i64) x0))], [(10001, some ⟨.int .i64, x4, false⟩), (10000, some ⟨.pair (.int .i64) (.slice (.int .i64)), [x2], false⟩)]⟩
noncomputable abbrev kk_ref02_Small_21 (S : Nat → KT (RT [(.pair (.int .i64) (.slice (.int .i64)), false)])) := fun (x0 : Int) (x3 : Bool) (x2 : Int × List Int) (x4 : List Int) => S 21 (cn_ref02_Small_21 x0 x3 x2 x4)
theorem top_ref02_Small (S : Nat → KT (RT [(.pair (.int .i64) (.slice (.int .i64)), false)])) (a0 : Int) : evA (E_ref02_Small) (lk c_ref02_Small) S (bodyOf Try.f23) noX (fe_ref02_Small) (fe_ref02_Small) (initSt [.int .i64] (a0, ())) = T_ref02_Small (kk_ref02_Small_21 S) a0 := by kernel_rfl
theorem seg_ref02_Small_21 (S : Nat → KT (RT [(.pair (.int .i64) (.slice (.int .i64)), false)])) (x0 : Int) (x3 : Bool) (x2 : Int × List Int) (x4 : List Int) : stepT (entry (E_ref02_Small) (lk c_ref02_Small) S 21 (bodyOf Try.f23) noX (fe_ref02_Small) (fe_ref02_Small)) (cn_ref02_Small_21 x0 x3 x2 x4) = S_ref02_Small_21 (kk_ref02_Small_21 S) x0 x3 x2 x4 := by kernel_rfl
noncomputable abbrev tb_ref02_Small := tab (E_ref02_Small) (lk c_ref02_Small) (bodyOf Try.f23) (fe_ref02_Small)
theorem ok_ref02_Small : EnvOK Try.prog (E_ref02_Small) := mkE_ok tys_ok ⟨⟨fs_ref02_Make.csound, ⟨Try.f87, by kernel_rfl, by kernel_rfl, by kernel_rfl⟩⟩, trivial⟩ trivial
theorem fs_ref02_Small : FSound Try.prog 23 [.int .i64] [(.pair (.int .i64) (.slice (.int .i64)), false)] (fun τ => F_ref02_Small τ.1) :=
  evG_sound (E := (E_ref02_Small)) (C := (lk c_ref02_Small)) ok_ref02_Small mixed_ok (fn := Try.f23) (c := (bodyOf Try.f23)) (by kernel_rfl) (by kernel_rfl) (by kernel_rfl) (by kernel_rfl) (by kernel_rfl) (by kernel_rfl) (fun τ r h => by
    obtain ⟨a0, ⟨⟩⟩ := τ
    obtain ⟨m, hm⟩ := Rn_ref02_Small (fun m => kk_ref02_Small_21 (tb_ref02_Small m)) (fun m x0 x3 x2 x4 => (tab_succ (E_ref02_Small) (lk c_ref02_Small) (bodyOf Try.f23) (fe_ref02_Small) m 21 (cn_ref02_Small_21 x0 x3 x2 x4)).trans (seg_ref02_Small_21 (tb_ref02_Small m) x0 x3 x2 x4)) a0 r h
    exact ⟨m, (top_ref02_Small (tb_ref02_Small m) a0).trans (hm m (Nat.le_refl m))⟩)

abbrev E_ref01_Of : Env := mkE tys [] [(132, mixO (callO [] false (.int .i64) .pre (fun τ l => O_ref01_Trim l)) (callI (callE [.slice (.int .i64)] [(.slice (.int .i64), false)] (fun τ => F_ref01_Trim τ.1))))]
def c_ref01_Of : List (Nat × Live) := [(13, ⟨[(0, .slice (.int .u32)), (4, .int .i64)], [(false, 3, .int .i64)], []⟩)]
noncomputable abbrev fe_ref01_Of := (finE (E_ref01_Of) [(.slice (.int .i64), false)] Try.f90.results.toList)
noncomputable abbrev cn_ref01_Of_13 (x0 : List Int) (x4 : Int) (x3 : List Int) : St := ⟨[(3, .one (.loc (.int .i64) 10000)), (4, .one (.val (.int .i64) x4)), (0, .one (.val (.slice (.int .u32)) x0))], [(10000, some ⟨.int .i64, x3, false⟩)]⟩
noncomputable abbrev kk_ref01_Of_13 (S : Nat → KT (RT [(.slice (.int .i64), false)])) := fun (x0 : List Int) (x4 : Int) (x3 : List Int) => S 13 (cn_ref01_Of_13 x0 x4 x3)
theorem top_ref01_Of (S : Nat → KT (RT [(.slice (.int .i64), false)])) (a0 : List Int) : evA (E_ref01_Of) (lk c_ref01_Of) S (bodyOf Try.f90) noX (fe_ref01_Of) (fe_ref01_Of) (initSt [.slice (.int .u32)] (a0, ())) = T_ref01_Of (kk_ref01_Of_13 S) a0 := by kernel_rfl
theorem seg_ref01_Of_13 (S : Nat → KT (RT [(.slice (.int .i64), false)])) (x0 : List Int) (x4 : Int) (x3 : List Int) : stepT (entry (E_ref01_Of) (lk c_ref01_Of) S 13 (bodyOf Try.f90) noX (fe_ref01_Of) (fe_ref01_Of)) (cn_ref01_Of_13 x0 x4 x3) = S_ref01_Of_13 (kk_ref01_Of_13 S) x0 x4 x3 := by kernel_rfl
noncomputable abbrev tb_ref01_Of := tab (E_ref01_Of) (lk c_ref01_Of) (bodyOf Try.f90) (fe_ref01_Of)
theorem ok_ref01_Of : EnvOK Try.prog (E_ref01_Of) := mkE_ok tys_ok trivial ⟨⟨PSound.mix os_ref01_Trim.psound (CSound.psound fs_ref01_Trim.csound), ⟨Try.f132, by kernel_rfl, by kernel_rfl, by kernel_rfl⟩⟩, trivial⟩
theorem fs_ref01_Of : FSound Try.prog 90 [.slice (.int .u32)] [(.slice (.int .i64), false)] (fun τ => F_ref01_Of τ.1) :=
  evG_sound (E := (E_ref01_Of)) (C := (lk c_ref01_Of)) ok_ref01_Of mixed_ok (fn := Try.f90) (c := (bodyOf Try.f90)) (by kernel_rfl) (by kernel_rfl) (by kernel_rfl) (by kernel_rfl) (by kernel_rfl) (by kernel_rfl) (fun τ r h => by
    obtain ⟨a0, ⟨⟩⟩ := τ
    obtain ⟨m, hm⟩ := Rn_ref01_Of (fun m => kk_ref01_Of_13 (tb_ref01_Of m)) (fun m x0 x4 x3 => (tab_succ (E_ref01_Of) (lk c_ref01_Of) (bodyOf Try.f90) (fe_ref01_Of) m 13 (cn_ref01_Of_13 x0 x4 x3)).trans (seg_ref01_Of_13 (tb_ref01_Of m) x0 x4 x3)) a0 r h
    exact ⟨m, (top_ref01_Of (tb_ref01_Of m) a0).trans (hm m (Nat.le_refl m))⟩)

abbrev E_ref02_Of : Env := mkE tys [(87, callE [.bool, .slice (.int .i64)] [(.pair (.int .i64) (.slice (.int .i64)), false)] (fun τ => F_ref02_Make τ.1 τ.2.1)), (90, callE [.slice (.int .u32)] [(.slice (.int .i64), false)] (fun τ => F_ref01_Of τ.1))] []
def c_ref02_Of : List (Nat × Live) := []
noncomputable abbrev fe_ref02_Of := (finE (E_ref02_Of) [(.pair (.int .i64) (.slice (.int .i64)), false)] Try.f28.results.toList)
theorem top_ref02_Of (S : Nat → KT (RT [(.pair (.int .i64) (.slice (.int .i64)), false)])) (a0 : Bool) (a1 : List Int) : evA (E_ref02_Of) (lk c_ref02_Of) S (bodyOf Try.f28) noX (fe_ref02_Of) (fe_ref02_Of) (initSt [.bool, .slice (.int .u32)] (a0, a1, ())) = T_ref02_Of a0 a1 := by kernel_rfl
noncomputable abbrev tb_ref02_Of := tab (E_ref02_Of) (lk c_ref02_Of) (bodyOf Try.f28) (fe_ref02_Of)
theorem ok_ref02_Of : EnvOK Try.prog (E_ref02_Of) := mkE_ok tys_ok ⟨⟨fs_ref02_Make.csound, ⟨Try.f87, by kernel_rfl, by kernel_rfl, by kernel_rfl⟩⟩, ⟨fs_ref01_Of.csound, ⟨Try.f90, by kernel_rfl, by kernel_rfl, by kernel_rfl⟩⟩, trivial⟩ trivial
theorem fs_ref02_Of : FSound Try.prog 28 [.bool, .slice (.int .u32)] [(.pair (.int .i64) (.slice (.int .i64)), false)] (fun τ => F_ref02_Of τ.1 τ.2.1) :=
  evG_sound (E := (E_ref02_Of)) (C := (lk c_ref02_Of)) ok_ref02_Of mixed_ok (fn := Try.f28) (c := (bodyOf Try.f28)) (by kernel_rfl) (by kernel_rfl) (by kernel_rfl) (by kernel_rfl) (by kernel_rfl) (by kernel_rfl) (fun τ r h => by
    obtain ⟨a0, a1, ⟨⟩⟩ := τ
    obtain ⟨m, hm⟩ := Rn_ref02_Of a0 a1 r h
    exact ⟨m, (top_ref02_Of (tb_ref02_Of m) a0 a1).trans (hm m (Nat.le_refl m))⟩)

abbrev E_ref05_Of : Env := mkE tys [(23, callE [.int .i64] [(.pair (.int .i64) (.slice (.int .i64)), false)] (fun τ => F_ref02_Small τ.1)), (28, callE [.bool, .slice (.int .u32)] [(.pair (.int .i64) (.slice (.int .i64)), false)] (fun τ => F_ref02_Of τ.1 τ.2.1))] []
def c_ref05_Of : List (Nat × Live) := []
noncomputable abbrev fe_ref05_Of := (finE (E_ref05_Of) [(.pair (.pair (.int .i64) (.slice (.int .i64))) (.pair (.int .i64) (.slice (.int .i64))), false)] Try.f84.results.toList)
theorem top_ref05_Of (S : Nat → KT (RT [(.pair (.pair (.int .i64) (.slice (.int .i64))) (.pair (.int .i64) (.slice (.int .i64))), false)])) (a0 : Bool) (a1 : List Int) (a2 : List Int) : evA (E_ref05_Of) (lk c_ref05_Of) S (bodyOf Try.f84) noX (fe_ref05_Of) (fe_ref05_Of) (initSt [.bool, .slice (.int .u32), .slice (.int .u32)] (a0, a1, a2, ())) = T_ref05_Of a0 a1 a2 := by kernel_rfl
noncomputable abbrev tb_ref05_Of := tab (E_ref05_Of) (lk c_ref05_Of) (bodyOf Try.f84) (fe_ref05_Of)
theorem ok_ref05_Of : EnvOK Try.prog (E_ref05_Of) := mkE_ok tys_ok ⟨⟨fs_ref02_Small.csound, ⟨Try.f23, by kernel_rfl, by kernel_rfl, by kernel_rfl⟩⟩, ⟨fs_ref02_Of.csound, ⟨Try.f28, by kernel_rfl, by kernel_rfl, by kernel_rfl⟩⟩, trivial⟩ trivial
theorem fs_ref05_Of : FSound Try.prog 84 [.bool, .slice (.int .u32), .slice (.int .u32)] [(.pair (.pair (.int .i64) (.slice (.int .i64))) (.pair (.int .i64) (.slice (.int .i64))), false)] (fun τ => F_ref05_Of τ.1 τ.2.1 τ.2.2.1) :=
  evG_sound (E := (E_ref05_Of)) (C := (lk c_ref05_Of)) ok_ref05_Of mixed_ok (fn := Try.f84) (c := (bodyOf Try.f84)) (by kernel_rfl) (by kernel_rfl) (by kernel_rfl) (by kernel_rfl) (by kernel_rfl) (by kernel_rfl) (fun τ r h => by
    obtain ⟨a0, a1, a2, ⟨⟩⟩ := τ
    obtain ⟨m, hm⟩ := Rn_ref05_Of a0 a1 a2 r h
    exact ⟨m, (top_ref05_Of (tb_ref05_Of m) a0 a1 a2).trans (hm m (Nat.le_refl m))⟩)

abbrev E_law05_of : Env := mkE tys [(84, callE [.bool, .slice (.int .u32), .slice (.int .u32)] [(.pair (.pair (.int .i64) (.slice (.int .i64))) (.pair (.int .i64) (.slice (.int .i64))), false)] (fun τ => F_ref05_Of τ.1 τ.2.1 τ.2.2.1))] []
def c_law05_of : List (Nat × Live) := []
noncomputable abbrev fe_law05_of := (finE (E_law05_of) [(.pair (.pair (.int .i64) (.slice (.int .i64))) (.pair (.int .i64) (.slice (.int .i64))), false)] Try.f20.results.toList)
theorem top_law05_of (S : Nat → KT (RT [(.pair (.pair (.int .i64) (.slice (.int .i64))) (.pair (.int .i64) (.slice (.int .i64))), false)])) (a0 : (Bool × List Int) × List Int) : evA (E_law05_of) (lk c_law05_of) S (bodyOf Try.f20) noX (fe_law05_of) (fe_law05_of) (initSt [.pair (.pair (.bool) (.slice (.int .u32))) (.slice (.int .u32))] (a0, ())) = T_law05_of a0 := by kernel_rfl
noncomputable abbrev tb_law05_of := tab (E_law05_of) (lk c_law05_of) (bodyOf Try.f20) (fe_law05_of)
theorem ok_law05_of : EnvOK Try.prog (E_law05_of) := mkE_ok tys_ok ⟨⟨fs_ref05_Of.csound, ⟨Try.f84, by kernel_rfl, by kernel_rfl, by kernel_rfl⟩⟩, trivial⟩ trivial
theorem fs_law05_of : FSound Try.prog 20 [.pair (.pair (.bool) (.slice (.int .u32))) (.slice (.int .u32))] [(.pair (.pair (.int .i64) (.slice (.int .i64))) (.pair (.int .i64) (.slice (.int .i64))), false)] (fun τ => F_law05_of τ.1) :=
  evG_sound (E := (E_law05_of)) (C := (lk c_law05_of)) ok_law05_of mixed_ok (fn := Try.f20) (c := (bodyOf Try.f20)) (by kernel_rfl) (by kernel_rfl) (by kernel_rfl) (by kernel_rfl) (by kernel_rfl) (by kernel_rfl) (fun τ r h => by
    obtain ⟨a0, ⟨⟩⟩ := τ
    obtain ⟨m, hm⟩ := Rn_law05_of a0 r h
    exact ⟨m, (top_law05_of (tb_law05_of m) a0).trans (hm m (Nat.le_refl m))⟩)

abbrev E_integer_Sign : Env := mkE tys [(91, callE [.slice (.int .u32)] [(.bool, false)] (fun τ => F_natural_IsZero τ.1))] []
def c_integer_Sign : List (Nat × Live) := []
noncomputable abbrev fe_integer_Sign := (finE (E_integer_Sign) [(.int .i64, false)] Try.f40.results.toList)
theorem top_integer_Sign (S : Nat → KT (RT [(.int .i64, false)])) (a0 : Bool × List Int) : evA (E_integer_Sign) (lk c_integer_Sign) S (bodyOf Try.f40) noX (fe_integer_Sign) (fe_integer_Sign) (initSt [.pair (.bool) (.slice (.int .u32))] (a0, ())) = T_integer_Sign a0 := by kernel_rfl
noncomputable abbrev tb_integer_Sign := tab (E_integer_Sign) (lk c_integer_Sign) (bodyOf Try.f40) (fe_integer_Sign)
theorem ok_integer_Sign : EnvOK Try.prog (E_integer_Sign) := mkE_ok tys_ok ⟨⟨fs_natural_IsZero.csound, ⟨Try.f91, by kernel_rfl, by kernel_rfl, by kernel_rfl⟩⟩, trivial⟩ trivial
theorem fs_integer_Sign : FSound Try.prog 40 [.pair (.bool) (.slice (.int .u32))] [(.int .i64, false)] (fun τ => F_integer_Sign τ.1) :=
  evG_sound (E := (E_integer_Sign)) (C := (lk c_integer_Sign)) ok_integer_Sign mixed_ok (fn := Try.f40) (c := (bodyOf Try.f40)) (by kernel_rfl) (by kernel_rfl) (by kernel_rfl) (by kernel_rfl) (by kernel_rfl) (by kernel_rfl) (fun τ r h => by
    obtain ⟨a0, ⟨⟩⟩ := τ
    obtain ⟨m, hm⟩ := Rn_integer_Sign a0 r h
    exact ⟨m, (top_integer_Sign (tb_integer_Sign m) a0).trans (hm m (Nat.le_refl m))⟩)

abbrev E_bits_Mul32 : Env := mkE tys [] []
def c_bits_Mul32 : List (Nat × Live) := []
noncomputable abbrev fe_bits_Mul32 := (finE (E_bits_Mul32) [(.int .u32, false), (.int .u32, false)] Try.f148.results.toList)
theorem top_bits_Mul32 (S : Nat → KT (RT [(.int .u32, false), (.int .u32, false)])) (a0 : Int) (a1 : Int) : evA (E_bits_Mul32) (lk c_bits_Mul32) S (bodyOf Try.f148) noX (fe_bits_Mul32) (fe_bits_Mul32) (initSt [.int .u32, .int .u32] (a0, a1, ())) = T_bits_Mul32 a0 a1 := by kernel_rfl
noncomputable abbrev tb_bits_Mul32 := tab (E_bits_Mul32) (lk c_bits_Mul32) (bodyOf Try.f148) (fe_bits_Mul32)
theorem ok_bits_Mul32 : EnvOK Try.prog (E_bits_Mul32) := mkE_ok tys_ok trivial trivial
theorem fs_bits_Mul32 : FSound Try.prog 148 [.int .u32, .int .u32] [(.int .u32, false), (.int .u32, false)] (fun τ => F_bits_Mul32 τ.1 τ.2.1) :=
  evG_sound (E := (E_bits_Mul32)) (C := (lk c_bits_Mul32)) ok_bits_Mul32 mixed_ok (fn := Try.f148) (c := (bodyOf Try.f148)) (by kernel_rfl) (by kernel_rfl) (by kernel_rfl) (by kernel_rfl) (by kernel_rfl) (by kernel_rfl) (fun τ r h => by
    obtain ⟨a0, a1, ⟨⟩⟩ := τ
    obtain ⟨m, hm⟩ := Rn_bits_Mul32 a0 a1 r h
    exact ⟨m, (top_bits_Mul32 (tb_bits_Mul32 m) a0 a1).trans (hm m (Nat.le_refl m))⟩)

abbrev E_natural_Mul : Env := mkE tys [(148, callE [.int .u32, .int .u32] [(.int .u32, false), (.int .u32, false)] (fun τ => F_bits_Mul32 τ.1 τ.2.1)), (149, callE [.int .u32, .int .u32, .int .u32] [(.int .u32, false), (.int .u32, false)] (fun τ => F_bits_Add32 τ.1 τ.2.1 τ.2.2.1))] [(133, mixO (callO [] false (.int .u32) .pre (fun τ l => O_natural_trim l)) (callI (callE [.slice (.int .u32)] [(.slice (.int .u32), false)] (fun τ => F_natural_trim τ.1))))]
def c_natural_Mul : List (Nat × Live) := [(25, ⟨[(1, .slice (.int .u32)), (33, .slice (.int .u32)), (34, .int .i64), (35, .int .i64)], [(false, 5, .int .u32)], []⟩), (49, ⟨[(1, .slice (.int .u32)), (6, .int .i64), (7, .int .u32), (8, .int .u32), (33, .slice (.int .u32)), (34, .int .i64), (35, .int .i64), (49, .slice (.int .u32)), (50, .int .i64), (51, .int .i64)], [(false, 5, .int .u32)], [9]⟩)]
noncomputable abbrev fe_natural_Mul := (finE (E_natural_Mul) [(.slice (.int .u32), false)] Try.f109.results.toList)
noncomputable abbrev cn_natural_Mul_25 (x1 : List Int) (x33 : List Int) (x34 : Int) (x35 : Int) (x5 : List Int) : St := ⟨[(5, .one (.loc (.int .u32) 10000)), (35, .one (.val (.int .i64) x35)), (34, .one (.val (.int .i64) x34)), (33, .one (.val (.slice (.int .u32)) x33)), (1, .one (.val (.slice (.int .u32)) x1))], [(10000, some ⟨.int .u32, x5, false⟩)]⟩
noncomputable abbrev kk_natural_Mul_25 (S : Nat → KT (RT [(.slice (.int .u32), false)])) := fun (x1 : List Int) (x33 : List Int) (x34 : Int) (x35 : Int) (x5 : List Int) => S 25 (cn_natural_Mul_25 x1 x33 x34 x35 x5)
noncomputable abbrev cn_natural_Mul_49 (x1 : List Int) (x6 : Int) (x7 : Int) (x8 : Int) (x33 : List Int) (x34 : Int) (x35 : Int) (x49 : List Int) (x50 : Int) (x51 : Int) (x5 : List Int) (o9 : Int) (n9 : Int) : St := ⟨[(9, .one (.sub (.int .u32) 10000 o9 n9)), (5, .one (.loc (.int .u32) 10000)), (51, .one (.val (.int .i64) x51)), (50, .one (.val (.int .i64) x50)), (49, .one (.val (.slice (.int .u32)) x49)), (35, .one (.val (.int .i64) x35)), (34, .one (.val (.int .i64) x34)), (33, .one (.val (.slice (.int .u32)) x33)), (8, .one (.val (.int .u32) x8)), (7, .one (.val (.int .u32) x7)), (6, .one (.val (.int .i64) x6)), (1, .one (.val (.slice (.int .u32)) x1))], [(10000, some ⟨.int .u32, x5, false⟩)]⟩
noncomputable abbrev kk_natural_Mul_49 (S : Nat → KT (RT [(.slice (.int .u32), false)])) := fun (x1 : List Int) (x6 : Int) (x7 : Int) (x8 : Int) (x33 : List Int) (x34 : Int) (x35 : Int) (x49 : List Int) (x50 : Int) (x51 : Int) (x5 : List Int) (o9 : Int) (n9 : Int) => S 49 (cn_natural_Mul_49 x1 x6 x7 x8 x33 x34 x35 x49 x50 x51 x5 o9 n9)
theorem top_natural_Mul (S : Nat → KT (RT [(.slice (.int .u32), false)])) (a0 : List Int) (a1 : List Int) : evA (E_natural_Mul) (lk c_natural_Mul) S (bodyOf Try.f109) noX (fe_natural_Mul) (fe_natural_Mul) (initSt [.slice (.int .u32), .slice (.int .u32)] (a0, a1, ())) = T_natural_Mul (kk_natural_Mul_25 S) (kk_natural_Mul_49 S) a0 a1 := by kernel_rfl
theorem seg_natural_Mul_25 (S : Nat → KT (RT [(.slice (.int .u32), false)])) (x1 : List Int) (x33 : List Int) (x34 : Int) (x35 : Int) (x5 : List Int) : stepT (entry (E_natural_Mul) (lk c_natural_Mul) S 25 (bodyOf Try.f109) noX (fe_natural_Mul) (fe_natural_Mul)) (cn_natural_Mul_25 x1 x33 x34 x35 x5) = S_natural_Mul_25 (kk_natural_Mul_25 S) (kk_natural_Mul_49 S) x1 x33 x34 x35 x5 := by kernel_rfl
theorem seg_natural_Mul_49 (S : Nat → KT (RT [(.slice (.int .u32), false)])) (x1 : List Int) (x6 : Int) (x7 : Int) (x8 : Int) (x33 : List Int) (x34 : Int) (x35 : Int) (x49 : List Int) (x50 : Int) (x51 : Int) (x5 : List Int) (o9 : Int) (n9 : Int) : stepT (entry (E_natural_Mul) (lk c_natural_Mul) S 49 (bodyOf Try.f109) noX (fe_natural_Mul) (fe_natural_Mul)) (cn_natural_Mul_49 x1 x6 x7 x8 x33 x34 x35 x49 x50 x51 x5 o9 n9) = S_natural_Mul_49 (kk_natural_Mul_25 S) (kk_natural_Mul_49 S) x1 x6 x7 x8 x33 x34 x35 x49 x50 x51 x5 o9 n9 := by kernel_rfl
noncomputable abbrev tb_natural_Mul := tab (E_natural_Mul) (lk c_natural_Mul) (bodyOf Try.f109) (fe_natural_Mul)
theorem ok_natural_Mul : EnvOK Try.prog (E_natural_Mul) := mkE_ok tys_ok ⟨⟨fs_bits_Mul32.csound, ⟨Try.f148, by kernel_rfl, by kernel_rfl, by kernel_rfl⟩⟩, ⟨fs_bits_Add32.csound, ⟨Try.f149, by kernel_rfl, by kernel_rfl, by kernel_rfl⟩⟩, trivial⟩ ⟨⟨PSound.mix os_natural_trim.psound (CSound.psound fs_natural_trim.csound), ⟨Try.f133, by kernel_rfl, by kernel_rfl, by kernel_rfl⟩⟩, trivial⟩
theorem fs_natural_Mul : FSound Try.prog 109 [.slice (.int .u32), .slice (.int .u32)] [(.slice (.int .u32), false)] (fun τ => F_natural_Mul τ.1 τ.2.1) :=
  evG_sound (E := (E_natural_Mul)) (C := (lk c_natural_Mul)) ok_natural_Mul mixed_ok (fn := Try.f109) (c := (bodyOf Try.f109)) (by kernel_rfl) (by kernel_rfl) (by kernel_rfl) (by kernel_rfl) (by kernel_rfl) (by kernel_rfl) (fun τ r h => by
    obtain ⟨a0, a1, ⟨⟩⟩ := τ
    obtain ⟨m, hm⟩ := Rn_natural_Mul (fun m => kk_natural_Mul_25 (tb_natural_Mul m)) (fun m => kk_natural_Mul_49 (tb_natural_Mul m)) (fun m x1 x33 x34 x35 x5 => (tab_succ (E_natural_Mul) (lk c_natural_Mul) (bodyOf Try.f109) (fe_natural_Mul) m 25 (cn_natural_Mul_25 x1 x33 x34 x35 x5)).trans (seg_natural_Mul_25 (tb_natural_Mul m) x1 x33 x34 x35 x5)) (fun m x1 x6 x7 x8 x33 x34 x35 x49 x50 x51 x5 o9 n9 => (tab_succ (E_natural_Mul) (lk c_natural_Mul) (bodyOf Try.f109) (fe_natural_Mul) m 49 (cn_natural_Mul_49 x1 x6 x7 x8 x33 x34 x35 x49 x50 x51 x5 o9 n9)).trans (seg_natural_Mul_49 (tb_natural_Mul m) x1 x6 x7 x8 x33 x34 x35 x49 x50 x51 x5 o9 n9)) a0 a1 r h
    exact ⟨m, (top_natural_Mul (tb_natural_Mul m) a0 a1).trans (hm m (Nat.le_refl m))⟩)

abbrev E_integer_Mul : Env := mkE tys [(109, callE [.slice (.int .u32), .slice (.int .u32)] [(.slice (.int .u32), false)] (fun τ => F_natural_Mul τ.1 τ.2.1)), (129, callE [.bool, .slice (.int .u32)] [(.pair (.bool) (.slice (.int .u32)), false)] (fun τ => F_integer_made τ.1 τ.2.1))] []
def c_integer_Mul : List (Nat × Live) := []
noncomputable abbrev fe_integer_Mul := (finE (E_integer_Mul) [(.pair (.bool) (.slice (.int .u32)), false)] Try.f101.results.toList)
theorem top_integer_Mul (S : Nat → KT (RT [(.pair (.bool) (.slice (.int .u32)), false)])) (a0 : Bool × List Int) (a1 : Bool × List Int) : evA (E_integer_Mul) (lk c_integer_Mul) S (bodyOf Try.f101) noX (fe_integer_Mul) (fe_integer_Mul) (initSt [.pair (.bool) (.slice (.int .u32)), .pair (.bool) (.slice (.int .u32))] (a0, a1, ())) = T_integer_Mul a0 a1 := by kernel_rfl
noncomputable abbrev tb_integer_Mul := tab (E_integer_Mul) (lk c_integer_Mul) (bodyOf Try.f101) (fe_integer_Mul)
theorem ok_integer_Mul : EnvOK Try.prog (E_integer_Mul) := mkE_ok tys_ok ⟨⟨fs_natural_Mul.csound, ⟨Try.f109, by kernel_rfl, by kernel_rfl, by kernel_rfl⟩⟩, ⟨fs_integer_made.csound, ⟨Try.f129, by kernel_rfl, by kernel_rfl, by kernel_rfl⟩⟩, trivial⟩ trivial
theorem fs_integer_Mul : FSound Try.prog 101 [.pair (.bool) (.slice (.int .u32)), .pair (.bool) (.slice (.int .u32))] [(.pair (.bool) (.slice (.int .u32)), false)] (fun τ => F_integer_Mul τ.1 τ.2.1) :=
  evG_sound (E := (E_integer_Mul)) (C := (lk c_integer_Mul)) ok_integer_Mul mixed_ok (fn := Try.f101) (c := (bodyOf Try.f101)) (by kernel_rfl) (by kernel_rfl) (by kernel_rfl) (by kernel_rfl) (by kernel_rfl) (by kernel_rfl) (fun τ r h => by
    obtain ⟨a0, a1, ⟨⟩⟩ := τ
    obtain ⟨m, hm⟩ := Rn_integer_Mul a0 a1 r h
    exact ⟨m, (top_integer_Mul (tb_integer_Mul m) a0 a1).trans (hm m (Nat.le_refl m))⟩)

abbrev E_natural_BitLen : Env := mkE tys [(183, callE [.int .u32] [(.int .i64, false)] (fun τ => F_bits_Len32 τ.1))] [(133, mixO (callO [] false (.int .u32) .pre (fun τ l => O_natural_trim l)) (callI (callE [.slice (.int .u32)] [(.slice (.int .u32), false)] (fun τ => F_natural_trim τ.1))))]
def c_natural_BitLen : List (Nat × Live) := []
noncomputable abbrev fe_natural_BitLen := (finE (E_natural_BitLen) [(.int .i64, false)] Try.f163.results.toList)
theorem top_natural_BitLen (S : Nat → KT (RT [(.int .i64, false)])) (a0 : List Int) : evA (E_natural_BitLen) (lk c_natural_BitLen) S (bodyOf Try.f163) noX (fe_natural_BitLen) (fe_natural_BitLen) (initSt [.slice (.int .u32)] (a0, ())) = T_natural_BitLen a0 := by kernel_rfl
noncomputable abbrev tb_natural_BitLen := tab (E_natural_BitLen) (lk c_natural_BitLen) (bodyOf Try.f163) (fe_natural_BitLen)
theorem ok_natural_BitLen : EnvOK Try.prog (E_natural_BitLen) := mkE_ok tys_ok ⟨⟨fs_bits_Len32.csound, ⟨Try.f183, by kernel_rfl, by kernel_rfl, by kernel_rfl⟩⟩, trivial⟩ ⟨⟨PSound.mix os_natural_trim.psound (CSound.psound fs_natural_trim.csound), ⟨Try.f133, by kernel_rfl, by kernel_rfl, by kernel_rfl⟩⟩, trivial⟩
theorem fs_natural_BitLen : FSound Try.prog 163 [.slice (.int .u32)] [(.int .i64, false)] (fun τ => F_natural_BitLen τ.1) :=
  evG_sound (E := (E_natural_BitLen)) (C := (lk c_natural_BitLen)) ok_natural_BitLen mixed_ok (fn := Try.f163) (c := (bodyOf Try.f163)) (by kernel_rfl) (by kernel_rfl) (by kernel_rfl) (by kernel_rfl) (by kernel_rfl) (by kernel_rfl) (fun τ r h => by
    obtain ⟨a0, ⟨⟩⟩ := τ
    obtain ⟨m, hm⟩ := Rn_natural_BitLen a0 r h
    exact ⟨m, (top_natural_BitLen (tb_natural_BitLen m) a0).trans (hm m (Nat.le_refl m))⟩)

abbrev E_integer_BitLen : Env := mkE tys [(163, callE [.slice (.int .u32)] [(.int .i64, false)] (fun τ => F_natural_BitLen τ.1))] []
def c_integer_BitLen : List (Nat × Live) := []
noncomputable abbrev fe_integer_BitLen := (finE (E_integer_BitLen) [(.int .i64, false)] Try.f130.results.toList)
theorem top_integer_BitLen (S : Nat → KT (RT [(.int .i64, false)])) (a0 : Bool × List Int) : evA (E_integer_BitLen) (lk c_integer_BitLen) S (bodyOf Try.f130) noX (fe_integer_BitLen) (fe_integer_BitLen) (initSt [.pair (.bool) (.slice (.int .u32))] (a0, ())) = T_integer_BitLen a0 := by kernel_rfl
noncomputable abbrev tb_integer_BitLen := tab (E_integer_BitLen) (lk c_integer_BitLen) (bodyOf Try.f130) (fe_integer_BitLen)
theorem ok_integer_BitLen : EnvOK Try.prog (E_integer_BitLen) := mkE_ok tys_ok ⟨⟨fs_natural_BitLen.csound, ⟨Try.f163, by kernel_rfl, by kernel_rfl, by kernel_rfl⟩⟩, trivial⟩ trivial
theorem fs_integer_BitLen : FSound Try.prog 130 [.pair (.bool) (.slice (.int .u32))] [(.int .i64, false)] (fun τ => F_integer_BitLen τ.1) :=
  evG_sound (E := (E_integer_BitLen)) (C := (lk c_integer_BitLen)) ok_integer_BitLen mixed_ok (fn := Try.f130) (c := (bodyOf Try.f130)) (by kernel_rfl) (by kernel_rfl) (by kernel_rfl) (by kernel_rfl) (by kernel_rfl) (by kernel_rfl) (fun τ r h => by
    obtain ⟨a0, ⟨⟩⟩ := τ
    obtain ⟨m, hm⟩ := Rn_integer_BitLen a0 r h
    exact ⟨m, (top_integer_BitLen (tb_integer_BitLen m) a0).trans (hm m (Nat.le_refl m))⟩)

abbrev E_integer_Pow : Env := mkE tys [(82, callE [.int .i64] [(.pair (.bool) (.slice (.int .u32)), false)] (fun τ => F_integer_Of τ.1)), (101, callE [.pair (.bool) (.slice (.int .u32)), .pair (.bool) (.slice (.int .u32))] [(.pair (.bool) (.slice (.int .u32)), false)] (fun τ => F_integer_Mul τ.1 τ.2.1)), (130, callE [.pair (.bool) (.slice (.int .u32))] [(.int .i64, false)] (fun τ => F_integer_BitLen τ.1))] []
def c_integer_Pow : List (Nat × Live) := [(29, ⟨[(1, .int .i64)], [(true, 2, .pair (.bool) (.slice (.int .u32))), (true, 4, .pair (.bool) (.slice (.int .u32))), (true, 7, .pair (.bool) (.slice (.int .u32)))], []⟩)]
noncomputable abbrev fe_integer_Pow := (finE (E_integer_Pow) [(.pair (.bool) (.slice (.int .u32)), false), (.int .i64, false)] Try.f83.results.toList)
noncomputable abbrev cn_integer_Pow_29 (x1 : Int) (x2 : Bool × List Int) (x4 : Bool × List Int) (x7 : Bool × List Int) : St := ⟨[(7, .one (.ptr 10002 0 [])), (4, .one (.ptr 10001 0 [])), (2, .one (.ptr 10000 0 [])), (1, .one (.val (.int .i64) x1))], [(10002, some ⟨.pair (.bool) (.slice (.int .u32)), [x7], false⟩), (10001, some ⟨.pair (.bool) (.slice (.int .u32)), [x4], false⟩), (10000, some ⟨.pair (.bool) (.slice (.int .u32)), [x2], false⟩)]⟩
noncomputable abbrev kk_integer_Pow_29 (S : Nat → KT (RT [(.pair (.bool) (.slice (.int .u32)), false), (.int .i64, false)])) := fun (x1 : Int) (x2 : Bool × List Int) (x4 : Bool × List Int) (x7 : Bool × List Int) => S 29 (cn_integer_Pow_29 x1 x2 x4 x7)
theorem top_integer_Pow (S : Nat → KT (RT [(.pair (.bool) (.slice (.int .u32)), false), (.int .i64, false)])) (a0 : Bool × List Int) (a1 : Int) : evA (E_integer_Pow) (lk c_integer_Pow) S (bodyOf Try.f83) noX (fe_integer_Pow) (fe_integer_Pow) (initSt [.pair (.bool) (.slice (.int .u32)), .int .i64] (a0, a1, ())) = T_integer_Pow (kk_integer_Pow_29 S) a0 a1 := by kernel_rfl
theorem seg_integer_Pow_29 (S : Nat → KT (RT [(.pair (.bool) (.slice (.int .u32)), false), (.int .i64, false)])) (x1 : Int) (x2 : Bool × List Int) (x4 : Bool × List Int) (x7 : Bool × List Int) : stepT (entry (E_integer_Pow) (lk c_integer_Pow) S 29 (bodyOf Try.f83) noX (fe_integer_Pow) (fe_integer_Pow)) (cn_integer_Pow_29 x1 x2 x4 x7) = S_integer_Pow_29 (kk_integer_Pow_29 S) x1 x2 x4 x7 := by kernel_rfl
noncomputable abbrev tb_integer_Pow := tab (E_integer_Pow) (lk c_integer_Pow) (bodyOf Try.f83) (fe_integer_Pow)
theorem ok_integer_Pow : EnvOK Try.prog (E_integer_Pow) := mkE_ok tys_ok ⟨⟨fs_integer_Of.csound, ⟨Try.f82, by kernel_rfl, by kernel_rfl, by kernel_rfl⟩⟩, ⟨fs_integer_Mul.csound, ⟨Try.f101, by kernel_rfl, by kernel_rfl, by kernel_rfl⟩⟩, ⟨fs_integer_BitLen.csound, ⟨Try.f130, by kernel_rfl, by kernel_rfl, by kernel_rfl⟩⟩, trivial⟩ trivial
theorem fs_integer_Pow : FSound Try.prog 83 [.pair (.bool) (.slice (.int .u32)), .int .i64] [(.pair (.bool) (.slice (.int .u32)), false), (.int .i64, false)] (fun τ => F_integer_Pow τ.1 τ.2.1) :=
  evG_sound (E := (E_integer_Pow)) (C := (lk c_integer_Pow)) ok_integer_Pow mixed_ok (fn := Try.f83) (c := (bodyOf Try.f83)) (by kernel_rfl) (by kernel_rfl) (by kernel_rfl) (by kernel_rfl) (by kernel_rfl) (by kernel_rfl) (fun τ r h => by
    obtain ⟨a0, a1, ⟨⟩⟩ := τ
    obtain ⟨m, hm⟩ := Rn_integer_Pow (fun m => kk_integer_Pow_29 (tb_integer_Pow m)) (fun m x1 x2 x4 x7 => (tab_succ (E_integer_Pow) (lk c_integer_Pow) (bodyOf Try.f83) (fe_integer_Pow) m 29 (cn_integer_Pow_29 x1 x2 x4 x7)).trans (seg_integer_Pow_29 (tb_integer_Pow m) x1 x2 x4 x7)) a0 a1 r h
    exact ⟨m, (top_integer_Pow (tb_integer_Pow m) a0 a1).trans (hm m (Nat.le_refl m))⟩)

abbrev E_rational_parts : Env := mkE tys [(82, callE [.int .i64] [(.pair (.bool) (.slice (.int .u32)), false)] (fun τ => F_integer_Of τ.1)), (91, callE [.slice (.int .u32)] [(.bool, false)] (fun τ => F_natural_IsZero τ.1))] []
def c_rational_parts : List (Nat × Live) := []
noncomputable abbrev fe_rational_parts := (finE (E_rational_parts) [(.pair (.bool) (.slice (.int .u32)), false), (.pair (.bool) (.slice (.int .u32)), false)] Try.f85.results.toList)
theorem top_rational_parts (S : Nat → KT (RT [(.pair (.bool) (.slice (.int .u32)), false), (.pair (.bool) (.slice (.int .u32)), false)])) (a0 : (Bool × List Int) × List Int) : evA (E_rational_parts) (lk c_rational_parts) S (bodyOf Try.f85) noX (fe_rational_parts) (fe_rational_parts) (initSt [.pair (.pair (.bool) (.slice (.int .u32))) (.slice (.int .u32))] (a0, ())) = T_rational_parts a0 := by kernel_rfl
noncomputable abbrev tb_rational_parts := tab (E_rational_parts) (lk c_rational_parts) (bodyOf Try.f85) (fe_rational_parts)
theorem ok_rational_parts : EnvOK Try.prog (E_rational_parts) := mkE_ok tys_ok ⟨⟨fs_integer_Of.csound, ⟨Try.f82, by kernel_rfl, by kernel_rfl, by kernel_rfl⟩⟩, ⟨fs_natural_IsZero.csound, ⟨Try.f91, by kernel_rfl, by kernel_rfl, by kernel_rfl⟩⟩, trivial⟩ trivial
theorem fs_rational_parts : FSound Try.prog 85 [.pair (.pair (.bool) (.slice (.int .u32))) (.slice (.int .u32))] [(.pair (.bool) (.slice (.int .u32)), false), (.pair (.bool) (.slice (.int .u32)), false)] (fun τ => F_rational_parts τ.1) :=
  evG_sound (E := (E_rational_parts)) (C := (lk c_rational_parts)) ok_rational_parts mixed_ok (fn := Try.f85) (c := (bodyOf Try.f85)) (by kernel_rfl) (by kernel_rfl) (by kernel_rfl) (by kernel_rfl) (by kernel_rfl) (by kernel_rfl) (fun τ r h => by
    obtain ⟨a0, ⟨⟩⟩ := τ
    obtain ⟨m, hm⟩ := Rn_rational_parts a0 r h
    exact ⟨m, (top_rational_parts (tb_rational_parts m) a0).trans (hm m (Nat.le_refl m))⟩)

abbrev Eo_natural_Add_1 : Env := mkE tys [(149, callE [.int .u32, .int .u32, .int .u32] [(.int .u32, false), (.int .u32, false)] (fun τ => F_bits_Add32 τ.1 τ.2.1 τ.2.2.1))] []
def co_natural_Add_1 : List (Nat × Live) := []
noncomputable abbrev feo_natural_Add_1 := (finO (Eo_natural_Add_1) 2 true (.int .u32) (.one (.int .u32)) Try.f167.results.toList)
theorem topo_natural_Add_1 (S : Nat → KT (CD true (.int .u32) × RS.D (.one (.int .u32)))) (a0 : Int) (a1 : Int) (l : Int) : evA (Eo_natural_Add_1) (lk co_natural_Add_1) S (bodyOf Try.f167) noX (feo_natural_Add_1) (feo_natural_Add_1) (initO [.int .u32, .int .u32] (a0, a1, ()) true (.int .u32) l) = To_natural_Add_1 a0 a1 l := by kernel_rfl
noncomputable abbrev tbo_natural_Add_1 := tab (Eo_natural_Add_1) (lk co_natural_Add_1) (bodyOf Try.f167) (feo_natural_Add_1)
theorem oko_natural_Add_1 : EnvOK Try.prog (Eo_natural_Add_1) := mkE_ok tys_ok ⟨⟨fs_bits_Add32.csound, ⟨Try.f149, by kernel_rfl, by kernel_rfl, by kernel_rfl⟩⟩, trivial⟩ trivial
theorem os_natural_Add_1 : OSound Try.prog 167 [.int .u32, .int .u32] true (.int .u32) (.one (.int .u32)) (fun τ l => O_natural_Add_1 τ.1 τ.2.1 l) :=
  evO_sound (E := (Eo_natural_Add_1)) (C := (lk co_natural_Add_1)) oko_natural_Add_1 mixed_ok (fn := Try.f167) (k := (bodyOf Try.f167)) (by kernel_rfl) (by kernel_rfl) (by kernel_rfl) (by kernel_rfl) (by kernel_rfl) (fun τ l r h => by
    obtain ⟨a0, a1, ⟨⟩⟩ := τ
    obtain ⟨m, hm⟩ := Rno_natural_Add_1 a0 a1 l r h
    exact ⟨m, (topo_natural_Add_1 (tbo_natural_Add_1 m) a0 a1 l).trans (hm m (Nat.le_refl m))⟩)

abbrev E_natural_Add : Env := mkE tys [] [(133, mixO (callO [] false (.int .u32) .pre (fun τ l => O_natural_trim l)) (callI (callE [.slice (.int .u32)] [(.slice (.int .u32), false)] (fun τ => F_natural_trim τ.1)))), (167, callO [.int .u32, .int .u32] true (.int .u32) (.one (.int .u32)) (fun τ l => O_natural_Add_1 τ.1 τ.2.1 l))]
def c_natural_Add : List (Nat × Live) := [(33, ⟨[(0, .slice (.int .u32)), (1, .slice (.int .u32)), (27, .slice (.int .u32)), (28, .int .i64), (29, .int .i64)], [(false, 5, .int .u32), (true, 6, .int .u32)], [7]⟩), (53, ⟨[(0, .slice (.int .u32)), (10, .int .i64)], [(false, 5, .int .u32), (true, 6, .int .u32)], [7]⟩)]
noncomputable abbrev fe_natural_Add := (finE (E_natural_Add) [(.slice (.int .u32), false)] Try.f146.results.toList)
noncomputable abbrev cn_natural_Add_33 (x0 : List Int) (x1 : List Int) (x27 : List Int) (x28 : Int) (x29 : Int) (x5 : List Int) (x6 : Int) : St := ⟨[(7, .one (.fn 167 [10001])), (6, .one (.ptr 10001 0 [])), (5, .one (.loc (.int .u32) 10000)), (29, .one (.val (.int .i64) x29)), (28, .one (.val (.int .i64) x28)), (27, .one (.val (.slice (.int .u32)) x27)), (1, .one (.val (.slice (.int .u32)) x1)), (0, .one (.val (.slice (.int .u32)) x0))], [(10001, some ⟨.int .u32, [x6], false⟩), (10000, some ⟨.int .u32, x5, false⟩)]⟩
noncomputable abbrev kk_natural_Add_33 (S : Nat → KT (RT [(.slice (.int .u32), false)])) := fun (x0 : List Int) (x1 : List Int) (x27 : List Int) (x28 : Int) (x29 : Int) (x5 : List Int) (x6 : Int) => S 33 (cn_natural_Add_33 x0 x1 x27 x28 x29 x5 x6)
noncomputable abbrev cn_natural_Add_53 (x0 : List Int) (x10 : Int) (x5 : List Int) (x6 : Int) : St := ⟨[(7, .one (.fn 167 [10001])), (6, .one (.ptr 10001 0 [])), (5, .one (.loc (.int .u32) 10000)), (10, .one (.val (.int .i64) x10)), (0, .one (.val (.slice (.int .u32)) x0))], [(10001, some ⟨.int .u32, [x6], false⟩), (10000, some ⟨.int .u32, x5, false⟩)]⟩
noncomputable abbrev kk_natural_Add_53 (S : Nat → KT (RT [(.slice (.int .u32), false)])) := fun (x0 : List Int) (x10 : Int) (x5 : List Int) (x6 : Int) => S 53 (cn_natural_Add_53 x0 x10 x5 x6)
theorem top_natural_Add (S : Nat → KT (RT [(.slice (.int .u32), false)])) (a0 : List Int) (a1 : List Int) : evA (E_natural_Add) (lk c_natural_Add) S (bodyOf Try.f146) noX (fe_natural_Add) (fe_natural_Add) (initSt [.slice (.int .u32), .slice (.int .u32)] (a0, a1, ())) = T_natural_Add (kk_natural_Add_33 S) (kk_natural_Add_53 S) a0 a1 := by kernel_rfl
theorem seg_natural_Add_33 (S : Nat → KT (RT [(.slice (.int .u32), false)])) (x0 : List Int) (x1 : List Int) (x27 : List Int) (x28 : Int) (x29 : Int) (x5 : List Int) (x6 : Int) : stepT (entry (E_natural_Add) (lk c_natural_Add) S 33 (bodyOf Try.f146) noX (fe_natural_Add) (fe_natural_Add)) (cn_natural_Add_33 x0 x1 x27 x28 x29 x5 x6) = S_natural_Add_33 (kk_natural_Add_33 S) (kk_natural_Add_53 S) x0 x1 x27 x28 x29 x5 x6 := by kernel_rfl
theorem seg_natural_Add_53 (S : Nat → KT (RT [(.slice (.int .u32), false)])) (x0 : List Int) (x10 : Int) (x5 : List Int) (x6 : Int) : stepT (entry (E_natural_Add) (lk c_natural_Add) S 53 (bodyOf Try.f146) noX (fe_natural_Add) (fe_natural_Add)) (cn_natural_Add_53 x0 x10 x5 x6) = S_natural_Add_53 (kk_natural_Add_33 S) (kk_natural_Add_53 S) x0 x10 x5 x6 := by kernel_rfl
noncomputable abbrev tb_natural_Add := tab (E_natural_Add) (lk c_natural_Add) (bodyOf Try.f146) (fe_natural_Add)
theorem ok_natural_Add : EnvOK Try.prog (E_natural_Add) := mkE_ok tys_ok trivial ⟨⟨PSound.mix os_natural_trim.psound (CSound.psound fs_natural_trim.csound), ⟨Try.f133, by kernel_rfl, by kernel_rfl, by kernel_rfl⟩⟩, ⟨os_natural_Add_1.psound, ⟨Try.f167, by kernel_rfl, by kernel_rfl, by kernel_rfl⟩⟩, trivial⟩
theorem fs_natural_Add : FSound Try.prog 146 [.slice (.int .u32), .slice (.int .u32)] [(.slice (.int .u32), false)] (fun τ => F_natural_Add τ.1 τ.2.1) :=
  evG_sound (E := (E_natural_Add)) (C := (lk c_natural_Add)) ok_natural_Add mixed_ok (fn := Try.f146) (c := (bodyOf Try.f146)) (by kernel_rfl) (by kernel_rfl) (by kernel_rfl) (by kernel_rfl) (by kernel_rfl) (by kernel_rfl) (fun τ r h => by
    obtain ⟨a0, a1, ⟨⟩⟩ := τ
    obtain ⟨m, hm⟩ := Rn_natural_Add (fun m => kk_natural_Add_33 (tb_natural_Add m)) (fun m => kk_natural_Add_53 (tb_natural_Add m)) (fun m x0 x1 x27 x28 x29 x5 x6 => (tab_succ (E_natural_Add) (lk c_natural_Add) (bodyOf Try.f146) (fe_natural_Add) m 33 (cn_natural_Add_33 x0 x1 x27 x28 x29 x5 x6)).trans (seg_natural_Add_33 (tb_natural_Add m) x0 x1 x27 x28 x29 x5 x6)) (fun m x0 x10 x5 x6 => (tab_succ (E_natural_Add) (lk c_natural_Add) (bodyOf Try.f146) (fe_natural_Add) m 53 (cn_natural_Add_53 x0 x10 x5 x6)).trans (seg_natural_Add_53 (tb_natural_Add m) x0 x10 x5 x6)) a0 a1 r h
    exact ⟨m, (top_natural_Add (tb_natural_Add m) a0 a1).trans (hm m (Nat.le_refl m))⟩)

abbrev E_bits_Sub32 : Env := mkE tys [] []
def c_bits_Sub32 : List (Nat × Live) := []
noncomputable abbrev fe_bits_Sub32 := (finE (E_bits_Sub32) [(.int .u32, false), (.int .u32, false)] Try.f168.results.toList)
theorem top_bits_Sub32 (S : Nat → KT (RT [(.int .u32, false), (.int .u32, false)])) (a0 : Int) (a1 : Int) (a2 : Int) : evA (E_bits_Sub32) (lk c_bits_Sub32) S (bodyOf Try.f168) noX (fe_bits_Sub32) (fe_bits_Sub32) (initSt [.int .u32, .int .u32, .int .u32] (a0, a1, a2, ())) = T_bits_Sub32 a0 a1 a2 := by kernel_rfl
noncomputable abbrev tb_bits_Sub32 := tab (E_bits_Sub32) (lk c_bits_Sub32) (bodyOf Try.f168) (fe_bits_Sub32)
theorem ok_bits_Sub32 : EnvOK Try.prog (E_bits_Sub32) := mkE_ok tys_ok trivial trivial
theorem fs_bits_Sub32 : FSound Try.prog 168 [.int .u32, .int .u32, .int .u32] [(.int .u32, false), (.int .u32, false)] (fun τ => F_bits_Sub32 τ.1 τ.2.1 τ.2.2.1) :=
  evG_sound (E := (E_bits_Sub32)) (C := (lk c_bits_Sub32)) ok_bits_Sub32 mixed_ok (fn := Try.f168) (c := (bodyOf Try.f168)) (by kernel_rfl) (by kernel_rfl) (by kernel_rfl) (by kernel_rfl) (by kernel_rfl) (by kernel_rfl) (fun τ r h => by
    obtain ⟨a0, a1, a2, ⟨⟩⟩ := τ
    obtain ⟨m, hm⟩ := Rn_bits_Sub32 a0 a1 a2 r h
    exact ⟨m, (top_bits_Sub32 (tb_bits_Sub32 m) a0 a1 a2).trans (hm m (Nat.le_refl m))⟩)

abbrev E_natural_Sub : Env := mkE tys [(142, callE [.slice (.int .u32), .slice (.int .u32)] [(.int .i64, false)] (fun τ => F_natural_Cmp τ.1 τ.2.1)), (168, callE [.int .u32, .int .u32, .int .u32] [(.int .u32, false), (.int .u32, false)] (fun τ => F_bits_Sub32 τ.1 τ.2.1 τ.2.2.1))] [(133, mixO (callO [] false (.int .u32) .pre (fun τ l => O_natural_trim l)) (callI (callE [.slice (.int .u32)] [(.slice (.int .u32), false)] (fun τ => F_natural_trim τ.1))))]
def c_natural_Sub : List (Nat × Live) := [(29, ⟨[(1, .slice (.int .u32)), (7, .int .u32), (22, .slice (.int .u32)), (23, .int .i64), (24, .int .i64)], [(false, 6, .int .u32)], []⟩)]
noncomputable abbrev fe_natural_Sub := (finE (E_natural_Sub) [(.slice (.int .u32), false), (.bool, false)] Try.f147.results.toList)
noncomputable abbrev cn_natural_Sub_29 (x1 : List Int) (x7 : Int) (x22 : List Int) (x23 : Int) (x24 : Int) (x6 : List Int) : St := ⟨[(6, .one (.loc (.int .u32) 10000)), (24, .one (.val (.int .i64) x24)), (23, .one (.val (.int .i64) x23)), (22, .one (.val (.slice (.int .u32)) x22)), (7, .one (.val (.int .u32) x7)), (1, .one (.val (.slice (.int .u32)) x1))], [(10000, some ⟨.int .u32, x6, false⟩)]⟩
noncomputable abbrev kk_natural_Sub_29 (S : Nat → KT (RT [(.slice (.int .u32), false), (.bool, false)])) := fun (x1 : List Int) (x7 : Int) (x22 : List Int) (x23 : Int) (x24 : Int) (x6 : List Int) => S 29 (cn_natural_Sub_29 x1 x7 x22 x23 x24 x6)
theorem top_natural_Sub (S : Nat → KT (RT [(.slice (.int .u32), false), (.bool, false)])) (a0 : List Int) (a1 : List Int) : evA (E_natural_Sub) (lk c_natural_Sub) S (bodyOf Try.f147) noX (fe_natural_Sub) (fe_natural_Sub) (initSt [.slice (.int .u32), .slice (.int .u32)] (a0, a1, ())) = T_natural_Sub (kk_natural_Sub_29 S) a0 a1 := by kernel_rfl
theorem seg_natural_Sub_29 (S : Nat → KT (RT [(.slice (.int .u32), false), (.bool, false)])) (x1 : List Int) (x7 : Int) (x22 : List Int) (x23 : Int) (x24 : Int) (x6 : List Int) : stepT (entry (E_natural_Sub) (lk c_natural_Sub) S 29 (bodyOf Try.f147) noX (fe_natural_Sub) (fe_natural_Sub)) (cn_natural_Sub_29 x1 x7 x22 x23 x24 x6) = S_natural_Sub_29 (kk_natural_Sub_29 S) x1 x7 x22 x23 x24 x6 := by kernel_rfl
noncomputable abbrev tb_natural_Sub := tab (E_natural_Sub) (lk c_natural_Sub) (bodyOf Try.f147) (fe_natural_Sub)
theorem ok_natural_Sub : EnvOK Try.prog (E_natural_Sub) := mkE_ok tys_ok ⟨⟨fs_natural_Cmp.csound, ⟨Try.f142, by kernel_rfl, by kernel_rfl, by kernel_rfl⟩⟩, ⟨fs_bits_Sub32.csound, ⟨Try.f168, by kernel_rfl, by kernel_rfl, by kernel_rfl⟩⟩, trivial⟩ ⟨⟨PSound.mix os_natural_trim.psound (CSound.psound fs_natural_trim.csound), ⟨Try.f133, by kernel_rfl, by kernel_rfl, by kernel_rfl⟩⟩, trivial⟩
theorem fs_natural_Sub : FSound Try.prog 147 [.slice (.int .u32), .slice (.int .u32)] [(.slice (.int .u32), false), (.bool, false)] (fun τ => F_natural_Sub τ.1 τ.2.1) :=
  evG_sound (E := (E_natural_Sub)) (C := (lk c_natural_Sub)) ok_natural_Sub mixed_ok (fn := Try.f147) (c := (bodyOf Try.f147)) (by kernel_rfl) (by kernel_rfl) (by kernel_rfl) (by kernel_rfl) (by kernel_rfl) (by kernel_rfl) (fun τ r h => by
    obtain ⟨a0, a1, ⟨⟩⟩ := τ
    obtain ⟨m, hm⟩ := Rn_natural_Sub (fun m => kk_natural_Sub_29 (tb_natural_Sub m)) (fun m x1 x7 x22 x23 x24 x6 => (tab_succ (E_natural_Sub) (lk c_natural_Sub) (bodyOf Try.f147) (fe_natural_Sub) m 29 (cn_natural_Sub_29 x1 x7 x22 x23 x24 x6)).trans (seg_natural_Sub_29 (tb_natural_Sub m) x1 x7 x22 x23 x24 x6)) a0 a1 r h
    exact ⟨m, (top_natural_Sub (tb_natural_Sub m) a0 a1).trans (hm m (Nat.le_refl m))⟩)

abbrev E_integer_Add : Env := mkE tys [(129, callE [.bool, .slice (.int .u32)] [(.pair (.bool) (.slice (.int .u32)), false)] (fun τ => F_integer_made τ.1 τ.2.1)), (146, callE [.slice (.int .u32), .slice (.int .u32)] [(.slice (.int .u32), false)] (fun τ => F_natural_Add τ.1 τ.2.1)), (147, callE [.slice (.int .u32), .slice (.int .u32)] [(.slice (.int .u32), false), (.bool, false)] (fun τ => F_natural_Sub τ.1 τ.2.1))] []
def c_integer_Add : List (Nat × Live) := []
noncomputable abbrev fe_integer_Add := (finE (E_integer_Add) [(.pair (.bool) (.slice (.int .u32)), false)] Try.f108.results.toList)
theorem top_integer_Add (S : Nat → KT (RT [(.pair (.bool) (.slice (.int .u32)), false)])) (a0 : Bool × List Int) (a1 : Bool × List Int) : evA (E_integer_Add) (lk c_integer_Add) S (bodyOf Try.f108) noX (fe_integer_Add) (fe_integer_Add) (initSt [.pair (.bool) (.slice (.int .u32)), .pair (.bool) (.slice (.int .u32))] (a0, a1, ())) = T_integer_Add a0 a1 := by kernel_rfl
noncomputable abbrev tb_integer_Add := tab (E_integer_Add) (lk c_integer_Add) (bodyOf Try.f108) (fe_integer_Add)
theorem ok_integer_Add : EnvOK Try.prog (E_integer_Add) := mkE_ok tys_ok ⟨⟨fs_integer_made.csound, ⟨Try.f129, by kernel_rfl, by kernel_rfl, by kernel_rfl⟩⟩, ⟨fs_natural_Add.csound, ⟨Try.f146, by kernel_rfl, by kernel_rfl, by kernel_rfl⟩⟩, ⟨fs_natural_Sub.csound, ⟨Try.f147, by kernel_rfl, by kernel_rfl, by kernel_rfl⟩⟩, trivial⟩ trivial
theorem fs_integer_Add : FSound Try.prog 108 [.pair (.bool) (.slice (.int .u32)), .pair (.bool) (.slice (.int .u32))] [(.pair (.bool) (.slice (.int .u32)), false)] (fun τ => F_integer_Add τ.1 τ.2.1) :=
  evG_sound (E := (E_integer_Add)) (C := (lk c_integer_Add)) ok_integer_Add mixed_ok (fn := Try.f108) (c := (bodyOf Try.f108)) (by kernel_rfl) (by kernel_rfl) (by kernel_rfl) (by kernel_rfl) (by kernel_rfl) (by kernel_rfl) (fun τ r h => by
    obtain ⟨a0, a1, ⟨⟩⟩ := τ
    obtain ⟨m, hm⟩ := Rn_integer_Add a0 a1 r h
    exact ⟨m, (top_integer_Add (tb_integer_Add m) a0 a1).trans (hm m (Nat.le_refl m))⟩)

abbrev E_integer_Sub : Env := mkE tys [(108, callE [.pair (.bool) (.slice (.int .u32)), .pair (.bool) (.slice (.int .u32))] [(.pair (.bool) (.slice (.int .u32)), false)] (fun τ => F_integer_Add τ.1 τ.2.1))] []
def c_integer_Sub : List (Nat × Live) := []
noncomputable abbrev fe_integer_Sub := (finE (E_integer_Sub) [(.pair (.bool) (.slice (.int .u32)), false)] Try.f138.results.toList)
theorem top_integer_Sub (S : Nat → KT (RT [(.pair (.bool) (.slice (.int .u32)), false)])) (a0 : Bool × List Int) (a1 : Bool × List Int) : evA (E_integer_Sub) (lk c_integer_Sub) S (bodyOf Try.f138) noX (fe_integer_Sub) (fe_integer_Sub) (initSt [.pair (.bool) (.slice (.int .u32)), .pair (.bool) (.slice (.int .u32))] (a0, a1, ())) = T_integer_Sub a0 a1 := by kernel_rfl
noncomputable abbrev tb_integer_Sub := tab (E_integer_Sub) (lk c_integer_Sub) (bodyOf Try.f138) (fe_integer_Sub)
theorem ok_integer_Sub : EnvOK Try.prog (E_integer_Sub) := mkE_ok tys_ok ⟨⟨fs_integer_Add.csound, ⟨Try.f108, by kernel_rfl, by kernel_rfl, by kernel_rfl⟩⟩, trivial⟩ trivial
theorem fs_integer_Sub : FSound Try.prog 138 [.pair (.bool) (.slice (.int .u32)), .pair (.bool) (.slice (.int .u32))] [(.pair (.bool) (.slice (.int .u32)), false)] (fun τ => F_integer_Sub τ.1 τ.2.1) :=
  evG_sound (E := (E_integer_Sub)) (C := (lk c_integer_Sub)) ok_integer_Sub mixed_ok (fn := Try.f138) (c := (bodyOf Try.f138)) (by kernel_rfl) (by kernel_rfl) (by kernel_rfl) (by kernel_rfl) (by kernel_rfl) (by kernel_rfl) (fun τ r h => by
    obtain ⟨a0, a1, ⟨⟩⟩ := τ
    obtain ⟨m, hm⟩ := Rn_integer_Sub a0 a1 r h
    exact ⟨m, (top_integer_Sub (tb_integer_Sub m) a0 a1).trans (hm m (Nat.le_refl m))⟩)

abbrev E_division_Floor : Env := mkE tys [(82, callE [.int .i64] [(.pair (.bool) (.slice (.int .u32)), false)] (fun τ => F_integer_Of τ.1)), (108, callE [.pair (.bool) (.slice (.int .u32)), .pair (.bool) (.slice (.int .u32))] [(.pair (.bool) (.slice (.int .u32)), false)] (fun τ => F_integer_Add τ.1 τ.2.1)), (136, callE [.pair (.bool) (.slice (.int .u32)), .pair (.bool) (.slice (.int .u32))] [(.pair (.bool) (.slice (.int .u32)), false), (.pair (.bool) (.slice (.int .u32)), false), (.int .i64, false)] (fun τ => F_division_Quo τ.1 τ.2.1)), (137, callE [.pair (.bool) (.slice (.int .u32))] [(.bool, false)] (fun τ => F_division_zero τ.1)), (138, callE [.pair (.bool) (.slice (.int .u32)), .pair (.bool) (.slice (.int .u32))] [(.pair (.bool) (.slice (.int .u32)), false)] (fun τ => F_integer_Sub τ.1 τ.2.1))] []
def c_division_Floor : List (Nat × Live) := []
noncomputable abbrev fe_division_Floor := (finE (E_division_Floor) [(.pair (.bool) (.slice (.int .u32)), false), (.pair (.bool) (.slice (.int .u32)), false), (.int .i64, false)] Try.f95.results.toList)
theorem top_division_Floor (S : Nat → KT (RT [(.pair (.bool) (.slice (.int .u32)), false), (.pair (.bool) (.slice (.int .u32)), false), (.int .i64, false)])) (a0 : Bool × List Int) (a1 : Bool × List Int) : evA (E_division_Floor) (lk c_division_Floor) S (bodyOf Try.f95) noX (fe_division_Floor) (fe_division_Floor) (initSt [.pair (.bool) (.slice (.int .u32)), .pair (.bool) (.slice (.int .u32))] (a0, a1, ())) = T_division_Floor a0 a1 := by kernel_rfl
noncomputable abbrev tb_division_Floor := tab (E_division_Floor) (lk c_division_Floor) (bodyOf Try.f95) (fe_division_Floor)
theorem ok_division_Floor : EnvOK Try.prog (E_division_Floor) := mkE_ok tys_ok ⟨⟨fs_integer_Of.csound, ⟨Try.f82, by kernel_rfl, by kernel_rfl, by kernel_rfl⟩⟩, ⟨fs_integer_Add.csound, ⟨Try.f108, by kernel_rfl, by kernel_rfl, by kernel_rfl⟩⟩, ⟨fs_division_Quo.csound, ⟨Try.f136, by kernel_rfl, by kernel_rfl, by kernel_rfl⟩⟩, ⟨fs_division_zero.csound, ⟨Try.f137, by kernel_rfl, by kernel_rfl, by kernel_rfl⟩⟩, ⟨fs_integer_Sub.csound, ⟨Try.f138, by kernel_rfl, by kernel_rfl, by kernel_rfl⟩⟩, trivial⟩ trivial
theorem fs_division_Floor : FSound Try.prog 95 [.pair (.bool) (.slice (.int .u32)), .pair (.bool) (.slice (.int .u32))] [(.pair (.bool) (.slice (.int .u32)), false), (.pair (.bool) (.slice (.int .u32)), false), (.int .i64, false)] (fun τ => F_division_Floor τ.1 τ.2.1) :=
  evG_sound (E := (E_division_Floor)) (C := (lk c_division_Floor)) ok_division_Floor mixed_ok (fn := Try.f95) (c := (bodyOf Try.f95)) (by kernel_rfl) (by kernel_rfl) (by kernel_rfl) (by kernel_rfl) (by kernel_rfl) (by kernel_rfl) (fun τ r h => by
    obtain ⟨a0, a1, ⟨⟩⟩ := τ
    obtain ⟨m, hm⟩ := Rn_division_Floor a0 a1 r h
    exact ⟨m, (top_division_Floor (tb_division_Floor m) a0 a1).trans (hm m (Nat.le_refl m))⟩)

abbrev E_integer_Abs : Env := mkE tys [(134, callE [.bool, .slice (.int .u32)] [(.pair (.bool) (.slice (.int .u32)), false)] (fun τ => F_integer_From τ.1 τ.2.1))] []
def c_integer_Abs : List (Nat × Live) := []
noncomputable abbrev fe_integer_Abs := (finE (E_integer_Abs) [(.pair (.bool) (.slice (.int .u32)), false)] Try.f110.results.toList)
theorem top_integer_Abs (S : Nat → KT (RT [(.pair (.bool) (.slice (.int .u32)), false)])) (a0 : Bool × List Int) : evA (E_integer_Abs) (lk c_integer_Abs) S (bodyOf Try.f110) noX (fe_integer_Abs) (fe_integer_Abs) (initSt [.pair (.bool) (.slice (.int .u32))] (a0, ())) = T_integer_Abs a0 := by kernel_rfl
noncomputable abbrev tb_integer_Abs := tab (E_integer_Abs) (lk c_integer_Abs) (bodyOf Try.f110) (fe_integer_Abs)
theorem ok_integer_Abs : EnvOK Try.prog (E_integer_Abs) := mkE_ok tys_ok ⟨⟨fs_integer_From.csound, ⟨Try.f134, by kernel_rfl, by kernel_rfl, by kernel_rfl⟩⟩, trivial⟩ trivial
theorem fs_integer_Abs : FSound Try.prog 110 [.pair (.bool) (.slice (.int .u32))] [(.pair (.bool) (.slice (.int .u32)), false)] (fun τ => F_integer_Abs τ.1) :=
  evG_sound (E := (E_integer_Abs)) (C := (lk c_integer_Abs)) ok_integer_Abs mixed_ok (fn := Try.f110) (c := (bodyOf Try.f110)) (by kernel_rfl) (by kernel_rfl) (by kernel_rfl) (by kernel_rfl) (by kernel_rfl) (by kernel_rfl) (fun τ r h => by
    obtain ⟨a0, ⟨⟩⟩ := τ
    obtain ⟨m, hm⟩ := Rn_integer_Abs a0 r h
    exact ⟨m, (top_integer_Abs (tb_integer_Abs m) a0).trans (hm m (Nat.le_refl m))⟩)

abbrev E_integer_Shl : Env := mkE tys [(129, callE [.bool, .slice (.int .u32)] [(.pair (.bool) (.slice (.int .u32)), false)] (fun τ => F_integer_made τ.1 τ.2.1)), (156, callE [.slice (.int .u32), .int .i64] [(.slice (.int .u32), true)] (fun τ => F_natural_Shl τ.1 τ.2.1))] []
def c_integer_Shl : List (Nat × Live) := []
noncomputable abbrev fe_integer_Shl := (finE (E_integer_Shl) [(.pair (.bool) (.slice (.int .u32)), false)] Try.f126.results.toList)
theorem top_integer_Shl (S : Nat → KT (RT [(.pair (.bool) (.slice (.int .u32)), false)])) (a0 : Bool × List Int) (a1 : Int) : evA (E_integer_Shl) (lk c_integer_Shl) S (bodyOf Try.f126) noX (fe_integer_Shl) (fe_integer_Shl) (initSt [.pair (.bool) (.slice (.int .u32)), .int .i64] (a0, a1, ())) = T_integer_Shl a0 a1 := by kernel_rfl
noncomputable abbrev tb_integer_Shl := tab (E_integer_Shl) (lk c_integer_Shl) (bodyOf Try.f126) (fe_integer_Shl)
theorem ok_integer_Shl : EnvOK Try.prog (E_integer_Shl) := mkE_ok tys_ok ⟨⟨fs_integer_made.csound, ⟨Try.f129, by kernel_rfl, by kernel_rfl, by kernel_rfl⟩⟩, ⟨fs_natural_Shl.csound, ⟨Try.f156, by kernel_rfl, by kernel_rfl, by kernel_rfl⟩⟩, trivial⟩ trivial
theorem fs_integer_Shl : FSound Try.prog 126 [.pair (.bool) (.slice (.int .u32)), .int .i64] [(.pair (.bool) (.slice (.int .u32)), false)] (fun τ => F_integer_Shl τ.1 τ.2.1) :=
  evG_sound (E := (E_integer_Shl)) (C := (lk c_integer_Shl)) ok_integer_Shl mixed_ok (fn := Try.f126) (c := (bodyOf Try.f126)) (by kernel_rfl) (by kernel_rfl) (by kernel_rfl) (by kernel_rfl) (by kernel_rfl) (by kernel_rfl) (fun τ r h => by
    obtain ⟨a0, a1, ⟨⟩⟩ := τ
    obtain ⟨m, hm⟩ := Rn_integer_Shl a0 a1 r h
    exact ⟨m, (top_integer_Shl (tb_integer_Shl m) a0 a1).trans (hm m (Nat.le_refl m))⟩)

abbrev E_rational_Decimal : Env := mkE tys [(40, callE [.pair (.bool) (.slice (.int .u32))] [(.int .i64, false)] (fun τ => F_integer_Sign τ.1)), (82, callE [.int .i64] [(.pair (.bool) (.slice (.int .u32)), false)] (fun τ => F_integer_Of τ.1)), (83, callE [.pair (.bool) (.slice (.int .u32)), .int .i64] [(.pair (.bool) (.slice (.int .u32)), false), (.int .i64, false)] (fun τ => F_integer_Pow τ.1 τ.2.1)), (85, callE [.pair (.pair (.bool) (.slice (.int .u32))) (.slice (.int .u32))] [(.pair (.bool) (.slice (.int .u32)), false), (.pair (.bool) (.slice (.int .u32)), false)] (fun τ => F_rational_parts τ.1)), (95, callE [.pair (.bool) (.slice (.int .u32)), .pair (.bool) (.slice (.int .u32))] [(.pair (.bool) (.slice (.int .u32)), false), (.pair (.bool) (.slice (.int .u32)), false), (.int .i64, false)] (fun τ => F_division_Floor τ.1 τ.2.1)), (101, callE [.pair (.bool) (.slice (.int .u32)), .pair (.bool) (.slice (.int .u32))] [(.pair (.bool) (.slice (.int .u32)), false)] (fun τ => F_integer_Mul τ.1 τ.2.1)), (108, callE [.pair (.bool) (.slice (.int .u32)), .pair (.bool) (.slice (.int .u32))] [(.pair (.bool) (.slice (.int .u32)), false)] (fun τ => F_integer_Add τ.1 τ.2.1)), (110, callE [.pair (.bool) (.slice (.int .u32))] [(.pair (.bool) (.slice (.int .u32)), false)] (fun τ => F_integer_Abs τ.1)), (118, callE [.pair (.bool) (.slice (.int .u32))] [(.str, false)] (fun τ => F_decimal_Format τ.1)), (126, callE [.pair (.bool) (.slice (.int .u32)), .int .i64] [(.pair (.bool) (.slice (.int .u32)), false)] (fun τ => F_integer_Shl τ.1 τ.2.1)), (127, callE [.str, .int .i64] [(.str, false)] (fun τ => F_strings_Repeat τ.1 τ.2.1))] []
def c_rational_Decimal : List (Nat × Live) := [(8, ⟨[(1, .int .i64), (20, .bool)], [(true, 2, .pair (.pair (.bool) (.slice (.int .u32))) (.slice (.int .u32)))], []⟩), (40, ⟨[(1, .int .i64), (14, .str)], [(true, 6, .pair (.bool) (.slice (.int .u32))), (true, 11, .pair (.bool) (.slice (.int .u32)))], []⟩), (48, ⟨[(14, .str)], [(true, 6, .pair (.bool) (.slice (.int .u32))), (true, 11, .pair (.bool) (.slice (.int .u32)))], []⟩)]
noncomputable abbrev fe_rational_Decimal := (finE (E_rational_Decimal) [(.str, false), (.int .i64, false)] Try.f80.results.toList)
noncomputable abbrev cn_rational_Decimal_8 (x1 : Int) (x20 : Bool) (x2 : (Bool × List Int) × List Int) : St := ⟨[(2, .one (.ptr 10000 0 [])), (20, .one (.val (.bool) x20)), (1, .one (.val (.int .i64) x1))], [(10000, some ⟨.pair (.pair (.bool) (.slice (.int .u32))) (.slice (.int .u32)), [x2], false⟩)]⟩
noncomputable abbrev kk_rational_Decimal_8 (S : Nat → KT (RT [(.str, false), (.int .i64, false)])) := fun (x1 : Int) (x20 : Bool) (x2 : (Bool × List Int) × List Int) => S 8 (cn_rational_Decimal_8 x1 x20 x2)
noncomputable abbrev cn_rational_Decimal_40 (x1 : Int) (x14 : ByteArray) (x6 : Bool × List Int) (x11 : Bool × List Int) : St := ⟨[(11, .one (.ptr 10001 0 [])), (6, .one (.ptr 10000 0 [])), (14, .one (.val (.str) x14)), (1, .one (.val (.int .i64) x1))], [(10001, some ⟨.pair (.bool) (.slice (.int .u32)), [x11], false⟩), (10000, some ⟨.pair (.bool) (.slice (.int .u32)), [x6], false⟩)]⟩
noncomputable abbrev kk_rational_Decimal_40 (S : Nat → KT (RT [(.str, false), (.int .i64, false)])) := fun (x1 : Int) (x14 : ByteArray) (x6 : Bool × List Int) (x11 : Bool × List Int) => S 40 (cn_rational_Decimal_40 x1 x14 x6 x11)
noncomputable abbrev cn_rational_Decimal_48 (x14 : ByteArray) (x6 : Bool × List Int) (x11 : Bool × List Int) : St := ⟨[(11, .one (.ptr 10001 0 [])), (6, .one (.ptr 10000 0 [])), (14, .one (.val (.str) x14))], [(10001, some ⟨.pair (.bool) (.slice (.int .u32)), [x11], false⟩), (10000, some ⟨.pair (.bool) (.slice (.int .u32)), [x6], false⟩)]⟩
noncomputable abbrev kk_rational_Decimal_48 (S : Nat → KT (RT [(.str, false), (.int .i64, false)])) := fun (x14 : ByteArray) (x6 : Bool × List Int) (x11 : Bool × List Int) => S 48 (cn_rational_Decimal_48 x14 x6 x11)
theorem top_rational_Decimal (S : Nat → KT (RT [(.str, false), (.int .i64, false)])) (a0 : (Bool × List Int) × List Int) (a1 : Int) : evA (E_rational_Decimal) (lk c_rational_Decimal) S (bodyOf Try.f80) noX (fe_rational_Decimal) (fe_rational_Decimal) (initSt [.pair (.pair (.bool) (.slice (.int .u32))) (.slice (.int .u32)), .int .i64] (a0, a1, ())) = T_rational_Decimal (kk_rational_Decimal_8 S) (kk_rational_Decimal_40 S) (kk_rational_Decimal_48 S) a0 a1 := by kernel_rfl
theorem seg_rational_Decimal_8 (S : Nat → KT (RT [(.str, false), (.int .i64, false)])) (x1 : Int) (x20 : Bool) (x2 : (Bool × List Int) × List Int) : stepT (entry (E_rational_Decimal) (lk c_rational_Decimal) S 8 (bodyOf Try.f80) noX (fe_rational_Decimal) (fe_rational_Decimal)) (cn_rational_Decimal_8 x1 x20 x2) = S_rational_Decimal_8 (kk_rational_Decimal_8 S) (kk_rational_Decimal_40 S) (kk_rational_Decimal_48 S) x1 x20 x2 := by kernel_rfl
theorem seg_rational_Decimal_40 (S : Nat → KT (RT [(.str, false), (.int .i64, false)])) (x1 : Int) (x14 : ByteArray) (x6 : Bool × List Int) (x11 : Bool × List Int) : stepT (entry (E_rational_Decimal) (lk c_rational_Decimal) S 40 (bodyOf Try.f80) noX (fe_rational_Decimal) (fe_rational_Decimal)) (cn_rational_Decimal_40 x1 x14 x6 x11) = S_rational_Decimal_40 (kk_rational_Decimal_8 S) (kk_rational_Decimal_40 S) (kk_rational_Decimal_48 S) x1 x14 x6 x11 := by kernel_rfl
theorem seg_rational_Decimal_48 (S : Nat → KT (RT [(.str, false), (.int .i64, false)])) (x14 : ByteArray) (x6 : Bool × List Int) (x11 : Bool × List Int) : stepT (entry (E_rational_Decimal) (lk c_rational_Decimal) S 48 (bodyOf Try.f80) noX (fe_rational_Decimal) (fe_rational_Decimal)) (cn_rational_Decimal_48 x14 x6 x11) = S_rational_Decimal_48 (kk_rational_Decimal_8 S) (kk_rational_Decimal_40 S) (kk_rational_Decimal_48 S) x14 x6 x11 := by kernel_rfl
noncomputable abbrev tb_rational_Decimal := tab (E_rational_Decimal) (lk c_rational_Decimal) (bodyOf Try.f80) (fe_rational_Decimal)
theorem ok_rational_Decimal : EnvOK Try.prog (E_rational_Decimal) := mkE_ok tys_ok ⟨⟨fs_integer_Sign.csound, ⟨Try.f40, by kernel_rfl, by kernel_rfl, by kernel_rfl⟩⟩, ⟨fs_integer_Of.csound, ⟨Try.f82, by kernel_rfl, by kernel_rfl, by kernel_rfl⟩⟩, ⟨fs_integer_Pow.csound, ⟨Try.f83, by kernel_rfl, by kernel_rfl, by kernel_rfl⟩⟩, ⟨fs_rational_parts.csound, ⟨Try.f85, by kernel_rfl, by kernel_rfl, by kernel_rfl⟩⟩, ⟨fs_division_Floor.csound, ⟨Try.f95, by kernel_rfl, by kernel_rfl, by kernel_rfl⟩⟩, ⟨fs_integer_Mul.csound, ⟨Try.f101, by kernel_rfl, by kernel_rfl, by kernel_rfl⟩⟩, ⟨fs_integer_Add.csound, ⟨Try.f108, by kernel_rfl, by kernel_rfl, by kernel_rfl⟩⟩, ⟨fs_integer_Abs.csound, ⟨Try.f110, by kernel_rfl, by kernel_rfl, by kernel_rfl⟩⟩, ⟨fs_decimal_Format.csound, ⟨Try.f118, by kernel_rfl, by kernel_rfl, by kernel_rfl⟩⟩, ⟨fs_integer_Shl.csound, ⟨Try.f126, by kernel_rfl, by kernel_rfl, by kernel_rfl⟩⟩, ⟨fs_strings_Repeat.csound, ⟨Try.f127, by kernel_rfl, by kernel_rfl, by kernel_rfl⟩⟩, trivial⟩ trivial
theorem fs_rational_Decimal : FSound Try.prog 80 [.pair (.pair (.bool) (.slice (.int .u32))) (.slice (.int .u32)), .int .i64] [(.str, false), (.int .i64, false)] (fun τ => F_rational_Decimal τ.1 τ.2.1) :=
  evG_sound (E := (E_rational_Decimal)) (C := (lk c_rational_Decimal)) ok_rational_Decimal mixed_ok (fn := Try.f80) (c := (bodyOf Try.f80)) (by kernel_rfl) (by kernel_rfl) (by kernel_rfl) (by kernel_rfl) (by kernel_rfl) (by kernel_rfl) (fun τ r h => by
    obtain ⟨a0, a1, ⟨⟩⟩ := τ
    obtain ⟨m, hm⟩ := Rn_rational_Decimal (fun m => kk_rational_Decimal_8 (tb_rational_Decimal m)) (fun m => kk_rational_Decimal_40 (tb_rational_Decimal m)) (fun m => kk_rational_Decimal_48 (tb_rational_Decimal m)) (fun m x1 x20 x2 => (tab_succ (E_rational_Decimal) (lk c_rational_Decimal) (bodyOf Try.f80) (fe_rational_Decimal) m 8 (cn_rational_Decimal_8 x1 x20 x2)).trans (seg_rational_Decimal_8 (tb_rational_Decimal m) x1 x20 x2)) (fun m x1 x14 x6 x11 => (tab_succ (E_rational_Decimal) (lk c_rational_Decimal) (bodyOf Try.f80) (fe_rational_Decimal) m 40 (cn_rational_Decimal_40 x1 x14 x6 x11)).trans (seg_rational_Decimal_40 (tb_rational_Decimal m) x1 x14 x6 x11)) (fun m x14 x6 x11 => (tab_succ (E_rational_Decimal) (lk c_rational_Decimal) (bodyOf Try.f80) (fe_rational_Decimal) m 48 (cn_rational_Decimal_48 x14 x6 x11)).trans (seg_rational_Decimal_48 (tb_rational_Decimal m) x14 x6 x11)) a0 a1 r h
    exact ⟨m, (top_rational_Decimal (tb_rational_Decimal m) a0 a1).trans (hm m (Nat.le_refl m))⟩)

abbrev E_ref01_bit : Env := mkE tys [] []
def c_ref01_bit : List (Nat × Live) := []
noncomputable abbrev fe_ref01_bit := (finE (E_ref01_bit) [(.int .i64, false)] Try.f140.results.toList)
theorem top_ref01_bit (S : Nat → KT (RT [(.int .i64, false)])) (a0 : List Int) (a1 : Int) : evA (E_ref01_bit) (lk c_ref01_bit) S (bodyOf Try.f140) noX (fe_ref01_bit) (fe_ref01_bit) (initSt [.slice (.int .i64), .int .i64] (a0, a1, ())) = T_ref01_bit a0 a1 := by kernel_rfl
noncomputable abbrev tb_ref01_bit := tab (E_ref01_bit) (lk c_ref01_bit) (bodyOf Try.f140) (fe_ref01_bit)
theorem ok_ref01_bit : EnvOK Try.prog (E_ref01_bit) := mkE_ok tys_ok trivial trivial
theorem fs_ref01_bit : FSound Try.prog 140 [.slice (.int .i64), .int .i64] [(.int .i64, false)] (fun τ => F_ref01_bit τ.1 τ.2.1) :=
  evG_sound (E := (E_ref01_bit)) (C := (lk c_ref01_bit)) ok_ref01_bit mixed_ok (fn := Try.f140) (c := (bodyOf Try.f140)) (by kernel_rfl) (by kernel_rfl) (by kernel_rfl) (by kernel_rfl) (by kernel_rfl) (by kernel_rfl) (fun τ r h => by
    obtain ⟨a0, a1, ⟨⟩⟩ := τ
    obtain ⟨m, hm⟩ := Rn_ref01_bit a0 a1 r h
    exact ⟨m, (top_ref01_bit (tb_ref01_bit m) a0 a1).trans (hm m (Nat.le_refl m))⟩)

abbrev E_ref01_Cmp : Env := mkE tys [(140, callE [.slice (.int .i64), .int .i64] [(.int .i64, false)] (fun τ => F_ref01_bit τ.1 τ.2.1))] []
def c_ref01_Cmp : List (Nat × Live) := [(9, ⟨[(0, .slice (.int .i64)), (1, .slice (.int .i64)), (5, .int .i64)], [], []⟩)]
noncomputable abbrev fe_ref01_Cmp := (finE (E_ref01_Cmp) [(.int .i64, false)] Try.f98.results.toList)
noncomputable abbrev cn_ref01_Cmp_9 (x0 : List Int) (x1 : List Int) (x5 : Int) : St := ⟨[(5, .one (.val (.int .i64) x5)), (1, .one (.val (.slice (.int .i64)) x1)), (0, .one (.val (.slice (.int .i64)) x0))], []⟩
noncomputable abbrev kk_ref01_Cmp_9 (S : Nat → KT (RT [(.int .i64, false)])) := fun (x0 : List Int) (x1 : List Int) (x5 : Int) => S 9 (cn_ref01_Cmp_9 x0 x1 x5)
theorem top_ref01_Cmp (S : Nat → KT (RT [(.int .i64, false)])) (a0 : List Int) (a1 : List Int) : evA (E_ref01_Cmp) (lk c_ref01_Cmp) S (bodyOf Try.f98) noX (fe_ref01_Cmp) (fe_ref01_Cmp) (initSt [.slice (.int .i64), .slice (.int .i64)] (a0, a1, ())) = T_ref01_Cmp (kk_ref01_Cmp_9 S) a0 a1 := by kernel_rfl
theorem seg_ref01_Cmp_9 (S : Nat → KT (RT [(.int .i64, false)])) (x0 : List Int) (x1 : List Int) (x5 : Int) : stepT (entry (E_ref01_Cmp) (lk c_ref01_Cmp) S 9 (bodyOf Try.f98) noX (fe_ref01_Cmp) (fe_ref01_Cmp)) (cn_ref01_Cmp_9 x0 x1 x5) = S_ref01_Cmp_9 (kk_ref01_Cmp_9 S) x0 x1 x5 := by kernel_rfl
noncomputable abbrev tb_ref01_Cmp := tab (E_ref01_Cmp) (lk c_ref01_Cmp) (bodyOf Try.f98) (fe_ref01_Cmp)
theorem ok_ref01_Cmp : EnvOK Try.prog (E_ref01_Cmp) := mkE_ok tys_ok ⟨⟨fs_ref01_bit.csound, ⟨Try.f140, by kernel_rfl, by kernel_rfl, by kernel_rfl⟩⟩, trivial⟩ trivial
theorem fs_ref01_Cmp : FSound Try.prog 98 [.slice (.int .i64), .slice (.int .i64)] [(.int .i64, false)] (fun τ => F_ref01_Cmp τ.1 τ.2.1) :=
  evG_sound (E := (E_ref01_Cmp)) (C := (lk c_ref01_Cmp)) ok_ref01_Cmp mixed_ok (fn := Try.f98) (c := (bodyOf Try.f98)) (by kernel_rfl) (by kernel_rfl) (by kernel_rfl) (by kernel_rfl) (by kernel_rfl) (by kernel_rfl) (fun τ r h => by
    obtain ⟨a0, a1, ⟨⟩⟩ := τ
    obtain ⟨m, hm⟩ := Rn_ref01_Cmp (fun m => kk_ref01_Cmp_9 (tb_ref01_Cmp m)) (fun m x0 x1 x5 => (tab_succ (E_ref01_Cmp) (lk c_ref01_Cmp) (bodyOf Try.f98) (fe_ref01_Cmp) m 9 (cn_ref01_Cmp_9 x0 x1 x5)).trans (seg_ref01_Cmp_9 (tb_ref01_Cmp m) x0 x1 x5)) a0 a1 r h
    exact ⟨m, (top_ref01_Cmp (tb_ref01_Cmp m) a0 a1).trans (hm m (Nat.le_refl m))⟩)

abbrev E_ref01_Add : Env := mkE tys [(140, callE [.slice (.int .i64), .int .i64] [(.int .i64, false)] (fun τ => F_ref01_bit τ.1 τ.2.1))] [(132, mixO (callO [] false (.int .i64) .pre (fun τ l => O_ref01_Trim l)) (callI (callE [.slice (.int .i64)] [(.slice (.int .i64), false)] (fun τ => F_ref01_Trim τ.1))))]
def c_ref01_Add : List (Nat × Live) := [(17, ⟨[(0, .slice (.int .i64)), (1, .slice (.int .i64)), (6, .int .i64), (7, .int .i64)], [(false, 5, .int .i64)], []⟩), (24, ⟨[(0, .slice (.int .i64)), (1, .slice (.int .i64)), (6, .int .i64), (7, .int .i64)], [(false, 5, .int .i64)], []⟩)]
noncomputable abbrev fe_ref01_Add := (finE (E_ref01_Add) [(.slice (.int .i64), false)] Try.f143.results.toList)
noncomputable abbrev cn_ref01_Add_17 (x0 : List Int) (x1 : List Int) (x6 : Int) (x7 : Int) (x5 : List Int) : St := ⟨[(5, .one (.loc (.int .i64) 10000)), (7, .one (.val (.int .i64) x7)), (6, .one (.val (.int .i64) x6)), (1, .one (.val (.slice (.int .i64)) x1)), (0, .one (.val (.slice (.int .i64)) x0))], [(10000, some ⟨.int .i64, x5, false⟩)]⟩
noncomputable abbrev kk_ref01_Add_17 (S : Nat → KT (RT [(.slice (.int .i64), false)])) := fun (x0 : List Int) (x1 : List Int) (x6 : Int) (x7 : Int) (x5 : List Int) => S 17 (cn_ref01_Add_17 x0 x1 x6 x7 x5)
noncomputable abbrev cn_ref01_Add_24 (x0 : List Int) (x1 : List Int) (x6 : Int) (x7 : Int) (x5 : List Int) : St := ⟨[(5, .one (.loc (.int .i64) 10000)), (7, .one (.val (.int .i64) x7)), (6, .one (.val (.int .i64) x6)), (1, .one (.val (.slice (.int .i64)) x1)), (0, .one (.val (.slice (.int .i64)) x0))], [(10000, some ⟨.int .i64, x5, false⟩)]⟩
noncomputable abbrev kk_ref01_Add_24 (S : Nat → KT (RT [(.slice (.int .i64), false)])) := fun (x0 : List Int) (x1 : List Int) (x6 : Int) (x7 : Int) (x5 : List Int) => S 24 (cn_ref01_Add_24 x0 x1 x6 x7 x5)
theorem top_ref01_Add (S : Nat → KT (RT [(.slice (.int .i64), false)])) (a0 : List Int) (a1 : List Int) : evA (E_ref01_Add) (lk c_ref01_Add) S (bodyOf Try.f143) noX (fe_ref01_Add) (fe_ref01_Add) (initSt [.slice (.int .i64), .slice (.int .i64)] (a0, a1, ())) = T_ref01_Add (kk_ref01_Add_17 S) (kk_ref01_Add_24 S) a0 a1 := by kernel_rfl
theorem seg_ref01_Add_17 (S : Nat → KT (RT [(.slice (.int .i64), false)])) (x0 : List Int) (x1 : List Int) (x6 : Int) (x7 : Int) (x5 : List Int) : stepT (entry (E_ref01_Add) (lk c_ref01_Add) S 17 (bodyOf Try.f143) noX (fe_ref01_Add) (fe_ref01_Add)) (cn_ref01_Add_17 x0 x1 x6 x7 x5) = S_ref01_Add_17 (kk_ref01_Add_17 S) (kk_ref01_Add_24 S) x0 x1 x6 x7 x5 := by kernel_rfl
theorem seg_ref01_Add_24 (S : Nat → KT (RT [(.slice (.int .i64), false)])) (x0 : List Int) (x1 : List Int) (x6 : Int) (x7 : Int) (x5 : List Int) : stepT (entry (E_ref01_Add) (lk c_ref01_Add) S 24 (bodyOf Try.f143) noX (fe_ref01_Add) (fe_ref01_Add)) (cn_ref01_Add_24 x0 x1 x6 x7 x5) = S_ref01_Add_24 (kk_ref01_Add_17 S) (kk_ref01_Add_24 S) x0 x1 x6 x7 x5 := by kernel_rfl
noncomputable abbrev tb_ref01_Add := tab (E_ref01_Add) (lk c_ref01_Add) (bodyOf Try.f143) (fe_ref01_Add)
theorem ok_ref01_Add : EnvOK Try.prog (E_ref01_Add) := mkE_ok tys_ok ⟨⟨fs_ref01_bit.csound, ⟨Try.f140, by kernel_rfl, by kernel_rfl, by kernel_rfl⟩⟩, trivial⟩ ⟨⟨PSound.mix os_ref01_Trim.psound (CSound.psound fs_ref01_Trim.csound), ⟨Try.f132, by kernel_rfl, by kernel_rfl, by kernel_rfl⟩⟩, trivial⟩
theorem fs_ref01_Add : FSound Try.prog 143 [.slice (.int .i64), .slice (.int .i64)] [(.slice (.int .i64), false)] (fun τ => F_ref01_Add τ.1 τ.2.1) :=
  evG_sound (E := (E_ref01_Add)) (C := (lk c_ref01_Add)) ok_ref01_Add mixed_ok (fn := Try.f143) (c := (bodyOf Try.f143)) (by kernel_rfl) (by kernel_rfl) (by kernel_rfl) (by kernel_rfl) (by kernel_rfl) (by kernel_rfl) (fun τ r h => by
    obtain ⟨a0, a1, ⟨⟩⟩ := τ
    obtain ⟨m, hm⟩ := Rn_ref01_Add (fun m => kk_ref01_Add_17 (tb_ref01_Add m)) (fun m => kk_ref01_Add_24 (tb_ref01_Add m)) (fun m x0 x1 x6 x7 x5 => (tab_succ (E_ref01_Add) (lk c_ref01_Add) (bodyOf Try.f143) (fe_ref01_Add) m 17 (cn_ref01_Add_17 x0 x1 x6 x7 x5)).trans (seg_ref01_Add_17 (tb_ref01_Add m) x0 x1 x6 x7 x5)) (fun m x0 x1 x6 x7 x5 => (tab_succ (E_ref01_Add) (lk c_ref01_Add) (bodyOf Try.f143) (fe_ref01_Add) m 24 (cn_ref01_Add_24 x0 x1 x6 x7 x5)).trans (seg_ref01_Add_24 (tb_ref01_Add m) x0 x1 x6 x7 x5)) a0 a1 r h
    exact ⟨m, (top_ref01_Add (tb_ref01_Add m) a0 a1).trans (hm m (Nat.le_refl m))⟩)

abbrev E_ref01_Sub : Env := mkE tys [(140, callE [.slice (.int .i64), .int .i64] [(.int .i64, false)] (fun τ => F_ref01_bit τ.1 τ.2.1))] [(132, mixO (callO [] false (.int .i64) .pre (fun τ l => O_ref01_Trim l)) (callI (callE [.slice (.int .i64)] [(.slice (.int .i64), false)] (fun τ => F_ref01_Trim τ.1))))]
def c_ref01_Sub : List (Nat × Live) := [(17, ⟨[(0, .slice (.int .i64)), (1, .slice (.int .i64)), (6, .int .i64), (7, .int .i64)], [(false, 5, .int .i64)], []⟩)]
noncomputable abbrev fe_ref01_Sub := (finE (E_ref01_Sub) [(.slice (.int .i64), false)] Try.f144.results.toList)
noncomputable abbrev cn_ref01_Sub_17 (x0 : List Int) (x1 : List Int) (x6 : Int) (x7 : Int) (x5 : List Int) : St := ⟨[(5, .one (.loc (.int .i64) 10000)), (7, .one (.val (.int .i64) x7)), (6, .one (.val (.int .i64) x6)), (1, .one (.val (.slice (.int .i64)) x1)), (0, .one (.val (.slice (.int .i64)) x0))], [(10000, some ⟨.int .i64, x5, false⟩)]⟩
noncomputable abbrev kk_ref01_Sub_17 (S : Nat → KT (RT [(.slice (.int .i64), false)])) := fun (x0 : List Int) (x1 : List Int) (x6 : Int) (x7 : Int) (x5 : List Int) => S 17 (cn_ref01_Sub_17 x0 x1 x6 x7 x5)
theorem top_ref01_Sub (S : Nat → KT (RT [(.slice (.int .i64), false)])) (a0 : List Int) (a1 : List Int) : evA (E_ref01_Sub) (lk c_ref01_Sub) S (bodyOf Try.f144) noX (fe_ref01_Sub) (fe_ref01_Sub) (initSt [.slice (.int .i64), .slice (.int .i64)] (a0, a1, ())) = T_ref01_Sub (kk_ref01_Sub_17 S) a0 a1 := by kernel_rfl
theorem seg_ref01_Sub_17 (S : Nat → KT (RT [(.slice (.int .i64), false)])) (x0 : List Int) (x1 : List Int) (x6 : Int) (x7 : Int) (x5 : List Int) : stepT (entry (E_ref01_Sub) (lk c_ref01_Sub) S 17 (bodyOf Try.f144) noX (fe_ref01_Sub) (fe_ref01_Sub)) (cn_ref01_Sub_17 x0 x1 x6 x7 x5) = S_ref01_Sub_17 (kk_ref01_Sub_17 S) x0 x1 x6 x7 x5 := by kernel_rfl
noncomputable abbrev tb_ref01_Sub := tab (E_ref01_Sub) (lk c_ref01_Sub) (bodyOf Try.f144) (fe_ref01_Sub)
theorem ok_ref01_Sub : EnvOK Try.prog (E_ref01_Sub) := mkE_ok tys_ok ⟨⟨fs_ref01_bit.csound, ⟨Try.f140, by kernel_rfl, by kernel_rfl, by kernel_rfl⟩⟩, trivial⟩ ⟨⟨PSound.mix os_ref01_Trim.psound (CSound.psound fs_ref01_Trim.csound), ⟨Try.f132, by kernel_rfl, by kernel_rfl, by kernel_rfl⟩⟩, trivial⟩
theorem fs_ref01_Sub : FSound Try.prog 144 [.slice (.int .i64), .slice (.int .i64)] [(.slice (.int .i64), false)] (fun τ => F_ref01_Sub τ.1 τ.2.1) :=
  evG_sound (E := (E_ref01_Sub)) (C := (lk c_ref01_Sub)) ok_ref01_Sub mixed_ok (fn := Try.f144) (c := (bodyOf Try.f144)) (by kernel_rfl) (by kernel_rfl) (by kernel_rfl) (by kernel_rfl) (by kernel_rfl) (by kernel_rfl) (fun τ r h => by
    obtain ⟨a0, a1, ⟨⟩⟩ := τ
    obtain ⟨m, hm⟩ := Rn_ref01_Sub (fun m => kk_ref01_Sub_17 (tb_ref01_Sub m)) (fun m x0 x1 x6 x7 x5 => (tab_succ (E_ref01_Sub) (lk c_ref01_Sub) (bodyOf Try.f144) (fe_ref01_Sub) m 17 (cn_ref01_Sub_17 x0 x1 x6 x7 x5)).trans (seg_ref01_Sub_17 (tb_ref01_Sub m) x0 x1 x6 x7 x5)) a0 a1 r h
    exact ⟨m, (top_ref01_Sub (tb_ref01_Sub m) a0 a1).trans (hm m (Nat.le_refl m))⟩)

abbrev E_ref02_Add : Env := mkE tys [(87, callE [.bool, .slice (.int .i64)] [(.pair (.int .i64) (.slice (.int .i64)), false)] (fun τ => F_ref02_Make τ.1 τ.2.1)), (98, callE [.slice (.int .i64), .slice (.int .i64)] [(.int .i64, false)] (fun τ => F_ref01_Cmp τ.1 τ.2.1)), (143, callE [.slice (.int .i64), .slice (.int .i64)] [(.slice (.int .i64), false)] (fun τ => F_ref01_Add τ.1 τ.2.1)), (144, callE [.slice (.int .i64), .slice (.int .i64)] [(.slice (.int .i64), false)] (fun τ => F_ref01_Sub τ.1 τ.2.1))] []
def c_ref02_Add : List (Nat × Live) := []
noncomputable abbrev fe_ref02_Add := (finE (E_ref02_Add) [(.pair (.int .i64) (.slice (.int .i64)), false)] Try.f103.results.toList)
theorem top_ref02_Add (S : Nat → KT (RT [(.pair (.int .i64) (.slice (.int .i64)), false)])) (a0 : Int × List Int) (a1 : Int × List Int) : evA (E_ref02_Add) (lk c_ref02_Add) S (bodyOf Try.f103) noX (fe_ref02_Add) (fe_ref02_Add) (initSt [.pair (.int .i64) (.slice (.int .i64)), .pair (.int .i64) (.slice (.int .i64))] (a0, a1, ())) = T_ref02_Add a0 a1 := by kernel_rfl
noncomputable abbrev tb_ref02_Add := tab (E_ref02_Add) (lk c_ref02_Add) (bodyOf Try.f103) (fe_ref02_Add)
theorem ok_ref02_Add : EnvOK Try.prog (E_ref02_Add) := mkE_ok tys_ok ⟨⟨fs_ref02_Make.csound, ⟨Try.f87, by kernel_rfl, by kernel_rfl, by kernel_rfl⟩⟩, ⟨fs_ref01_Cmp.csound, ⟨Try.f98, by kernel_rfl, by kernel_rfl, by kernel_rfl⟩⟩, ⟨fs_ref01_Add.csound, ⟨Try.f143, by kernel_rfl, by kernel_rfl, by kernel_rfl⟩⟩, ⟨fs_ref01_Sub.csound, ⟨Try.f144, by kernel_rfl, by kernel_rfl, by kernel_rfl⟩⟩, trivial⟩ trivial
theorem fs_ref02_Add : FSound Try.prog 103 [.pair (.int .i64) (.slice (.int .i64)), .pair (.int .i64) (.slice (.int .i64))] [(.pair (.int .i64) (.slice (.int .i64)), false)] (fun τ => F_ref02_Add τ.1 τ.2.1) :=
  evG_sound (E := (E_ref02_Add)) (C := (lk c_ref02_Add)) ok_ref02_Add mixed_ok (fn := Try.f103) (c := (bodyOf Try.f103)) (by kernel_rfl) (by kernel_rfl) (by kernel_rfl) (by kernel_rfl) (by kernel_rfl) (by kernel_rfl) (fun τ r h => by
    obtain ⟨a0, a1, ⟨⟩⟩ := τ
    obtain ⟨m, hm⟩ := Rn_ref02_Add a0 a1 r h
    exact ⟨m, (top_ref02_Add (tb_ref02_Add m) a0 a1).trans (hm m (Nat.le_refl m))⟩)

abbrev E_ref01_words : Env := mkE tys [] []
def c_ref01_words : List (Nat × Live) := [(13, ⟨[(0, .slice (.int .i64)), (4, .int .i64)], [(false, 3, .int .i64)], []⟩)]
noncomputable abbrev fe_ref01_words := (finE (E_ref01_words) [(.slice (.int .i64), true)] Try.f164.results.toList)
noncomputable abbrev cn_ref01_words_13 (x0 : List Int) (x4 : Int) (x3 : List Int) : St := ⟨[(3, .one (.loc (.int .i64) 10000)), (4, .one (.val (.int .i64) x4)), (0, .one (.val (.slice (.int .i64)) x0))], [(10000, some ⟨.int .i64, x3, false⟩)]⟩
noncomputable abbrev kk_ref01_words_13 (S : Nat → KT (RT [(.slice (.int .i64), true)])) := fun (x0 : List Int) (x4 : Int) (x3 : List Int) => S 13 (cn_ref01_words_13 x0 x4 x3)
theorem top_ref01_words (S : Nat → KT (RT [(.slice (.int .i64), true)])) (a0 : List Int) : evA (E_ref01_words) (lk c_ref01_words) S (bodyOf Try.f164) noX (fe_ref01_words) (fe_ref01_words) (initSt [.slice (.int .i64)] (a0, ())) = T_ref01_words (kk_ref01_words_13 S) a0 := by kernel_rfl
theorem seg_ref01_words_13 (S : Nat → KT (RT [(.slice (.int .i64), true)])) (x0 : List Int) (x4 : Int) (x3 : List Int) : stepT (entry (E_ref01_words) (lk c_ref01_words) S 13 (bodyOf Try.f164) noX (fe_ref01_words) (fe_ref01_words)) (cn_ref01_words_13 x0 x4 x3) = S_ref01_words_13 (kk_ref01_words_13 S) x0 x4 x3 := by kernel_rfl
noncomputable abbrev tb_ref01_words := tab (E_ref01_words) (lk c_ref01_words) (bodyOf Try.f164) (fe_ref01_words)
theorem ok_ref01_words : EnvOK Try.prog (E_ref01_words) := mkE_ok tys_ok trivial trivial
theorem fs_ref01_words : FSound Try.prog 164 [.slice (.int .i64)] [(.slice (.int .i64), true)] (fun τ => F_ref01_words τ.1) :=
  evG_sound (E := (E_ref01_words)) (C := (lk c_ref01_words)) ok_ref01_words mixed_ok (fn := Try.f164) (c := (bodyOf Try.f164)) (by kernel_rfl) (by kernel_rfl) (by kernel_rfl) (by kernel_rfl) (by kernel_rfl) (by kernel_rfl) (fun τ r h => by
    obtain ⟨a0, ⟨⟩⟩ := τ
    obtain ⟨m, hm⟩ := Rn_ref01_words (fun m => kk_ref01_words_13 (tb_ref01_words m)) (fun m x0 x4 x3 => (tab_succ (E_ref01_words) (lk c_ref01_words) (bodyOf Try.f164) (fe_ref01_words) m 13 (cn_ref01_words_13 x0 x4 x3)).trans (seg_ref01_words_13 (tb_ref01_words m) x0 x4 x3)) a0 r h
    exact ⟨m, (top_ref01_words (tb_ref01_words m) a0).trans (hm m (Nat.le_refl m))⟩)

abbrev E_ref01_bits : Env := mkE tys [] [(132, mixO (callO [] false (.int .i64) .pre (fun τ l => O_ref01_Trim l)) (callI (callE [.slice (.int .i64)] [(.slice (.int .i64), false)] (fun τ => F_ref01_Trim τ.1))))]
def c_ref01_bits : List (Nat × Live) := [(13, ⟨[(0, .slice (.int .i64)), (4, .int .i64)], [(false, 3, .int .i64)], []⟩)]
noncomputable abbrev fe_ref01_bits := (finE (E_ref01_bits) [(.slice (.int .i64), false)] Try.f165.results.toList)
noncomputable abbrev cn_ref01_bits_13 (x0 : List Int) (x4 : Int) (x3 : List Int) : St := ⟨[(3, .one (.loc (.int .i64) 10000)), (4, .one (.val (.int .i64) x4)), (0, .one (.val (.slice (.int .i64)) x0))], [(10000, some ⟨.int .i64, x3, false⟩)]⟩
noncomputable abbrev kk_ref01_bits_13 (S : Nat → KT (RT [(.slice (.int .i64), false)])) := fun (x0 : List Int) (x4 : Int) (x3 : List Int) => S 13 (cn_ref01_bits_13 x0 x4 x3)
theorem top_ref01_bits (S : Nat → KT (RT [(.slice (.int .i64), false)])) (a0 : List Int) : evA (E_ref01_bits) (lk c_ref01_bits) S (bodyOf Try.f165) noX (fe_ref01_bits) (fe_ref01_bits) (initSt [.slice (.int .i64)] (a0, ())) = T_ref01_bits (kk_ref01_bits_13 S) a0 := by kernel_rfl
theorem seg_ref01_bits_13 (S : Nat → KT (RT [(.slice (.int .i64), false)])) (x0 : List Int) (x4 : Int) (x3 : List Int) : stepT (entry (E_ref01_bits) (lk c_ref01_bits) S 13 (bodyOf Try.f165) noX (fe_ref01_bits) (fe_ref01_bits)) (cn_ref01_bits_13 x0 x4 x3) = S_ref01_bits_13 (kk_ref01_bits_13 S) x0 x4 x3 := by kernel_rfl
noncomputable abbrev tb_ref01_bits := tab (E_ref01_bits) (lk c_ref01_bits) (bodyOf Try.f165) (fe_ref01_bits)
theorem ok_ref01_bits : EnvOK Try.prog (E_ref01_bits) := mkE_ok tys_ok trivial ⟨⟨PSound.mix os_ref01_Trim.psound (CSound.psound fs_ref01_Trim.csound), ⟨Try.f132, by kernel_rfl, by kernel_rfl, by kernel_rfl⟩⟩, trivial⟩
theorem fs_ref01_bits : FSound Try.prog 165 [.slice (.int .i64)] [(.slice (.int .i64), false)] (fun τ => F_ref01_bits τ.1) :=
  evG_sound (E := (E_ref01_bits)) (C := (lk c_ref01_bits)) ok_ref01_bits mixed_ok (fn := Try.f165) (c := (bodyOf Try.f165)) (by kernel_rfl) (by kernel_rfl) (by kernel_rfl) (by kernel_rfl) (by kernel_rfl) (by kernel_rfl) (fun τ r h => by
    obtain ⟨a0, ⟨⟩⟩ := τ
    obtain ⟨m, hm⟩ := Rn_ref01_bits (fun m => kk_ref01_bits_13 (tb_ref01_bits m)) (fun m x0 x4 x3 => (tab_succ (E_ref01_bits) (lk c_ref01_bits) (bodyOf Try.f165) (fe_ref01_bits) m 13 (cn_ref01_bits_13 x0 x4 x3)).trans (seg_ref01_bits_13 (tb_ref01_bits m) x0 x4 x3)) a0 r h
    exact ⟨m, (top_ref01_bits (tb_ref01_bits m) a0).trans (hm m (Nat.le_refl m))⟩)

abbrev E_ref01_DivMod : Env := mkE tys [(164, callE [.slice (.int .i64)] [(.slice (.int .i64), true)] (fun τ => F_ref01_words τ.1)), (165, callE [.slice (.int .i64)] [(.slice (.int .i64), false)] (fun τ => F_ref01_bits τ.1))] [(132, mixO (callO [] false (.int .i64) .pre (fun τ l => O_ref01_Trim l)) (callI (callE [.slice (.int .i64)] [(.slice (.int .i64), false)] (fun τ => F_ref01_Trim τ.1))))]
def c_ref01_DivMod : List (Nat × Live) := [(29, ⟨[(0, .slice (.int .i64)), (8, .int .i64), (10, .int .i64)], [(false, 6, .int .i64), (false, 7, .int .i64), (false, 9, .int .i64)], []⟩), (45, ⟨[(0, .slice (.int .i64)), (8, .int .i64), (10, .int .i64), (11, .int .i64), (12, .int .i64)], [(false, 6, .int .i64), (false, 7, .int .i64), (false, 9, .int .i64)], []⟩), (69, ⟨[(0, .slice (.int .i64)), (8, .int .i64), (10, .int .i64), (14, .int .i64)], [(false, 6, .int .i64), (false, 7, .int .i64), (false, 9, .int .i64)], []⟩), (93, ⟨[(0, .slice (.int .i64)), (8, .int .i64), (10, .int .i64), (15, .int .i64), (16, .int .i64)], [(false, 6, .int .i64), (false, 7, .int .i64), (false, 9, .int .i64)], []⟩)]
noncomputable abbrev fe_ref01_DivMod := (finE (E_ref01_DivMod) [(.slice (.int .i64), false), (.slice (.int .i64), false)] Try.f166.results.toList)
noncomputable abbrev cn_ref01_DivMod_29 (x0 : List Int) (x8 : Int) (x10 : Int) (x6 : List Int) (x7 : List Int) (x9 : List Int) : St := ⟨[(9, .one (.loc (.int .i64) 10002)), (7, .one (.loc (.int .i64) 10001)), (6, .one (.loc (.int .i64) 10000)), (10, .one (.val (.int .i64) x10)), (8, .one (.val (.int .i64) x8)), (0, .one (.val (.slice (.int .i64)) x0))], [(10002, some ⟨.int .i64, x9, false⟩), (10001, some ⟨.int .i64, x7, false⟩), (10000, some ⟨.int .i64, x6, false⟩)]⟩
noncomputable abbrev kk_ref01_DivMod_29 (S : Nat → KT (RT [(.slice (.int .i64), false), (.slice (.int .i64), false)])) := fun (x0 : List Int) (x8 : Int) (x10 : Int) (x6 : List Int) (x7 : List Int) (x9 : List Int) => S 29 (cn_ref01_DivMod_29 x0 x8 x10 x6 x7 x9)
noncomputable abbrev cn_ref01_DivMod_45 (x0 : List Int) (x8 : Int) (x10 : Int) (x11 : Int) (x12 : Int) (x6 : List Int) (x7 : List Int) (x9 : List Int) : St := ⟨[(9, .one (.loc (.int .i64) 10002)), (7, .one (.loc (.int .i64) 10001)), (6, .one (.loc (.int .i64) 10000)), (12, .one (.val (.int .i64) x12)), (11, .one (.val (.int .i64) x11)), (10, .one (.val (.int .i64) x10)), (8, .one (.val (.int .i64) x8)), (0, .one (.val (.slice (.int .i64)) x0))], [(10002, some ⟨.int .i64, x9, false⟩), (10001, some ⟨.int .i64, x7, false⟩), (10000, some ⟨.int .i64, x6, false⟩)]⟩
noncomputable abbrev kk_ref01_DivMod_45 (S : Nat → KT (RT [(.slice (.int .i64), false), (.slice (.int .i64), false)])) := fun (x0 : List Int) (x8 : Int) (x10 : Int) (x11 : Int) (x12 : Int) (x6 : List Int) (x7 : List Int) (x9 : List Int) => S 45 (cn_ref01_DivMod_45 x0 x8 x10 x11 x12 x6 x7 x9)
noncomputable abbrev cn_ref01_DivMod_69 (x0 : List Int) (x8 : Int) (x10 : Int) (x14 : Int) (x6 : List Int) (x7 : List Int) (x9 : List Int) : St := ⟨[(9, .one (.loc (.int .i64) 10002)), (7, .one (.loc (.int .i64) 10001)), (6, .one (.loc (.int .i64) 10000)), (14, .one (.val (.int .i64) x14)), (10, .one (.val (.int .i64) x10)), (8, .one (.val (.int .i64) x8)), (0, .one (.val (.slice (.int .i64)) x0))], [(10002, some ⟨.int .i64, x9, false⟩), (10001, some ⟨.int .i64, x7, false⟩), (10000, some ⟨.int .i64, x6, false⟩)]⟩
noncomputable abbrev kk_ref01_DivMod_69 (S : Nat → KT (RT [(.slice (.int .i64), false), (.slice (.int .i64), false)])) := fun (x0 : List Int) (x8 : Int) (x10 : Int) (x14 : Int) (x6 : List Int) (x7 : List Int) (x9 : List Int) => S 69 (cn_ref01_DivMod_69 x0 x8 x10 x14 x6 x7 x9)
noncomputable abbrev cn_ref01_DivMod_93 (x0 : List Int) (x8 : Int) (x10 : Int) (x15 : Int) (x16 : Int) (x6 : List Int) (x7 : List Int) (x9 : List Int) : St := ⟨[(9, .one (.loc (.int .i64) 10002)), (7, .one (.loc (.int .i64) 10001)), (6, .one (.loc (.int .i64) 10000)), (16, .one (.val (.int .i64) x16)), (15, .one (.val (.int .i64) x15)), (10, .one (.val (.int .i64) x10)), (8, .one (.val (.int .i64) x8)), (0, .one (.val (.slice (.int .i64)) x0))], [(10002, some ⟨.int .i64, x9, false⟩), (10001, some ⟨.int .i64, x7, false⟩), (10000, some ⟨.int .i64, x6, false⟩)]⟩
noncomputable abbrev kk_ref01_DivMod_93 (S : Nat → KT (RT [(.slice (.int .i64), false), (.slice (.int .i64), false)])) := fun (x0 : List Int) (x8 : Int) (x10 : Int) (x15 : Int) (x16 : Int) (x6 : List Int) (x7 : List Int) (x9 : List Int) => S 93 (cn_ref01_DivMod_93 x0 x8 x10 x15 x16 x6 x7 x9)
theorem top_ref01_DivMod (S : Nat → KT (RT [(.slice (.int .i64), false), (.slice (.int .i64), false)])) (a0 : List Int) (a1 : List Int) : evA (E_ref01_DivMod) (lk c_ref01_DivMod) S (bodyOf Try.f166) noX (fe_ref01_DivMod) (fe_ref01_DivMod) (initSt [.slice (.int .i64), .slice (.int .i64)] (a0, a1, ())) = T_ref01_DivMod (kk_ref01_DivMod_29 S) (kk_ref01_DivMod_45 S) (kk_ref01_DivMod_69 S) (kk_ref01_DivMod_93 S) a0 a1 := by kernel_rfl
theorem seg_ref01_DivMod_29 (S : Nat → KT (RT [(.slice (.int .i64), false), (.slice (.int .i64), false)])) (x0 : List Int) (x8 : Int) (x10 : Int) (x6 : List Int) (x7 : List Int) (x9 : List Int) : stepT (entry (E_ref01_DivMod) (lk c_ref01_DivMod) S 29 (bodyOf Try.f166) noX (fe_ref01_DivMod) (fe_ref01_DivMod)) (cn_ref01_DivMod_29 x0 x8 x10 x6 x7 x9) = S_ref01_DivMod_29 (kk_ref01_DivMod_29 S) (kk_ref01_DivMod_45 S) (kk_ref01_DivMod_69 S) (kk_ref01_DivMod_93 S) x0 x8 x10 x6 x7 x9 := by kernel_rfl
theorem seg_ref01_DivMod_45 (S : Nat → KT (RT [(.slice (.int .i64), false), (.slice (.int .i64), false)])) (x0 : List Int) (x8 : Int) (x10 : Int) (x11 : Int) (x12 : Int) (x6 : List Int) (x7 : List Int) (x9 : List Int) : stepT (entry (E_ref01_DivMod) (lk c_ref01_DivMod) S 45 (bodyOf Try.f166) noX (fe_ref01_DivMod) (fe_ref01_DivMod)) (cn_ref01_DivMod_45 x0 x8 x10 x11 x12 x6 x7 x9) = S_ref01_DivMod_45 (kk_ref01_DivMod_29 S) (kk_ref01_DivMod_45 S) (kk_ref01_DivMod_69 S) (kk_ref01_DivMod_93 S) x0 x8 x10 x11 x12 x6 x7 x9 := by kernel_rfl
theorem seg_ref01_DivMod_69 (S : Nat → KT (RT [(.slice (.int .i64), false), (.slice (.int .i64), false)])) (x0 : List Int) (x8 : Int) (x10 : Int) (x14 : Int) (x6 : List Int) (x7 : List Int) (x9 : List Int) : stepT (entry (E_ref01_DivMod) (lk c_ref01_DivMod) S 69 (bodyOf Try.f166) noX (fe_ref01_DivMod) (fe_ref01_DivMod)) (cn_ref01_DivMod_69 x0 x8 x10 x14 x6 x7 x9) = S_ref01_DivMod_69 (kk_ref01_DivMod_29 S) (kk_ref01_DivMod_45 S) (kk_ref01_DivMod_69 S) (kk_ref01_DivMod_93 S) x0 x8 x10 x14 x6 x7 x9 := by kernel_rfl
theorem seg_ref01_DivMod_93 (S : Nat → KT (RT [(.slice (.int .i64), false), (.slice (.int .i64), false)])) (x0 : List Int) (x8 : Int) (x10 : Int) (x15 : Int) (x16 : Int) (x6 : List Int) (x7 : List Int) (x9 : List Int) : stepT (entry (E_ref01_DivMod) (lk c_ref01_DivMod) S 93 (bodyOf Try.f166) noX (fe_ref01_DivMod) (fe_ref01_DivMod)) (cn_ref01_DivMod_93 x0 x8 x10 x15 x16 x6 x7 x9) = S_ref01_DivMod_93 (kk_ref01_DivMod_29 S) (kk_ref01_DivMod_45 S) (kk_ref01_DivMod_69 S) (kk_ref01_DivMod_93 S) x0 x8 x10 x15 x16 x6 x7 x9 := by kernel_rfl
noncomputable abbrev tb_ref01_DivMod := tab (E_ref01_DivMod) (lk c_ref01_DivMod) (bodyOf Try.f166) (fe_ref01_DivMod)
theorem ok_ref01_DivMod : EnvOK Try.prog (E_ref01_DivMod) := mkE_ok tys_ok ⟨⟨fs_ref01_words.csound, ⟨Try.f164, by kernel_rfl, by kernel_rfl, by kernel_rfl⟩⟩, ⟨fs_ref01_bits.csound, ⟨Try.f165, by kernel_rfl, by kernel_rfl, by kernel_rfl⟩⟩, trivial⟩ ⟨⟨PSound.mix os_ref01_Trim.psound (CSound.psound fs_ref01_Trim.csound), ⟨Try.f132, by kernel_rfl, by kernel_rfl, by kernel_rfl⟩⟩, trivial⟩
theorem fs_ref01_DivMod : FSound Try.prog 166 [.slice (.int .i64), .slice (.int .i64)] [(.slice (.int .i64), false), (.slice (.int .i64), false)] (fun τ => F_ref01_DivMod τ.1 τ.2.1) :=
  evG_sound (E := (E_ref01_DivMod)) (C := (lk c_ref01_DivMod)) ok_ref01_DivMod mixed_ok (fn := Try.f166) (c := (bodyOf Try.f166)) (by kernel_rfl) (by kernel_rfl) (by kernel_rfl) (by kernel_rfl) (by kernel_rfl) (by kernel_rfl) (fun τ r h => by
    obtain ⟨a0, a1, ⟨⟩⟩ := τ
    obtain ⟨m, hm⟩ := Rn_ref01_DivMod (fun m => kk_ref01_DivMod_29 (tb_ref01_DivMod m)) (fun m => kk_ref01_DivMod_45 (tb_ref01_DivMod m)) (fun m => kk_ref01_DivMod_69 (tb_ref01_DivMod m)) (fun m => kk_ref01_DivMod_93 (tb_ref01_DivMod m)) (fun m x0 x8 x10 x6 x7 x9 => (tab_succ (E_ref01_DivMod) (lk c_ref01_DivMod) (bodyOf Try.f166) (fe_ref01_DivMod) m 29 (cn_ref01_DivMod_29 x0 x8 x10 x6 x7 x9)).trans (seg_ref01_DivMod_29 (tb_ref01_DivMod m) x0 x8 x10 x6 x7 x9)) (fun m x0 x8 x10 x11 x12 x6 x7 x9 => (tab_succ (E_ref01_DivMod) (lk c_ref01_DivMod) (bodyOf Try.f166) (fe_ref01_DivMod) m 45 (cn_ref01_DivMod_45 x0 x8 x10 x11 x12 x6 x7 x9)).trans (seg_ref01_DivMod_45 (tb_ref01_DivMod m) x0 x8 x10 x11 x12 x6 x7 x9)) (fun m x0 x8 x10 x14 x6 x7 x9 => (tab_succ (E_ref01_DivMod) (lk c_ref01_DivMod) (bodyOf Try.f166) (fe_ref01_DivMod) m 69 (cn_ref01_DivMod_69 x0 x8 x10 x14 x6 x7 x9)).trans (seg_ref01_DivMod_69 (tb_ref01_DivMod m) x0 x8 x10 x14 x6 x7 x9)) (fun m x0 x8 x10 x15 x16 x6 x7 x9 => (tab_succ (E_ref01_DivMod) (lk c_ref01_DivMod) (bodyOf Try.f166) (fe_ref01_DivMod) m 93 (cn_ref01_DivMod_93 x0 x8 x10 x15 x16 x6 x7 x9)).trans (seg_ref01_DivMod_93 (tb_ref01_DivMod m) x0 x8 x10 x15 x16 x6 x7 x9)) a0 a1 r h
    exact ⟨m, (top_ref01_DivMod (tb_ref01_DivMod m) a0 a1).trans (hm m (Nat.le_refl m))⟩)

abbrev E_ref03_Quo : Env := mkE tys [(87, callE [.bool, .slice (.int .i64)] [(.pair (.int .i64) (.slice (.int .i64)), false)] (fun τ => F_ref02_Make τ.1 τ.2.1)), (166, callE [.slice (.int .i64), .slice (.int .i64)] [(.slice (.int .i64), false), (.slice (.int .i64), false)] (fun τ => F_ref01_DivMod τ.1 τ.2.1))] []
def c_ref03_Quo : List (Nat × Live) := []
noncomputable abbrev fe_ref03_Quo := (finE (E_ref03_Quo) [(.pair (.int .i64) (.slice (.int .i64)), false), (.pair (.int .i64) (.slice (.int .i64)), false)] Try.f139.results.toList)
theorem top_ref03_Quo (S : Nat → KT (RT [(.pair (.int .i64) (.slice (.int .i64)), false), (.pair (.int .i64) (.slice (.int .i64)), false)])) (a0 : Int × List Int) (a1 : Int × List Int) : evA (E_ref03_Quo) (lk c_ref03_Quo) S (bodyOf Try.f139) noX (fe_ref03_Quo) (fe_ref03_Quo) (initSt [.pair (.int .i64) (.slice (.int .i64)), .pair (.int .i64) (.slice (.int .i64))] (a0, a1, ())) = T_ref03_Quo a0 a1 := by kernel_rfl
noncomputable abbrev tb_ref03_Quo := tab (E_ref03_Quo) (lk c_ref03_Quo) (bodyOf Try.f139) (fe_ref03_Quo)
theorem ok_ref03_Quo : EnvOK Try.prog (E_ref03_Quo) := mkE_ok tys_ok ⟨⟨fs_ref02_Make.csound, ⟨Try.f87, by kernel_rfl, by kernel_rfl, by kernel_rfl⟩⟩, ⟨fs_ref01_DivMod.csound, ⟨Try.f166, by kernel_rfl, by kernel_rfl, by kernel_rfl⟩⟩, trivial⟩ trivial
theorem fs_ref03_Quo : FSound Try.prog 139 [.pair (.int .i64) (.slice (.int .i64)), .pair (.int .i64) (.slice (.int .i64))] [(.pair (.int .i64) (.slice (.int .i64)), false), (.pair (.int .i64) (.slice (.int .i64)), false)] (fun τ => F_ref03_Quo τ.1 τ.2.1) :=
  evG_sound (E := (E_ref03_Quo)) (C := (lk c_ref03_Quo)) ok_ref03_Quo mixed_ok (fn := Try.f139) (c := (bodyOf Try.f139)) (by kernel_rfl) (by kernel_rfl) (by kernel_rfl) (by kernel_rfl) (by kernel_rfl) (by kernel_rfl) (fun τ r h => by
    obtain ⟨a0, a1, ⟨⟩⟩ := τ
    obtain ⟨m, hm⟩ := Rn_ref03_Quo a0 a1 r h
    exact ⟨m, (top_ref03_Quo (tb_ref03_Quo m) a0 a1).trans (hm m (Nat.le_refl m))⟩)

abbrev E_ref03_Floor : Env := mkE tys [(23, callE [.int .i64] [(.pair (.int .i64) (.slice (.int .i64)), false)] (fun τ => F_ref02_Small τ.1)), (103, callE [.pair (.int .i64) (.slice (.int .i64)), .pair (.int .i64) (.slice (.int .i64))] [(.pair (.int .i64) (.slice (.int .i64)), false)] (fun τ => F_ref02_Add τ.1 τ.2.1)), (139, callE [.pair (.int .i64) (.slice (.int .i64)), .pair (.int .i64) (.slice (.int .i64))] [(.pair (.int .i64) (.slice (.int .i64)), false), (.pair (.int .i64) (.slice (.int .i64)), false)] (fun τ => F_ref03_Quo τ.1 τ.2.1))] []
def c_ref03_Floor : List (Nat × Live) := []
noncomputable abbrev fe_ref03_Floor := (finE (E_ref03_Floor) [(.pair (.int .i64) (.slice (.int .i64)), false), (.pair (.int .i64) (.slice (.int .i64)), false)] Try.f97.results.toList)
theorem top_ref03_Floor (S : Nat → KT (RT [(.pair (.int .i64) (.slice (.int .i64)), false), (.pair (.int .i64) (.slice (.int .i64)), false)])) (a0 : Int × List Int) (a1 : Int × List Int) : evA (E_ref03_Floor) (lk c_ref03_Floor) S (bodyOf Try.f97) noX (fe_ref03_Floor) (fe_ref03_Floor) (initSt [.pair (.int .i64) (.slice (.int .i64)), .pair (.int .i64) (.slice (.int .i64))] (a0, a1, ())) = T_ref03_Floor a0 a1 := by kernel_rfl
noncomputable abbrev tb_ref03_Floor := tab (E_ref03_Floor) (lk c_ref03_Floor) (bodyOf Try.f97) (fe_ref03_Floor)
theorem ok_ref03_Floor : EnvOK Try.prog (E_ref03_Floor) := mkE_ok tys_ok ⟨⟨fs_ref02_Small.csound, ⟨Try.f23, by kernel_rfl, by kernel_rfl, by kernel_rfl⟩⟩, ⟨fs_ref02_Add.csound, ⟨Try.f103, by kernel_rfl, by kernel_rfl, by kernel_rfl⟩⟩, ⟨fs_ref03_Quo.csound, ⟨Try.f139, by kernel_rfl, by kernel_rfl, by kernel_rfl⟩⟩, trivial⟩ trivial
theorem fs_ref03_Floor : FSound Try.prog 97 [.pair (.int .i64) (.slice (.int .i64)), .pair (.int .i64) (.slice (.int .i64))] [(.pair (.int .i64) (.slice (.int .i64)), false), (.pair (.int .i64) (.slice (.int .i64)), false)] (fun τ => F_ref03_Floor τ.1 τ.2.1) :=
  evG_sound (E := (E_ref03_Floor)) (C := (lk c_ref03_Floor)) ok_ref03_Floor mixed_ok (fn := Try.f97) (c := (bodyOf Try.f97)) (by kernel_rfl) (by kernel_rfl) (by kernel_rfl) (by kernel_rfl) (by kernel_rfl) (by kernel_rfl) (fun τ r h => by
    obtain ⟨a0, a1, ⟨⟩⟩ := τ
    obtain ⟨m, hm⟩ := Rn_ref03_Floor a0 a1 r h
    exact ⟨m, (top_ref03_Floor (tb_ref03_Floor m) a0 a1).trans (hm m (Nat.le_refl m))⟩)

abbrev E_ref05_Floor : Env := mkE tys [(97, callE [.pair (.int .i64) (.slice (.int .i64)), .pair (.int .i64) (.slice (.int .i64))] [(.pair (.int .i64) (.slice (.int .i64)), false), (.pair (.int .i64) (.slice (.int .i64)), false)] (fun τ => F_ref03_Floor τ.1 τ.2.1))] []
def c_ref05_Floor : List (Nat × Live) := []
noncomputable abbrev fe_ref05_Floor := (finE (E_ref05_Floor) [(.pair (.int .i64) (.slice (.int .i64)), false)] Try.f35.results.toList)
theorem top_ref05_Floor (S : Nat → KT (RT [(.pair (.int .i64) (.slice (.int .i64)), false)])) (a0 : (Int × List Int) × Int × List Int) : evA (E_ref05_Floor) (lk c_ref05_Floor) S (bodyOf Try.f35) noX (fe_ref05_Floor) (fe_ref05_Floor) (initSt [.pair (.pair (.int .i64) (.slice (.int .i64))) (.pair (.int .i64) (.slice (.int .i64)))] (a0, ())) = T_ref05_Floor a0 := by kernel_rfl
noncomputable abbrev tb_ref05_Floor := tab (E_ref05_Floor) (lk c_ref05_Floor) (bodyOf Try.f35) (fe_ref05_Floor)
theorem ok_ref05_Floor : EnvOK Try.prog (E_ref05_Floor) := mkE_ok tys_ok ⟨⟨fs_ref03_Floor.csound, ⟨Try.f97, by kernel_rfl, by kernel_rfl, by kernel_rfl⟩⟩, trivial⟩ trivial
theorem fs_ref05_Floor : FSound Try.prog 35 [.pair (.pair (.int .i64) (.slice (.int .i64))) (.pair (.int .i64) (.slice (.int .i64)))] [(.pair (.int .i64) (.slice (.int .i64)), false)] (fun τ => F_ref05_Floor τ.1) :=
  evG_sound (E := (E_ref05_Floor)) (C := (lk c_ref05_Floor)) ok_ref05_Floor mixed_ok (fn := Try.f35) (c := (bodyOf Try.f35)) (by kernel_rfl) (by kernel_rfl) (by kernel_rfl) (by kernel_rfl) (by kernel_rfl) (by kernel_rfl) (fun τ r h => by
    obtain ⟨a0, ⟨⟩⟩ := τ
    obtain ⟨m, hm⟩ := Rn_ref05_Floor a0 r h
    exact ⟨m, (top_ref05_Floor (tb_ref05_Floor m) a0).trans (hm m (Nat.le_refl m))⟩)

abbrev E_ref02_Neg : Env := mkE tys [] []
def c_ref02_Neg : List (Nat × Live) := []
noncomputable abbrev fe_ref02_Neg := (finE (E_ref02_Neg) [(.pair (.int .i64) (.slice (.int .i64)), false)] Try.f36.results.toList)
theorem top_ref02_Neg (S : Nat → KT (RT [(.pair (.int .i64) (.slice (.int .i64)), false)])) (a0 : Int × List Int) : evA (E_ref02_Neg) (lk c_ref02_Neg) S (bodyOf Try.f36) noX (fe_ref02_Neg) (fe_ref02_Neg) (initSt [.pair (.int .i64) (.slice (.int .i64))] (a0, ())) = T_ref02_Neg a0 := by kernel_rfl
noncomputable abbrev tb_ref02_Neg := tab (E_ref02_Neg) (lk c_ref02_Neg) (bodyOf Try.f36) (fe_ref02_Neg)
theorem ok_ref02_Neg : EnvOK Try.prog (E_ref02_Neg) := mkE_ok tys_ok trivial trivial
theorem fs_ref02_Neg : FSound Try.prog 36 [.pair (.int .i64) (.slice (.int .i64))] [(.pair (.int .i64) (.slice (.int .i64)), false)] (fun τ => F_ref02_Neg τ.1) :=
  evG_sound (E := (E_ref02_Neg)) (C := (lk c_ref02_Neg)) ok_ref02_Neg mixed_ok (fn := Try.f36) (c := (bodyOf Try.f36)) (by kernel_rfl) (by kernel_rfl) (by kernel_rfl) (by kernel_rfl) (by kernel_rfl) (by kernel_rfl) (fun τ r h => by
    obtain ⟨a0, ⟨⟩⟩ := τ
    obtain ⟨m, hm⟩ := Rn_ref02_Neg a0 r h
    exact ⟨m, (top_ref02_Neg (tb_ref02_Neg m) a0).trans (hm m (Nat.le_refl m))⟩)

abbrev E_ref05_Neg : Env := mkE tys [(36, callE [.pair (.int .i64) (.slice (.int .i64))] [(.pair (.int .i64) (.slice (.int .i64)), false)] (fun τ => F_ref02_Neg τ.1))] []
def c_ref05_Neg : List (Nat × Live) := []
noncomputable abbrev fe_ref05_Neg := (finE (E_ref05_Neg) [(.pair (.pair (.int .i64) (.slice (.int .i64))) (.pair (.int .i64) (.slice (.int .i64))), false)] Try.f37.results.toList)
theorem top_ref05_Neg (S : Nat → KT (RT [(.pair (.pair (.int .i64) (.slice (.int .i64))) (.pair (.int .i64) (.slice (.int .i64))), false)])) (a0 : (Int × List Int) × Int × List Int) : evA (E_ref05_Neg) (lk c_ref05_Neg) S (bodyOf Try.f37) noX (fe_ref05_Neg) (fe_ref05_Neg) (initSt [.pair (.pair (.int .i64) (.slice (.int .i64))) (.pair (.int .i64) (.slice (.int .i64)))] (a0, ())) = T_ref05_Neg a0 := by kernel_rfl
noncomputable abbrev tb_ref05_Neg := tab (E_ref05_Neg) (lk c_ref05_Neg) (bodyOf Try.f37) (fe_ref05_Neg)
theorem ok_ref05_Neg : EnvOK Try.prog (E_ref05_Neg) := mkE_ok tys_ok ⟨⟨fs_ref02_Neg.csound, ⟨Try.f36, by kernel_rfl, by kernel_rfl, by kernel_rfl⟩⟩, trivial⟩ trivial
theorem fs_ref05_Neg : FSound Try.prog 37 [.pair (.pair (.int .i64) (.slice (.int .i64))) (.pair (.int .i64) (.slice (.int .i64)))] [(.pair (.pair (.int .i64) (.slice (.int .i64))) (.pair (.int .i64) (.slice (.int .i64))), false)] (fun τ => F_ref05_Neg τ.1) :=
  evG_sound (E := (E_ref05_Neg)) (C := (lk c_ref05_Neg)) ok_ref05_Neg mixed_ok (fn := Try.f37) (c := (bodyOf Try.f37)) (by kernel_rfl) (by kernel_rfl) (by kernel_rfl) (by kernel_rfl) (by kernel_rfl) (by kernel_rfl) (fun τ r h => by
    obtain ⟨a0, ⟨⟩⟩ := τ
    obtain ⟨m, hm⟩ := Rn_ref05_Neg a0 r h
    exact ⟨m, (top_ref05_Neg (tb_ref05_Neg m) a0).trans (hm m (Nat.le_refl m))⟩)

abbrev E_ref01_Mul : Env := mkE tys [(164, callE [.slice (.int .i64)] [(.slice (.int .i64), true)] (fun τ => F_ref01_words τ.1)), (165, callE [.slice (.int .i64)] [(.slice (.int .i64), false)] (fun τ => F_ref01_bits τ.1))] []
def c_ref01_Mul : List (Nat × Live) := [(17, ⟨[(8, .int .i64)], [(false, 5, .int .i64), (false, 6, .int .i64), (false, 7, .int .i64)], []⟩), (33, ⟨[(8, .int .i64), (9, .int .i64), (10, .int .i64)], [(false, 5, .int .i64), (false, 6, .int .i64), (false, 7, .int .i64)], []⟩)]
noncomputable abbrev fe_ref01_Mul := (finE (E_ref01_Mul) [(.slice (.int .i64), false)] Try.f131.results.toList)
noncomputable abbrev cn_ref01_Mul_17 (x8 : Int) (x5 : List Int) (x6 : List Int) (x7 : List Int) : St := ⟨[(7, .one (.loc (.int .i64) 10002)), (6, .one (.loc (.int .i64) 10001)), (5, .one (.loc (.int .i64) 10000)), (8, .one (.val (.int .i64) x8))], [(10002, some ⟨.int .i64, x7, false⟩), (10001, some ⟨.int .i64, x6, false⟩), (10000, some ⟨.int .i64, x5, false⟩)]⟩
noncomputable abbrev kk_ref01_Mul_17 (S : Nat → KT (RT [(.slice (.int .i64), false)])) := fun (x8 : Int) (x5 : List Int) (x6 : List Int) (x7 : List Int) => S 17 (cn_ref01_Mul_17 x8 x5 x6 x7)
noncomputable abbrev cn_ref01_Mul_33 (x8 : Int) (x9 : Int) (x10 : Int) (x5 : List Int) (x6 : List Int) (x7 : List Int) : St := ⟨[(7, .one (.loc (.int .i64) 10002)), (6, .one (.loc (.int .i64) 10001)), (5, .one (.loc (.int .i64) 10000)), (10, .one (.val (.int .i64) x10)), (9, .one (.val (.int .i64) x9)), (8, .one (.val (.int .i64) x8))], [(10002, some ⟨.int .i64, x7, false⟩), (10001, some ⟨.int .i64, x6, false⟩), (10000, some ⟨.int .i64, x5, false⟩)]⟩
noncomputable abbrev kk_ref01_Mul_33 (S : Nat → KT (RT [(.slice (.int .i64), false)])) := fun (x8 : Int) (x9 : Int) (x10 : Int) (x5 : List Int) (x6 : List Int) (x7 : List Int) => S 33 (cn_ref01_Mul_33 x8 x9 x10 x5 x6 x7)
theorem top_ref01_Mul (S : Nat → KT (RT [(.slice (.int .i64), false)])) (a0 : List Int) (a1 : List Int) : evA (E_ref01_Mul) (lk c_ref01_Mul) S (bodyOf Try.f131) noX (fe_ref01_Mul) (fe_ref01_Mul) (initSt [.slice (.int .i64), .slice (.int .i64)] (a0, a1, ())) = T_ref01_Mul (kk_ref01_Mul_17 S) (kk_ref01_Mul_33 S) a0 a1 := by kernel_rfl
theorem seg_ref01_Mul_17 (S : Nat → KT (RT [(.slice (.int .i64), false)])) (x8 : Int) (x5 : List Int) (x6 : List Int) (x7 : List Int) : stepT (entry (E_ref01_Mul) (lk c_ref01_Mul) S 17 (bodyOf Try.f131) noX (fe_ref01_Mul) (fe_ref01_Mul)) (cn_ref01_Mul_17 x8 x5 x6 x7) = S_ref01_Mul_17 (kk_ref01_Mul_17 S) (kk_ref01_Mul_33 S) x8 x5 x6 x7 := by kernel_rfl
theorem seg_ref01_Mul_33 (S : Nat → KT (RT [(.slice (.int .i64), false)])) (x8 : Int) (x9 : Int) (x10 : Int) (x5 : List Int) (x6 : List Int) (x7 : List Int) : stepT (entry (E_ref01_Mul) (lk c_ref01_Mul) S 33 (bodyOf Try.f131) noX (fe_ref01_Mul) (fe_ref01_Mul)) (cn_ref01_Mul_33 x8 x9 x10 x5 x6 x7) = S_ref01_Mul_33 (kk_ref01_Mul_17 S) (kk_ref01_Mul_33 S) x8 x9 x10 x5 x6 x7 := by kernel_rfl
noncomputable abbrev tb_ref01_Mul := tab (E_ref01_Mul) (lk c_ref01_Mul) (bodyOf Try.f131) (fe_ref01_Mul)
theorem ok_ref01_Mul : EnvOK Try.prog (E_ref01_Mul) := mkE_ok tys_ok ⟨⟨fs_ref01_words.csound, ⟨Try.f164, by kernel_rfl, by kernel_rfl, by kernel_rfl⟩⟩, ⟨fs_ref01_bits.csound, ⟨Try.f165, by kernel_rfl, by kernel_rfl, by kernel_rfl⟩⟩, trivial⟩ trivial
theorem fs_ref01_Mul : FSound Try.prog 131 [.slice (.int .i64), .slice (.int .i64)] [(.slice (.int .i64), false)] (fun τ => F_ref01_Mul τ.1 τ.2.1) :=
  evG_sound (E := (E_ref01_Mul)) (C := (lk c_ref01_Mul)) ok_ref01_Mul mixed_ok (fn := Try.f131) (c := (bodyOf Try.f131)) (by kernel_rfl) (by kernel_rfl) (by kernel_rfl) (by kernel_rfl) (by kernel_rfl) (by kernel_rfl) (fun τ r h => by
    obtain ⟨a0, a1, ⟨⟩⟩ := τ
    obtain ⟨m, hm⟩ := Rn_ref01_Mul (fun m => kk_ref01_Mul_17 (tb_ref01_Mul m)) (fun m => kk_ref01_Mul_33 (tb_ref01_Mul m)) (fun m x8 x5 x6 x7 => (tab_succ (E_ref01_Mul) (lk c_ref01_Mul) (bodyOf Try.f131) (fe_ref01_Mul) m 17 (cn_ref01_Mul_17 x8 x5 x6 x7)).trans (seg_ref01_Mul_17 (tb_ref01_Mul m) x8 x5 x6 x7)) (fun m x8 x9 x10 x5 x6 x7 => (tab_succ (E_ref01_Mul) (lk c_ref01_Mul) (bodyOf Try.f131) (fe_ref01_Mul) m 33 (cn_ref01_Mul_33 x8 x9 x10 x5 x6 x7)).trans (seg_ref01_Mul_33 (tb_ref01_Mul m) x8 x9 x10 x5 x6 x7)) a0 a1 r h
    exact ⟨m, (top_ref01_Mul (tb_ref01_Mul m) a0 a1).trans (hm m (Nat.le_refl m))⟩)

abbrev E_ref02_Mul : Env := mkE tys [(87, callE [.bool, .slice (.int .i64)] [(.pair (.int .i64) (.slice (.int .i64)), false)] (fun τ => F_ref02_Make τ.1 τ.2.1)), (131, callE [.slice (.int .i64), .slice (.int .i64)] [(.slice (.int .i64), false)] (fun τ => F_ref01_Mul τ.1 τ.2.1))] []
def c_ref02_Mul : List (Nat × Live) := []
noncomputable abbrev fe_ref02_Mul := (finE (E_ref02_Mul) [(.pair (.int .i64) (.slice (.int .i64)), false)] Try.f86.results.toList)
theorem top_ref02_Mul (S : Nat → KT (RT [(.pair (.int .i64) (.slice (.int .i64)), false)])) (a0 : Int × List Int) (a1 : Int × List Int) : evA (E_ref02_Mul) (lk c_ref02_Mul) S (bodyOf Try.f86) noX (fe_ref02_Mul) (fe_ref02_Mul) (initSt [.pair (.int .i64) (.slice (.int .i64)), .pair (.int .i64) (.slice (.int .i64))] (a0, a1, ())) = T_ref02_Mul a0 a1 := by kernel_rfl
noncomputable abbrev tb_ref02_Mul := tab (E_ref02_Mul) (lk c_ref02_Mul) (bodyOf Try.f86) (fe_ref02_Mul)
theorem ok_ref02_Mul : EnvOK Try.prog (E_ref02_Mul) := mkE_ok tys_ok ⟨⟨fs_ref02_Make.csound, ⟨Try.f87, by kernel_rfl, by kernel_rfl, by kernel_rfl⟩⟩, ⟨fs_ref01_Mul.csound, ⟨Try.f131, by kernel_rfl, by kernel_rfl, by kernel_rfl⟩⟩, trivial⟩ trivial
theorem fs_ref02_Mul : FSound Try.prog 86 [.pair (.int .i64) (.slice (.int .i64)), .pair (.int .i64) (.slice (.int .i64))] [(.pair (.int .i64) (.slice (.int .i64)), false)] (fun τ => F_ref02_Mul τ.1 τ.2.1) :=
  evG_sound (E := (E_ref02_Mul)) (C := (lk c_ref02_Mul)) ok_ref02_Mul mixed_ok (fn := Try.f86) (c := (bodyOf Try.f86)) (by kernel_rfl) (by kernel_rfl) (by kernel_rfl) (by kernel_rfl) (by kernel_rfl) (by kernel_rfl) (fun τ r h => by
    obtain ⟨a0, a1, ⟨⟩⟩ := τ
    obtain ⟨m, hm⟩ := Rn_ref02_Mul a0 a1 r h
    exact ⟨m, (top_ref02_Mul (tb_ref02_Mul m) a0 a1).trans (hm m (Nat.le_refl m))⟩)

abbrev E_ref05_Add : Env := mkE tys [(86, callE [.pair (.int .i64) (.slice (.int .i64)), .pair (.int .i64) (.slice (.int .i64))] [(.pair (.int .i64) (.slice (.int .i64)), false)] (fun τ => F_ref02_Mul τ.1 τ.2.1)), (103, callE [.pair (.int .i64) (.slice (.int .i64)), .pair (.int .i64) (.slice (.int .i64))] [(.pair (.int .i64) (.slice (.int .i64)), false)] (fun τ => F_ref02_Add τ.1 τ.2.1))] []
def c_ref05_Add : List (Nat × Live) := []
noncomputable abbrev fe_ref05_Add := (finE (E_ref05_Add) [(.pair (.pair (.int .i64) (.slice (.int .i64))) (.pair (.int .i64) (.slice (.int .i64))), false)] Try.f44.results.toList)
theorem top_ref05_Add (S : Nat → KT (RT [(.pair (.pair (.int .i64) (.slice (.int .i64))) (.pair (.int .i64) (.slice (.int .i64))), false)])) (a0 : (Int × List Int) × Int × List Int) (a1 : (Int × List Int) × Int × List Int) : evA (E_ref05_Add) (lk c_ref05_Add) S (bodyOf Try.f44) noX (fe_ref05_Add) (fe_ref05_Add) (initSt [.pair (.pair (.int .i64) (.slice (.int .i64))) (.pair (.int .i64) (.slice (.int .i64))), .pair (.pair (.int .i64) (.slice (.int .i64))) (.pair (.int .i64) (.slice (.int .i64)))] (a0, a1, ())) = T_ref05_Add a0 a1 := by kernel_rfl
noncomputable abbrev tb_ref05_Add := tab (E_ref05_Add) (lk c_ref05_Add) (bodyOf Try.f44) (fe_ref05_Add)
theorem ok_ref05_Add : EnvOK Try.prog (E_ref05_Add) := mkE_ok tys_ok ⟨⟨fs_ref02_Mul.csound, ⟨Try.f86, by kernel_rfl, by kernel_rfl, by kernel_rfl⟩⟩, ⟨fs_ref02_Add.csound, ⟨Try.f103, by kernel_rfl, by kernel_rfl, by kernel_rfl⟩⟩, trivial⟩ trivial
theorem fs_ref05_Add : FSound Try.prog 44 [.pair (.pair (.int .i64) (.slice (.int .i64))) (.pair (.int .i64) (.slice (.int .i64))), .pair (.pair (.int .i64) (.slice (.int .i64))) (.pair (.int .i64) (.slice (.int .i64)))] [(.pair (.pair (.int .i64) (.slice (.int .i64))) (.pair (.int .i64) (.slice (.int .i64))), false)] (fun τ => F_ref05_Add τ.1 τ.2.1) :=
  evG_sound (E := (E_ref05_Add)) (C := (lk c_ref05_Add)) ok_ref05_Add mixed_ok (fn := Try.f44) (c := (bodyOf Try.f44)) (by kernel_rfl) (by kernel_rfl) (by kernel_rfl) (by kernel_rfl) (by kernel_rfl) (by kernel_rfl) (fun τ r h => by
    obtain ⟨a0, a1, ⟨⟩⟩ := τ
    obtain ⟨m, hm⟩ := Rn_ref05_Add a0 a1 r h
    exact ⟨m, (top_ref05_Add (tb_ref05_Add m) a0 a1).trans (hm m (Nat.le_refl m))⟩)

abbrev E_ref04_Format : Env := mkE tys [] []
def c_ref04_Format : List (Nat × Live) := [(13, ⟨[(1, .int .i64), (6, .int .i64)], [(true, 2, .pair (.int .i64) (.slice (.int .i64))), (false, 5, .int .i64)], []⟩), (29, ⟨[(1, .int .i64), (6, .int .i64), (7, .int .i64), (8, .int .i64)], [(true, 2, .pair (.int .i64) (.slice (.int .i64))), (false, 5, .int .i64)], []⟩), (73, ⟨[(10, .str), (11, .int .i64)], [(false, 5, .int .i64)], []⟩)]
noncomputable abbrev fe_ref04_Format := (finE (E_ref04_Format) [(.str, false)] Try.f123.results.toList)
noncomputable abbrev cn_ref04_Format_13 (x1 : Int) (x6 : Int) (x2 : Int × List Int) (x5 : List Int) : St := ⟨[(5, .one (.loc (.int .i64) 10001)), (2, .one (.ptr 10000 0 [])), (6, .one (.val (.int .i64) x6)), (1, .one (.val (.int .i64) x1))], [(10001, some ⟨.int .i64, x5, false⟩), (10000, some ⟨.pair (.int .i64) (.slice (.int .i64)), [x2], false⟩)]⟩
noncomputable abbrev kk_ref04_Format_13 (S : Nat → KT (RT [(.str, false)])) := fun (x1 : Int) (x6 : Int) (x2 : Int × List Int) (x5 : List Int) => S 13 (cn_ref04_Format_13 x1 x6 x2 x5)
noncomputable abbrev cn_ref04_Format_29 (x1 : Int) (x6 : Int) (x7 : Int) (x8 : Int) (x2 : Int × List Int) (x5 : List Int) : St := ⟨[(5, .one (.loc (.int .i64) 10001)), (2, .one (.ptr 10000 0 [])), (8, .one (.val (.int .i64) x8)), (7, .one (.val (.int .i64) x7)), (6, .one (.val (.int .i64) x6)), (1, .one (.val (.int .i64) x1))], [(10001, some ⟨.int .i64, x5, false⟩), (10000, some ⟨.pair (.int .i64) (.slice (.int .i64)), [x2], false⟩)]⟩
noncomputable abbrev kk_ref04_Format_29 (S : Nat → KT (RT [(.str, false)])) := fun (x1 : Int) (x6 : Int) (x7 : Int) (x8 : Int) (x2 : Int × List Int) (x5 : List Int) => S 29 (cn_ref04_Format_29 x1 x6 x7 x8 x2 x5)
noncomputable abbrev cn_ref04_Format_73 (x10 : ByteArray) (x11 : Int) (x5 : List Int) : St := ⟨[(5, .one (.loc (.int .i64) 10000)), (11, .one (.val (.int .i64) x11)), (10, .one (.val (.str) x10))], [(10000, some ⟨.int .i64, x5, false⟩)]⟩
noncomputable abbrev kk_ref04_Format_73 (S : Nat → KT (RT [(.str, false)])) := fun (x10 : ByteArray) (x11 : Int) (x5 : List Int) => S 73 (cn_ref04_Format_73 x10 x11 x5)
theorem top_ref04_Format (S : Nat → KT (RT [(.str, false)])) (a0 : Int × List Int) (a1 : Int) : evA (E_ref04_Format) (lk c_ref04_Format) S (bodyOf Try.f123) noX (fe_ref04_Format) (fe_ref04_Format) (initSt [.pair (.int .i64) (.slice (.int .i64)), .int .i64] (a0, a1, ())) = T_ref04_Format (kk_ref04_Format_13 S) (kk_ref04_Format_29 S) (kk_ref04_Format_73 S) a0 a1 := by kernel_rfl
theorem seg_ref04_Format_13 (S : Nat → KT (RT [(.str, false)])) (x1 : Int) (x6 : Int) (x2 : Int × List Int) (x5 : List Int) : stepT (entry (E_ref04_Format) (lk c_ref04_Format) S 13 (bodyOf Try.f123) noX (fe_ref04_Format) (fe_ref04_Format)) (cn_ref04_Format_13 x1 x6 x2 x5) = S_ref04_Format_13 (kk_ref04_Format_13 S) (kk_ref04_Format_29 S) (kk_ref04_Format_73 S) x1 x6 x2 x5 := by kernel_rfl
theorem seg_ref04_Format_29 (S : Nat → KT (RT [(.str, false)])) (x1 : Int) (x6 : Int) (x7 : Int) (x8 : Int) (x2 : Int × List Int) (x5 : List Int) : stepT (entry (E_ref04_Format) (lk c_ref04_Format) S 29 (bodyOf Try.f123) noX (fe_ref04_Format) (fe_ref04_Format)) (cn_ref04_Format_29 x1 x6 x7 x8 x2 x5) = S_ref04_Format_29 (kk_ref04_Format_13 S) (kk_ref04_Format_29 S) (kk_ref04_Format_73 S) x1 x6 x7 x8 x2 x5 := by kernel_rfl
theorem seg_ref04_Format_73 (S : Nat → KT (RT [(.str, false)])) (x10 : ByteArray) (x11 : Int) (x5 : List Int) : stepT (entry (E_ref04_Format) (lk c_ref04_Format) S 73 (bodyOf Try.f123) noX (fe_ref04_Format) (fe_ref04_Format)) (cn_ref04_Format_73 x10 x11 x5) = S_ref04_Format_73 (kk_ref04_Format_13 S) (kk_ref04_Format_29 S) (kk_ref04_Format_73 S) x10 x11 x5 := by kernel_rfl
noncomputable abbrev tb_ref04_Format := tab (E_ref04_Format) (lk c_ref04_Format) (bodyOf Try.f123) (fe_ref04_Format)
theorem ok_ref04_Format : EnvOK Try.prog (E_ref04_Format) := mkE_ok tys_ok trivial trivial
theorem fs_ref04_Format : FSound Try.prog 123 [.pair (.int .i64) (.slice (.int .i64)), .int .i64] [(.str, false)] (fun τ => F_ref04_Format τ.1 τ.2.1) :=
  evG_sound (E := (E_ref04_Format)) (C := (lk c_ref04_Format)) ok_ref04_Format mixed_ok (fn := Try.f123) (c := (bodyOf Try.f123)) (by kernel_rfl) (by kernel_rfl) (by kernel_rfl) (by kernel_rfl) (by kernel_rfl) (by kernel_rfl) (fun τ r h => by
    obtain ⟨a0, a1, ⟨⟩⟩ := τ
    obtain ⟨m, hm⟩ := Rn_ref04_Format (fun m => kk_ref04_Format_13 (tb_ref04_Format m)) (fun m => kk_ref04_Format_29 (tb_ref04_Format m)) (fun m => kk_ref04_Format_73 (tb_ref04_Format m)) (fun m x1 x6 x2 x5 => (tab_succ (E_ref04_Format) (lk c_ref04_Format) (bodyOf Try.f123) (fe_ref04_Format) m 13 (cn_ref04_Format_13 x1 x6 x2 x5)).trans (seg_ref04_Format_13 (tb_ref04_Format m) x1 x6 x2 x5)) (fun m x1 x6 x7 x8 x2 x5 => (tab_succ (E_ref04_Format) (lk c_ref04_Format) (bodyOf Try.f123) (fe_ref04_Format) m 29 (cn_ref04_Format_29 x1 x6 x7 x8 x2 x5)).trans (seg_ref04_Format_29 (tb_ref04_Format m) x1 x6 x7 x8 x2 x5)) (fun m x10 x11 x5 => (tab_succ (E_ref04_Format) (lk c_ref04_Format) (bodyOf Try.f123) (fe_ref04_Format) m 73 (cn_ref04_Format_73 x10 x11 x5)).trans (seg_ref04_Format_73 (tb_ref04_Format m) x10 x11 x5)) a0 a1 r h
    exact ⟨m, (top_ref04_Format (tb_ref04_Format m) a0 a1).trans (hm m (Nat.le_refl m))⟩)

abbrev E_ref03_Pow : Env := mkE tys [(23, callE [.int .i64] [(.pair (.int .i64) (.slice (.int .i64)), false)] (fun τ => F_ref02_Small τ.1)), (86, callE [.pair (.int .i64) (.slice (.int .i64)), .pair (.int .i64) (.slice (.int .i64))] [(.pair (.int .i64) (.slice (.int .i64)), false)] (fun τ => F_ref02_Mul τ.1 τ.2.1))] []
def c_ref03_Pow : List (Nat × Live) := [(13, ⟨[(1, .int .i64), (6, .int .i64)], [(true, 2, .pair (.int .i64) (.slice (.int .i64))), (true, 4, .pair (.int .i64) (.slice (.int .i64))), (true, 5, .pair (.int .i64) (.slice (.int .i64)))], []⟩)]
noncomputable abbrev fe_ref03_Pow := (finE (E_ref03_Pow) [(.pair (.int .i64) (.slice (.int .i64)), false)] Try.f128.results.toList)
noncomputable abbrev cn_ref03_Pow_13 (x1 : Int) (x6 : Int) (x2 : Int × List Int) (x4 : Int × List Int) (x5 : Int × List Int) : St := ⟨[(5, .one (.ptr 10002 0 [])), (4, .one (.ptr 10001 0 [])), (2, .one (.ptr 10000 0 [])), (6, .one (.val (.int .i64) x6)), (1, .one (.val (.int .i64) x1))], [(10002, some ⟨.pair (.int .i64) (.slice (.int .i64)), [x5], false⟩), (10001, some ⟨.pair (.int .i64) (.slice (.int .i64)), [x4], false⟩), (10000, some ⟨.pair (.int .i64) (.slice (.int .i64)), [x2], false⟩)]⟩
noncomputable abbrev kk_ref03_Pow_13 (S : Nat → KT (RT [(.pair (.int .i64) (.slice (.int .i64)), false)])) := fun (x1 : Int) (x6 : Int) (x2 : Int × List Int) (x4 : Int × List Int) (x5 : Int × List Int) => S 13 (cn_ref03_Pow_13 x1 x6 x2 x4 x5)
theorem top_ref03_Pow (S : Nat → KT (RT [(.pair (.int .i64) (.slice (.int .i64)), false)])) (a0 : Int × List Int) (a1 : Int) : evA (E_ref03_Pow) (lk c_ref03_Pow) S (bodyOf Try.f128) noX (fe_ref03_Pow) (fe_ref03_Pow) (initSt [.pair (.int .i64) (.slice (.int .i64)), .int .i64] (a0, a1, ())) = T_ref03_Pow (kk_ref03_Pow_13 S) a0 a1 := by kernel_rfl
theorem seg_ref03_Pow_13 (S : Nat → KT (RT [(.pair (.int .i64) (.slice (.int .i64)), false)])) (x1 : Int) (x6 : Int) (x2 : Int × List Int) (x4 : Int × List Int) (x5 : Int × List Int) : stepT (entry (E_ref03_Pow) (lk c_ref03_Pow) S 13 (bodyOf Try.f128) noX (fe_ref03_Pow) (fe_ref03_Pow)) (cn_ref03_Pow_13 x1 x6 x2 x4 x5) = S_ref03_Pow_13 (kk_ref03_Pow_13 S) x1 x6 x2 x4 x5 := by kernel_rfl
noncomputable abbrev tb_ref03_Pow := tab (E_ref03_Pow) (lk c_ref03_Pow) (bodyOf Try.f128) (fe_ref03_Pow)
theorem ok_ref03_Pow : EnvOK Try.prog (E_ref03_Pow) := mkE_ok tys_ok ⟨⟨fs_ref02_Small.csound, ⟨Try.f23, by kernel_rfl, by kernel_rfl, by kernel_rfl⟩⟩, ⟨fs_ref02_Mul.csound, ⟨Try.f86, by kernel_rfl, by kernel_rfl, by kernel_rfl⟩⟩, trivial⟩ trivial
theorem fs_ref03_Pow : FSound Try.prog 128 [.pair (.int .i64) (.slice (.int .i64)), .int .i64] [(.pair (.int .i64) (.slice (.int .i64)), false)] (fun τ => F_ref03_Pow τ.1 τ.2.1) :=
  evG_sound (E := (E_ref03_Pow)) (C := (lk c_ref03_Pow)) ok_ref03_Pow mixed_ok (fn := Try.f128) (c := (bodyOf Try.f128)) (by kernel_rfl) (by kernel_rfl) (by kernel_rfl) (by kernel_rfl) (by kernel_rfl) (by kernel_rfl) (fun τ r h => by
    obtain ⟨a0, a1, ⟨⟩⟩ := τ
    obtain ⟨m, hm⟩ := Rn_ref03_Pow (fun m => kk_ref03_Pow_13 (tb_ref03_Pow m)) (fun m x1 x6 x2 x4 x5 => (tab_succ (E_ref03_Pow) (lk c_ref03_Pow) (bodyOf Try.f128) (fe_ref03_Pow) m 13 (cn_ref03_Pow_13 x1 x6 x2 x4 x5)).trans (seg_ref03_Pow_13 (tb_ref03_Pow m) x1 x6 x2 x4 x5)) a0 a1 r h
    exact ⟨m, (top_ref03_Pow (tb_ref03_Pow m) a0 a1).trans (hm m (Nat.le_refl m))⟩)

abbrev E_ref05_Decimal : Env := mkE tys [(23, callE [.int .i64] [(.pair (.int .i64) (.slice (.int .i64)), false)] (fun τ => F_ref02_Small τ.1)), (35, callE [.pair (.pair (.int .i64) (.slice (.int .i64))) (.pair (.int .i64) (.slice (.int .i64)))] [(.pair (.int .i64) (.slice (.int .i64)), false)] (fun τ => F_ref05_Floor τ.1)), (37, callE [.pair (.pair (.int .i64) (.slice (.int .i64))) (.pair (.int .i64) (.slice (.int .i64)))] [(.pair (.pair (.int .i64) (.slice (.int .i64))) (.pair (.int .i64) (.slice (.int .i64))), false)] (fun τ => F_ref05_Neg τ.1)), (44, callE [.pair (.pair (.int .i64) (.slice (.int .i64))) (.pair (.int .i64) (.slice (.int .i64))), .pair (.pair (.int .i64) (.slice (.int .i64))) (.pair (.int .i64) (.slice (.int .i64)))] [(.pair (.pair (.int .i64) (.slice (.int .i64))) (.pair (.int .i64) (.slice (.int .i64))), false)] (fun τ => F_ref05_Add τ.1 τ.2.1)), (86, callE [.pair (.int .i64) (.slice (.int .i64)), .pair (.int .i64) (.slice (.int .i64))] [(.pair (.int .i64) (.slice (.int .i64)), false)] (fun τ => F_ref02_Mul τ.1 τ.2.1)), (123, callE [.pair (.int .i64) (.slice (.int .i64)), .int .i64] [(.str, false)] (fun τ => F_ref04_Format τ.1 τ.2.1)), (128, callE [.pair (.int .i64) (.slice (.int .i64)), .int .i64] [(.pair (.int .i64) (.slice (.int .i64)), false)] (fun τ => F_ref03_Pow τ.1 τ.2.1))] []
def c_ref05_Decimal : List (Nat × Live) := [(37, ⟨[(1, .int .i64), (10, .str)], [(true, 2, .pair (.pair (.int .i64) (.slice (.int .i64))) (.pair (.int .i64) (.slice (.int .i64)))), (true, 9, .pair (.int .i64) (.slice (.int .i64)))], []⟩), (56, ⟨[(10, .str), (67, .bool)], [], []⟩)]
noncomputable abbrev fe_ref05_Decimal := (finE (E_ref05_Decimal) [(.str, false)] Try.f81.results.toList)
noncomputable abbrev cn_ref05_Decimal_37 (x1 : Int) (x10 : ByteArray) (x2 : (Int × List Int) × Int × List Int) (x9 : Int × List Int) : St := ⟨[(9, .one (.ptr 10001 0 [])), (2, .one (.ptr 10000 0 [])), (10, .one (.val (.str) x10)), (1, .one (.val (.int .i64) x1))], [(10001, some ⟨.pair (.int .i64) (.slice (.int .i64)), [x9], false⟩), (10000, some ⟨.pair (.pair (.int .i64) (.slice (.int .i64))) (.pair (.int .i64) (.slice (.int .i64))), [x2], false⟩)]⟩
noncomputable abbrev kk_ref05_Decimal_37 (S : Nat → KT (RT [(.str, false)])) := fun (x1 : Int) (x10 : ByteArray) (x2 : (Int × List Int) × Int × List Int) (x9 : Int × List Int) => S 37 (cn_ref05_Decimal_37 x1 x10 x2 x9)
noncomputable abbrev cn_ref05_Decimal_56 (x10 : ByteArray) (x67 : Bool) : St := ⟨[(67, .one (.val (.bool) x67)), (10, .one (.val (.str) x10))], []⟩
noncomputable abbrev kk_ref05_Decimal_56 (S : Nat → KT (RT [(.str, false)])) := fun (x10 : ByteArray) (x67 : Bool) => S 56 (cn_ref05_Decimal_56 x10 x67)
theorem top_ref05_Decimal (S : Nat → KT (RT [(.str, false)])) (a0 : (Int × List Int) × Int × List Int) (a1 : Int) : evA (E_ref05_Decimal) (lk c_ref05_Decimal) S (bodyOf Try.f81) noX (fe_ref05_Decimal) (fe_ref05_Decimal) (initSt [.pair (.pair (.int .i64) (.slice (.int .i64))) (.pair (.int .i64) (.slice (.int .i64))), .int .i64] (a0, a1, ())) = T_ref05_Decimal (kk_ref05_Decimal_37 S) (kk_ref05_Decimal_56 S) a0 a1 := by kernel_rfl
theorem seg_ref05_Decimal_37 (S : Nat → KT (RT [(.str, false)])) (x1 : Int) (x10 : ByteArray) (x2 : (Int × List Int) × Int × List Int) (x9 : Int × List Int) : stepT (entry (E_ref05_Decimal) (lk c_ref05_Decimal) S 37 (bodyOf Try.f81) noX (fe_ref05_Decimal) (fe_ref05_Decimal)) (cn_ref05_Decimal_37 x1 x10 x2 x9) = S_ref05_Decimal_37 (kk_ref05_Decimal_37 S) (kk_ref05_Decimal_56 S) x1 x10 x2 x9 := by kernel_rfl
theorem seg_ref05_Decimal_56 (S : Nat → KT (RT [(.str, false)])) (x10 : ByteArray) (x67 : Bool) : stepT (entry (E_ref05_Decimal) (lk c_ref05_Decimal) S 56 (bodyOf Try.f81) noX (fe_ref05_Decimal) (fe_ref05_Decimal)) (cn_ref05_Decimal_56 x10 x67) = S_ref05_Decimal_56 (kk_ref05_Decimal_37 S) (kk_ref05_Decimal_56 S) x10 x67 := by kernel_rfl
noncomputable abbrev tb_ref05_Decimal := tab (E_ref05_Decimal) (lk c_ref05_Decimal) (bodyOf Try.f81) (fe_ref05_Decimal)
theorem ok_ref05_Decimal : EnvOK Try.prog (E_ref05_Decimal) := mkE_ok tys_ok ⟨⟨fs_ref02_Small.csound, ⟨Try.f23, by kernel_rfl, by kernel_rfl, by kernel_rfl⟩⟩, ⟨fs_ref05_Floor.csound, ⟨Try.f35, by kernel_rfl, by kernel_rfl, by kernel_rfl⟩⟩, ⟨fs_ref05_Neg.csound, ⟨Try.f37, by kernel_rfl, by kernel_rfl, by kernel_rfl⟩⟩, ⟨fs_ref05_Add.csound, ⟨Try.f44, by kernel_rfl, by kernel_rfl, by kernel_rfl⟩⟩, ⟨fs_ref02_Mul.csound, ⟨Try.f86, by kernel_rfl, by kernel_rfl, by kernel_rfl⟩⟩, ⟨fs_ref04_Format.csound, ⟨Try.f123, by kernel_rfl, by kernel_rfl, by kernel_rfl⟩⟩, ⟨fs_ref03_Pow.csound, ⟨Try.f128, by kernel_rfl, by kernel_rfl, by kernel_rfl⟩⟩, trivial⟩ trivial
theorem fs_ref05_Decimal : FSound Try.prog 81 [.pair (.pair (.int .i64) (.slice (.int .i64))) (.pair (.int .i64) (.slice (.int .i64))), .int .i64] [(.str, false)] (fun τ => F_ref05_Decimal τ.1 τ.2.1) :=
  evG_sound (E := (E_ref05_Decimal)) (C := (lk c_ref05_Decimal)) ok_ref05_Decimal mixed_ok (fn := Try.f81) (c := (bodyOf Try.f81)) (by kernel_rfl) (by kernel_rfl) (by kernel_rfl) (by kernel_rfl) (by kernel_rfl) (by kernel_rfl) (fun τ r h => by
    obtain ⟨a0, a1, ⟨⟩⟩ := τ
    obtain ⟨m, hm⟩ := Rn_ref05_Decimal (fun m => kk_ref05_Decimal_37 (tb_ref05_Decimal m)) (fun m => kk_ref05_Decimal_56 (tb_ref05_Decimal m)) (fun m x1 x10 x2 x9 => (tab_succ (E_ref05_Decimal) (lk c_ref05_Decimal) (bodyOf Try.f81) (fe_ref05_Decimal) m 37 (cn_ref05_Decimal_37 x1 x10 x2 x9)).trans (seg_ref05_Decimal_37 (tb_ref05_Decimal m) x1 x10 x2 x9)) (fun m x10 x67 => (tab_succ (E_ref05_Decimal) (lk c_ref05_Decimal) (bodyOf Try.f81) (fe_ref05_Decimal) m 56 (cn_ref05_Decimal_56 x10 x67)).trans (seg_ref05_Decimal_56 (tb_ref05_Decimal m) x10 x67)) a0 a1 r h
    exact ⟨m, (top_ref05_Decimal (tb_ref05_Decimal m) a0 a1).trans (hm m (Nat.le_refl m))⟩)

abbrev E_law05_RationalDecimals : Env := mkE tys [(17, callE [] [(.bool, false)] (fun τ => F_law05_awake)), (18, callE [.int .i64, .pair (.pair (.bool) (.slice (.int .u32))) (.slice (.int .u32)), .pair (.pair (.bool) (.slice (.int .u32))) (.slice (.int .u32)), .pair (.pair (.bool) (.slice (.int .u32))) (.slice (.int .u32))] [(.bool, false)] (fun τ => F_law05_few τ.1 τ.2.1 τ.2.2.1 τ.2.2.2.1)), (20, callE [.pair (.pair (.bool) (.slice (.int .u32))) (.slice (.int .u32))] [(.pair (.pair (.int .i64) (.slice (.int .i64))) (.pair (.int .i64) (.slice (.int .i64))), false)] (fun τ => F_law05_of τ.1)), (80, callE [.pair (.pair (.bool) (.slice (.int .u32))) (.slice (.int .u32)), .int .i64] [(.str, false), (.int .i64, false)] (fun τ => F_rational_Decimal τ.1 τ.2.1)), (81, callE [.pair (.pair (.int .i64) (.slice (.int .i64))) (.pair (.int .i64) (.slice (.int .i64))), .int .i64] [(.str, false)] (fun τ => F_ref05_Decimal τ.1 τ.2.1))] []
def c_law05_RationalDecimals : List (Nat × Live) := [(8, ⟨[(1, .int .i64), (23, .bool)], [(true, 2, .pair (.pair (.bool) (.slice (.int .u32))) (.slice (.int .u32)))], []⟩)]
noncomputable abbrev fe_law05_RationalDecimals := (finE (E_law05_RationalDecimals) [(.bool, false)] Try.f16.results.toList)
noncomputable abbrev cn_law05_RationalDecimals_8 (x1 : Int) (x23 : Bool) (x2 : (Bool × List Int) × List Int) : St := ⟨[(2, .one (.ptr 10000 0 [])), (23, .one (.val (.bool) x23)), (1, .one (.val (.int .i64) x1))], [(10000, some ⟨.pair (.pair (.bool) (.slice (.int .u32))) (.slice (.int .u32)), [x2], false⟩)]⟩
noncomputable abbrev kk_law05_RationalDecimals_8 (S : Nat → KT (RT [(.bool, false)])) := fun (x1 : Int) (x23 : Bool) (x2 : (Bool × List Int) × List Int) => S 8 (cn_law05_RationalDecimals_8 x1 x23 x2)
theorem top_law05_RationalDecimals (S : Nat → KT (RT [(.bool, false)])) (a0 : (Bool × List Int) × List Int) (a1 : Int) : evA (E_law05_RationalDecimals) (lk c_law05_RationalDecimals) S (bodyOf Try.f16) noX (fe_law05_RationalDecimals) (fe_law05_RationalDecimals) (initSt [.pair (.pair (.bool) (.slice (.int .u32))) (.slice (.int .u32)), .int .i64] (a0, a1, ())) = T_law05_RationalDecimals (kk_law05_RationalDecimals_8 S) a0 a1 := by kernel_rfl
theorem seg_law05_RationalDecimals_8 (S : Nat → KT (RT [(.bool, false)])) (x1 : Int) (x23 : Bool) (x2 : (Bool × List Int) × List Int) : stepT (entry (E_law05_RationalDecimals) (lk c_law05_RationalDecimals) S 8 (bodyOf Try.f16) noX (fe_law05_RationalDecimals) (fe_law05_RationalDecimals)) (cn_law05_RationalDecimals_8 x1 x23 x2) = S_law05_RationalDecimals_8 (kk_law05_RationalDecimals_8 S) x1 x23 x2 := by kernel_rfl
noncomputable abbrev tb_law05_RationalDecimals := tab (E_law05_RationalDecimals) (lk c_law05_RationalDecimals) (bodyOf Try.f16) (fe_law05_RationalDecimals)
theorem ok_law05_RationalDecimals : EnvOK Try.prog (E_law05_RationalDecimals) := mkE_ok tys_ok ⟨⟨fs_law05_awake.csound, ⟨Try.f17, by kernel_rfl, by kernel_rfl, by kernel_rfl⟩⟩, ⟨fs_law05_few.csound, ⟨Try.f18, by kernel_rfl, by kernel_rfl, by kernel_rfl⟩⟩, ⟨fs_law05_of.csound, ⟨Try.f20, by kernel_rfl, by kernel_rfl, by kernel_rfl⟩⟩, ⟨fs_rational_Decimal.csound, ⟨Try.f80, by kernel_rfl, by kernel_rfl, by kernel_rfl⟩⟩, ⟨fs_ref05_Decimal.csound, ⟨Try.f81, by kernel_rfl, by kernel_rfl, by kernel_rfl⟩⟩, trivial⟩ trivial
theorem fs_law05_RationalDecimals : FSound Try.prog 16 [.pair (.pair (.bool) (.slice (.int .u32))) (.slice (.int .u32)), .int .i64] [(.bool, false)] (fun τ => F_law05_RationalDecimals τ.1 τ.2.1) :=
  evG_sound (E := (E_law05_RationalDecimals)) (C := (lk c_law05_RationalDecimals)) ok_law05_RationalDecimals mixed_ok (fn := Try.f16) (c := (bodyOf Try.f16)) (by kernel_rfl) (by kernel_rfl) (by kernel_rfl) (by kernel_rfl) (by kernel_rfl) (by kernel_rfl) (fun τ r h => by
    obtain ⟨a0, a1, ⟨⟩⟩ := τ
    obtain ⟨m, hm⟩ := Rn_law05_RationalDecimals (fun m => kk_law05_RationalDecimals_8 (tb_law05_RationalDecimals m)) (fun m x1 x23 x2 => (tab_succ (E_law05_RationalDecimals) (lk c_law05_RationalDecimals) (bodyOf Try.f16) (fe_law05_RationalDecimals) m 8 (cn_law05_RationalDecimals_8 x1 x23 x2)).trans (seg_law05_RationalDecimals_8 (tb_law05_RationalDecimals m) x1 x23 x2)) a0 a1 r h
    exact ⟨m, (top_law05_RationalDecimals (tb_law05_RationalDecimals m) a0 a1).trans (hm m (Nat.le_refl m))⟩)
end
end Go.W

set_option linter.unusedVariables false
set_option linter.unusedSimpArgs false
namespace Go.W
open Go.ChangeShapes Go.WideShapes Go.ChangeAt Go.RowKit

/-! ### What a statement's reading of an argument says -/
def wfT : (t : Ty) → t.D → Prop
  | .int k, n => k.min ≤ n ∧ n ≤ k.max
  | .bool, _ => True
  | .str, s => ByteArray.size s ≤ maxLen
  | .slice e, l => l.length ≤ maxLen ∧ ∀ x ∈ l, wfT e x
  | .pair a b, v => wfT a v.1 ∧ wfT b v.2
  | .arr n e, l => l.length = n ∧ ∀ x ∈ l, wfT e x

/-- a reading of cells opens to a typed value -/
def Opens (P : Program) (t : TypeId) (ty : Ty) : Prop := ∀ (H : Type) (enc : TypeId × Value → H) (w : World) (fuel : Nat) (cs : List Value) (x : DataW H × List MemPlace),
  DataW.trod enc P w 0 (fun _ => true) true fuel t cs = some x → ∃ v : ty.D, Rep w (fun g => g < w.heap.size) ty v cs ∧ wfT ty v

theorem opens_int {P : Program} {t : TypeId} {k : IntKind} (hu : P.underlying t = some (.int k)) : Opens P t (.int k) := by
  intro H enc w fuel cs x h
  obtain ⟨n, rfl, _, hw⟩ := DataW.trod_int hu h
  exact ⟨n, rfl, by simpa [wfT, Lit.wf] using hw⟩

theorem opens_bool {P : Program} {t : TypeId} (hu : P.underlying t = some .bool) : Opens P t .bool := by
  intro H enc w fuel cs x h
  obtain ⟨n, rfl, _⟩ := DataW.trod_bool hu h
  exact ⟨n, rfl, trivial⟩

theorem opens_str {P : Program} {t : TypeId} (hu : P.underlying t = some .string) : Opens P t .str := by
  intro H enc w fuel cs x h
  obtain ⟨n, rfl, _, hw⟩ := DataW.trod_string hu h
  exact ⟨n, rfl, hw⟩

theorem exists_listW {α : Type} {p : Nat → α → Prop} : ∀ n : Nat, (∀ i, i < n → ∃ x, p i x) → ∃ l : List α, l.length = n ∧ ∀ i (h : i < l.length), p i l[i]
  | 0, _ => ⟨[], rfl, fun i h => by simp at h⟩
  | n + 1, h => by
    obtain ⟨l, hl, hp⟩ := exists_listW n (fun i hi => h i (by omega))
    obtain ⟨x, hx⟩ := h n (by omega)
    refine ⟨l ++ [x], by simp [hl], fun i hi => ?_⟩
    by_cases hc : i < l.length
    · rw [List.getElem_append_left hc]; exact hp i hc
    · have : i = n := by simp at hi; omega
      subst this
      rw [List.getElem_append_right (by omega)]
      simpa [hl] using hx

theorem opens_slice {P : Program} {t e : TypeId} {ty : Ty} (hu : P.underlying t = some (.slice e)) (hc : P.cellsOf e = ty.size) (hp : 0 < ty.size) (he : Opens P e ty) : Opens P t (.slice ty) := by
  intro H enc w fuel cs x h
  rcases DataW.trod_slice hu h with ⟨rfl, _⟩ | ⟨a, len, cap, elems, rest, n, _, rfl, _, _, hl, hm, hlen, hel, _⟩
  · exact ⟨[], ⟨none, 0, rfl, Nat.le_refl _, fun i hi => by simp at hi⟩, by simp [wfT]⟩
  · obtain ⟨b, off, spot⟩ := a
    have hspot : 0 < len → spot = none := fun h0 => by
      have h1 := hel 0 h0
      have h2 : 0 < elems.length := by omega
      rw [List.getElem?_eq_getElem h2] at h1
      cases hcs : w.cells? 0 ((⟨b, off, spot⟩ : Addr).add (0 * P.cellsOf e)) (P.cellsOf e) with
      | none => rw [hcs] at h1; cases h1
      | some es =>
        unfold World.cells? at hcs
        rw [if_pos (Nat.zero_le _)] at hcs
        have := mapM_some_get hcs 0 0 (by rw [hc]; simp [hp])
        cases hz : es[0]? with
        | none =>
          rw [hz] at this
          have hlen := mapM_some_length hcs
          have := List.getElem?_eq_none_iff.1 hz
          simp at hlen; omega
        | some u => rw [hz] at this; exact World.cell?_spot (a := ⟨b, off, spot⟩) (by simpa [Addr.add] using this)
    have each : ∀ i, i < len → ∃ v : ty.D, (∃ es, Rep w (fun g => g < w.heap.size) ty v es ∧ b < w.heap.size ∧ spot = none ∧ ∀ j u, es[j]? = some u → w.cell? ⟨b, off + i * ty.size + j, none⟩ = some u) ∧ wfT ty v := fun i hi => by
      obtain rfl := hspot (by omega)
      have h1 := hel i hi
      have h2 : i < elems.length := by omega
      rw [List.getElem?_eq_getElem h2] at h1
      cases hcs : w.cells? 0 ((⟨b, off, none⟩ : Addr).add (i * P.cellsOf e)) (P.cellsOf e) with
      | none => rw [hcs] at h1; cases h1
      | some es =>
        rw [hcs] at h1
        obtain ⟨v, hr, hv⟩ := he H enc w n es _ h1
        unfold World.cells? at hcs
        rw [if_pos (Nat.zero_le _)] at hcs
        have hlen := mapM_some_length hcs
        have hget : ∀ j u, es[j]? = some u → w.cell? ⟨b, off + i * ty.size + j, none⟩ = some u := fun j u hj => by
          have hj' : j < P.cellsOf e := by
            have := (List.getElem?_eq_some_iff.1 hj).1
            simp at hlen; omega
          have := mapM_some_get hcs j j (by simp [hj'])
          rw [hj] at this
          rwa [Addr.add_lit, Addr.add_lit, hc] at this
        have hsz := hr.size
        obtain ⟨u, hu'⟩ : ∃ u, es[0]? = some u := ⟨es[0]'(by omega), by rw [List.getElem?_eq_getElem]⟩
        have h0 := hget 0 u hu'
        exact ⟨v, ⟨es, hr, World.block_lt_of_cell? w _ h0, rfl, hget⟩, hv⟩
    obtain ⟨l, hll, hl'⟩ := exists_listW len each
    refine ⟨l, ⟨_, cap, by rw [hll], by omega, fun i hi => ?_⟩, by omega, fun x hx => ?_⟩
    · obtain ⟨⟨es, hr, hb, rfl, hg⟩, _⟩ := hl' i hi
      exact ⟨b, off, es, rfl, hb, hr, hg⟩
    · obtain ⟨i, hi, rfl⟩ := List.getElem_of_mem hx
      exact (hl' i hi).2

theorem take_drop_all {α : Type} (l : List α) (a b : Nat) (h : l.length = a + b) : l = (l.drop 0).take a ++ (l.drop a).take b := by
  have : (l.drop a).take b = l.drop a := List.take_of_length_le (by simp; omega)
  rw [this, List.drop_zero, List.take_append_drop]

theorem opens_pair {P : Program} {t : TypeId} {f0 f1 : Field} {a b : Ty} (hu : P.underlying t = some (.struct #[f0, f1])) (hc : P.cellsOf t = a.size + b.size) (h0 : f0.offset = 0) (h1 : f1.offset = a.size)
    (c0 : P.cellsOf f0.type = a.size) (c1 : P.cellsOf f1.type = b.size) (o0 : Opens P f0.type a) (o1 : Opens P f1.type b) : Opens P t (.pair a b) := by
  intro H enc w fuel cs x h
  obtain ⟨y0, y1, n, _, hl, e0, e1⟩ := trod_struct2 hu h
  rw [h0, c0] at e0
  rw [h1, c1] at e1
  obtain ⟨v0, r0, w0⟩ := o0 H enc w n _ _ e0
  obtain ⟨v1, r1, w1⟩ := o1 H enc w n _ _ e1
  exact ⟨(v0, v1), ⟨_, _, take_drop_all cs _ _ (by omega), r0, r1⟩, w0, w1⟩

theorem opens_three {P : Program} {t : TypeId} {f0 f1 f2 : Field} {a b c : Ty} (hu : P.underlying t = some (.struct #[f0, f1, f2])) (hc : P.cellsOf t = a.size + (b.size + c.size)) (h0 : f0.offset = 0) (h1 : f1.offset = a.size)
    (h2 : f2.offset = a.size + b.size) (c0 : P.cellsOf f0.type = a.size) (c1 : P.cellsOf f1.type = b.size) (c2 : P.cellsOf f2.type = c.size) (o0 : Opens P f0.type a) (o1 : Opens P f1.type b) (o2 : Opens P f2.type c) : Opens P t (.pair a (.pair b c)) := by
  intro H enc w fuel cs x h
  obtain ⟨xs, n, _, rfl, hl, hlen, hf⟩ := DataW.trod_struct hu h
  match xs, hlen with
  | [y0, y1, y2], _ =>
    have e0 := hf 0 f0 rfl
    have e1 := hf 1 f1 rfl
    have e2 := hf 2 f2 rfl
    rw [h0, c0] at e0
    rw [h1, c1] at e1
    rw [h2, c2] at e2
    obtain ⟨v0, r0, w0⟩ := o0 H enc w n _ _ e0
    obtain ⟨v1, r1, w1⟩ := o1 H enc w n _ _ e1
    obtain ⟨v2, r2, w2⟩ := o2 H enc w n _ _ e2
    refine ⟨(v0, v1, v2), ⟨(cs.drop 0).take a.size, cs.drop a.size, by simp, r0, ⟨(cs.drop a.size).take b.size, (cs.drop (a.size + b.size)).take c.size, ?_, r1, r2⟩⟩, w0, w1, w2⟩
    have := take_drop_all (cs.drop a.size) b.size c.size (by simp; omega)
    simpa [List.drop_drop] using this

theorem opens_two {P : Program} {t e : TypeId} {ty : Ty} (hu : P.underlying t = some (.array 2 e)) (hc : P.cellsOf t = 2 * ty.size) (he : P.cellsOf e = ty.size) (o : Opens P e ty) : Opens P t (.arr 2 ty) := by
  intro H enc w fuel cs x h
  obtain ⟨xs, m, _, rfl, hl, hlen, hf⟩ := DataW.trod_array hu h
  match xs, hlen with
  | [y0, y1], _ =>
    have h0 := hf 0 (by omega)
    have h1 := hf 1 (by omega)
    rw [he] at h0 h1
    obtain ⟨v0, r0, w0⟩ := o H enc w m _ y0 h0
    obtain ⟨v1, r1, w1⟩ := o H enc w m _ y1 h1
    refine ⟨[v0, v1], ⟨rfl, [(cs.drop (0 * ty.size)).take ty.size, (cs.drop (1 * ty.size)).take ty.size], ?_, rfl, fun i hi hi' => ?_⟩, rfl, fun x hx => ?_⟩
    · have := take_drop_all cs ty.size ty.size (by omega)
      simpa using this
    · match i, hi with
      | 0, _ => exact r0
      | 1, _ => exact r1
    · simp only [List.mem_cons, List.not_mem_nil, or_false] at hx
      rcases hx with rfl | rfl
      · exact w0
      · exact w1

/-- a whole value opens -/
def OpensV (P : Program) (t : TypeId) (ty : Ty) : Prop := ∀ (H : Type) (enc : TypeId × Value → H) (w : World) (base : Nat) (v : Value) (d : DataW H) (ps : List MemPlace),
  Value.okWide P w .any base t v → DataW.Trod enc P w 0 (fun _ => true) true t v d ps → ∃ x : ty.D, RepV w (fun g => g < w.heap.size) ty x v ∧ wfT ty x

theorem opensV_int {P : Program} {t : TypeId} {k : IntKind} (hu : P.underlying t = some (.int k)) : OpensV P t (.int k) := by
  intro H enc w base v d ps ho ⟨fuel, h⟩
  obtain ⟨n, rfl⟩ := okWide_int hu ho
  obtain ⟨x, hr, hw⟩ := opens_int hu H enc w fuel _ _ h
  exact ⟨x, ⟨_, hr, .inr ⟨rfl, rfl⟩⟩, hw⟩
theorem opensV_bool {P : Program} {t : TypeId} (hu : P.underlying t = some .bool) : OpensV P t .bool := by
  intro H enc w base v d ps ho ⟨fuel, h⟩
  obtain ⟨n, rfl⟩ := okWide_bool hu ho
  obtain ⟨x, hr, hw⟩ := opens_bool hu H enc w fuel _ _ h
  exact ⟨x, ⟨_, hr, .inr ⟨rfl, rfl⟩⟩, hw⟩
theorem opensV_str {P : Program} {t : TypeId} (hu : P.underlying t = some .string) : OpensV P t .str := by
  intro H enc w base v d ps ho ⟨fuel, h⟩
  obtain ⟨n, rfl⟩ := okWide_string hu ho
  obtain ⟨x, hr, hw⟩ := opens_str hu H enc w fuel _ _ h
  exact ⟨x, ⟨_, hr, .inr ⟨rfl, rfl⟩⟩, hw⟩
theorem opensV_slice {P : Program} {t e : TypeId} {ty : Ty} (hu : P.underlying t = some (.slice e)) (ho : Opens P t (.slice ty)) : OpensV P t (.slice ty) := by
  intro H enc w base v d ps hk ⟨fuel, h⟩
  obtain ⟨a, len, cap, rfl⟩ := okWide_slice hu hk
  obtain ⟨x, hr, hw⟩ := ho H enc w fuel _ _ h
  exact ⟨x, ⟨_, hr, .inr ⟨rfl, rfl⟩⟩, hw⟩
theorem opensV_struct {P : Program} {t : TypeId} {fs : Array Field} {a b : Ty} (hu : P.underlying t = some (.struct fs)) (ho : Opens P t (.pair a b)) : OpensV P t (.pair a b) := by
  intro H enc w base v d ps hk ⟨fuel, h⟩
  obtain ⟨cs, rfl, _⟩ := okWide_struct hu hk
  obtain ⟨x, hr, hw⟩ := ho H enc w fuel _ _ h
  exact ⟨x, ⟨_, hr, .inl ⟨rfl, by simp [Value.cells]⟩⟩, hw⟩

theorem opensV_arr {P : Program} {t e : TypeId} {n : Nat} {ty : Ty} (hu : P.underlying t = some (.array n e)) (ho : Opens P t (.arr n ty)) : OpensV P t (.arr n ty) := by
  intro H enc w base v d ps hk ⟨fuel, h⟩
  have hk' : ∃ cs, v = .agg cs := by
    unfold Value.okWide at hk
    rw [hu] at hk
    obtain ⟨cs, e, _⟩ := hk
    exact ⟨cs, e⟩
  obtain ⟨cs, rfl⟩ := hk'
  obtain ⟨x, hr, hw⟩ := ho H enc w fuel _ _ h
  exact ⟨x, ⟨_, hr, .inl ⟨rfl, by simp [Value.cells]⟩⟩, hw⟩

/-! ### All arguments at once -/
def wfA : (ts : List Ty) → AT ts → Prop
  | [], _ => True
  | t :: ts, τ => wfT t τ.1 ∧ wfA ts τ.2
def ParsOK (P : Program) : List TypeId → List Ty → Prop
  | [], [] => True
  | t :: ts, ty :: tys => (OpensV P t ty ∧ P.readableRec t = true ∧ t < P.types.size) ∧ ParsOK P ts tys
  | _, _ => False

theorem args_open {P : Program} {H : Type} {enc : TypeId × Value → H} {w : World} {base : Nat} : ∀ {ts : List TypeId} {tys : List Ty} {vs : List Value} {ds : List (DataW H)} {ps : List MemPlace}, ParsOK P ts tys →
    DataW.TrodAll enc P w 0 (fun _ => true) true ts vs ds ps → (∀ (j : Nat) t v, ts[j]? = some t → vs[j]? = some v → Value.okWide P w .any base t v) →
    ∃ τ : AT tys, ArgsRep w (fun g => g < w.heap.size) tys τ vs ∧ wfA tys τ
  | [], [], vs, ds, ps, _, h, _ => by
    obtain ⟨rfl, rfl, rfl⟩ := trodAll_nil h
    exact ⟨(), rfl, trivial⟩
  | t :: ts, ty :: tys, vs, ds, ps, hp, h, hk => by
    obtain ⟨v, vs', d, ds', p, q, rfl, rfl, rfl, h1, h2⟩ := trodAll_cons h
    obtain ⟨x, hx, hw⟩ := hp.1.1 H enc w base v d p (hk 0 t v rfl rfl) h1
    obtain ⟨τ, hτ, hwτ⟩ := args_open hp.2 h2 (fun j t' v' ht hv => hk (j + 1) t' v' (by simpa using ht) (by simpa using hv))
    exact ⟨(x, τ), ⟨v, vs', rfl, hx, hτ⟩, hw, hwτ⟩
  | [], _ :: _, _, _, _, hp, _, _ => hp.elim
  | _ :: _, [], _, _, _, hp, _, _ => hp.elim

theorem args_shut {P : Program} (hl : laidOutB P = true) {H : Type} {enc : TypeId × Value → H} {w w' : World} (hb : Below w.heap.size w w') : ∀ {ts : List TypeId} {tys : List Ty} {vs : List Value} {ds : List (DataW H)} {ps : List MemPlace}, ParsOK P ts tys →
    DataW.TrodAll enc P w 0 (fun _ => true) true ts vs ds ps → DataW.TrodAll enc P w' 0 (fun b => decide (b < w.heap.size)) true ts vs ds ps
  | [], [], vs, ds, ps, _, h => by
    obtain ⟨rfl, rfl, rfl⟩ := trodAll_nil h
    exact rfl
  | t :: ts, ty :: tys, vs, ds, ps, hp, h => by
    obtain ⟨v, vs', d, ds', p, q, rfl, rfl, rfl, h1, h2⟩ := trodAll_cons h
    have lt : ∀ x ∈ p, x.block < w.heap.size := by obtain ⟨m, hm⟩ := h1; exact DataW.trod_lt m _ _ _ hm
    exact trodAll_cons_mk (Below.trod hl hp.1.2.1 hp.1.2.2 h1 hb lt) (args_shut hl hb hp.2 h2)
  | [], _ :: _, _, _, _, hp, _ => hp.elim
  | _ :: _, [], _, _, _, hp, _ => hp.elim

theorem Fr.below {w w' : World} (h : Fr (fun _ => False) w w') : Below w.heap.size w w' :=
  ⟨h.os, h.tape, h.output, h.size, fun k hk => h.block k hk (fun x => x)⟩

/-- A law that returns true for every input: its contract over the machine gives the statement's end. -/
theorem law_post {P : Program} {H : Type} {enc : TypeId × Value → H} {f : FuncId} {fn : Func} {s : ChangeSpec} {tys : List Ty} {F : AT tys → Option (RT [(.bool, false)])} (hl : laidOutB P = true) (hF : FSound P f tys [(.bool, false)] F) (hT : ∀ τ, wfA tys τ → F τ = some true)
    (hp : ParsOK P fn.params.toList tys) {rt : TypeId} (hr : fn.resultTypes = #[rt]) (hb : P.underlying rt = some .bool) (hv : s.vars = []) (hs : ∀ (ds : List (DataW H)), ds.length = fn.params.size → (s.fn H ds).results = [.lit (.bool true)] ∧ (s.fn H ds).args = ds ∧ (s.fn H ds).vars = [])
    {W : World} {base : Nat} {args : Array Value} {ds gs : List (DataW H)} {before : List MemPlace} (hval : ∀ (j : Nat) t v, fn.params[j]? = some t → args[j]? = some v → Value.okWide P W .any base t v)
    (hW : DataW.Whole enc P fn.params.toList s.vars false W args.toList ds gs before) :
    Calls P f args W fun e W' => ∃ v, e = .returned v ∧ s.post enc P fn false true false false W args v W' := by
  have hW' := hW
  obtain ⟨p, q, hA, hV, rfl, hfz, hnd⟩ := hW
  rw [hv] at hV
  obtain ⟨rfl, rfl⟩ := trodVars_none hV
  obtain ⟨τ, hτ, hw⟩ := args_open (base := base) hp hA (fun j t v ht hv => hval j t v (by simpa using ht) (by simpa using hv))
  have hc := hF τ true (hT τ hw) W (fun g => g < W.heap.size) args.toList (fun g hg => hg) hτ
  refine (show Calls P f args.toList.toArray W _ from hc).mono fun e W' ⟨xs, mg, he, hfr, _, hres⟩ => ?_
  obtain ⟨x, xs', rfl, hx, hxs⟩ := hres
  have hxs : xs' = [] := hxs
  subst hxs
  obtain ⟨cs, hcs, hcx⟩ := hx
  have hcs : cs = [.bool true] := hcs
  subst hcs
  have hxe : x = .bool true := by
    rcases hcx with ⟨h, _⟩ | ⟨_, h⟩
    · cases h
    · injection h with h _; exact h.symm
  subst hxe he
  have hbel := hfr.below
  have hlen : ds.length = fn.params.size := by
    have : ∀ {ts : List TypeId} {vs : List Value} {ds : List (DataW H)} {ps : List MemPlace}, DataW.TrodAll enc P W 0 (fun _ => true) true ts vs ds ps → ds.length = ts.length := by
      intro ts
      induction ts with
      | nil => intro vs ds ps h; obtain ⟨_, rfl, _⟩ := trodAll_nil h; rfl
      | cons t ts ih =>
        intro vs ds ps h
        obtain ⟨v, vs', d, ds', p, q, rfl, rfl, rfl, h1, h2⟩ := trodAll_cons h
        simp [ih h2]
    rw [this hA]; simp
  obtain ⟨e1, e2, e3⟩ := hs ds hlen
  refine ⟨_, rfl, ds, [], _, [], p, [], hW', ?_, ?_, ?_, hbel.frame _, fun h => by cases h⟩
  · rw [List.append_nil, e1, hr]
    exact trodAll_mk1 (shut_bool hb _)
  · rw [List.append_nil, e2]
    exact args_shut hl hbel hp hA
  · rw [List.append_nil, e3, hv]; exact rfl
end Go.W

set_option linter.unusedVariables false
namespace Go.W
open Go.Proofs Go.ChangeShapes Go.WideShapes Go.ChangeAt Go.RowKit

/-! ### The types of the laws' arguments -/
theorem own : ownKnob Try.prog.godebug = none := by kernel_rfl
theorem laidOut : laidOutB Try.prog = true := by kernel_rfl
theorem opens_nat : Opens Try.prog 23 (.slice (.int .u32)) := opens_slice Try.underlying23 (by kernel_rfl) (by decide) (opens_int Try.underlying153)
theorem opens_integer : Opens Try.prog 25 (.pair .bool (.slice (.int .u32))) := opens_pair Try.underlying25 (by kernel_rfl) rfl rfl (by kernel_rfl) (by kernel_rfl) (opens_bool Try.underlying4) opens_nat
theorem opens_rational : Opens Try.prog 27 (.pair (.pair .bool (.slice (.int .u32))) (.slice (.int .u32))) := opens_pair Try.underlying27 (by kernel_rfl) rfl rfl (by kernel_rfl) (by kernel_rfl) opens_integer opens_nat
abbrev tInt : Ty := .pair .bool (.slice (.int .u32))
abbrev tRat : Ty := .pair (.pair .bool (.slice (.int .u32))) (.slice (.int .u32))
abbrev tIv : Ty := .pair tRat tRat
theorem opens_interval : Opens Try.prog 65 (.pair tRat tRat) := opens_pair Try.underlying65 (by kernel_rfl) rfl rfl (by kernel_rfl) (by kernel_rfl) opens_rational opens_rational
theorem par_interval : OpensV Try.prog 65 tIv ∧ Try.prog.readableRec 65 = true ∧ 65 < Try.prog.types.size := ⟨opensV_struct Try.underlying65 opens_interval, by kernel_rfl, of_decide_eq_true (by kernel_rfl)⟩
theorem par_i64 : OpensV Try.prog 3 (.int .i64) ∧ Try.prog.readableRec 3 = true ∧ 3 < Try.prog.types.size := ⟨opensV_int Try.underlying3, by kernel_rfl, of_decide_eq_true (by kernel_rfl)⟩
theorem par_str : OpensV Try.prog 9 .str ∧ Try.prog.readableRec 9 = true ∧ 9 < Try.prog.types.size := ⟨opensV_str Try.underlying9, by kernel_rfl, of_decide_eq_true (by kernel_rfl)⟩
theorem opens_2 : Opens Try.prog 96 (.arr 2 tRat) := opens_two Try.underlying96 (by kernel_rfl) (by kernel_rfl) opens_rational
theorem par_two : OpensV Try.prog 96 (.arr 2 tRat) ∧ Try.prog.readableRec 96 = true ∧ 96 < Try.prog.types.size := ⟨opensV_arr Try.underlying96 opens_2, by kernel_rfl, of_decide_eq_true (by kernel_rfl)⟩
theorem par_rational : OpensV Try.prog 27 tRat ∧ Try.prog.readableRec 27 = true ∧ 27 < Try.prog.types.size := ⟨opensV_struct Try.underlying27 opens_rational, by kernel_rfl, of_decide_eq_true (by kernel_rfl)⟩
theorem par_integer : OpensV Try.prog 25 tInt ∧ Try.prog.readableRec 25 = true ∧ 25 < Try.prog.types.size := ⟨opensV_struct Try.underlying25 opens_integer, by kernel_rfl, of_decide_eq_true (by kernel_rfl)⟩
theorem par_i8 : OpensV Try.prog 28 (.int .i8) ∧ Try.prog.readableRec 28 = true ∧ 28 < Try.prog.types.size := ⟨opensV_int Try.underlying28, by kernel_rfl, of_decide_eq_true (by kernel_rfl)⟩

theorem DV_of {l : List Int} (h : wfT (.slice (.int .u32)) l) : DV 4294967296 l := fun x hx => by
  have h1 : (0 : Int) ≤ x ∧ x ≤ 4294967295 := h.2 x hx
  omega
theorem DI_of0 {a : tIv.D} (h : wfT tIv a) : (∀ {x : tRat.D}, wfT tRat x → DR x) → DI a := fun f => ⟨f h.1, f h.2⟩
theorem DR_of {a : tRat.D} (h : wfT tRat a) : DR a := ⟨DV_of h.1.2, DV_of h.2⟩
theorem DI_of {a : tIv.D} (h : wfT tIv a) : DI a := DI_of0 h DR_of
theorem two_of {a : List tRat.D} (h : wfT (.arr 2 tRat) a) : a.length = 2 ∧ ∀ c ∈ a, DR c := ⟨h.1, fun c hc => DR_of (h.2 c hc)⟩
end Go.W

set_option linter.unusedVariables false
namespace Go.W

/-! ### No function of a closure calls itself: by a rank -/
def leads (P : Program) (g : FuncId) : List FuncId := (P.funcs[g]?).elim [] P.leadsTo

theorem mem_closureVia {P : Program} {J : Nat → Prop} (hJ : ∀ g, J g → ∀ h ∈ leads P g, J h) : ∀ (n : Nat) (todo seen : List FuncId), (∀ x ∈ todo, J x) → (∀ x ∈ seen, J x) → ∀ x ∈ P.closureVia n todo seen, J x
  | 0, todo, seen, _, hs, x, hx => hs x (by simpa [Program.closureVia] using hx)
  | n + 1, [], seen, _, hs, x, hx => hs x (by simpa [Program.closureVia] using hx)
  | n + 1, f :: todo, seen, ht, hs, x, hx => by
    rw [Program.closureVia] at hx
    split at hx
    · exact mem_closureVia hJ n todo seen (fun y hy => ht y (List.mem_cons_of_mem _ hy)) hs x hx
    · refine mem_closureVia hJ n _ (f :: seen) (fun y hy => ?_) (fun y hy => ?_) x hx
      · rcases List.mem_append.1 hy with hy | hy
        · exact hJ f (ht f (by simp)) y hy
        · exact ht y (List.mem_cons_of_mem _ hy)
      · rcases List.mem_cons.1 hy with rfl | hy
        · exact ht _ (by simp)
        · exact hs y hy

def rankOK (P : Program) (l : List Nat) : Bool := l.all fun g => (leads P g).all fun h => Nat.blt (l.idxOf h) (l.idxOf g)

theorem recurses_false {P : Program} {f : FuncId} {l : List Nat} (hu : P.unfollowed f = false) (h : rankOK P l = true) (hf : l.contains f = true) : P.recurses f = false := by
  have hr : ∀ g, g ∈ l → ∀ h ∈ leads P g, h ∈ l ∧ l.idxOf h < l.idxOf g := fun g hg k hk => by
    have h1 := List.all_eq_true.1 h g hg
    have h2 := List.all_eq_true.1 h1 k hk
    have h3 : l.idxOf k < l.idxOf g := by simpa [Nat.blt_eq] using h2
    exact ⟨List.idxOf_lt_length_iff.1 (Nat.lt_of_lt_of_le h3 (List.idxOf_le_length)), h3⟩
  have hf : f ∈ l := by simpa using hf
  unfold Program.recurses
  rw [hu, Bool.false_or]
  rw [Bool.eq_false_iff]
  intro hx
  obtain ⟨g, hg, hx⟩ := List.any_eq_true.1 hx
  obtain ⟨k, hk, hx⟩ := List.any_eq_true.1 hx
  have hgl : g ∈ l := mem_closureVia (J := fun x => x ∈ l) (fun a ha b hb => (hr a ha b hb).1) _ [f] [] (fun x hx => by simpa using (by simpa using hx : x = f) ▸ hf) (fun x hx => by simp at hx) g hg
  obtain ⟨hkl, hlt⟩ := hr g hgl k hk
  have := mem_closureVia (J := fun x => x ∈ l ∧ l.idxOf x ≤ l.idxOf k) (fun a ha b hb => ⟨(hr a ha.1 b hb).1, Nat.le_trans (Nat.le_of_lt (hr a ha.1 b hb).2) ha.2⟩) _ [k] [] (fun x hx => by
    obtain rfl : x = k := by simpa using hx
    exact ⟨hkl, Nat.le_refl _⟩) (fun x hx => by simp at hx) g (by simpa [Program.closure] using hx)
  omega
end Go.W

