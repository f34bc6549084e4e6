/- A part of the proof: texts Lk, Row, RowN, RowR. What is proved in the end stands in the last file. -/
import Derived.Test.YtgchnnhghmlfdaaSb4
import Derived.Test.YtgchnnhghmlfdaaProg
import Derived.WalkKit
import Derived.ProofKit
import Derived.OpenShut
import Derived.ChangeOld
import Derived.Below
import Derived.ChangeArms
import Derived.Test.YtgchnnhghmlfdaaRows
import Derived.JoinedOf
import Derived.KernelRfl
set_option linter.unusedVariables false
set_option linter.unusedSimpArgs false
set_option linter.unusedSectionVars false
set_option linter.unusedVariables false
namespace Go.W
open Go.Proofs
noncomputable section

def tys : List (Nat × TI) := [(2, ⟨.int .i64, 0, 0⟩), (3, ⟨.int .i64, 0, 0⟩), (4, ⟨.bool, 0, 0⟩), (5, ⟨.int .u8, 0, 0⟩), (6, ⟨.int .u8, 0, 0⟩), (7, ⟨.pair (.int .i64) (.pair (.int .i64) (.pair (.bool) (.int .u8))), 4, 0⟩), (8, ⟨.pair (.int .i64) (.pair (.int .i64) (.pair (.bool) (.int .u8))), 4, 0⟩), (9, ⟨.str, 0, 0⟩), (10, ⟨.str, 0, 0⟩), (11, ⟨.str, 0, 0⟩), (12, ⟨.int .u64, 0, 0⟩), (13, ⟨.pair (.str) (.int .u64), 2, 0⟩), (14, ⟨.pair (.str) (.int .u64), 2, 0⟩), (21, ⟨.int .i32, 0, 0⟩), (22, ⟨.slice (.int .i16), 0, 2⟩), (24, ⟨.slice (.pair (.bool) (.slice (.int .u32))), 0, 32⟩), (25, ⟨.slice (.pair (.bool) (.slice (.int .u32))), 0, 32⟩), (27, ⟨.slice (.slice (.pair (.bool) (.slice (.int .u32)))), 0, 24⟩), (32, ⟨.int .i64, 0, 0⟩), (36, ⟨.slice (.int .u32), 0, 4⟩), (37, ⟨.slice (.int .u32), 0, 4⟩), (38, ⟨.pair (.bool) (.slice (.int .u32)), 2, 0⟩), (39, ⟨.pair (.bool) (.slice (.int .u32)), 2, 0⟩), (42, ⟨.arr 3 (.slice (.int .i16)), 0, 0⟩), (43, ⟨.int .i8, 0, 0⟩), (44, ⟨.arr 2 (.int .i8), 0, 0⟩), (45, ⟨.slice (.int .i64), 0, 8⟩), (47, ⟨.pair (.pair (.bool) (.slice (.int .u32))) (.slice (.int .u32)), 2, 0⟩), (48, ⟨.pair (.pair (.bool) (.slice (.int .u32))) (.slice (.int .u32)), 2, 0⟩), (56, ⟨.slice (.int .i64), 0, 8⟩), (57, ⟨.int .i16, 0, 0⟩), (86, ⟨.int .u64, 0, 0⟩), (98, ⟨.int .u32, 0, 0⟩), (100, ⟨.int .u64, 0, 0⟩), (122, ⟨.int .u8, 0, 0⟩), (123, ⟨.int .u8, 0, 0⟩), (126, ⟨.int .i32, 0, 0⟩), (127, ⟨.int .i32, 0, 0⟩)]
theorem tys_ok : tysChk Try.prog (lk tys) tys = true := by kernel_rfl
theorem mixed_ok : Try.prog.follows .mixedOrders = true := by kernel_rfl

abbrev E_natural_trim : Env := mkE tys [] []
def c_natural_trim : List (Nat × Live) := [(9, ⟨[(0, .slice (.int .u32)), (3, .int .i64)], [], []⟩)]
noncomputable abbrev fe_natural_trim := (finE (E_natural_trim) [(.slice (.int .u32), false)] Try.f51.results.toList)
noncomputable abbrev cn_natural_trim_9 (x0 : List Int) (x3 : Int) : St := ⟨[(3, .one (.val (.int .i64) x3)), (0, .one (.val (.slice (.int .u32)) x0))], []⟩
noncomputable abbrev kk_natural_trim_9 (S : Nat → KT (RT [(.slice (.int .u32), false)])) := fun (x0 : List Int) (x3 : Int) => S 9 (cn_natural_trim_9 x0 x3)
theorem top_natural_trim (S : Nat → KT (RT [(.slice (.int .u32), false)])) (a0 : List Int) : evA (E_natural_trim) (lk c_natural_trim) S (bodyOf Try.f51) noX (fe_natural_trim) (fe_natural_trim) (initSt [.slice (.int .u32)] (a0, ())) = T_natural_trim (kk_natural_trim_9 S) a0 := by kernel_rfl
theorem seg_natural_trim_9 (S : Nat → KT (RT [(.slice (.int .u32), false)])) (x0 : List Int) (x3 : Int) : stepT (entry (E_natural_trim) (lk c_natural_trim) S 9 (bodyOf Try.f51) noX (fe_natural_trim) (fe_natural_trim)) (cn_natural_trim_9 x0 x3) = S_natural_trim_9 (kk_natural_trim_9 S) x0 x3 := by kernel_rfl
noncomputable abbrev tb_natural_trim := tab (E_natural_trim) (lk c_natural_trim) (bodyOf Try.f51) (fe_natural_trim)
theorem ok_natural_trim : EnvOK Try.prog (E_natural_trim) := mkE_ok tys_ok trivial trivial
theorem fs_natural_trim : FSound Try.prog 51 [.slice (.int .u32)] [(.slice (.int .u32), false)] (fun τ => F_natural_trim τ.1) :=
  evG_sound (E := (E_natural_trim)) (C := (lk c_natural_trim)) ok_natural_trim mixed_ok (fn := Try.f51) (c := (bodyOf Try.f51)) (by kernel_rfl) (by kernel_rfl) (by kernel_rfl) (by kernel_rfl) (by kernel_rfl) (by kernel_rfl) (fun τ r h => by
    obtain ⟨a0, ⟨⟩⟩ := τ
    obtain ⟨m, hm⟩ := Rn_natural_trim (fun m => kk_natural_trim_9 (tb_natural_trim m)) (fun m x0 x3 => (tab_succ (E_natural_trim) (lk c_natural_trim) (bodyOf Try.f51) (fe_natural_trim) m 9 (cn_natural_trim_9 x0 x3)).trans (seg_natural_trim_9 (tb_natural_trim m) x0 x3)) a0 r h
    exact ⟨m, (top_natural_trim (tb_natural_trim m) a0).trans (hm m (Nat.le_refl m))⟩)

abbrev Eo_natural_trim : Env := mkE tys [] []
def co_natural_trim : List (Nat × Live) := [(9, ⟨[(3, .int .i64)], [(false, 0, .int .u32)], []⟩)]
noncomputable abbrev feo_natural_trim := (finO (Eo_natural_trim) 0 false (.int .u32) .pre Try.f51.results.toList)
noncomputable abbrev cno_natural_trim_9 (x3 : Int) (x0 : List Int) : St := ⟨[(0, .one (.loc (.int .u32) 10000)), (3, .one (.val (.int .i64) x3))], [(10000, some ⟨.int .u32, x0, false⟩)]⟩
noncomputable abbrev kko_natural_trim_9 (S : Nat → KT (CD false (.int .u32) × RS.D .pre)) := fun (x3 : Int) (x0 : List Int) => S 9 (cno_natural_trim_9 x3 x0)
theorem topo_natural_trim (S : Nat → KT (CD false (.int .u32) × RS.D .pre)) (l : List Int) : evA (Eo_natural_trim) (lk co_natural_trim) S (bodyOf Try.f51) noX (feo_natural_trim) (feo_natural_trim) (initO [] () false (.int .u32) l) = To_natural_trim (kko_natural_trim_9 S) l := by kernel_rfl
theorem sego_natural_trim_9 (S : Nat → KT (CD false (.int .u32) × RS.D .pre)) (x3 : Int) (x0 : List Int) : stepT (entry (Eo_natural_trim) (lk co_natural_trim) S 9 (bodyOf Try.f51) noX (feo_natural_trim) (feo_natural_trim)) (cno_natural_trim_9 x3 x0) = So_natural_trim_9 (kko_natural_trim_9 S) x3 x0 := by kernel_rfl
noncomputable abbrev tbo_natural_trim := tab (Eo_natural_trim) (lk co_natural_trim) (bodyOf Try.f51) (feo_natural_trim)
theorem oko_natural_trim : EnvOK Try.prog (Eo_natural_trim) := mkE_ok tys_ok trivial trivial
theorem os_natural_trim : OSound Try.prog 51 [] false (.int .u32) .pre (fun τ l => O_natural_trim l) :=
  evO_sound (E := (Eo_natural_trim)) (C := (lk co_natural_trim)) oko_natural_trim mixed_ok (fn := Try.f51) (k := (bodyOf Try.f51)) (by kernel_rfl) (by kernel_rfl) (by kernel_rfl) (by kernel_rfl) (by kernel_rfl) (fun τ l r h => by
    obtain ⟨⟩ := τ
    obtain ⟨m, hm⟩ := Rno_natural_trim (fun m => kko_natural_trim_9 (tbo_natural_trim m)) (fun m x3 x0 => (tab_succ (Eo_natural_trim) (lk co_natural_trim) (bodyOf Try.f51) (feo_natural_trim) m 9 (cno_natural_trim_9 x3 x0)).trans (sego_natural_trim_9 (tbo_natural_trim m) x3 x0)) l r h
    exact ⟨m, (topo_natural_trim (tbo_natural_trim m) l).trans (hm m (Nat.le_refl m))⟩)

abbrev E_natural_IsZero : Env := mkE tys [] [(51, mixO (callO [] false (.int .u32) .pre (fun τ l => O_natural_trim l)) (callI (callE [.slice (.int .u32)] [(.slice (.int .u32), false)] (fun τ => F_natural_trim τ.1))))]
def c_natural_IsZero : List (Nat × Live) := []
noncomputable abbrev fe_natural_IsZero := (finE (E_natural_IsZero) [(.bool, false)] Try.f36.results.toList)
theorem top_natural_IsZero (S : Nat → KT (RT [(.bool, false)])) (a0 : List Int) : evA (E_natural_IsZero) (lk c_natural_IsZero) S (bodyOf Try.f36) noX (fe_natural_IsZero) (fe_natural_IsZero) (initSt [.slice (.int .u32)] (a0, ())) = T_natural_IsZero a0 := by kernel_rfl
noncomputable abbrev tb_natural_IsZero := tab (E_natural_IsZero) (lk c_natural_IsZero) (bodyOf Try.f36) (fe_natural_IsZero)
theorem ok_natural_IsZero : EnvOK Try.prog (E_natural_IsZero) := mkE_ok tys_ok trivial ⟨⟨PSound.mix os_natural_trim.psound (CSound.psound fs_natural_trim.csound), ⟨Try.f51, by kernel_rfl, by kernel_rfl, by kernel_rfl⟩⟩, trivial⟩
theorem fs_natural_IsZero : FSound Try.prog 36 [.slice (.int .u32)] [(.bool, false)] (fun τ => F_natural_IsZero τ.1) :=
  evG_sound (E := (E_natural_IsZero)) (C := (lk c_natural_IsZero)) ok_natural_IsZero mixed_ok (fn := Try.f36) (c := (bodyOf Try.f36)) (by kernel_rfl) (by kernel_rfl) (by kernel_rfl) (by kernel_rfl) (by kernel_rfl) (by kernel_rfl) (fun τ r h => by
    obtain ⟨a0, ⟨⟩⟩ := τ
    obtain ⟨m, hm⟩ := Rn_natural_IsZero a0 r h
    exact ⟨m, (top_natural_IsZero (tb_natural_IsZero m) a0).trans (hm m (Nat.le_refl m))⟩)

abbrev E_unipoly_trim : Env := mkE tys [(36, callE [.slice (.int .u32)] [(.bool, false)] (fun τ => F_natural_IsZero τ.1))] []
def c_unipoly_trim : List (Nat × Live) := [(9, ⟨[(0, .slice (.pair (.bool) (.slice (.int .u32)))), (3, .int .i64)], [], []⟩)]
noncomputable abbrev fe_unipoly_trim := (finE (E_unipoly_trim) [(.slice (.pair (.bool) (.slice (.int .u32))), false)] Try.f25.results.toList)
noncomputable abbrev cn_unipoly_trim_9 (x0 : List (Bool × List Int)) (x3 : Int) : St := ⟨[(3, .one (.val (.int .i64) x3)), (0, .one (.val (.slice (.pair (.bool) (.slice (.int .u32)))) x0))], []⟩
noncomputable abbrev kk_unipoly_trim_9 (S : Nat → KT (RT [(.slice (.pair (.bool) (.slice (.int .u32))), false)])) := fun (x0 : List (Bool × List Int)) (x3 : Int) => S 9 (cn_unipoly_trim_9 x0 x3)
theorem top_unipoly_trim (S : Nat → KT (RT [(.slice (.pair (.bool) (.slice (.int .u32))), false)])) (a0 : List (Bool × List Int)) : evA (E_unipoly_trim) (lk c_unipoly_trim) S (bodyOf Try.f25) noX (fe_unipoly_trim) (fe_unipoly_trim) (initSt [.slice (.pair (.bool) (.slice (.int .u32)))] (a0, ())) = T_unipoly_trim (kk_unipoly_trim_9 S) a0 := by kernel_rfl
theorem seg_unipoly_trim_9 (S : Nat → KT (RT [(.slice (.pair (.bool) (.slice (.int .u32))), false)])) (x0 : List (Bool × List Int)) (x3 : Int) : stepT (entry (E_unipoly_trim) (lk c_unipoly_trim) S 9 (bodyOf Try.f25) noX (fe_unipoly_trim) (fe_unipoly_trim)) (cn_unipoly_trim_9 x0 x3) = S_unipoly_trim_9 (kk_unipoly_trim_9 S) x0 x3 := by kernel_rfl
noncomputable abbrev tb_unipoly_trim := tab (E_unipoly_trim) (lk c_unipoly_trim) (bodyOf Try.f25) (fe_unipoly_trim)
theorem ok_unipoly_trim : EnvOK Try.prog (E_unipoly_trim) := mkE_ok tys_ok ⟨⟨fs_natural_IsZero.csound, ⟨Try.f36, by kernel_rfl, by kernel_rfl, by kernel_rfl⟩⟩, trivial⟩ trivial
theorem fs_unipoly_trim : FSound Try.prog 25 [.slice (.pair (.bool) (.slice (.int .u32)))] [(.slice (.pair (.bool) (.slice (.int .u32))), false)] (fun τ => F_unipoly_trim τ.1) :=
  evG_sound (E := (E_unipoly_trim)) (C := (lk c_unipoly_trim)) ok_unipoly_trim mixed_ok (fn := Try.f25) (c := (bodyOf Try.f25)) (by kernel_rfl) (by kernel_rfl) (by kernel_rfl) (by kernel_rfl) (by kernel_rfl) (by kernel_rfl) (fun τ r h => by
    obtain ⟨a0, ⟨⟩⟩ := τ
    obtain ⟨m, hm⟩ := Rn_unipoly_trim (fun m => kk_unipoly_trim_9 (tb_unipoly_trim m)) (fun m x0 x3 => (tab_succ (E_unipoly_trim) (lk c_unipoly_trim) (bodyOf Try.f25) (fe_unipoly_trim) m 9 (cn_unipoly_trim_9 x0 x3)).trans (seg_unipoly_trim_9 (tb_unipoly_trim m) x0 x3)) a0 r h
    exact ⟨m, (top_unipoly_trim (tb_unipoly_trim m) a0).trans (hm m (Nat.le_refl m))⟩)

abbrev Eo_unipoly_trim : Env := mkE tys [(36, callE [.slice (.int .u32)] [(.bool, false)] (fun τ => F_natural_IsZero τ.1))] []
def co_unipoly_trim : List (Nat × Live) := [(9, ⟨[(3, .int .i64)], [(false, 0, .pair (.bool) (.slice (.int .u32)))], []⟩)]
noncomputable abbrev feo_unipoly_trim := (finO (Eo_unipoly_trim) 0 false (.pair (.bool) (.slice (.int .u32))) .pre Try.f25.results.toList)
noncomputable abbrev cno_unipoly_trim_9 (x3 : Int) (x0 : List (Bool × List Int)) : St := ⟨[(0, .one (.loc (.pair (.bool) (.slice (.int .u32))) 10000)), (3, .one (.val (.int .i64) x3))], [(10000, some ⟨.pair (.bool) (.slice (.int .u32)), x0, false⟩)]⟩
noncomputable abbrev kko_unipoly_trim_9 (S : Nat → KT (CD false (.pair (.bool) (.slice (.int .u32))) × RS.D .pre)) := fun (x3 : Int) (x0 : List (Bool × List Int)) => S 9 (cno_unipoly_trim_9 x3 x0)
theorem topo_unipoly_trim (S : Nat → KT (CD false (.pair (.bool) (.slice (.int .u32))) × RS.D .pre)) (l : List (Bool × List Int)) : evA (Eo_unipoly_trim) (lk co_unipoly_trim) S (bodyOf Try.f25) noX (feo_unipoly_trim) (feo_unipoly_trim) (initO [] () false (.pair (.bool) (.slice (.int .u32))) l) = To_unipoly_trim (kko_unipoly_trim_9 S) l := by kernel_rfl
theorem sego_unipoly_trim_9 (S : Nat → KT (CD false (.pair (.bool) (.slice (.int .u32))) × RS.D .pre)) (x3 : Int) (x0 : List (Bool × List Int)) : stepT (entry (Eo_unipoly_trim) (lk co_unipoly_trim) S 9 (bodyOf Try.f25) noX (feo_unipoly_trim) (feo_unipoly_trim)) (cno_unipoly_trim_9 x3 x0) = So_unipoly_trim_9 (kko_unipoly_trim_9 S) x3 x0 := by kernel_rfl
noncomputable abbrev tbo_unipoly_trim := tab (Eo_unipoly_trim) (lk co_unipoly_trim) (bodyOf Try.f25) (feo_unipoly_trim)
theorem oko_unipoly_trim : EnvOK Try.prog (Eo_unipoly_trim) := mkE_ok tys_ok ⟨⟨fs_natural_IsZero.csound, ⟨Try.f36, by kernel_rfl, by kernel_rfl, by kernel_rfl⟩⟩, trivial⟩ trivial
theorem os_unipoly_trim : OSound Try.prog 25 [] false (.pair (.bool) (.slice (.int .u32))) .pre (fun τ l => O_unipoly_trim l) :=
  evO_sound (E := (Eo_unipoly_trim)) (C := (lk co_unipoly_trim)) oko_unipoly_trim mixed_ok (fn := Try.f25) (k := (bodyOf Try.f25)) (by kernel_rfl) (by kernel_rfl) (by kernel_rfl) (by kernel_rfl) (by kernel_rfl) (fun τ l r h => by
    obtain ⟨⟩ := τ
    obtain ⟨m, hm⟩ := Rno_unipoly_trim (fun m => kko_unipoly_trim_9 (tbo_unipoly_trim m)) (fun m x3 x0 => (tab_succ (Eo_unipoly_trim) (lk co_unipoly_trim) (bodyOf Try.f25) (feo_unipoly_trim) m 9 (cno_unipoly_trim_9 x3 x0)).trans (sego_unipoly_trim_9 (tbo_unipoly_trim m) x3 x0)) l r h
    exact ⟨m, (topo_unipoly_trim (tbo_unipoly_trim m) l).trans (hm m (Nat.le_refl m))⟩)

abbrev E_unipoly_Degree : Env := mkE tys [] [(25, mixO (callO [] false (.pair (.bool) (.slice (.int .u32))) .pre (fun τ l => O_unipoly_trim l)) (callI (callE [.slice (.pair (.bool) (.slice (.int .u32)))] [(.slice (.pair (.bool) (.slice (.int .u32))), false)] (fun τ => F_unipoly_trim τ.1))))]
def c_unipoly_Degree : List (Nat × Live) := []
noncomputable abbrev fe_unipoly_Degree := (finE (E_unipoly_Degree) [(.int .i64, false)] Try.f8.results.toList)
theorem top_unipoly_Degree (S : Nat → KT (RT [(.int .i64, false)])) (a0 : List (Bool × List Int)) : evA (E_unipoly_Degree) (lk c_unipoly_Degree) S (bodyOf Try.f8) noX (fe_unipoly_Degree) (fe_unipoly_Degree) (initSt [.slice (.pair (.bool) (.slice (.int .u32)))] (a0, ())) = T_unipoly_Degree a0 := by kernel_rfl
noncomputable abbrev tb_unipoly_Degree := tab (E_unipoly_Degree) (lk c_unipoly_Degree) (bodyOf Try.f8) (fe_unipoly_Degree)
theorem ok_unipoly_Degree : EnvOK Try.prog (E_unipoly_Degree) := mkE_ok tys_ok trivial ⟨⟨PSound.mix os_unipoly_trim.psound (CSound.psound fs_unipoly_trim.csound), ⟨Try.f25, by kernel_rfl, by kernel_rfl, by kernel_rfl⟩⟩, trivial⟩
theorem fs_unipoly_Degree : FSound Try.prog 8 [.slice (.pair (.bool) (.slice (.int .u32)))] [(.int .i64, false)] (fun τ => F_unipoly_Degree τ.1) :=
  evG_sound (E := (E_unipoly_Degree)) (C := (lk c_unipoly_Degree)) ok_unipoly_Degree mixed_ok (fn := Try.f8) (c := (bodyOf Try.f8)) (by kernel_rfl) (by kernel_rfl) (by kernel_rfl) (by kernel_rfl) (by kernel_rfl) (by kernel_rfl) (fun τ r h => by
    obtain ⟨a0, ⟨⟩⟩ := τ
    obtain ⟨m, hm⟩ := Rn_unipoly_Degree a0 r h
    exact ⟨m, (top_unipoly_Degree (tb_unipoly_Degree m) a0).trans (hm m (Nat.le_refl m))⟩)

abbrev E_integer_Sign : Env := mkE tys [(36, callE [.slice (.int .u32)] [(.bool, false)] (fun τ => F_natural_IsZero τ.1))] []
def c_integer_Sign : List (Nat × Live) := []
noncomputable abbrev fe_integer_Sign := (finE (E_integer_Sign) [(.int .i64, false)] Try.f12.results.toList)
theorem top_integer_Sign (S : Nat → KT (RT [(.int .i64, false)])) (a0 : Bool × List Int) : evA (E_integer_Sign) (lk c_integer_Sign) S (bodyOf Try.f12) noX (fe_integer_Sign) (fe_integer_Sign) (initSt [.pair (.bool) (.slice (.int .u32))] (a0, ())) = T_integer_Sign a0 := by kernel_rfl
noncomputable abbrev tb_integer_Sign := tab (E_integer_Sign) (lk c_integer_Sign) (bodyOf Try.f12) (fe_integer_Sign)
theorem ok_integer_Sign : EnvOK Try.prog (E_integer_Sign) := mkE_ok tys_ok ⟨⟨fs_natural_IsZero.csound, ⟨Try.f36, by kernel_rfl, by kernel_rfl, by kernel_rfl⟩⟩, trivial⟩ trivial
theorem fs_integer_Sign : FSound Try.prog 12 [.pair (.bool) (.slice (.int .u32))] [(.int .i64, false)] (fun τ => F_integer_Sign τ.1) :=
  evG_sound (E := (E_integer_Sign)) (C := (lk c_integer_Sign)) ok_integer_Sign mixed_ok (fn := Try.f12) (c := (bodyOf Try.f12)) (by kernel_rfl) (by kernel_rfl) (by kernel_rfl) (by kernel_rfl) (by kernel_rfl) (by kernel_rfl) (fun τ r h => by
    obtain ⟨a0, ⟨⟩⟩ := τ
    obtain ⟨m, hm⟩ := Rn_integer_Sign a0 r h
    exact ⟨m, (top_integer_Sign (tb_integer_Sign m) a0).trans (hm m (Nat.le_refl m))⟩)

abbrev E_integer_made : Env := mkE tys [] []
def c_integer_made : List (Nat × Live) := []
noncomputable abbrev fe_integer_made := (finE (E_integer_made) [(.pair (.bool) (.slice (.int .u32)), false)] Try.f56.results.toList)
theorem top_integer_made (S : Nat → KT (RT [(.pair (.bool) (.slice (.int .u32)), false)])) (a0 : Bool) (a1 : List Int) : evA (E_integer_made) (lk c_integer_made) S (bodyOf Try.f56) noX (fe_integer_made) (fe_integer_made) (initSt [.bool, .slice (.int .u32)] (a0, a1, ())) = T_integer_made a0 a1 := by kernel_rfl
noncomputable abbrev tb_integer_made := tab (E_integer_made) (lk c_integer_made) (bodyOf Try.f56) (fe_integer_made)
theorem ok_integer_made : EnvOK Try.prog (E_integer_made) := mkE_ok tys_ok trivial trivial
theorem fs_integer_made : FSound Try.prog 56 [.bool, .slice (.int .u32)] [(.pair (.bool) (.slice (.int .u32)), false)] (fun τ => F_integer_made τ.1 τ.2.1) :=
  evG_sound (E := (E_integer_made)) (C := (lk c_integer_made)) ok_integer_made mixed_ok (fn := Try.f56) (c := (bodyOf Try.f56)) (by kernel_rfl) (by kernel_rfl) (by kernel_rfl) (by kernel_rfl) (by kernel_rfl) (by kernel_rfl) (fun τ r h => by
    obtain ⟨a0, a1, ⟨⟩⟩ := τ
    obtain ⟨m, hm⟩ := Rn_integer_made a0 a1 r h
    exact ⟨m, (top_integer_made (tb_integer_made m) a0 a1).trans (hm m (Nat.le_refl m))⟩)

abbrev E_natural_Normal : Env := mkE tys [] [(51, mixO (callO [] false (.int .u32) .pre (fun τ l => O_natural_trim l)) (callI (callE [.slice (.int .u32)] [(.slice (.int .u32), false)] (fun τ => F_natural_trim τ.1))))]
def c_natural_Normal : List (Nat × Live) := []
noncomputable abbrev fe_natural_Normal := (finE (E_natural_Normal) [(.slice (.int .u32), true)] Try.f62.results.toList)
theorem top_natural_Normal (S : Nat → KT (RT [(.slice (.int .u32), true)])) (a0 : List Int) : evA (E_natural_Normal) (lk c_natural_Normal) S (bodyOf Try.f62) noX (fe_natural_Normal) (fe_natural_Normal) (initSt [.slice (.int .u32)] (a0, ())) = T_natural_Normal a0 := by kernel_rfl
noncomputable abbrev tb_natural_Normal := tab (E_natural_Normal) (lk c_natural_Normal) (bodyOf Try.f62) (fe_natural_Normal)
theorem ok_natural_Normal : EnvOK Try.prog (E_natural_Normal) := mkE_ok tys_ok trivial ⟨⟨PSound.mix os_natural_trim.psound (CSound.psound fs_natural_trim.csound), ⟨Try.f51, by kernel_rfl, by kernel_rfl, by kernel_rfl⟩⟩, trivial⟩
theorem fs_natural_Normal : FSound Try.prog 62 [.slice (.int .u32)] [(.slice (.int .u32), true)] (fun τ => F_natural_Normal τ.1) :=
  evG_sound (E := (E_natural_Normal)) (C := (lk c_natural_Normal)) ok_natural_Normal mixed_ok (fn := Try.f62) (c := (bodyOf Try.f62)) (by kernel_rfl) (by kernel_rfl) (by kernel_rfl) (by kernel_rfl) (by kernel_rfl) (by kernel_rfl) (fun τ r h => by
    obtain ⟨a0, ⟨⟩⟩ := τ
    obtain ⟨m, hm⟩ := Rn_natural_Normal a0 r h
    exact ⟨m, (top_natural_Normal (tb_natural_Normal m) a0).trans (hm m (Nat.le_refl m))⟩)

abbrev E_integer_From : Env := mkE tys [(56, callE [.bool, .slice (.int .u32)] [(.pair (.bool) (.slice (.int .u32)), false)] (fun τ => F_integer_made τ.1 τ.2.1)), (62, callE [.slice (.int .u32)] [(.slice (.int .u32), true)] (fun τ => F_natural_Normal τ.1))] []
def c_integer_From : List (Nat × Live) := []
noncomputable abbrev fe_integer_From := (finE (E_integer_From) [(.pair (.bool) (.slice (.int .u32)), false)] Try.f52.results.toList)
theorem top_integer_From (S : Nat → KT (RT [(.pair (.bool) (.slice (.int .u32)), false)])) (a0 : Bool) (a1 : List Int) : evA (E_integer_From) (lk c_integer_From) S (bodyOf Try.f52) noX (fe_integer_From) (fe_integer_From) (initSt [.bool, .slice (.int .u32)] (a0, a1, ())) = T_integer_From a0 a1 := by kernel_rfl
noncomputable abbrev tb_integer_From := tab (E_integer_From) (lk c_integer_From) (bodyOf Try.f52) (fe_integer_From)
theorem ok_integer_From : EnvOK Try.prog (E_integer_From) := mkE_ok tys_ok ⟨⟨fs_integer_made.csound, ⟨Try.f56, by kernel_rfl, by kernel_rfl, by kernel_rfl⟩⟩, ⟨fs_natural_Normal.csound, ⟨Try.f62, by kernel_rfl, by kernel_rfl, by kernel_rfl⟩⟩, trivial⟩ trivial
theorem fs_integer_From : FSound Try.prog 52 [.bool, .slice (.int .u32)] [(.pair (.bool) (.slice (.int .u32)), false)] (fun τ => F_integer_From τ.1 τ.2.1) :=
  evG_sound (E := (E_integer_From)) (C := (lk c_integer_From)) ok_integer_From mixed_ok (fn := Try.f52) (c := (bodyOf Try.f52)) (by kernel_rfl) (by kernel_rfl) (by kernel_rfl) (by kernel_rfl) (by kernel_rfl) (by kernel_rfl) (fun τ r h => by
    obtain ⟨a0, a1, ⟨⟩⟩ := τ
    obtain ⟨m, hm⟩ := Rn_integer_From a0 a1 r h
    exact ⟨m, (top_integer_From (tb_integer_From m) a0 a1).trans (hm m (Nat.le_refl m))⟩)

abbrev E_integer_Normal : Env := mkE tys [(52, callE [.bool, .slice (.int .u32)] [(.pair (.bool) (.slice (.int .u32)), false)] (fun τ => F_integer_From τ.1 τ.2.1))] []
def c_integer_Normal : List (Nat × Live) := []
noncomputable abbrev fe_integer_Normal := (finE (E_integer_Normal) [(.pair (.bool) (.slice (.int .u32)), false)] Try.f37.results.toList)
theorem top_integer_Normal (S : Nat → KT (RT [(.pair (.bool) (.slice (.int .u32)), false)])) (a0 : Bool × List Int) : evA (E_integer_Normal) (lk c_integer_Normal) S (bodyOf Try.f37) noX (fe_integer_Normal) (fe_integer_Normal) (initSt [.pair (.bool) (.slice (.int .u32))] (a0, ())) = T_integer_Normal a0 := by kernel_rfl
noncomputable abbrev tb_integer_Normal := tab (E_integer_Normal) (lk c_integer_Normal) (bodyOf Try.f37) (fe_integer_Normal)
theorem ok_integer_Normal : EnvOK Try.prog (E_integer_Normal) := mkE_ok tys_ok ⟨⟨fs_integer_From.csound, ⟨Try.f52, by kernel_rfl, by kernel_rfl, by kernel_rfl⟩⟩, trivial⟩ trivial
theorem fs_integer_Normal : FSound Try.prog 37 [.pair (.bool) (.slice (.int .u32))] [(.pair (.bool) (.slice (.int .u32)), false)] (fun τ => F_integer_Normal τ.1) :=
  evG_sound (E := (E_integer_Normal)) (C := (lk c_integer_Normal)) ok_integer_Normal mixed_ok (fn := Try.f37) (c := (bodyOf Try.f37)) (by kernel_rfl) (by kernel_rfl) (by kernel_rfl) (by kernel_rfl) (by kernel_rfl) (by kernel_rfl) (fun τ r h => by
    obtain ⟨a0, ⟨⟩⟩ := τ
    obtain ⟨m, hm⟩ := Rn_integer_Normal a0 r h
    exact ⟨m, (top_integer_Normal (tb_integer_Normal m) a0).trans (hm m (Nat.le_refl m))⟩)

abbrev E_unipoly_Lead : Env := mkE tys [(37, callE [.pair (.bool) (.slice (.int .u32))] [(.pair (.bool) (.slice (.int .u32)), false)] (fun τ => F_integer_Normal τ.1))] [(25, mixO (callO [] false (.pair (.bool) (.slice (.int .u32))) .pre (fun τ l => O_unipoly_trim l)) (callI (callE [.slice (.pair (.bool) (.slice (.int .u32)))] [(.slice (.pair (.bool) (.slice (.int .u32))), false)] (fun τ => F_unipoly_trim τ.1))))]
def c_unipoly_Lead : List (Nat × Live) := []
noncomputable abbrev fe_unipoly_Lead := (finE (E_unipoly_Lead) [(.pair (.bool) (.slice (.int .u32)), false)] Try.f13.results.toList)
theorem top_unipoly_Lead (S : Nat → KT (RT [(.pair (.bool) (.slice (.int .u32)), false)])) (a0 : List (Bool × List Int)) : evA (E_unipoly_Lead) (lk c_unipoly_Lead) S (bodyOf Try.f13) noX (fe_unipoly_Lead) (fe_unipoly_Lead) (initSt [.slice (.pair (.bool) (.slice (.int .u32)))] (a0, ())) = T_unipoly_Lead a0 := by kernel_rfl
noncomputable abbrev tb_unipoly_Lead := tab (E_unipoly_Lead) (lk c_unipoly_Lead) (bodyOf Try.f13) (fe_unipoly_Lead)
theorem ok_unipoly_Lead : EnvOK Try.prog (E_unipoly_Lead) := mkE_ok tys_ok ⟨⟨fs_integer_Normal.csound, ⟨Try.f37, by kernel_rfl, by kernel_rfl, by kernel_rfl⟩⟩, trivial⟩ ⟨⟨PSound.mix os_unipoly_trim.psound (CSound.psound fs_unipoly_trim.csound), ⟨Try.f25, by kernel_rfl, by kernel_rfl, by kernel_rfl⟩⟩, trivial⟩
theorem fs_unipoly_Lead : FSound Try.prog 13 [.slice (.pair (.bool) (.slice (.int .u32)))] [(.pair (.bool) (.slice (.int .u32)), false)] (fun τ => F_unipoly_Lead τ.1) :=
  evG_sound (E := (E_unipoly_Lead)) (C := (lk c_unipoly_Lead)) ok_unipoly_Lead mixed_ok (fn := Try.f13) (c := (bodyOf Try.f13)) (by kernel_rfl) (by kernel_rfl) (by kernel_rfl) (by kernel_rfl) (by kernel_rfl) (by kernel_rfl) (fun τ r h => by
    obtain ⟨a0, ⟨⟩⟩ := τ
    obtain ⟨m, hm⟩ := Rn_unipoly_Lead a0 r h
    exact ⟨m, (top_unipoly_Lead (tb_unipoly_Lead m) a0).trans (hm m (Nat.le_refl m))⟩)

abbrev E_unipoly_SignEnd : Env := mkE tys [(8, callE [.slice (.pair (.bool) (.slice (.int .u32)))] [(.int .i64, false)] (fun τ => F_unipoly_Degree τ.1)), (12, callE [.pair (.bool) (.slice (.int .u32))] [(.int .i64, false)] (fun τ => F_integer_Sign τ.1)), (13, callE [.slice (.pair (.bool) (.slice (.int .u32)))] [(.pair (.bool) (.slice (.int .u32)), false)] (fun τ => F_unipoly_Lead τ.1))] []
def c_unipoly_SignEnd : List (Nat × Live) := []
noncomputable abbrev fe_unipoly_SignEnd := (finE (E_unipoly_SignEnd) [(.int .i64, false)] Try.f17.results.toList)
theorem top_unipoly_SignEnd (S : Nat → KT (RT [(.int .i64, false)])) (a0 : List (Bool × List Int)) (a1 : Bool) : evA (E_unipoly_SignEnd) (lk c_unipoly_SignEnd) S (bodyOf Try.f17) noX (fe_unipoly_SignEnd) (fe_unipoly_SignEnd) (initSt [.slice (.pair (.bool) (.slice (.int .u32))), .bool] (a0, a1, ())) = T_unipoly_SignEnd a0 a1 := by kernel_rfl
noncomputable abbrev tb_unipoly_SignEnd := tab (E_unipoly_SignEnd) (lk c_unipoly_SignEnd) (bodyOf Try.f17) (fe_unipoly_SignEnd)
theorem ok_unipoly_SignEnd : EnvOK Try.prog (E_unipoly_SignEnd) := mkE_ok tys_ok ⟨⟨fs_unipoly_Degree.csound, ⟨Try.f8, by kernel_rfl, by kernel_rfl, by kernel_rfl⟩⟩, ⟨fs_integer_Sign.csound, ⟨Try.f12, by kernel_rfl, by kernel_rfl, by kernel_rfl⟩⟩, ⟨fs_unipoly_Lead.csound, ⟨Try.f13, by kernel_rfl, by kernel_rfl, by kernel_rfl⟩⟩, trivial⟩ trivial
theorem fs_unipoly_SignEnd : FSound Try.prog 17 [.slice (.pair (.bool) (.slice (.int .u32))), .bool] [(.int .i64, false)] (fun τ => F_unipoly_SignEnd τ.1 τ.2.1) :=
  evG_sound (E := (E_unipoly_SignEnd)) (C := (lk c_unipoly_SignEnd)) ok_unipoly_SignEnd mixed_ok (fn := Try.f17) (c := (bodyOf Try.f17)) (by kernel_rfl) (by kernel_rfl) (by kernel_rfl) (by kernel_rfl) (by kernel_rfl) (by kernel_rfl) (fun τ r h => by
    obtain ⟨a0, a1, ⟨⟩⟩ := τ
    obtain ⟨m, hm⟩ := Rn_unipoly_SignEnd a0 a1 r h
    exact ⟨m, (top_unipoly_SignEnd (tb_unipoly_SignEnd m) a0 a1).trans (hm m (Nat.le_refl m))⟩)

abbrev E_sturm_changes : Env := mkE tys [] []
def c_sturm_changes : List (Nat × Live) := [(13, ⟨[(3, .int .i64), (4, .int .i64), (7, .slice (.int .i64)), (8, .int .i64), (9, .int .i64)], [], []⟩)]
noncomputable abbrev fe_sturm_changes := (finE (E_sturm_changes) [(.int .i64, false)] Try.f42.results.toList)
noncomputable abbrev cn_sturm_changes_13 (x3 : Int) (x4 : Int) (x7 : List Int) (x8 : Int) (x9 : Int) : St := ⟨[(9, .one (.val (.int .i64) x9)), (8, .one (.val (.int .i64) x8)), (7, .one (.val (.slice (.int .i64)) x7)), (4, .one (.val (.int .i64) x4)), (3, .one (.val (.int .i64) x3))], []⟩
noncomputable abbrev kk_sturm_changes_13 (S : Nat → KT (RT [(.int .i64, false)])) := fun (x3 : Int) (x4 : Int) (x7 : List Int) (x8 : Int) (x9 : Int) => S 13 (cn_sturm_changes_13 x3 x4 x7 x8 x9)
theorem top_sturm_changes (S : Nat → KT (RT [(.int .i64, false)])) (a0 : List Int) : evA (E_sturm_changes) (lk c_sturm_changes) S (bodyOf Try.f42) noX (fe_sturm_changes) (fe_sturm_changes) (initSt [.slice (.int .i64)] (a0, ())) = T_sturm_changes (kk_sturm_changes_13 S) a0 := by kernel_rfl
theorem seg_sturm_changes_13 (S : Nat → KT (RT [(.int .i64, false)])) (x3 : Int) (x4 : Int) (x7 : List Int) (x8 : Int) (x9 : Int) : stepT (entry (E_sturm_changes) (lk c_sturm_changes) S 13 (bodyOf Try.f42) noX (fe_sturm_changes) (fe_sturm_changes)) (cn_sturm_changes_13 x3 x4 x7 x8 x9) = S_sturm_changes_13 (kk_sturm_changes_13 S) x3 x4 x7 x8 x9 := by kernel_rfl
noncomputable abbrev tb_sturm_changes := tab (E_sturm_changes) (lk c_sturm_changes) (bodyOf Try.f42) (fe_sturm_changes)
theorem ok_sturm_changes : EnvOK Try.prog (E_sturm_changes) := mkE_ok tys_ok trivial trivial
theorem fs_sturm_changes : FSound Try.prog 42 [.slice (.int .i64)] [(.int .i64, false)] (fun τ => F_sturm_changes τ.1) :=
  evG_sound (E := (E_sturm_changes)) (C := (lk c_sturm_changes)) ok_sturm_changes mixed_ok (fn := Try.f42) (c := (bodyOf Try.f42)) (by kernel_rfl) (by kernel_rfl) (by kernel_rfl) (by kernel_rfl) (by kernel_rfl) (by kernel_rfl) (fun τ r h => by
    obtain ⟨a0, ⟨⟩⟩ := τ
    obtain ⟨m, hm⟩ := Rn_sturm_changes (fun m => kk_sturm_changes_13 (tb_sturm_changes m)) (fun m x3 x4 x7 x8 x9 => (tab_succ (E_sturm_changes) (lk c_sturm_changes) (bodyOf Try.f42) (fe_sturm_changes) m 13 (cn_sturm_changes_13 x3 x4 x7 x8 x9)).trans (seg_sturm_changes_13 (tb_sturm_changes m) x3 x4 x7 x8 x9)) a0 r h
    exact ⟨m, (top_sturm_changes (tb_sturm_changes m) a0).trans (hm m (Nat.le_refl m))⟩)

abbrev E_sturm_VariationsEnd : Env := mkE tys [(17, callE [.slice (.pair (.bool) (.slice (.int .u32))), .bool] [(.int .i64, false)] (fun τ => F_unipoly_SignEnd τ.1 τ.2.1)), (42, callE [.slice (.int .i64)] [(.int .i64, false)] (fun τ => F_sturm_changes τ.1))] []
def c_sturm_VariationsEnd : List (Nat × Live) := [(13, ⟨[(1, .bool), (11, .slice (.slice (.pair (.bool) (.slice (.int .u32))))), (12, .int .i64), (13, .int .i64)], [(false, 5, .int .i64)], []⟩)]
noncomputable abbrev fe_sturm_VariationsEnd := (finE (E_sturm_VariationsEnd) [(.int .i64, false)] Try.f20.results.toList)
noncomputable abbrev cn_sturm_VariationsEnd_13 (x1 : Bool) (x11 : List (List (Bool × List Int))) (x12 : Int) (x13 : Int) (x5 : List Int) : St := ⟨[(5, .one (.loc (.int .i64) 10000)), (13, .one (.val (.int .i64) x13)), (12, .one (.val (.int .i64) x12)), (11, .one (.val (.slice (.slice (.pair (.bool) (.slice (.int .u32))))) x11)), (1, .one (.val (.bool) x1))], [(10000, some ⟨.int .i64, x5, false⟩)]⟩
noncomputable abbrev kk_sturm_VariationsEnd_13 (S : Nat → KT (RT [(.int .i64, false)])) := fun (x1 : Bool) (x11 : List (List (Bool × List Int))) (x12 : Int) (x13 : Int) (x5 : List Int) => S 13 (cn_sturm_VariationsEnd_13 x1 x11 x12 x13 x5)
theorem top_sturm_VariationsEnd (S : Nat → KT (RT [(.int .i64, false)])) (a0 : List (List (Bool × List Int))) (a1 : Bool) : evA (E_sturm_VariationsEnd) (lk c_sturm_VariationsEnd) S (bodyOf Try.f20) noX (fe_sturm_VariationsEnd) (fe_sturm_VariationsEnd) (initSt [.slice (.slice (.pair (.bool) (.slice (.int .u32)))), .bool] (a0, a1, ())) = T_sturm_VariationsEnd (kk_sturm_VariationsEnd_13 S) a0 a1 := by kernel_rfl
theorem seg_sturm_VariationsEnd_13 (S : Nat → KT (RT [(.int .i64, false)])) (x1 : Bool) (x11 : List (List (Bool × List Int))) (x12 : Int) (x13 : Int) (x5 : List Int) : stepT (entry (E_sturm_VariationsEnd) (lk c_sturm_VariationsEnd) S 13 (bodyOf Try.f20) noX (fe_sturm_VariationsEnd) (fe_sturm_VariationsEnd)) (cn_sturm_VariationsEnd_13 x1 x11 x12 x13 x5) = S_sturm_VariationsEnd_13 (kk_sturm_VariationsEnd_13 S) x1 x11 x12 x13 x5 := by kernel_rfl
noncomputable abbrev tb_sturm_VariationsEnd := tab (E_sturm_VariationsEnd) (lk c_sturm_VariationsEnd) (bodyOf Try.f20) (fe_sturm_VariationsEnd)
theorem ok_sturm_VariationsEnd : EnvOK Try.prog (E_sturm_VariationsEnd) := mkE_ok tys_ok ⟨⟨fs_unipoly_SignEnd.csound, ⟨Try.f17, by kernel_rfl, by kernel_rfl, by kernel_rfl⟩⟩, ⟨fs_sturm_changes.csound, ⟨Try.f42, by kernel_rfl, by kernel_rfl, by kernel_rfl⟩⟩, trivial⟩ trivial
theorem fs_sturm_VariationsEnd : FSound Try.prog 20 [.slice (.slice (.pair (.bool) (.slice (.int .u32)))), .bool] [(.int .i64, false)] (fun τ => F_sturm_VariationsEnd τ.1 τ.2.1) :=
  evG_sound (E := (E_sturm_VariationsEnd)) (C := (lk c_sturm_VariationsEnd)) ok_sturm_VariationsEnd mixed_ok (fn := Try.f20) (c := (bodyOf Try.f20)) (by kernel_rfl) (by kernel_rfl) (by kernel_rfl) (by kernel_rfl) (by kernel_rfl) (by kernel_rfl) (fun τ r h => by
    obtain ⟨a0, a1, ⟨⟩⟩ := τ
    obtain ⟨m, hm⟩ := Rn_sturm_VariationsEnd (fun m => kk_sturm_VariationsEnd_13 (tb_sturm_VariationsEnd m)) (fun m x1 x11 x12 x13 x5 => (tab_succ (E_sturm_VariationsEnd) (lk c_sturm_VariationsEnd) (bodyOf Try.f20) (fe_sturm_VariationsEnd) m 13 (cn_sturm_VariationsEnd_13 x1 x11 x12 x13 x5)).trans (seg_sturm_VariationsEnd_13 (tb_sturm_VariationsEnd m) x1 x11 x12 x13 x5)) a0 a1 r h
    exact ⟨m, (top_sturm_VariationsEnd (tb_sturm_VariationsEnd m) a0 a1).trans (hm m (Nat.le_refl m))⟩)

abbrev E_natural_Of : Env := mkE tys [] [(51, mixO (callO [] false (.int .u32) .pre (fun τ l => O_natural_trim l)) (callI (callE [.slice (.int .u32)] [(.slice (.int .u32), false)] (fun τ => F_natural_trim τ.1))))]
def c_natural_Of : List (Nat × Live) := []
noncomputable abbrev fe_natural_Of := (finE (E_natural_Of) [(.slice (.int .u32), false)] Try.f57.results.toList)
theorem top_natural_Of (S : Nat → KT (RT [(.slice (.int .u32), false)])) (a0 : Int) : evA (E_natural_Of) (lk c_natural_Of) S (bodyOf Try.f57) noX (fe_natural_Of) (fe_natural_Of) (initSt [.int .u64] (a0, ())) = T_natural_Of a0 := by kernel_rfl
noncomputable abbrev tb_natural_Of := tab (E_natural_Of) (lk c_natural_Of) (bodyOf Try.f57) (fe_natural_Of)
theorem ok_natural_Of : EnvOK Try.prog (E_natural_Of) := mkE_ok tys_ok trivial ⟨⟨PSound.mix os_natural_trim.psound (CSound.psound fs_natural_trim.csound), ⟨Try.f51, by kernel_rfl, by kernel_rfl, by kernel_rfl⟩⟩, trivial⟩
theorem fs_natural_Of : FSound Try.prog 57 [.int .u64] [(.slice (.int .u32), false)] (fun τ => F_natural_Of τ.1) :=
  evG_sound (E := (E_natural_Of)) (C := (lk c_natural_Of)) ok_natural_Of mixed_ok (fn := Try.f57) (c := (bodyOf Try.f57)) (by kernel_rfl) (by kernel_rfl) (by kernel_rfl) (by kernel_rfl) (by kernel_rfl) (by kernel_rfl) (fun τ r h => by
    obtain ⟨a0, ⟨⟩⟩ := τ
    obtain ⟨m, hm⟩ := Rn_natural_Of a0 r h
    exact ⟨m, (top_natural_Of (tb_natural_Of m) a0).trans (hm m (Nat.le_refl m))⟩)

abbrev E_natural_Uint64 : Env := mkE tys [] [(51, mixO (callO [] false (.int .u32) .pre (fun τ l => O_natural_trim l)) (callI (callE [.slice (.int .u32)] [(.slice (.int .u32), false)] (fun τ => F_natural_trim τ.1))))]
def c_natural_Uint64 : List (Nat × Live) := []
noncomputable abbrev fe_natural_Uint64 := (finE (E_natural_Uint64) [(.int .u64, false), (.bool, false)] Try.f63.results.toList)
theorem top_natural_Uint64 (S : Nat → KT (RT [(.int .u64, false), (.bool, false)])) (a0 : List Int) : evA (E_natural_Uint64) (lk c_natural_Uint64) S (bodyOf Try.f63) noX (fe_natural_Uint64) (fe_natural_Uint64) (initSt [.slice (.int .u32)] (a0, ())) = T_natural_Uint64 a0 := by kernel_rfl
noncomputable abbrev tb_natural_Uint64 := tab (E_natural_Uint64) (lk c_natural_Uint64) (bodyOf Try.f63) (fe_natural_Uint64)
theorem ok_natural_Uint64 : EnvOK Try.prog (E_natural_Uint64) := mkE_ok tys_ok trivial ⟨⟨PSound.mix os_natural_trim.psound (CSound.psound fs_natural_trim.csound), ⟨Try.f51, by kernel_rfl, by kernel_rfl, by kernel_rfl⟩⟩, trivial⟩
theorem fs_natural_Uint64 : FSound Try.prog 63 [.slice (.int .u32)] [(.int .u64, false), (.bool, false)] (fun τ => F_natural_Uint64 τ.1) :=
  evG_sound (E := (E_natural_Uint64)) (C := (lk c_natural_Uint64)) ok_natural_Uint64 mixed_ok (fn := Try.f63) (c := (bodyOf Try.f63)) (by kernel_rfl) (by kernel_rfl) (by kernel_rfl) (by kernel_rfl) (by kernel_rfl) (by kernel_rfl) (fun τ r h => by
    obtain ⟨a0, ⟨⟩⟩ := τ
    obtain ⟨m, hm⟩ := Rn_natural_Uint64 a0 r h
    exact ⟨m, (top_natural_Uint64 (tb_natural_Uint64 m) a0).trans (hm m (Nat.le_refl m))⟩)

abbrev E_natural_Cmp : Env := mkE tys [] [(51, mixO (callO [] false (.int .u32) .pre (fun τ l => O_natural_trim l)) (callI (callE [.slice (.int .u32)] [(.slice (.int .u32), false)] (fun τ => F_natural_trim τ.1))))]
def c_natural_Cmp : List (Nat × Live) := [(29, ⟨[(0, .slice (.int .u32)), (1, .slice (.int .u32)), (5, .int .i64)], [], []⟩)]
noncomputable abbrev fe_natural_Cmp := (finE (E_natural_Cmp) [(.int .i64, false)] Try.f61.results.toList)
noncomputable abbrev cn_natural_Cmp_29 (x0 : List Int) (x1 : List Int) (x5 : Int) : St := ⟨[(5, .one (.val (.int .i64) x5)), (1, .one (.val (.slice (.int .u32)) x1)), (0, .one (.val (.slice (.int .u32)) x0))], []⟩
noncomputable abbrev kk_natural_Cmp_29 (S : Nat → KT (RT [(.int .i64, false)])) := fun (x0 : List Int) (x1 : List Int) (x5 : Int) => S 29 (cn_natural_Cmp_29 x0 x1 x5)
theorem top_natural_Cmp (S : Nat → KT (RT [(.int .i64, false)])) (a0 : List Int) (a1 : List Int) : evA (E_natural_Cmp) (lk c_natural_Cmp) S (bodyOf Try.f61) noX (fe_natural_Cmp) (fe_natural_Cmp) (initSt [.slice (.int .u32), .slice (.int .u32)] (a0, a1, ())) = T_natural_Cmp (kk_natural_Cmp_29 S) a0 a1 := by kernel_rfl
theorem seg_natural_Cmp_29 (S : Nat → KT (RT [(.int .i64, false)])) (x0 : List Int) (x1 : List Int) (x5 : Int) : stepT (entry (E_natural_Cmp) (lk c_natural_Cmp) S 29 (bodyOf Try.f61) noX (fe_natural_Cmp) (fe_natural_Cmp)) (cn_natural_Cmp_29 x0 x1 x5) = S_natural_Cmp_29 (kk_natural_Cmp_29 S) x0 x1 x5 := by kernel_rfl
noncomputable abbrev tb_natural_Cmp := tab (E_natural_Cmp) (lk c_natural_Cmp) (bodyOf Try.f61) (fe_natural_Cmp)
theorem ok_natural_Cmp : EnvOK Try.prog (E_natural_Cmp) := mkE_ok tys_ok trivial ⟨⟨PSound.mix os_natural_trim.psound (CSound.psound fs_natural_trim.csound), ⟨Try.f51, by kernel_rfl, by kernel_rfl, by kernel_rfl⟩⟩, trivial⟩
theorem fs_natural_Cmp : FSound Try.prog 61 [.slice (.int .u32), .slice (.int .u32)] [(.int .i64, false)] (fun τ => F_natural_Cmp τ.1 τ.2.1) :=
  evG_sound (E := (E_natural_Cmp)) (C := (lk c_natural_Cmp)) ok_natural_Cmp mixed_ok (fn := Try.f61) (c := (bodyOf Try.f61)) (by kernel_rfl) (by kernel_rfl) (by kernel_rfl) (by kernel_rfl) (by kernel_rfl) (by kernel_rfl) (fun τ r h => by
    obtain ⟨a0, a1, ⟨⟩⟩ := τ
    obtain ⟨m, hm⟩ := Rn_natural_Cmp (fun m => kk_natural_Cmp_29 (tb_natural_Cmp m)) (fun m x0 x1 x5 => (tab_succ (E_natural_Cmp) (lk c_natural_Cmp) (bodyOf Try.f61) (fe_natural_Cmp) m 29 (cn_natural_Cmp_29 x0 x1 x5)).trans (seg_natural_Cmp_29 (tb_natural_Cmp m) x0 x1 x5)) a0 a1 r h
    exact ⟨m, (top_natural_Cmp (tb_natural_Cmp m) a0 a1).trans (hm m (Nat.le_refl m))⟩)

abbrev E_bits_Div32 : Env := mkE tys [] []
def c_bits_Div32 : List (Nat × Live) := [(8, ⟨[(0, .int .u32), (1, .int .u32), (2, .int .u32), (15, .bool)], [], []⟩)]
noncomputable abbrev fe_bits_Div32 := (finE (E_bits_Div32) [(.int .u32, false), (.int .u32, false)] Try.f79.results.toList)
noncomputable abbrev cn_bits_Div32_8 (x0 : Int) (x1 : Int) (x2 : Int) (x15 : Bool) : St := ⟨[(15, .one (.val (.bool) x15)), (2, .one (.val (.int .u32) x2)), (1, .one (.val (.int .u32) x1)), (0, .one (.val (.int .u32) x0))], []⟩
noncomputable abbrev kk_bits_Div32_8 (S : Nat → KT (RT [(.int .u32, false), (.int .u32, false)])) := fun (x0 : Int) (x1 : Int) (x2 : Int) (x15 : Bool) => S 8 (cn_bits_Div32_8 x0 x1 x2 x15)
theorem top_bits_Div32 (S : Nat → KT (RT [(.int .u32, false), (.int .u32, false)])) (a0 : Int) (a1 : Int) (a2 : Int) : evA (E_bits_Div32) (lk c_bits_Div32) S (bodyOf Try.f79) noX (fe_bits_Div32) (fe_bits_Div32) (initSt [.int .u32, .int .u32, .int .u32] (a0, a1, a2, ())) = T_bits_Div32 (kk_bits_Div32_8 S) a0 a1 a2 := by kernel_rfl
theorem seg_bits_Div32_8 (S : Nat → KT (RT [(.int .u32, false), (.int .u32, false)])) (x0 : Int) (x1 : Int) (x2 : Int) (x15 : Bool) : stepT (entry (E_bits_Div32) (lk c_bits_Div32) S 8 (bodyOf Try.f79) noX (fe_bits_Div32) (fe_bits_Div32)) (cn_bits_Div32_8 x0 x1 x2 x15) = S_bits_Div32_8 (kk_bits_Div32_8 S) x0 x1 x2 x15 := by kernel_rfl
noncomputable abbrev tb_bits_Div32 := tab (E_bits_Div32) (lk c_bits_Div32) (bodyOf Try.f79) (fe_bits_Div32)
theorem ok_bits_Div32 : EnvOK Try.prog (E_bits_Div32) := mkE_ok tys_ok trivial trivial
theorem fs_bits_Div32 : FSound Try.prog 79 [.int .u32, .int .u32, .int .u32] [(.int .u32, false), (.int .u32, false)] (fun τ => F_bits_Div32 τ.1 τ.2.1 τ.2.2.1) :=
  evG_sound (E := (E_bits_Div32)) (C := (lk c_bits_Div32)) ok_bits_Div32 mixed_ok (fn := Try.f79) (c := (bodyOf Try.f79)) (by kernel_rfl) (by kernel_rfl) (by kernel_rfl) (by kernel_rfl) (by kernel_rfl) (by kernel_rfl) (fun τ r h => by
    obtain ⟨a0, a1, a2, ⟨⟩⟩ := τ
    obtain ⟨m, hm⟩ := Rn_bits_Div32 (fun m => kk_bits_Div32_8 (tb_bits_Div32 m)) (fun m x0 x1 x2 x15 => (tab_succ (E_bits_Div32) (lk c_bits_Div32) (bodyOf Try.f79) (fe_bits_Div32) m 8 (cn_bits_Div32_8 x0 x1 x2 x15)).trans (seg_bits_Div32_8 (tb_bits_Div32 m) x0 x1 x2 x15)) a0 a1 a2 r h
    exact ⟨m, (top_bits_Div32 (tb_bits_Div32 m) a0 a1 a2).trans (hm m (Nat.le_refl m))⟩)

abbrev E_natural_DivSmall : Env := mkE tys [(79, callE [.int .u32, .int .u32, .int .u32] [(.int .u32, false), (.int .u32, false)] (fun τ => F_bits_Div32 τ.1 τ.2.1 τ.2.2.1))] [(51, mixO (callO [] false (.int .u32) .pre (fun τ l => O_natural_trim l)) (callI (callE [.slice (.int .u32)] [(.slice (.int .u32), false)] (fun τ => F_natural_trim τ.1))))]
def c_natural_DivSmall : List (Nat × Live) := [(29, ⟨[(0, .slice (.int .u32)), (1, .int .u32), (8, .int .u32), (9, .int .i64)], [(false, 7, .int .u32)], []⟩)]
noncomputable abbrev fe_natural_DivSmall := (finE (E_natural_DivSmall) [(.slice (.int .u32), false), (.int .u32, false), (.bool, false)] Try.f70.results.toList)
noncomputable abbrev cn_natural_DivSmall_29 (x0 : List Int) (x1 : Int) (x8 : Int) (x9 : Int) (x7 : List Int) : St := ⟨[(7, .one (.loc (.int .u32) 10000)), (9, .one (.val (.int .i64) x9)), (8, .one (.val (.int .u32) x8)), (1, .one (.val (.int .u32) x1)), (0, .one (.val (.slice (.int .u32)) x0))], [(10000, some ⟨.int .u32, x7, false⟩)]⟩
noncomputable abbrev kk_natural_DivSmall_29 (S : Nat → KT (RT [(.slice (.int .u32), false), (.int .u32, false), (.bool, false)])) := fun (x0 : List Int) (x1 : Int) (x8 : Int) (x9 : Int) (x7 : List Int) => S 29 (cn_natural_DivSmall_29 x0 x1 x8 x9 x7)
theorem top_natural_DivSmall (S : Nat → KT (RT [(.slice (.int .u32), false), (.int .u32, false), (.bool, false)])) (a0 : List Int) (a1 : Int) : evA (E_natural_DivSmall) (lk c_natural_DivSmall) S (bodyOf Try.f70) noX (fe_natural_DivSmall) (fe_natural_DivSmall) (initSt [.slice (.int .u32), .int .u32] (a0, a1, ())) = T_natural_DivSmall (kk_natural_DivSmall_29 S) a0 a1 := by kernel_rfl
theorem seg_natural_DivSmall_29 (S : Nat → KT (RT [(.slice (.int .u32), false), (.int .u32, false), (.bool, false)])) (x0 : List Int) (x1 : Int) (x8 : Int) (x9 : Int) (x7 : List Int) : stepT (entry (E_natural_DivSmall) (lk c_natural_DivSmall) S 29 (bodyOf Try.f70) noX (fe_natural_DivSmall) (fe_natural_DivSmall)) (cn_natural_DivSmall_29 x0 x1 x8 x9 x7) = S_natural_DivSmall_29 (kk_natural_DivSmall_29 S) x0 x1 x8 x9 x7 := by kernel_rfl
noncomputable abbrev tb_natural_DivSmall := tab (E_natural_DivSmall) (lk c_natural_DivSmall) (bodyOf Try.f70) (fe_natural_DivSmall)
theorem ok_natural_DivSmall : EnvOK Try.prog (E_natural_DivSmall) := mkE_ok tys_ok ⟨⟨fs_bits_Div32.csound, ⟨Try.f79, by kernel_rfl, by kernel_rfl, by kernel_rfl⟩⟩, trivial⟩ ⟨⟨PSound.mix os_natural_trim.psound (CSound.psound fs_natural_trim.csound), ⟨Try.f51, by kernel_rfl, by kernel_rfl, by kernel_rfl⟩⟩, trivial⟩
theorem fs_natural_DivSmall : FSound Try.prog 70 [.slice (.int .u32), .int .u32] [(.slice (.int .u32), false), (.int .u32, false), (.bool, false)] (fun τ => F_natural_DivSmall τ.1 τ.2.1) :=
  evG_sound (E := (E_natural_DivSmall)) (C := (lk c_natural_DivSmall)) ok_natural_DivSmall mixed_ok (fn := Try.f70) (c := (bodyOf Try.f70)) (by kernel_rfl) (by kernel_rfl) (by kernel_rfl) (by kernel_rfl) (by kernel_rfl) (by kernel_rfl) (fun τ r h => by
    obtain ⟨a0, a1, ⟨⟩⟩ := τ
    obtain ⟨m, hm⟩ := Rn_natural_DivSmall (fun m => kk_natural_DivSmall_29 (tb_natural_DivSmall m)) (fun m x0 x1 x8 x9 x7 => (tab_succ (E_natural_DivSmall) (lk c_natural_DivSmall) (bodyOf Try.f70) (fe_natural_DivSmall) m 29 (cn_natural_DivSmall_29 x0 x1 x8 x9 x7)).trans (seg_natural_DivSmall_29 (tb_natural_DivSmall m) x0 x1 x8 x9 x7)) a0 a1 r h
    exact ⟨m, (top_natural_DivSmall (tb_natural_DivSmall m) a0 a1).trans (hm m (Nat.le_refl m))⟩)

abbrev E_bits_Len32 : Env := mkE tys [] []
def c_bits_Len32 : List (Nat × Live) := [(16, ⟨[(0, .int .u32), (2, .int .i64)], [], []⟩), (28, ⟨[(0, .int .u32), (2, .int .i64)], [], []⟩)]
noncomputable abbrev fe_bits_Len32 := (finE (E_bits_Len32) [(.int .i64, false)] Try.f80.results.toList)
noncomputable abbrev cn_bits_Len32_16 (x0 : Int) (x2 : Int) : St := ⟨[(2, .one (.val (.int .i64) x2)), (0, .one (.val (.int .u32) x0))], []⟩
noncomputable abbrev kk_bits_Len32_16 (S : Nat → KT (RT [(.int .i64, false)])) := fun (x0 : Int) (x2 : Int) => S 16 (cn_bits_Len32_16 x0 x2)
noncomputable abbrev cn_bits_Len32_28 (x0 : Int) (x2 : Int) : St := ⟨[(2, .one (.val (.int .i64) x2)), (0, .one (.val (.int .u32) x0))], []⟩
noncomputable abbrev kk_bits_Len32_28 (S : Nat → KT (RT [(.int .i64, false)])) := fun (x0 : Int) (x2 : Int) => S 28 (cn_bits_Len32_28 x0 x2)
theorem top_bits_Len32 (S : Nat → KT (RT [(.int .i64, false)])) (a0 : Int) : evA (E_bits_Len32) (lk c_bits_Len32) S (bodyOf Try.f80) noX (fe_bits_Len32) (fe_bits_Len32) (initSt [.int .u32] (a0, ())) = T_bits_Len32 (kk_bits_Len32_16 S) (kk_bits_Len32_28 S) a0 := by kernel_rfl
theorem seg_bits_Len32_16 (S : Nat → KT (RT [(.int .i64, false)])) (x0 : Int) (x2 : Int) : stepT (entry (E_bits_Len32) (lk c_bits_Len32) S 16 (bodyOf Try.f80) noX (fe_bits_Len32) (fe_bits_Len32)) (cn_bits_Len32_16 x0 x2) = S_bits_Len32_16 (kk_bits_Len32_16 S) (kk_bits_Len32_28 S) x0 x2 := by kernel_rfl
theorem seg_bits_Len32_28 (S : Nat → KT (RT [(.int .i64, false)])) (x0 : Int) (x2 : Int) : stepT (entry (E_bits_Len32) (lk c_bits_Len32) S 28 (bodyOf Try.f80) noX (fe_bits_Len32) (fe_bits_Len32)) (cn_bits_Len32_28 x0 x2) = S_bits_Len32_28 (kk_bits_Len32_16 S) (kk_bits_Len32_28 S) x0 x2 := by kernel_rfl
noncomputable abbrev tb_bits_Len32 := tab (E_bits_Len32) (lk c_bits_Len32) (bodyOf Try.f80) (fe_bits_Len32)
theorem ok_bits_Len32 : EnvOK Try.prog (E_bits_Len32) := mkE_ok tys_ok trivial trivial
theorem fs_bits_Len32 : FSound Try.prog 80 [.int .u32] [(.int .i64, false)] (fun τ => F_bits_Len32 τ.1) :=
  evG_sound (E := (E_bits_Len32)) (C := (lk c_bits_Len32)) ok_bits_Len32 mixed_ok (fn := Try.f80) (c := (bodyOf Try.f80)) (by kernel_rfl) (by kernel_rfl) (by kernel_rfl) (by kernel_rfl) (by kernel_rfl) (by kernel_rfl) (fun τ r h => by
    obtain ⟨a0, ⟨⟩⟩ := τ
    obtain ⟨m, hm⟩ := Rn_bits_Len32 (fun m => kk_bits_Len32_16 (tb_bits_Len32 m)) (fun m => kk_bits_Len32_28 (tb_bits_Len32 m)) (fun m x0 x2 => (tab_succ (E_bits_Len32) (lk c_bits_Len32) (bodyOf Try.f80) (fe_bits_Len32) m 16 (cn_bits_Len32_16 x0 x2)).trans (seg_bits_Len32_16 (tb_bits_Len32 m) x0 x2)) (fun m x0 x2 => (tab_succ (E_bits_Len32) (lk c_bits_Len32) (bodyOf Try.f80) (fe_bits_Len32) m 28 (cn_bits_Len32_28 x0 x2)).trans (seg_bits_Len32_28 (tb_bits_Len32 m) x0 x2)) a0 r h
    exact ⟨m, (top_bits_Len32 (tb_bits_Len32 m) a0).trans (hm m (Nat.le_refl m))⟩)

abbrev E_bits_LeadingZeros32 : Env := mkE tys [(80, callE [.int .u32] [(.int .i64, false)] (fun τ => F_bits_Len32 τ.1))] []
def c_bits_LeadingZeros32 : List (Nat × Live) := []
noncomputable abbrev fe_bits_LeadingZeros32 := (finE (E_bits_LeadingZeros32) [(.int .i64, false)] Try.f71.results.toList)
theorem top_bits_LeadingZeros32 (S : Nat → KT (RT [(.int .i64, false)])) (a0 : Int) : evA (E_bits_LeadingZeros32) (lk c_bits_LeadingZeros32) S (bodyOf Try.f71) noX (fe_bits_LeadingZeros32) (fe_bits_LeadingZeros32) (initSt [.int .u32] (a0, ())) = T_bits_LeadingZeros32 a0 := by kernel_rfl
noncomputable abbrev tb_bits_LeadingZeros32 := tab (E_bits_LeadingZeros32) (lk c_bits_LeadingZeros32) (bodyOf Try.f71) (fe_bits_LeadingZeros32)
theorem ok_bits_LeadingZeros32 : EnvOK Try.prog (E_bits_LeadingZeros32) := mkE_ok tys_ok ⟨⟨fs_bits_Len32.csound, ⟨Try.f80, by kernel_rfl, by kernel_rfl, by kernel_rfl⟩⟩, trivial⟩ trivial
theorem fs_bits_LeadingZeros32 : FSound Try.prog 71 [.int .u32] [(.int .i64, false)] (fun τ => F_bits_LeadingZeros32 τ.1) :=
  evG_sound (E := (E_bits_LeadingZeros32)) (C := (lk c_bits_LeadingZeros32)) ok_bits_LeadingZeros32 mixed_ok (fn := Try.f71) (c := (bodyOf Try.f71)) (by kernel_rfl) (by kernel_rfl) (by kernel_rfl) (by kernel_rfl) (by kernel_rfl) (by kernel_rfl) (fun τ r h => by
    obtain ⟨a0, ⟨⟩⟩ := τ
    obtain ⟨m, hm⟩ := Rn_bits_LeadingZeros32 a0 r h
    exact ⟨m, (top_bits_LeadingZeros32 (tb_bits_LeadingZeros32 m) a0).trans (hm m (Nat.le_refl m))⟩)

abbrev E_natural_Shl : Env := mkE tys [] [(51, mixO (callO [] false (.int .u32) .pre (fun τ l => O_natural_trim l)) (callI (callE [.slice (.int .u32)] [(.slice (.int .u32), false)] (fun τ => F_natural_trim τ.1))))]
def c_natural_Shl : List (Nat × Live) := [(45, ⟨[(6, .int .i64), (8, .int .u32), (9, .int .i64)], [(false, 7, .int .u32)], []⟩)]
noncomputable abbrev fe_natural_Shl := (finE (E_natural_Shl) [(.slice (.int .u32), true)] Try.f72.results.toList)
noncomputable abbrev cn_natural_Shl_45 (x6 : Int) (x8 : Int) (x9 : Int) (x7 : List Int) : St := ⟨[(7, .one (.loc (.int .u32) 10000)), (9, .one (.val (.int .i64) x9)), (8, .one (.val (.int .u32) x8)), (6, .one (.val (.int .i64) x6))], [(10000, some ⟨.int .u32, x7, false⟩)]⟩
noncomputable abbrev kk_natural_Shl_45 (S : Nat → KT (RT [(.slice (.int .u32), true)])) := fun (x6 : Int) (x8 : Int) (x9 : Int) (x7 : List Int) => S 45 (cn_natural_Shl_45 x6 x8 x9 x7)
theorem top_natural_Shl (S : Nat → KT (RT [(.slice (.int .u32), true)])) (a0 : List Int) (a1 : Int) : evA (E_natural_Shl) (lk c_natural_Shl) S (bodyOf Try.f72) noX (fe_natural_Shl) (fe_natural_Shl) (initSt [.slice (.int .u32), .int .i64] (a0, a1, ())) = T_natural_Shl (kk_natural_Shl_45 S) a0 a1 := by kernel_rfl
theorem seg_natural_Shl_45 (S : Nat → KT (RT [(.slice (.int .u32), true)])) (x6 : Int) (x8 : Int) (x9 : Int) (x7 : List Int) : stepT (entry (E_natural_Shl) (lk c_natural_Shl) S 45 (bodyOf Try.f72) noX (fe_natural_Shl) (fe_natural_Shl)) (cn_natural_Shl_45 x6 x8 x9 x7) = S_natural_Shl_45 (kk_natural_Shl_45 S) x6 x8 x9 x7 := by kernel_rfl
noncomputable abbrev tb_natural_Shl := tab (E_natural_Shl) (lk c_natural_Shl) (bodyOf Try.f72) (fe_natural_Shl)
theorem ok_natural_Shl : EnvOK Try.prog (E_natural_Shl) := mkE_ok tys_ok trivial ⟨⟨PSound.mix os_natural_trim.psound (CSound.psound fs_natural_trim.csound), ⟨Try.f51, by kernel_rfl, by kernel_rfl, by kernel_rfl⟩⟩, trivial⟩
theorem fs_natural_Shl : FSound Try.prog 72 [.slice (.int .u32), .int .i64] [(.slice (.int .u32), true)] (fun τ => F_natural_Shl τ.1 τ.2.1) :=
  evG_sound (E := (E_natural_Shl)) (C := (lk c_natural_Shl)) ok_natural_Shl mixed_ok (fn := Try.f72) (c := (bodyOf Try.f72)) (by kernel_rfl) (by kernel_rfl) (by kernel_rfl) (by kernel_rfl) (by kernel_rfl) (by kernel_rfl) (fun τ r h => by
    obtain ⟨a0, a1, ⟨⟩⟩ := τ
    obtain ⟨m, hm⟩ := Rn_natural_Shl (fun m => kk_natural_Shl_45 (tb_natural_Shl m)) (fun m x6 x8 x9 x7 => (tab_succ (E_natural_Shl) (lk c_natural_Shl) (bodyOf Try.f72) (fe_natural_Shl) m 45 (cn_natural_Shl_45 x6 x8 x9 x7)).trans (seg_natural_Shl_45 (tb_natural_Shl m) x6 x8 x9 x7)) a0 a1 r h
    exact ⟨m, (top_natural_Shl (tb_natural_Shl m) a0 a1).trans (hm m (Nat.le_refl m))⟩)

abbrev E_bits_Len64 : Env := mkE tys [] []
def c_bits_Len64 : List (Nat × Live) := [(16, ⟨[(0, .int .u64), (2, .int .i64)], [], []⟩), (28, ⟨[(0, .int .u64), (2, .int .i64)], [], []⟩), (40, ⟨[(0, .int .u64), (2, .int .i64)], [], []⟩)]
noncomputable abbrev fe_bits_Len64 := (finE (E_bits_Len64) [(.int .i64, false)] Try.f82.results.toList)
noncomputable abbrev cn_bits_Len64_16 (x0 : Int) (x2 : Int) : St := ⟨[(2, .one (.val (.int .i64) x2)), (0, .one (.val (.int .u64) x0))], []⟩
noncomputable abbrev kk_bits_Len64_16 (S : Nat → KT (RT [(.int .i64, false)])) := fun (x0 : Int) (x2 : Int) => S 16 (cn_bits_Len64_16 x0 x2)
noncomputable abbrev cn_bits_Len64_28 (x0 : Int) (x2 : Int) : St := ⟨[(2, .one (.val (.int .i64) x2)), (0, .one (.val (.int .u64) x0))], []⟩
noncomputable abbrev kk_bits_Len64_28 (S : Nat → KT (RT [(.int .i64, false)])) := fun (x0 : Int) (x2 : Int) => S 28 (cn_bits_Len64_28 x0 x2)
noncomputable abbrev cn_bits_Len64_40 (x0 : Int) (x2 : Int) : St := ⟨[(2, .one (.val (.int .i64) x2)), (0, .one (.val (.int .u64) x0))], []⟩
noncomputable abbrev kk_bits_Len64_40 (S : Nat → KT (RT [(.int .i64, false)])) := fun (x0 : Int) (x2 : Int) => S 40 (cn_bits_Len64_40 x0 x2)
theorem top_bits_Len64 (S : Nat → KT (RT [(.int .i64, false)])) (a0 : Int) : evA (E_bits_Len64) (lk c_bits_Len64) S (bodyOf Try.f82) noX (fe_bits_Len64) (fe_bits_Len64) (initSt [.int .u64] (a0, ())) = T_bits_Len64 (kk_bits_Len64_16 S) (kk_bits_Len64_28 S) (kk_bits_Len64_40 S) a0 := by kernel_rfl
theorem seg_bits_Len64_16 (S : Nat → KT (RT [(.int .i64, false)])) (x0 : Int) (x2 : Int) : stepT (entry (E_bits_Len64) (lk c_bits_Len64) S 16 (bodyOf Try.f82) noX (fe_bits_Len64) (fe_bits_Len64)) (cn_bits_Len64_16 x0 x2) = S_bits_Len64_16 (kk_bits_Len64_16 S) (kk_bits_Len64_28 S) (kk_bits_Len64_40 S) x0 x2 := by kernel_rfl
theorem seg_bits_Len64_28 (S : Nat → KT (RT [(.int .i64, false)])) (x0 : Int) (x2 : Int) : stepT (entry (E_bits_Len64) (lk c_bits_Len64) S 28 (bodyOf Try.f82) noX (fe_bits_Len64) (fe_bits_Len64)) (cn_bits_Len64_28 x0 x2) = S_bits_Len64_28 (kk_bits_Len64_16 S) (kk_bits_Len64_28 S) (kk_bits_Len64_40 S) x0 x2 := by kernel_rfl
theorem seg_bits_Len64_40 (S : Nat → KT (RT [(.int .i64, false)])) (x0 : Int) (x2 : Int) : stepT (entry (E_bits_Len64) (lk c_bits_Len64) S 40 (bodyOf Try.f82) noX (fe_bits_Len64) (fe_bits_Len64)) (cn_bits_Len64_40 x0 x2) = S_bits_Len64_40 (kk_bits_Len64_16 S) (kk_bits_Len64_28 S) (kk_bits_Len64_40 S) x0 x2 := by kernel_rfl
noncomputable abbrev tb_bits_Len64 := tab (E_bits_Len64) (lk c_bits_Len64) (bodyOf Try.f82) (fe_bits_Len64)
theorem ok_bits_Len64 : EnvOK Try.prog (E_bits_Len64) := mkE_ok tys_ok trivial trivial
theorem fs_bits_Len64 : FSound Try.prog 82 [.int .u64] [(.int .i64, false)] (fun τ => F_bits_Len64 τ.1) :=
  evG_sound (E := (E_bits_Len64)) (C := (lk c_bits_Len64)) ok_bits_Len64 mixed_ok (fn := Try.f82) (c := (bodyOf Try.f82)) (by kernel_rfl) (by kernel_rfl) (by kernel_rfl) (by kernel_rfl) (by kernel_rfl) (by kernel_rfl) (fun τ r h => by
    obtain ⟨a0, ⟨⟩⟩ := τ
    obtain ⟨m, hm⟩ := Rn_bits_Len64 (fun m => kk_bits_Len64_16 (tb_bits_Len64 m)) (fun m => kk_bits_Len64_28 (tb_bits_Len64 m)) (fun m => kk_bits_Len64_40 (tb_bits_Len64 m)) (fun m x0 x2 => (tab_succ (E_bits_Len64) (lk c_bits_Len64) (bodyOf Try.f82) (fe_bits_Len64) m 16 (cn_bits_Len64_16 x0 x2)).trans (seg_bits_Len64_16 (tb_bits_Len64 m) x0 x2)) (fun m x0 x2 => (tab_succ (E_bits_Len64) (lk c_bits_Len64) (bodyOf Try.f82) (fe_bits_Len64) m 28 (cn_bits_Len64_28 x0 x2)).trans (seg_bits_Len64_28 (tb_bits_Len64 m) x0 x2)) (fun m x0 x2 => (tab_succ (E_bits_Len64) (lk c_bits_Len64) (bodyOf Try.f82) (fe_bits_Len64) m 40 (cn_bits_Len64_40 x0 x2)).trans (seg_bits_Len64_40 (tb_bits_Len64 m) x0 x2)) a0 r h
    exact ⟨m, (top_bits_Len64 (tb_bits_Len64 m) a0).trans (hm m (Nat.le_refl m))⟩)

abbrev E_bits_LeadingZeros64 : Env := mkE tys [(82, callE [.int .u64] [(.int .i64, false)] (fun τ => F_bits_Len64 τ.1))] []
def c_bits_LeadingZeros64 : List (Nat × Live) := []
noncomputable abbrev fe_bits_LeadingZeros64 := (finE (E_bits_LeadingZeros64) [(.int .i64, false)] Try.f81.results.toList)
theorem top_bits_LeadingZeros64 (S : Nat → KT (RT [(.int .i64, false)])) (a0 : Int) : evA (E_bits_LeadingZeros64) (lk c_bits_LeadingZeros64) S (bodyOf Try.f81) noX (fe_bits_LeadingZeros64) (fe_bits_LeadingZeros64) (initSt [.int .u64] (a0, ())) = T_bits_LeadingZeros64 a0 := by kernel_rfl
noncomputable abbrev tb_bits_LeadingZeros64 := tab (E_bits_LeadingZeros64) (lk c_bits_LeadingZeros64) (bodyOf Try.f81) (fe_bits_LeadingZeros64)
theorem ok_bits_LeadingZeros64 : EnvOK Try.prog (E_bits_LeadingZeros64) := mkE_ok tys_ok ⟨⟨fs_bits_Len64.csound, ⟨Try.f82, by kernel_rfl, by kernel_rfl, by kernel_rfl⟩⟩, trivial⟩ trivial
theorem fs_bits_LeadingZeros64 : FSound Try.prog 81 [.int .u64] [(.int .i64, false)] (fun τ => F_bits_LeadingZeros64 τ.1) :=
  evG_sound (E := (E_bits_LeadingZeros64)) (C := (lk c_bits_LeadingZeros64)) ok_bits_LeadingZeros64 mixed_ok (fn := Try.f81) (c := (bodyOf Try.f81)) (by kernel_rfl) (by kernel_rfl) (by kernel_rfl) (by kernel_rfl) (by kernel_rfl) (by kernel_rfl) (fun τ r h => by
    obtain ⟨a0, ⟨⟩⟩ := τ
    obtain ⟨m, hm⟩ := Rn_bits_LeadingZeros64 a0 r h
    exact ⟨m, (top_bits_LeadingZeros64 (tb_bits_LeadingZeros64 m) a0).trans (hm m (Nat.le_refl m))⟩)

abbrev E_bits_Div64 : Env := mkE tys [(81, callE [.int .u64] [(.int .i64, false)] (fun τ => F_bits_LeadingZeros64 τ.1))] []
def c_bits_Div64 : List (Nat × Live) := [(69, ⟨[(2, .int .u64), (8, .int .u64), (9, .int .u64), (10, .int .u64), (11, .int .u64), (13, .int .u64), (14, .int .u64), (15, .int .u64), (16, .int .u64)], [], []⟩), (72, ⟨[(2, .int .u64), (8, .int .u64), (9, .int .u64), (10, .int .u64), (11, .int .u64), (13, .int .u64), (14, .int .u64), (15, .int .u64), (16, .int .u64)], [], []⟩), (97, ⟨[(2, .int .u64), (8, .int .u64), (9, .int .u64), (10, .int .u64), (14, .int .u64), (15, .int .u64), (16, .int .u64), (17, .int .u64), (18, .int .u64)], [], []⟩), (100, ⟨[(2, .int .u64), (8, .int .u64), (9, .int .u64), (10, .int .u64), (14, .int .u64), (15, .int .u64), (16, .int .u64), (17, .int .u64), (18, .int .u64)], [], []⟩)]
noncomputable abbrev fe_bits_Div64 := (finE (E_bits_Div64) [(.int .u64, false), (.int .u64, false)] Try.f73.results.toList)
noncomputable abbrev cn_bits_Div64_69 (x2 : Int) (x8 : Int) (x9 : Int) (x10 : Int) (x11 : Int) (x13 : Int) (x14 : Int) (x15 : Int) (x16 : Int) : St := ⟨[(16, .one (.val (.int .u64) x16)), (15, .one (.val (.int .u64) x15)), (14, .one (.val (.int .u64) x14)), (13, .one (.val (.int .u64) x13)), (11, .one (.val (.int .u64) x11)), (10, .one (.val (.int .u64) x10)), (9, .one (.val (.int .u64) x9)), (8, .one (.val (.int .u64) x8)), (2, .one (.val (.int .u64) x2))], []⟩
noncomputable abbrev kk_bits_Div64_69 (S : Nat → KT (RT [(.int .u64, false), (.int .u64, false)])) := fun (x2 : Int) (x8 : Int) (x9 : Int) (x10 : Int) (x11 : Int) (x13 : Int) (x14 : Int) (x15 : Int) (x16 : Int) => S 69 (cn_bits_Div64_69 x2 x8 x9 x10 x11 x13 x14 x15 x16)
noncomputable abbrev cn_bits_Div64_72 (x2 : Int) (x8 : Int) (x9 : Int) (x10 : Int) (x11 : Int) (x13 : Int) (x14 : Int) (x15 : Int) (x16 : Int) : St := ⟨[(16, .one (.val (.int .u64) x16)), (15, .one (.val (.int .u64) x15)), (14, .one (.val (.int .u64) x14)), (13, .one (.val (.int .u64) x13)), (11, .one (.val (.int .u64) x11)), (10, .one (.val (.int .u64) x10)), (9, .one (.val (.int .u64) x9)), (8, .one (.val (.int .u64) x8)), (2, .one (.val (.int .u64) x2))], []⟩
noncomputable abbrev kk_bits_Div64_72 (S : Nat → KT (RT [(.int .u64, false), (.int .u64, false)])) := fun (x2 : Int) (x8 : Int) (x9 : Int) (x10 : Int) (x11 : Int) (x13 : Int) (x14 : Int) (x15 : Int) (x16 : Int) => S 72 (cn_bits_Div64_72 x2 x8 x9 x10 x11 x13 x14 x15 x16)
noncomputable abbrev cn_bits_Div64_97 (x2 : Int) (x8 : Int) (x9 : Int) (x10 : Int) (x14 : Int) (x15 : Int) (x16 : Int) (x17 : Int) (x18 : Int) : St := ⟨[(18, .one (.val (.int .u64) x18)), (17, .one (.val (.int .u64) x17)), (16, .one (.val (.int .u64) x16)), (15, .one (.val (.int .u64) x15)), (14, .one (.val (.int .u64) x14)), (10, .one (.val (.int .u64) x10)), (9, .one (.val (.int .u64) x9)), (8, .one (.val (.int .u64) x8)), (2, .one (.val (.int .u64) x2))], []⟩
noncomputable abbrev kk_bits_Div64_97 (S : Nat → KT (RT [(.int .u64, false), (.int .u64, false)])) := fun (x2 : Int) (x8 : Int) (x9 : Int) (x10 : Int) (x14 : Int) (x15 : Int) (x16 : Int) (x17 : Int) (x18 : Int) => S 97 (cn_bits_Div64_97 x2 x8 x9 x10 x14 x15 x16 x17 x18)
noncomputable abbrev cn_bits_Div64_100 (x2 : Int) (x8 : Int) (x9 : Int) (x10 : Int) (x14 : Int) (x15 : Int) (x16 : Int) (x17 : Int) (x18 : Int) : St := ⟨[(18, .one (.val (.int .u64) x18)), (17, .one (.val (.int .u64) x17)), (16, .one (.val (.int .u64) x16)), (15, .one (.val (.int .u64) x15)), (14, .one (.val (.int .u64) x14)), (10, .one (.val (.int .u64) x10)), (9, .one (.val (.int .u64) x9)), (8, .one (.val (.int .u64) x8)), (2, .one (.val (.int .u64) x2))], []⟩
noncomputable abbrev kk_bits_Div64_100 (S : Nat → KT (RT [(.int .u64, false), (.int .u64, false)])) := fun (x2 : Int) (x8 : Int) (x9 : Int) (x10 : Int) (x14 : Int) (x15 : Int) (x16 : Int) (x17 : Int) (x18 : Int) => S 100 (cn_bits_Div64_100 x2 x8 x9 x10 x14 x15 x16 x17 x18)
theorem top_bits_Div64 (S : Nat → KT (RT [(.int .u64, false), (.int .u64, false)])) (a0 : Int) (a1 : Int) (a2 : Int) : evA (E_bits_Div64) (lk c_bits_Div64) S (bodyOf Try.f73) noX (fe_bits_Div64) (fe_bits_Div64) (initSt [.int .u64, .int .u64, .int .u64] (a0, a1, a2, ())) = T_bits_Div64 (kk_bits_Div64_69 S) (kk_bits_Div64_72 S) (kk_bits_Div64_97 S) (kk_bits_Div64_100 S) a0 a1 a2 := by kernel_rfl
theorem seg_bits_Div64_69 (S : Nat → KT (RT [(.int .u64, false), (.int .u64, false)])) (x2 : Int) (x8 : Int) (x9 : Int) (x10 : Int) (x11 : Int) (x13 : Int) (x14 : Int) (x15 : Int) (x16 : Int) : stepT (entry (E_bits_Div64) (lk c_bits_Div64) S 69 (bodyOf Try.f73) noX (fe_bits_Div64) (fe_bits_Div64)) (cn_bits_Div64_69 x2 x8 x9 x10 x11 x13 x14 x15 x16) = S_bits_Div64_69 (kk_bits_Div64_69 S) (kk_bits_Div64_72 S) (kk_bits_Div64_97 S) (kk_bits_Div64_100 S) x2 x8 x9 x10 x11 x13 x14 x15 x16 := by kernel_rfl
theorem seg_bits_Div64_72 (S : Nat → KT (RT [(.int .u64, false), (.int .u64, false)])) (x2 : Int) (x8 : Int) (x9 : Int) (x10 : Int) (x11 : Int) (x13 : Int) (x14 : Int) (x15 : Int) (x16 : Int) : stepT (entry (E_bits_Div64) (lk c_bits_Div64) S 72 (bodyOf Try.f73) noX (fe_bits_Div64) (fe_bits_Div64)) (cn_bits_Div64_72 x2 x8 x9 x10 x11 x13 x14 x15 x16) = S_bits_Div64_72 (kk_bits_Div64_69 S) (kk_bits_Div64_72 S) (kk_bits_Div64_97 S) (kk_bits_Div64_100 S) x2 x8 x9 x10 x11 x13 x14 x15 x16 := by kernel_rfl
theorem seg_bits_Div64_97 (S : Nat → KT (RT [(.int .u64, false), (.int .u64, false)])) (x2 : Int) (x8 : Int) (x9 : Int) (x10 : Int) (x14 : Int) (x15 : Int) (x16 : Int) (x17 : Int) (x18 : Int) : stepT (entry (E_bits_Div64) (lk c_bits_Div64) S 97 (bodyOf Try.f73) noX (fe_bits_Div64) (fe_bits_Div64)) (cn_bits_Div64_97 x2 x8 x9 x10 x14 x15 x16 x17 x18) = S_bits_Div64_97 (kk_bits_Div64_69 S) (kk_bits_Div64_72 S) (kk_bits_Div64_97 S) (kk_bits_Div64_100 S) x2 x8 x9 x10 x14 x15 x16 x17 x18 := by kernel_rfl
theorem seg_bits_Div64_100 (S : Nat → KT (RT [(.int .u64, false), (.int .u64, false)])) (x2 : Int) (x8 : Int) (x9 : Int) (x10 : Int) (x14 : Int) (x15 : Int) (x16 : Int) (x17 : Int) (x18 : Int) : stepT (entry (E_bits_Div64) (lk c_bits_Div64) S 100 (bodyOf Try.f73) noX (fe_bits_Div64) (fe_bits_Div64)) (cn_bits_Div64_100 x2 x8 x9 x10 x14 x15 x16 x17 x18) = S_bits_Div64_100 (kk_bits_Div64_69 S) (kk_bits_Div64_72 S) (kk_bits_Div64_97 S) (kk_bits_Div64_100 S) x2 x8 x9 x10 x14 x15 x16 x17 x18 := by kernel_rfl
noncomputable abbrev tb_bits_Div64 := tab (E_bits_Div64) (lk c_bits_Div64) (bodyOf Try.f73) (fe_bits_Div64)
theorem ok_bits_Div64 : EnvOK Try.prog (E_bits_Div64) := mkE_ok tys_ok ⟨⟨fs_bits_LeadingZeros64.csound, ⟨Try.f81, by kernel_rfl, by kernel_rfl, by kernel_rfl⟩⟩, trivial⟩ trivial
theorem fs_bits_Div64 : FSound Try.prog 73 [.int .u64, .int .u64, .int .u64] [(.int .u64, false), (.int .u64, false)] (fun τ => F_bits_Div64 τ.1 τ.2.1 τ.2.2.1) :=
  evG_sound (E := (E_bits_Div64)) (C := (lk c_bits_Div64)) ok_bits_Div64 mixed_ok (fn := Try.f73) (c := (bodyOf Try.f73)) (by kernel_rfl) (by kernel_rfl) (by kernel_rfl) (by kernel_rfl) (by kernel_rfl) (by kernel_rfl) (fun τ r h => by
    obtain ⟨a0, a1, a2, ⟨⟩⟩ := τ
    obtain ⟨m, hm⟩ := Rn_bits_Div64 (fun m => kk_bits_Div64_69 (tb_bits_Div64 m)) (fun m => kk_bits_Div64_72 (tb_bits_Div64 m)) (fun m => kk_bits_Div64_97 (tb_bits_Div64 m)) (fun m => kk_bits_Div64_100 (tb_bits_Div64 m)) (fun m x2 x8 x9 x10 x11 x13 x14 x15 x16 => (tab_succ (E_bits_Div64) (lk c_bits_Div64) (bodyOf Try.f73) (fe_bits_Div64) m 69 (cn_bits_Div64_69 x2 x8 x9 x10 x11 x13 x14 x15 x16)).trans (seg_bits_Div64_69 (tb_bits_Div64 m) x2 x8 x9 x10 x11 x13 x14 x15 x16)) (fun m x2 x8 x9 x10 x11 x13 x14 x15 x16 => (tab_succ (E_bits_Div64) (lk c_bits_Div64) (bodyOf Try.f73) (fe_bits_Div64) m 72 (cn_bits_Div64_72 x2 x8 x9 x10 x11 x13 x14 x15 x16)).trans (seg_bits_Div64_72 (tb_bits_Div64 m) x2 x8 x9 x10 x11 x13 x14 x15 x16)) (fun m x2 x8 x9 x10 x14 x15 x16 x17 x18 => (tab_succ (E_bits_Div64) (lk c_bits_Div64) (bodyOf Try.f73) (fe_bits_Div64) m 97 (cn_bits_Div64_97 x2 x8 x9 x10 x14 x15 x16 x17 x18)).trans (seg_bits_Div64_97 (tb_bits_Div64 m) x2 x8 x9 x10 x14 x15 x16 x17 x18)) (fun m x2 x8 x9 x10 x14 x15 x16 x17 x18 => (tab_succ (E_bits_Div64) (lk c_bits_Div64) (bodyOf Try.f73) (fe_bits_Div64) m 100 (cn_bits_Div64_100 x2 x8 x9 x10 x14 x15 x16 x17 x18)).trans (seg_bits_Div64_100 (tb_bits_Div64 m) x2 x8 x9 x10 x14 x15 x16 x17 x18)) a0 a1 a2 r h
    exact ⟨m, (top_bits_Div64 (tb_bits_Div64 m) a0 a1 a2).trans (hm m (Nat.le_refl m))⟩)

abbrev E_bits_Add32 : Env := mkE tys [] []
def c_bits_Add32 : List (Nat × Live) := []
noncomputable abbrev fe_bits_Add32 := (finE (E_bits_Add32) [(.int .u32, false), (.int .u32, false)] Try.f74.results.toList)
theorem top_bits_Add32 (S : Nat → KT (RT [(.int .u32, false), (.int .u32, false)])) (a0 : Int) (a1 : Int) (a2 : Int) : evA (E_bits_Add32) (lk c_bits_Add32) S (bodyOf Try.f74) noX (fe_bits_Add32) (fe_bits_Add32) (initSt [.int .u32, .int .u32, .int .u32] (a0, a1, a2, ())) = T_bits_Add32 a0 a1 a2 := by kernel_rfl
noncomputable abbrev tb_bits_Add32 := tab (E_bits_Add32) (lk c_bits_Add32) (bodyOf Try.f74) (fe_bits_Add32)
theorem ok_bits_Add32 : EnvOK Try.prog (E_bits_Add32) := mkE_ok tys_ok trivial trivial
theorem fs_bits_Add32 : FSound Try.prog 74 [.int .u32, .int .u32, .int .u32] [(.int .u32, false), (.int .u32, false)] (fun τ => F_bits_Add32 τ.1 τ.2.1 τ.2.2.1) :=
  evG_sound (E := (E_bits_Add32)) (C := (lk c_bits_Add32)) ok_bits_Add32 mixed_ok (fn := Try.f74) (c := (bodyOf Try.f74)) (by kernel_rfl) (by kernel_rfl) (by kernel_rfl) (by kernel_rfl) (by kernel_rfl) (by kernel_rfl) (fun τ r h => by
    obtain ⟨a0, a1, a2, ⟨⟩⟩ := τ
    obtain ⟨m, hm⟩ := Rn_bits_Add32 a0 a1 a2 r h
    exact ⟨m, (top_bits_Add32 (tb_bits_Add32 m) a0 a1 a2).trans (hm m (Nat.le_refl m))⟩)

abbrev E_natural_Shr : Env := mkE tys [] [(51, mixO (callO [] false (.int .u32) .pre (fun τ l => O_natural_trim l)) (callI (callE [.slice (.int .u32)] [(.slice (.int .u32), false)] (fun τ => F_natural_trim τ.1))))]
def c_natural_Shr : List (Nat × Live) := [(37, ⟨[(6, .int .i64), (29, .int .i64), (30, .int .i64)], [(false, 7, .int .u32)], []⟩), (56, ⟨[(6, .int .i64), (8, .int .i64), (9, .int .u32), (29, .int .i64), (30, .int .i64)], [(false, 7, .int .u32)], []⟩)]
noncomputable abbrev fe_natural_Shr := (finE (E_natural_Shr) [(.slice (.int .u32), false)] Try.f75.results.toList)
noncomputable abbrev cn_natural_Shr_37 (x6 : Int) (x29 : Int) (x30 : Int) (x7 : List Int) : St := ⟨[(7, .one (.loc (.int .u32) 10000)), (30, .one (.val (.int .i64) x30)), (29, .one (.val (.int .i64) x29)), (6, .one (.val (.int .i64) x6))], [(10000, some ⟨.int .u32, x7, false⟩)]⟩
noncomputable abbrev kk_natural_Shr_37 (S : Nat → KT (RT [(.slice (.int .u32), false)])) := fun (x6 : Int) (x29 : Int) (x30 : Int) (x7 : List Int) => S 37 (cn_natural_Shr_37 x6 x29 x30 x7)
noncomputable abbrev cn_natural_Shr_56 (x6 : Int) (x8 : Int) (x9 : Int) (x29 : Int) (x30 : Int) (x7 : List Int) : St := ⟨[(7, .one (.loc (.int .u32) 10000)), (30, .one (.val (.int .i64) x30)), (29, .one (.val (.int .i64) x29)), (9, .one (.val (.int .u32) x9)), (8, .one (.val (.int .i64) x8)), (6, .one (.val (.int .i64) x6))], [(10000, some ⟨.int .u32, x7, false⟩)]⟩
noncomputable abbrev kk_natural_Shr_56 (S : Nat → KT (RT [(.slice (.int .u32), false)])) := fun (x6 : Int) (x8 : Int) (x9 : Int) (x29 : Int) (x30 : Int) (x7 : List Int) => S 56 (cn_natural_Shr_56 x6 x8 x9 x29 x30 x7)
theorem top_natural_Shr (S : Nat → KT (RT [(.slice (.int .u32), false)])) (a0 : List Int) (a1 : Int) : evA (E_natural_Shr) (lk c_natural_Shr) S (bodyOf Try.f75) noX (fe_natural_Shr) (fe_natural_Shr) (initSt [.slice (.int .u32), .int .i64] (a0, a1, ())) = T_natural_Shr (kk_natural_Shr_37 S) (kk_natural_Shr_56 S) a0 a1 := by kernel_rfl
theorem seg_natural_Shr_37 (S : Nat → KT (RT [(.slice (.int .u32), false)])) (x6 : Int) (x29 : Int) (x30 : Int) (x7 : List Int) : stepT (entry (E_natural_Shr) (lk c_natural_Shr) S 37 (bodyOf Try.f75) noX (fe_natural_Shr) (fe_natural_Shr)) (cn_natural_Shr_37 x6 x29 x30 x7) = S_natural_Shr_37 (kk_natural_Shr_37 S) (kk_natural_Shr_56 S) x6 x29 x30 x7 := by kernel_rfl
theorem seg_natural_Shr_56 (S : Nat → KT (RT [(.slice (.int .u32), false)])) (x6 : Int) (x8 : Int) (x9 : Int) (x29 : Int) (x30 : Int) (x7 : List Int) : stepT (entry (E_natural_Shr) (lk c_natural_Shr) S 56 (bodyOf Try.f75) noX (fe_natural_Shr) (fe_natural_Shr)) (cn_natural_Shr_56 x6 x8 x9 x29 x30 x7) = S_natural_Shr_56 (kk_natural_Shr_37 S) (kk_natural_Shr_56 S) x6 x8 x9 x29 x30 x7 := by kernel_rfl
noncomputable abbrev tb_natural_Shr := tab (E_natural_Shr) (lk c_natural_Shr) (bodyOf Try.f75) (fe_natural_Shr)
theorem ok_natural_Shr : EnvOK Try.prog (E_natural_Shr) := mkE_ok tys_ok trivial ⟨⟨PSound.mix os_natural_trim.psound (CSound.psound fs_natural_trim.csound), ⟨Try.f51, by kernel_rfl, by kernel_rfl, by kernel_rfl⟩⟩, trivial⟩
theorem fs_natural_Shr : FSound Try.prog 75 [.slice (.int .u32), .int .i64] [(.slice (.int .u32), false)] (fun τ => F_natural_Shr τ.1 τ.2.1) :=
  evG_sound (E := (E_natural_Shr)) (C := (lk c_natural_Shr)) ok_natural_Shr mixed_ok (fn := Try.f75) (c := (bodyOf Try.f75)) (by kernel_rfl) (by kernel_rfl) (by kernel_rfl) (by kernel_rfl) (by kernel_rfl) (by kernel_rfl) (fun τ r h => by
    obtain ⟨a0, a1, ⟨⟩⟩ := τ
    obtain ⟨m, hm⟩ := Rn_natural_Shr (fun m => kk_natural_Shr_37 (tb_natural_Shr m)) (fun m => kk_natural_Shr_56 (tb_natural_Shr m)) (fun m x6 x29 x30 x7 => (tab_succ (E_natural_Shr) (lk c_natural_Shr) (bodyOf Try.f75) (fe_natural_Shr) m 37 (cn_natural_Shr_37 x6 x29 x30 x7)).trans (seg_natural_Shr_37 (tb_natural_Shr m) x6 x29 x30 x7)) (fun m x6 x8 x9 x29 x30 x7 => (tab_succ (E_natural_Shr) (lk c_natural_Shr) (bodyOf Try.f75) (fe_natural_Shr) m 56 (cn_natural_Shr_56 x6 x8 x9 x29 x30 x7)).trans (seg_natural_Shr_56 (tb_natural_Shr m) x6 x8 x9 x29 x30 x7)) a0 a1 r h
    exact ⟨m, (top_natural_Shr (tb_natural_Shr m) a0 a1).trans (hm m (Nat.le_refl m))⟩)

abbrev E_division_long : Env := mkE tys [(57, callE [.int .u64] [(.slice (.int .u32), false)] (fun τ => F_natural_Of τ.1)), (61, callE [.slice (.int .u32), .slice (.int .u32)] [(.int .i64, false)] (fun τ => F_natural_Cmp τ.1 τ.2.1)), (62, callE [.slice (.int .u32)] [(.slice (.int .u32), true)] (fun τ => F_natural_Normal τ.1)), (70, callE [.slice (.int .u32), .int .u32] [(.slice (.int .u32), false), (.int .u32, false), (.bool, false)] (fun τ => F_natural_DivSmall τ.1 τ.2.1)), (71, callE [.int .u32] [(.int .i64, false)] (fun τ => F_bits_LeadingZeros32 τ.1)), (72, callE [.slice (.int .u32), .int .i64] [(.slice (.int .u32), true)] (fun τ => F_natural_Shl τ.1 τ.2.1)), (73, callE [.int .u64, .int .u64, .int .u64] [(.int .u64, false), (.int .u64, false)] (fun τ => F_bits_Div64 τ.1 τ.2.1 τ.2.2.1)), (74, callE [.int .u32, .int .u32, .int .u32] [(.int .u32, false), (.int .u32, false)] (fun τ => F_bits_Add32 τ.1 τ.2.1 τ.2.2.1)), (75, callE [.slice (.int .u32), .int .i64] [(.slice (.int .u32), false)] (fun τ => F_natural_Shr τ.1 τ.2.1))] []
def c_division_long : List (Nat × Live) := [(57, ⟨[(6, .int .i64), (10, .int .i64), (13, .int .u64), (14, .int .u64), (15, .int .i64)], [(false, 4, .int .u32), (false, 11, .int .u32), (false, 12, .int .u32)], []⟩), (69, ⟨[(6, .int .i64), (10, .int .i64), (13, .int .u64), (14, .int .u64), (15, .int .i64), (16, .int .u64), (17, .int .u64)], [(false, 4, .int .u32), (false, 11, .int .u32), (false, 12, .int .u32)], []⟩), (93, ⟨[(6, .int .i64), (10, .int .i64), (13, .int .u64), (14, .int .u64), (15, .int .i64), (16, .int .u64), (18, .int .u64), (19, .int .u64), (142, .int .i64), (143, .int .i64)], [(false, 4, .int .u32), (false, 11, .int .u32), (false, 12, .int .u32)], [141]⟩), (153, ⟨[(6, .int .i64), (10, .int .i64), (13, .int .u64), (14, .int .u64), (15, .int .i64), (25, .int .u32), (211, .int .i64), (212, .int .i64)], [(false, 4, .int .u32), (false, 11, .int .u32), (false, 12, .int .u32)], [210]⟩)]
noncomputable abbrev fe_division_long := (finE (E_division_long) [(.slice (.int .u32), false), (.slice (.int .u32), false)] Try.f64.results.toList)
noncomputable abbrev cn_division_long_57 (x6 : Int) (x10 : Int) (x13 : Int) (x14 : Int) (x15 : Int) (x4 : List Int) (x11 : List Int) (x12 : List Int) : St := ⟨[(12, .one (.loc (.int .u32) 10002)), (11, .one (.loc (.int .u32) 10001)), (4, .one (.loc (.int .u32) 10000)), (15, .one (.val (.int .i64) x15)), (14, .one (.val (.int .u64) x14)), (13, .one (.val (.int .u64) x13)), (10, .one (.val (.int .i64) x10)), (6, .one (.val (.int .i64) x6))], [(10002, some ⟨.int .u32, x12, false⟩), (10001, some ⟨.int .u32, x11, false⟩), (10000, some ⟨.int .u32, x4, false⟩)]⟩
noncomputable abbrev kk_division_long_57 (S : Nat → KT (RT [(.slice (.int .u32), false), (.slice (.int .u32), false)])) := fun (x6 : Int) (x10 : Int) (x13 : Int) (x14 : Int) (x15 : Int) (x4 : List Int) (x11 : List Int) (x12 : List Int) => S 57 (cn_division_long_57 x6 x10 x13 x14 x15 x4 x11 x12)
noncomputable abbrev cn_division_long_69 (x6 : Int) (x10 : Int) (x13 : Int) (x14 : Int) (x15 : Int) (x16 : Int) (x17 : Int) (x4 : List Int) (x11 : List Int) (x12 : List Int) : St := ⟨[(12, .one (.loc (.int .u32) 10002)), (11, .one (.loc (.int .u32) 10001)), (4, .one (.loc (.int .u32) 10000)), (17, .one (.val (.int .u64) x17)), (16, .one (.val (.int .u64) x16)), (15, .one (.val (.int .i64) x15)), (14, .one (.val (.int .u64) x14)), (13, .one (.val (.int .u64) x13)), (10, .one (.val (.int .i64) x10)), (6, .one (.val (.int .i64) x6))], [(10002, some ⟨.int .u32, x12, false⟩), (10001, some ⟨.int .u32, x11, false⟩), (10000, some ⟨.int .u32, x4, false⟩)]⟩
noncomputable abbrev kk_division_long_69 (S : Nat → KT (RT [(.slice (.int .u32), false), (.slice (.int .u32), false)])) := fun (x6 : Int) (x10 : Int) (x13 : Int) (x14 : Int) (x15 : Int) (x16 : Int) (x17 : Int) (x4 : List Int) (x11 : List Int) (x12 : List Int) => S 69 (cn_division_long_69 x6 x10 x13 x14 x15 x16 x17 x4 x11 x12)
noncomputable abbrev cn_division_long_93 (x6 : Int) (x10 : Int) (x13 : Int) (x14 : Int) (x15 : Int) (x16 : Int) (x18 : Int) (x19 : Int) (x142 : Int) (x143 : Int) (x4 : List Int) (x11 : List Int) (x12 : List Int) : St := ⟨[(141, .one (.loc (.int .u32) 10001)), (12, .one (.loc (.int .u32) 10002)), (11, .one (.loc (.int .u32) 10001)), (4, .one (.loc (.int .u32) 10000)), (143, .one (.val (.int .i64) x143)), (142, .one (.val (.int .i64) x142)), (19, .one (.val (.int .u64) x19)), (18, .one (.val (.int .u64) x18)), (16, .one (.val (.int .u64) x16)), (15, .one (.val (.int .i64) x15)), (14, .one (.val (.int .u64) x14)), (13, .one (.val (.int .u64) x13)), (10, .one (.val (.int .i64) x10)), (6, .one (.val (.int .i64) x6))], [(10002, some ⟨.int .u32, x12, false⟩), (10001, some ⟨.int .u32, x11, false⟩), (10000, some ⟨.int .u32, x4, false⟩)]⟩
noncomputable abbrev kk_division_long_93 (S : Nat → KT (RT [(.slice (.int .u32), false), (.slice (.int .u32), false)])) := fun (x6 : Int) (x10 : Int) (x13 : Int) (x14 : Int) (x15 : Int) (x16 : Int) (x18 : Int) (x19 : Int) (x142 : Int) (x143 : Int) (x4 : List Int) (x11 : List Int) (x12 : List Int) => S 93 (cn_division_long_93 x6 x10 x13 x14 x15 x16 x18 x19 x142 x143 x4 x11 x12)
noncomputable abbrev cn_division_long_153 (x6 : Int) (x10 : Int) (x13 : Int) (x14 : Int) (x15 : Int) (x25 : Int) (x211 : Int) (x212 : Int) (x4 : List Int) (x11 : List Int) (x12 : List Int) : St := ⟨[(210, .one (.loc (.int .u32) 10001)), (12, .one (.loc (.int .u32) 10002)), (11, .one (.loc (.int .u32) 10001)), (4, .one (.loc (.int .u32) 10000)), (212, .one (.val (.int .i64) x212)), (211, .one (.val (.int .i64) x211)), (25, .one (.val (.int .u32) x25)), (15, .one (.val (.int .i64) x15)), (14, .one (.val (.int .u64) x14)), (13, .one (.val (.int .u64) x13)), (10, .one (.val (.int .i64) x10)), (6, .one (.val (.int .i64) x6))], [(10002, some ⟨.int .u32, x12, false⟩), (10001, some ⟨.int .u32, x11, false⟩), (10000, some ⟨.int .u32, x4, false⟩)]⟩
noncomputable abbrev kk_division_long_153 (S : Nat → KT (RT [(.slice (.int .u32), false), (.slice (.int .u32), false)])) := fun (x6 : Int) (x10 : Int) (x13 : Int) (x14 : Int) (x15 : Int) (x25 : Int) (x211 : Int) (x212 : Int) (x4 : List Int) (x11 : List Int) (x12 : List Int) => S 153 (cn_division_long_153 x6 x10 x13 x14 x15 x25 x211 x212 x4 x11 x12)
theorem top_division_long (S : Nat → KT (RT [(.slice (.int .u32), false), (.slice (.int .u32), false)])) (a0 : List Int) (a1 : List Int) : evA (E_division_long) (lk c_division_long) S (bodyOf Try.f64) noX (fe_division_long) (fe_division_long) (initSt [.slice (.int .u32), .slice (.int .u32)] (a0, a1, ())) = T_division_long (kk_division_long_57 S) (kk_division_long_69 S) (kk_division_long_93 S) (kk_division_long_153 S) a0 a1 := by kernel_rfl
theorem seg_division_long_57 (S : Nat → KT (RT [(.slice (.int .u32), false), (.slice (.int .u32), false)])) (x6 : Int) (x10 : Int) (x13 : Int) (x14 : Int) (x15 : Int) (x4 : List Int) (x11 : List Int) (x12 : List Int) : stepT (entry (E_division_long) (lk c_division_long) S 57 (bodyOf Try.f64) noX (fe_division_long) (fe_division_long)) (cn_division_long_57 x6 x10 x13 x14 x15 x4 x11 x12) = S_division_long_57 (kk_division_long_57 S) (kk_division_long_69 S) (kk_division_long_93 S) (kk_division_long_153 S) x6 x10 x13 x14 x15 x4 x11 x12 := by kernel_rfl
theorem seg_division_long_69 (S : Nat → KT (RT [(.slice (.int .u32), false), (.slice (.int .u32), false)])) (x6 : Int) (x10 : Int) (x13 : Int) (x14 : Int) (x15 : Int) (x16 : Int) (x17 : Int) (x4 : List Int) (x11 : List Int) (x12 : List Int) : stepT (entry (E_division_long) (lk c_division_long) S 69 (bodyOf Try.f64) noX (fe_division_long) (fe_division_long)) (cn_division_long_69 x6 x10 x13 x14 x15 x16 x17 x4 x11 x12) = S_division_long_69 (kk_division_long_57 S) (kk_division_long_69 S) (kk_division_long_93 S) (kk_division_long_153 S) x6 x10 x13 x14 x15 x16 x17 x4 x11 x12 := by kernel_rfl
theorem seg_division_long_93 (S : Nat → KT (RT [(.slice (.int .u32), false), (.slice (.int .u32), false)])) (x6 : Int) (x10 : Int) (x13 : Int) (x14 : Int) (x15 : Int) (x16 : Int) (x18 : Int) (x19 : Int) (x142 : Int) (x143 : Int) (x4 : List Int) (x11 : List Int) (x12 : List Int) : stepT (entry (E_division_long) (lk c_division_long) S 93 (bodyOf Try.f64) noX (fe_division_long) (fe_division_long)) (cn_division_long_93 x6 x10 x13 x14 x15 x16 x18 x19 x142 x143 x4 x11 x12) = S_division_long_93 (kk_division_long_57 S) (kk_division_long_69 S) (kk_division_long_93 S) (kk_division_long_153 S) x6 x10 x13 x14 x15 x16 x18 x19 x142 x143 x4 x11 x12 := by kernel_rfl
theorem seg_division_long_153 (S : Nat → KT (RT [(.slice (.int .u32), false), (.slice (.int .u32), false)])) (x6 : Int) (x10 : Int) (x13 : Int) (x14 : Int) (x15 : Int) (x25 : Int) (x211 : Int) (x212 : Int) (x4 : List Int) (x11 : List Int) (x12 : List Int) : stepT (entry (E_division_long) (lk c_division_long) S 153 (bodyOf Try.f64) noX (fe_division_long) (fe_division_long)) (cn_division_long_153 x6 x10 x13 x14 x15 x25 x211 x212 x4 x11 x12) = S_division_long_153 (kk_division_long_57 S) (kk_division_long_69 S) (kk_division_long_93 S) (kk_division_long_153 S) x6 x10 x13 x14 x15 x25 x211 x212 x4 x11 x12 := by kernel_rfl
noncomputable abbrev tb_division_long := tab (E_division_long) (lk c_division_long) (bodyOf Try.f64) (fe_division_long)
theorem ok_division_long : EnvOK Try.prog (E_division_long) := mkE_ok tys_ok ⟨⟨fs_natural_Of.csound, ⟨Try.f57, by kernel_rfl, by kernel_rfl, by kernel_rfl⟩⟩, ⟨fs_natural_Cmp.csound, ⟨Try.f61, by kernel_rfl, by kernel_rfl, by kernel_rfl⟩⟩, ⟨fs_natural_Normal.csound, ⟨Try.f62, by kernel_rfl, by kernel_rfl, by kernel_rfl⟩⟩, ⟨fs_natural_DivSmall.csound, ⟨Try.f70, by kernel_rfl, by kernel_rfl, by kernel_rfl⟩⟩, ⟨fs_bits_LeadingZeros32.csound, ⟨Try.f71, by kernel_rfl, by kernel_rfl, by kernel_rfl⟩⟩, ⟨fs_natural_Shl.csound, ⟨Try.f72, by kernel_rfl, by kernel_rfl, by kernel_rfl⟩⟩, ⟨fs_bits_Div64.csound, ⟨Try.f73, by kernel_rfl, by kernel_rfl, by kernel_rfl⟩⟩, ⟨fs_bits_Add32.csound, ⟨Try.f74, by kernel_rfl, by kernel_rfl, by kernel_rfl⟩⟩, ⟨fs_natural_Shr.csound, ⟨Try.f75, by kernel_rfl, by kernel_rfl, by kernel_rfl⟩⟩, trivial⟩ trivial
theorem fs_division_long : FSound Try.prog 64 [.slice (.int .u32), .slice (.int .u32)] [(.slice (.int .u32), false), (.slice (.int .u32), false)] (fun τ => F_division_long τ.1 τ.2.1) :=
  evG_sound (E := (E_division_long)) (C := (lk c_division_long)) ok_division_long mixed_ok (fn := Try.f64) (c := (bodyOf Try.f64)) (by kernel_rfl) (by kernel_rfl) (by kernel_rfl) (by kernel_rfl) (by kernel_rfl) (by kernel_rfl) (fun τ r h => by
    obtain ⟨a0, a1, ⟨⟩⟩ := τ
    obtain ⟨m, hm⟩ := Rn_division_long (fun m => kk_division_long_57 (tb_division_long m)) (fun m => kk_division_long_69 (tb_division_long m)) (fun m => kk_division_long_93 (tb_division_long m)) (fun m => kk_division_long_153 (tb_division_long m)) (fun m x6 x10 x13 x14 x15 x4 x11 x12 => (tab_succ (E_division_long) (lk c_division_long) (bodyOf Try.f64) (fe_division_long) m 57 (cn_division_long_57 x6 x10 x13 x14 x15 x4 x11 x12)).trans (seg_division_long_57 (tb_division_long m) x6 x10 x13 x14 x15 x4 x11 x12)) (fun m x6 x10 x13 x14 x15 x16 x17 x4 x11 x12 => (tab_succ (E_division_long) (lk c_division_long) (bodyOf Try.f64) (fe_division_long) m 69 (cn_division_long_69 x6 x10 x13 x14 x15 x16 x17 x4 x11 x12)).trans (seg_division_long_69 (tb_division_long m) x6 x10 x13 x14 x15 x16 x17 x4 x11 x12)) (fun m x6 x10 x13 x14 x15 x16 x18 x19 x142 x143 x4 x11 x12 => (tab_succ (E_division_long) (lk c_division_long) (bodyOf Try.f64) (fe_division_long) m 93 (cn_division_long_93 x6 x10 x13 x14 x15 x16 x18 x19 x142 x143 x4 x11 x12)).trans (seg_division_long_93 (tb_division_long m) x6 x10 x13 x14 x15 x16 x18 x19 x142 x143 x4 x11 x12)) (fun m x6 x10 x13 x14 x15 x25 x211 x212 x4 x11 x12 => (tab_succ (E_division_long) (lk c_division_long) (bodyOf Try.f64) (fe_division_long) m 153 (cn_division_long_153 x6 x10 x13 x14 x15 x25 x211 x212 x4 x11 x12)).trans (seg_division_long_153 (tb_division_long m) x6 x10 x13 x14 x15 x25 x211 x212 x4 x11 x12)) a0 a1 r h
    exact ⟨m, (top_division_long (tb_division_long m) a0 a1).trans (hm m (Nat.le_refl m))⟩)

abbrev E_division_Gcd : Env := mkE tys [(52, callE [.bool, .slice (.int .u32)] [(.pair (.bool) (.slice (.int .u32)), false)] (fun τ => F_integer_From τ.1 τ.2.1)), (57, callE [.int .u64] [(.slice (.int .u32), false)] (fun τ => F_natural_Of τ.1)), (62, callE [.slice (.int .u32)] [(.slice (.int .u32), true)] (fun τ => F_natural_Normal τ.1)), (63, callE [.slice (.int .u32)] [(.int .u64, false), (.bool, false)] (fun τ => F_natural_Uint64 τ.1)), (64, callE [.slice (.int .u32), .slice (.int .u32)] [(.slice (.int .u32), false), (.slice (.int .u32), false)] (fun τ => F_division_long τ.1 τ.2.1))] []
def c_division_Gcd : List (Nat × Live) := [(9, ⟨[(5, .slice (.int .u32)), (6, .slice (.int .u32))], [(true, 4, .pair (.bool) (.slice (.int .u32)))], []⟩), (29, ⟨[(7, .int .u64), (9, .int .u64)], [(true, 4, .pair (.bool) (.slice (.int .u32)))], []⟩)]
noncomputable abbrev fe_division_Gcd := (finE (E_division_Gcd) [(.pair (.bool) (.slice (.int .u32)), false)] Try.f46.results.toList)
noncomputable abbrev cn_division_Gcd_9 (x5 : List Int) (x6 : List Int) (x4 : Bool × List Int) : St := ⟨[(4, .one (.ptr 10000 0 [])), (6, .one (.val (.slice (.int .u32)) x6)), (5, .one (.val (.slice (.int .u32)) x5))], [(10000, some ⟨.pair (.bool) (.slice (.int .u32)), [x4], false⟩)]⟩
noncomputable abbrev kk_division_Gcd_9 (S : Nat → KT (RT [(.pair (.bool) (.slice (.int .u32)), false)])) := fun (x5 : List Int) (x6 : List Int) (x4 : Bool × List Int) => S 9 (cn_division_Gcd_9 x5 x6 x4)
noncomputable abbrev cn_division_Gcd_29 (x7 : Int) (x9 : Int) (x4 : Bool × List Int) : St := ⟨[(4, .one (.ptr 10000 0 [])), (9, .one (.val (.int .u64) x9)), (7, .one (.val (.int .u64) x7))], [(10000, some ⟨.pair (.bool) (.slice (.int .u32)), [x4], false⟩)]⟩
noncomputable abbrev kk_division_Gcd_29 (S : Nat → KT (RT [(.pair (.bool) (.slice (.int .u32)), false)])) := fun (x7 : Int) (x9 : Int) (x4 : Bool × List Int) => S 29 (cn_division_Gcd_29 x7 x9 x4)
theorem top_division_Gcd (S : Nat → KT (RT [(.pair (.bool) (.slice (.int .u32)), false)])) (a0 : Bool × List Int) (a1 : Bool × List Int) : evA (E_division_Gcd) (lk c_division_Gcd) S (bodyOf Try.f46) noX (fe_division_Gcd) (fe_division_Gcd) (initSt [.pair (.bool) (.slice (.int .u32)), .pair (.bool) (.slice (.int .u32))] (a0, a1, ())) = T_division_Gcd (kk_division_Gcd_9 S) (kk_division_Gcd_29 S) a0 a1 := by kernel_rfl
theorem seg_division_Gcd_9 (S : Nat → KT (RT [(.pair (.bool) (.slice (.int .u32)), false)])) (x5 : List Int) (x6 : List Int) (x4 : Bool × List Int) : stepT (entry (E_division_Gcd) (lk c_division_Gcd) S 9 (bodyOf Try.f46) noX (fe_division_Gcd) (fe_division_Gcd)) (cn_division_Gcd_9 x5 x6 x4) = S_division_Gcd_9 (kk_division_Gcd_9 S) (kk_division_Gcd_29 S) x5 x6 x4 := by kernel_rfl
theorem seg_division_Gcd_29 (S : Nat → KT (RT [(.pair (.bool) (.slice (.int .u32)), false)])) (x7 : Int) (x9 : Int) (x4 : Bool × List Int) : stepT (entry (E_division_Gcd) (lk c_division_Gcd) S 29 (bodyOf Try.f46) noX (fe_division_Gcd) (fe_division_Gcd)) (cn_division_Gcd_29 x7 x9 x4) = S_division_Gcd_29 (kk_division_Gcd_9 S) (kk_division_Gcd_29 S) x7 x9 x4 := by kernel_rfl
noncomputable abbrev tb_division_Gcd := tab (E_division_Gcd) (lk c_division_Gcd) (bodyOf Try.f46) (fe_division_Gcd)
theorem ok_division_Gcd : EnvOK Try.prog (E_division_Gcd) := mkE_ok tys_ok ⟨⟨fs_integer_From.csound, ⟨Try.f52, by kernel_rfl, by kernel_rfl, by kernel_rfl⟩⟩, ⟨fs_natural_Of.csound, ⟨Try.f57, by kernel_rfl, by kernel_rfl, by kernel_rfl⟩⟩, ⟨fs_natural_Normal.csound, ⟨Try.f62, by kernel_rfl, by kernel_rfl, by kernel_rfl⟩⟩, ⟨fs_natural_Uint64.csound, ⟨Try.f63, by kernel_rfl, by kernel_rfl, by kernel_rfl⟩⟩, ⟨fs_division_long.csound, ⟨Try.f64, by kernel_rfl, by kernel_rfl, by kernel_rfl⟩⟩, trivial⟩ trivial
theorem fs_division_Gcd : FSound Try.prog 46 [.pair (.bool) (.slice (.int .u32)), .pair (.bool) (.slice (.int .u32))] [(.pair (.bool) (.slice (.int .u32)), false)] (fun τ => F_division_Gcd τ.1 τ.2.1) :=
  evG_sound (E := (E_division_Gcd)) (C := (lk c_division_Gcd)) ok_division_Gcd mixed_ok (fn := Try.f46) (c := (bodyOf Try.f46)) (by kernel_rfl) (by kernel_rfl) (by kernel_rfl) (by kernel_rfl) (by kernel_rfl) (by kernel_rfl) (fun τ r h => by
    obtain ⟨a0, a1, ⟨⟩⟩ := τ
    obtain ⟨m, hm⟩ := Rn_division_Gcd (fun m => kk_division_Gcd_9 (tb_division_Gcd m)) (fun m => kk_division_Gcd_29 (tb_division_Gcd m)) (fun m x5 x6 x4 => (tab_succ (E_division_Gcd) (lk c_division_Gcd) (bodyOf Try.f46) (fe_division_Gcd) m 9 (cn_division_Gcd_9 x5 x6 x4)).trans (seg_division_Gcd_9 (tb_division_Gcd m) x5 x6 x4)) (fun m x7 x9 x4 => (tab_succ (E_division_Gcd) (lk c_division_Gcd) (bodyOf Try.f46) (fe_division_Gcd) m 29 (cn_division_Gcd_29 x7 x9 x4)).trans (seg_division_Gcd_29 (tb_division_Gcd m) x7 x9 x4)) a0 a1 r h
    exact ⟨m, (top_division_Gcd (tb_division_Gcd m) a0 a1).trans (hm m (Nat.le_refl m))⟩)

abbrev E_unidiv_Content : Env := mkE tys [(46, callE [.pair (.bool) (.slice (.int .u32)), .pair (.bool) (.slice (.int .u32))] [(.pair (.bool) (.slice (.int .u32)), false)] (fun τ => F_division_Gcd τ.1 τ.2.1))] []
def c_unidiv_Content : List (Nat × Live) := [(13, ⟨[(7, .slice (.pair (.bool) (.slice (.int .u32)))), (8, .int .i64), (9, .int .i64)], [(true, 2, .pair (.bool) (.slice (.int .u32))), (true, 3, .pair (.bool) (.slice (.int .u32)))], []⟩)]
noncomputable abbrev fe_unidiv_Content := (finE (E_unidiv_Content) [(.pair (.bool) (.slice (.int .u32)), false)] Try.f28.results.toList)
noncomputable abbrev cn_unidiv_Content_13 (x7 : List (Bool × List Int)) (x8 : Int) (x9 : Int) (x2 : Bool × List Int) (x3 : Bool × List Int) : St := ⟨[(3, .one (.ptr 10001 0 [])), (2, .one (.ptr 10000 0 [])), (9, .one (.val (.int .i64) x9)), (8, .one (.val (.int .i64) x8)), (7, .one (.val (.slice (.pair (.bool) (.slice (.int .u32)))) x7))], [(10001, some ⟨.pair (.bool) (.slice (.int .u32)), [x3], false⟩), (10000, some ⟨.pair (.bool) (.slice (.int .u32)), [x2], false⟩)]⟩
noncomputable abbrev kk_unidiv_Content_13 (S : Nat → KT (RT [(.pair (.bool) (.slice (.int .u32)), false)])) := fun (x7 : List (Bool × List Int)) (x8 : Int) (x9 : Int) (x2 : Bool × List Int) (x3 : Bool × List Int) => S 13 (cn_unidiv_Content_13 x7 x8 x9 x2 x3)
theorem top_unidiv_Content (S : Nat → KT (RT [(.pair (.bool) (.slice (.int .u32)), false)])) (a0 : List (Bool × List Int)) : evA (E_unidiv_Content) (lk c_unidiv_Content) S (bodyOf Try.f28) noX (fe_unidiv_Content) (fe_unidiv_Content) (initSt [.slice (.pair (.bool) (.slice (.int .u32)))] (a0, ())) = T_unidiv_Content (kk_unidiv_Content_13 S) a0 := by kernel_rfl
theorem seg_unidiv_Content_13 (S : Nat → KT (RT [(.pair (.bool) (.slice (.int .u32)), false)])) (x7 : List (Bool × List Int)) (x8 : Int) (x9 : Int) (x2 : Bool × List Int) (x3 : Bool × List Int) : stepT (entry (E_unidiv_Content) (lk c_unidiv_Content) S 13 (bodyOf Try.f28) noX (fe_unidiv_Content) (fe_unidiv_Content)) (cn_unidiv_Content_13 x7 x8 x9 x2 x3) = S_unidiv_Content_13 (kk_unidiv_Content_13 S) x7 x8 x9 x2 x3 := by kernel_rfl
noncomputable abbrev tb_unidiv_Content := tab (E_unidiv_Content) (lk c_unidiv_Content) (bodyOf Try.f28) (fe_unidiv_Content)
theorem ok_unidiv_Content : EnvOK Try.prog (E_unidiv_Content) := mkE_ok tys_ok ⟨⟨fs_division_Gcd.csound, ⟨Try.f46, by kernel_rfl, by kernel_rfl, by kernel_rfl⟩⟩, trivial⟩ trivial
theorem fs_unidiv_Content : FSound Try.prog 28 [.slice (.pair (.bool) (.slice (.int .u32)))] [(.pair (.bool) (.slice (.int .u32)), false)] (fun τ => F_unidiv_Content τ.1) :=
  evG_sound (E := (E_unidiv_Content)) (C := (lk c_unidiv_Content)) ok_unidiv_Content mixed_ok (fn := Try.f28) (c := (bodyOf Try.f28)) (by kernel_rfl) (by kernel_rfl) (by kernel_rfl) (by kernel_rfl) (by kernel_rfl) (by kernel_rfl) (fun τ r h => by
    obtain ⟨a0, ⟨⟩⟩ := τ
    obtain ⟨m, hm⟩ := Rn_unidiv_Content (fun m => kk_unidiv_Content_13 (tb_unidiv_Content m)) (fun m x7 x8 x9 x2 x3 => (tab_succ (E_unidiv_Content) (lk c_unidiv_Content) (bodyOf Try.f28) (fe_unidiv_Content) m 13 (cn_unidiv_Content_13 x7 x8 x9 x2 x3)).trans (seg_unidiv_Content_13 (tb_unidiv_Content m) x7 x8 x9 x2 x3)) a0 r h
    exact ⟨m, (top_unidiv_Content (tb_unidiv_Content m) a0).trans (hm m (Nat.le_refl m))⟩)

abbrev E_unipoly_Normal : Env := mkE tys [(37, callE [.pair (.bool) (.slice (.int .u32))] [(.pair (.bool) (.slice (.int .u32)), false)] (fun τ => F_integer_Normal τ.1))] [(25, mixO (callO [] false (.pair (.bool) (.slice (.int .u32))) .pre (fun τ l => O_unipoly_trim l)) (callI (callE [.slice (.pair (.bool) (.slice (.int .u32)))] [(.slice (.pair (.bool) (.slice (.int .u32))), false)] (fun τ => F_unipoly_trim τ.1))))]
def c_unipoly_Normal : List (Nat × Live) := [(13, ⟨[(0, .slice (.pair (.bool) (.slice (.int .u32)))), (10, .int .i64), (11, .int .i64)], [(false, 3, .pair (.bool) (.slice (.int .u32)))], []⟩)]
noncomputable abbrev fe_unipoly_Normal := (finE (E_unipoly_Normal) [(.slice (.pair (.bool) (.slice (.int .u32))), true)] Try.f30.results.toList)
noncomputable abbrev cn_unipoly_Normal_13 (x0 : List (Bool × List Int)) (x10 : Int) (x11 : Int) (x3 : List (Bool × List Int)) : St := ⟨[(3, .one (.loc (.pair (.bool) (.slice (.int .u32))) 10000)), (11, .one (.val (.int .i64) x11)), (10, .one (.val (.int .i64) x10)), (0, .one (.val (.slice (.pair (.bool) (.slice (.int .u32)))) x0))], [(10000, some ⟨.pair (.bool) (.slice (.int .u32)), x3, false⟩)]⟩
noncomputable abbrev kk_unipoly_Normal_13 (S : Nat → KT (RT [(.slice (.pair (.bool) (.slice (.int .u32))), true)])) := fun (x0 : List (Bool × List Int)) (x10 : Int) (x11 : Int) (x3 : List (Bool × List Int)) => S 13 (cn_unipoly_Normal_13 x0 x10 x11 x3)
theorem top_unipoly_Normal (S : Nat → KT (RT [(.slice (.pair (.bool) (.slice (.int .u32))), true)])) (a0 : List (Bool × List Int)) : evA (E_unipoly_Normal) (lk c_unipoly_Normal) S (bodyOf Try.f30) noX (fe_unipoly_Normal) (fe_unipoly_Normal) (initSt [.slice (.pair (.bool) (.slice (.int .u32)))] (a0, ())) = T_unipoly_Normal (kk_unipoly_Normal_13 S) a0 := by kernel_rfl
theorem seg_unipoly_Normal_13 (S : Nat → KT (RT [(.slice (.pair (.bool) (.slice (.int .u32))), true)])) (x0 : List (Bool × List Int)) (x10 : Int) (x11 : Int) (x3 : List (Bool × List Int)) : stepT (entry (E_unipoly_Normal) (lk c_unipoly_Normal) S 13 (bodyOf Try.f30) noX (fe_unipoly_Normal) (fe_unipoly_Normal)) (cn_unipoly_Normal_13 x0 x10 x11 x3) = S_unipoly_Normal_13 (kk_unipoly_Normal_13 S) x0 x10 x11 x3 := by kernel_rfl
noncomputable abbrev tb_unipoly_Normal := tab (E_unipoly_Normal) (lk c_unipoly_Normal) (bodyOf Try.f30) (fe_unipoly_Normal)
theorem ok_unipoly_Normal : EnvOK Try.prog (E_unipoly_Normal) := mkE_ok tys_ok ⟨⟨fs_integer_Normal.csound, ⟨Try.f37, by kernel_rfl, by kernel_rfl, by kernel_rfl⟩⟩, trivial⟩ ⟨⟨PSound.mix os_unipoly_trim.psound (CSound.psound fs_unipoly_trim.csound), ⟨Try.f25, by kernel_rfl, by kernel_rfl, by kernel_rfl⟩⟩, trivial⟩
theorem fs_unipoly_Normal : FSound Try.prog 30 [.slice (.pair (.bool) (.slice (.int .u32)))] [(.slice (.pair (.bool) (.slice (.int .u32))), true)] (fun τ => F_unipoly_Normal τ.1) :=
  evG_sound (E := (E_unipoly_Normal)) (C := (lk c_unipoly_Normal)) ok_unipoly_Normal mixed_ok (fn := Try.f30) (c := (bodyOf Try.f30)) (by kernel_rfl) (by kernel_rfl) (by kernel_rfl) (by kernel_rfl) (by kernel_rfl) (by kernel_rfl) (fun τ r h => by
    obtain ⟨a0, ⟨⟩⟩ := τ
    obtain ⟨m, hm⟩ := Rn_unipoly_Normal (fun m => kk_unipoly_Normal_13 (tb_unipoly_Normal m)) (fun m x0 x10 x11 x3 => (tab_succ (E_unipoly_Normal) (lk c_unipoly_Normal) (bodyOf Try.f30) (fe_unipoly_Normal) m 13 (cn_unipoly_Normal_13 x0 x10 x11 x3)).trans (seg_unipoly_Normal_13 (tb_unipoly_Normal m) x0 x10 x11 x3)) a0 r h
    exact ⟨m, (top_unipoly_Normal (tb_unipoly_Normal m) a0).trans (hm m (Nat.le_refl m))⟩)

abbrev E_division_zero : Env := mkE tys [(36, callE [.slice (.int .u32)] [(.bool, false)] (fun τ => F_natural_IsZero τ.1))] []
def c_division_zero : List (Nat × Live) := []
noncomputable abbrev fe_division_zero := (finE (E_division_zero) [(.bool, false)] Try.f60.results.toList)
theorem top_division_zero (S : Nat → KT (RT [(.bool, false)])) (a0 : Bool × List Int) : evA (E_division_zero) (lk c_division_zero) S (bodyOf Try.f60) noX (fe_division_zero) (fe_division_zero) (initSt [.pair (.bool) (.slice (.int .u32))] (a0, ())) = T_division_zero a0 := by kernel_rfl
noncomputable abbrev tb_division_zero := tab (E_division_zero) (lk c_division_zero) (bodyOf Try.f60) (fe_division_zero)
theorem ok_division_zero : EnvOK Try.prog (E_division_zero) := mkE_ok tys_ok ⟨⟨fs_natural_IsZero.csound, ⟨Try.f36, by kernel_rfl, by kernel_rfl, by kernel_rfl⟩⟩, trivial⟩ trivial
theorem fs_division_zero : FSound Try.prog 60 [.pair (.bool) (.slice (.int .u32))] [(.bool, false)] (fun τ => F_division_zero τ.1) :=
  evG_sound (E := (E_division_zero)) (C := (lk c_division_zero)) ok_division_zero mixed_ok (fn := Try.f60) (c := (bodyOf Try.f60)) (by kernel_rfl) (by kernel_rfl) (by kernel_rfl) (by kernel_rfl) (by kernel_rfl) (by kernel_rfl) (fun τ r h => by
    obtain ⟨a0, ⟨⟩⟩ := τ
    obtain ⟨m, hm⟩ := Rn_division_zero a0 r h
    exact ⟨m, (top_division_zero (tb_division_zero m) a0).trans (hm m (Nat.le_refl m))⟩)

abbrev E_division_Quo : Env := mkE tys [(52, callE [.bool, .slice (.int .u32)] [(.pair (.bool) (.slice (.int .u32)), false)] (fun τ => F_integer_From τ.1 τ.2.1)), (60, callE [.pair (.bool) (.slice (.int .u32))] [(.bool, false)] (fun τ => F_division_zero τ.1)), (64, callE [.slice (.int .u32), .slice (.int .u32)] [(.slice (.int .u32), false), (.slice (.int .u32), false)] (fun τ => F_division_long τ.1 τ.2.1))] []
def c_division_Quo : List (Nat × Live) := []
noncomputable abbrev fe_division_Quo := (finE (E_division_Quo) [(.pair (.bool) (.slice (.int .u32)), false), (.pair (.bool) (.slice (.int .u32)), false), (.int .i64, false)] Try.f59.results.toList)
theorem top_division_Quo (S : Nat → KT (RT [(.pair (.bool) (.slice (.int .u32)), false), (.pair (.bool) (.slice (.int .u32)), false), (.int .i64, false)])) (a0 : Bool × List Int) (a1 : Bool × List Int) : evA (E_division_Quo) (lk c_division_Quo) S (bodyOf Try.f59) noX (fe_division_Quo) (fe_division_Quo) (initSt [.pair (.bool) (.slice (.int .u32)), .pair (.bool) (.slice (.int .u32))] (a0, a1, ())) = T_division_Quo a0 a1 := by kernel_rfl
noncomputable abbrev tb_division_Quo := tab (E_division_Quo) (lk c_division_Quo) (bodyOf Try.f59) (fe_division_Quo)
theorem ok_division_Quo : EnvOK Try.prog (E_division_Quo) := mkE_ok tys_ok ⟨⟨fs_integer_From.csound, ⟨Try.f52, by kernel_rfl, by kernel_rfl, by kernel_rfl⟩⟩, ⟨fs_division_zero.csound, ⟨Try.f60, by kernel_rfl, by kernel_rfl, by kernel_rfl⟩⟩, ⟨fs_division_long.csound, ⟨Try.f64, by kernel_rfl, by kernel_rfl, by kernel_rfl⟩⟩, trivial⟩ trivial
theorem fs_division_Quo : FSound Try.prog 59 [.pair (.bool) (.slice (.int .u32)), .pair (.bool) (.slice (.int .u32))] [(.pair (.bool) (.slice (.int .u32)), false), (.pair (.bool) (.slice (.int .u32)), false), (.int .i64, false)] (fun τ => F_division_Quo τ.1 τ.2.1) :=
  evG_sound (E := (E_division_Quo)) (C := (lk c_division_Quo)) ok_division_Quo mixed_ok (fn := Try.f59) (c := (bodyOf Try.f59)) (by kernel_rfl) (by kernel_rfl) (by kernel_rfl) (by kernel_rfl) (by kernel_rfl) (by kernel_rfl) (fun τ r h => by
    obtain ⟨a0, a1, ⟨⟩⟩ := τ
    obtain ⟨m, hm⟩ := Rn_division_Quo a0 a1 r h
    exact ⟨m, (top_division_Quo (tb_division_Quo m) a0 a1).trans (hm m (Nat.le_refl m))⟩)

abbrev E_division_Exact : Env := mkE tys [(59, callE [.pair (.bool) (.slice (.int .u32)), .pair (.bool) (.slice (.int .u32))] [(.pair (.bool) (.slice (.int .u32)), false), (.pair (.bool) (.slice (.int .u32)), false), (.int .i64, false)] (fun τ => F_division_Quo τ.1 τ.2.1)), (60, callE [.pair (.bool) (.slice (.int .u32))] [(.bool, false)] (fun τ => F_division_zero τ.1))] []
def c_division_Exact : List (Nat × Live) := []
noncomputable abbrev fe_division_Exact := (finE (E_division_Exact) [(.pair (.bool) (.slice (.int .u32)), false), (.int .i64, false)] Try.f44.results.toList)
theorem top_division_Exact (S : Nat → KT (RT [(.pair (.bool) (.slice (.int .u32)), false), (.int .i64, false)])) (a0 : Bool × List Int) (a1 : Bool × List Int) : evA (E_division_Exact) (lk c_division_Exact) S (bodyOf Try.f44) noX (fe_division_Exact) (fe_division_Exact) (initSt [.pair (.bool) (.slice (.int .u32)), .pair (.bool) (.slice (.int .u32))] (a0, a1, ())) = T_division_Exact a0 a1 := by kernel_rfl
noncomputable abbrev tb_division_Exact := tab (E_division_Exact) (lk c_division_Exact) (bodyOf Try.f44) (fe_division_Exact)
theorem ok_division_Exact : EnvOK Try.prog (E_division_Exact) := mkE_ok tys_ok ⟨⟨fs_division_Quo.csound, ⟨Try.f59, by kernel_rfl, by kernel_rfl, by kernel_rfl⟩⟩, ⟨fs_division_zero.csound, ⟨Try.f60, by kernel_rfl, by kernel_rfl, by kernel_rfl⟩⟩, trivial⟩ trivial
theorem fs_division_Exact : FSound Try.prog 44 [.pair (.bool) (.slice (.int .u32)), .pair (.bool) (.slice (.int .u32))] [(.pair (.bool) (.slice (.int .u32)), false), (.int .i64, false)] (fun τ => F_division_Exact τ.1 τ.2.1) :=
  evG_sound (E := (E_division_Exact)) (C := (lk c_division_Exact)) ok_division_Exact mixed_ok (fn := Try.f44) (c := (bodyOf Try.f44)) (by kernel_rfl) (by kernel_rfl) (by kernel_rfl) (by kernel_rfl) (by kernel_rfl) (by kernel_rfl) (fun τ r h => by
    obtain ⟨a0, a1, ⟨⟩⟩ := τ
    obtain ⟨m, hm⟩ := Rn_division_Exact a0 a1 r h
    exact ⟨m, (top_division_Exact (tb_division_Exact m) a0 a1).trans (hm m (Nat.le_refl m))⟩)

abbrev E_sturm_reduced : Env := mkE tys [(12, callE [.pair (.bool) (.slice (.int .u32))] [(.int .i64, false)] (fun τ => F_integer_Sign τ.1)), (28, callE [.slice (.pair (.bool) (.slice (.int .u32)))] [(.pair (.bool) (.slice (.int .u32)), false)] (fun τ => F_unidiv_Content τ.1)), (30, callE [.slice (.pair (.bool) (.slice (.int .u32)))] [(.slice (.pair (.bool) (.slice (.int .u32))), true)] (fun τ => F_unipoly_Normal τ.1)), (44, callE [.pair (.bool) (.slice (.int .u32)), .pair (.bool) (.slice (.int .u32))] [(.pair (.bool) (.slice (.int .u32)), false), (.int .i64, false)] (fun τ => F_division_Exact τ.1 τ.2.1))] []
def c_sturm_reduced : List (Nat × Live) := [(25, ⟨[(0, .slice (.pair (.bool) (.slice (.int .u32)))), (15, .int .i64), (16, .int .i64)], [(true, 3, .pair (.bool) (.slice (.int .u32))), (false, 4, .pair (.bool) (.slice (.int .u32)))], []⟩)]
noncomputable abbrev fe_sturm_reduced := (finE (E_sturm_reduced) [(.slice (.pair (.bool) (.slice (.int .u32))), false)] Try.f23.results.toList)
noncomputable abbrev cn_sturm_reduced_25 (x0 : List (Bool × List Int)) (x15 : Int) (x16 : Int) (x3 : Bool × List Int) (x4 : List (Bool × List Int)) : St := ⟨[(4, .one (.loc (.pair (.bool) (.slice (.int .u32))) 10001)), (3, .one (.ptr 10000 0 [])), (16, .one (.val (.int .i64) x16)), (15, .one (.val (.int .i64) x15)), (0, .one (.val (.slice (.pair (.bool) (.slice (.int .u32)))) x0))], [(10001, some ⟨.pair (.bool) (.slice (.int .u32)), x4, false⟩), (10000, some ⟨.pair (.bool) (.slice (.int .u32)), [x3], false⟩)]⟩
noncomputable abbrev kk_sturm_reduced_25 (S : Nat → KT (RT [(.slice (.pair (.bool) (.slice (.int .u32))), false)])) := fun (x0 : List (Bool × List Int)) (x15 : Int) (x16 : Int) (x3 : Bool × List Int) (x4 : List (Bool × List Int)) => S 25 (cn_sturm_reduced_25 x0 x15 x16 x3 x4)
theorem top_sturm_reduced (S : Nat → KT (RT [(.slice (.pair (.bool) (.slice (.int .u32))), false)])) (a0 : List (Bool × List Int)) : evA (E_sturm_reduced) (lk c_sturm_reduced) S (bodyOf Try.f23) noX (fe_sturm_reduced) (fe_sturm_reduced) (initSt [.slice (.pair (.bool) (.slice (.int .u32)))] (a0, ())) = T_sturm_reduced (kk_sturm_reduced_25 S) a0 := by kernel_rfl
theorem seg_sturm_reduced_25 (S : Nat → KT (RT [(.slice (.pair (.bool) (.slice (.int .u32))), false)])) (x0 : List (Bool × List Int)) (x15 : Int) (x16 : Int) (x3 : Bool × List Int) (x4 : List (Bool × List Int)) : stepT (entry (E_sturm_reduced) (lk c_sturm_reduced) S 25 (bodyOf Try.f23) noX (fe_sturm_reduced) (fe_sturm_reduced)) (cn_sturm_reduced_25 x0 x15 x16 x3 x4) = S_sturm_reduced_25 (kk_sturm_reduced_25 S) x0 x15 x16 x3 x4 := by kernel_rfl
noncomputable abbrev tb_sturm_reduced := tab (E_sturm_reduced) (lk c_sturm_reduced) (bodyOf Try.f23) (fe_sturm_reduced)
theorem ok_sturm_reduced : EnvOK Try.prog (E_sturm_reduced) := mkE_ok tys_ok ⟨⟨fs_integer_Sign.csound, ⟨Try.f12, by kernel_rfl, by kernel_rfl, by kernel_rfl⟩⟩, ⟨fs_unidiv_Content.csound, ⟨Try.f28, by kernel_rfl, by kernel_rfl, by kernel_rfl⟩⟩, ⟨fs_unipoly_Normal.csound, ⟨Try.f30, by kernel_rfl, by kernel_rfl, by kernel_rfl⟩⟩, ⟨fs_division_Exact.csound, ⟨Try.f44, by kernel_rfl, by kernel_rfl, by kernel_rfl⟩⟩, trivial⟩ trivial
theorem fs_sturm_reduced : FSound Try.prog 23 [.slice (.pair (.bool) (.slice (.int .u32)))] [(.slice (.pair (.bool) (.slice (.int .u32))), false)] (fun τ => F_sturm_reduced τ.1) :=
  evG_sound (E := (E_sturm_reduced)) (C := (lk c_sturm_reduced)) ok_sturm_reduced mixed_ok (fn := Try.f23) (c := (bodyOf Try.f23)) (by kernel_rfl) (by kernel_rfl) (by kernel_rfl) (by kernel_rfl) (by kernel_rfl) (by kernel_rfl) (fun τ r h => by
    obtain ⟨a0, ⟨⟩⟩ := τ
    obtain ⟨m, hm⟩ := Rn_sturm_reduced (fun m => kk_sturm_reduced_25 (tb_sturm_reduced m)) (fun m x0 x15 x16 x3 x4 => (tab_succ (E_sturm_reduced) (lk c_sturm_reduced) (bodyOf Try.f23) (fe_sturm_reduced) m 25 (cn_sturm_reduced_25 x0 x15 x16 x3 x4)).trans (seg_sturm_reduced_25 (tb_sturm_reduced m) x0 x15 x16 x3 x4)) a0 r h
    exact ⟨m, (top_sturm_reduced (tb_sturm_reduced m) a0).trans (hm m (Nat.le_refl m))⟩)

abbrev E_integer_Of : Env := mkE tys [(56, callE [.bool, .slice (.int .u32)] [(.pair (.bool) (.slice (.int .u32)), false)] (fun τ => F_integer_made τ.1 τ.2.1)), (57, callE [.int .u64] [(.slice (.int .u32), false)] (fun τ => F_natural_Of τ.1))] []
def c_integer_Of : List (Nat × Live) := []
noncomputable abbrev fe_integer_Of := (finE (E_integer_Of) [(.pair (.bool) (.slice (.int .u32)), false)] Try.f41.results.toList)
theorem top_integer_Of (S : Nat → KT (RT [(.pair (.bool) (.slice (.int .u32)), false)])) (a0 : Int) : evA (E_integer_Of) (lk c_integer_Of) S (bodyOf Try.f41) noX (fe_integer_Of) (fe_integer_Of) (initSt [.int .i64] (a0, ())) = T_integer_Of a0 := by kernel_rfl
noncomputable abbrev tb_integer_Of := tab (E_integer_Of) (lk c_integer_Of) (bodyOf Try.f41) (fe_integer_Of)
theorem ok_integer_Of : EnvOK Try.prog (E_integer_Of) := mkE_ok tys_ok ⟨⟨fs_integer_made.csound, ⟨Try.f56, by kernel_rfl, by kernel_rfl, by kernel_rfl⟩⟩, ⟨fs_natural_Of.csound, ⟨Try.f57, by kernel_rfl, by kernel_rfl, by kernel_rfl⟩⟩, trivial⟩ trivial
theorem fs_integer_Of : FSound Try.prog 41 [.int .i64] [(.pair (.bool) (.slice (.int .u32)), false)] (fun τ => F_integer_Of τ.1) :=
  evG_sound (E := (E_integer_Of)) (C := (lk c_integer_Of)) ok_integer_Of mixed_ok (fn := Try.f41) (c := (bodyOf Try.f41)) (by kernel_rfl) (by kernel_rfl) (by kernel_rfl) (by kernel_rfl) (by kernel_rfl) (by kernel_rfl) (fun τ r h => by
    obtain ⟨a0, ⟨⟩⟩ := τ
    obtain ⟨m, hm⟩ := Rn_integer_Of a0 r h
    exact ⟨m, (top_integer_Of (tb_integer_Of m) a0).trans (hm m (Nat.le_refl m))⟩)

abbrev E_unipoly_Of : Env := mkE tys [(41, callE [.int .i64] [(.pair (.bool) (.slice (.int .u32)), false)] (fun τ => F_integer_Of τ.1))] [(25, mixO (callO [] false (.pair (.bool) (.slice (.int .u32))) .pre (fun τ l => O_unipoly_trim l)) (callI (callE [.slice (.pair (.bool) (.slice (.int .u32)))] [(.slice (.pair (.bool) (.slice (.int .u32))), false)] (fun τ => F_unipoly_trim τ.1))))]
def c_unipoly_Of : List (Nat × Live) := [(13, ⟨[(9, .slice (.int .i64)), (10, .int .i64), (11, .int .i64)], [(false, 3, .pair (.bool) (.slice (.int .u32)))], []⟩)]
noncomputable abbrev fe_unipoly_Of := (finE (E_unipoly_Of) [(.slice (.pair (.bool) (.slice (.int .u32))), false)] Try.f22.results.toList)
noncomputable abbrev cn_unipoly_Of_13 (x9 : List Int) (x10 : Int) (x11 : Int) (x3 : List (Bool × List Int)) : St := ⟨[(3, .one (.loc (.pair (.bool) (.slice (.int .u32))) 10000)), (11, .one (.val (.int .i64) x11)), (10, .one (.val (.int .i64) x10)), (9, .one (.val (.slice (.int .i64)) x9))], [(10000, some ⟨.pair (.bool) (.slice (.int .u32)), x3, false⟩)]⟩
noncomputable abbrev kk_unipoly_Of_13 (S : Nat → KT (RT [(.slice (.pair (.bool) (.slice (.int .u32))), false)])) := fun (x9 : List Int) (x10 : Int) (x11 : Int) (x3 : List (Bool × List Int)) => S 13 (cn_unipoly_Of_13 x9 x10 x11 x3)
theorem top_unipoly_Of (S : Nat → KT (RT [(.slice (.pair (.bool) (.slice (.int .u32))), false)])) (a0 : List Int) : evA (E_unipoly_Of) (lk c_unipoly_Of) S (bodyOf Try.f22) noX (fe_unipoly_Of) (fe_unipoly_Of) (initSt [.slice (.int .i64)] (a0, ())) = T_unipoly_Of (kk_unipoly_Of_13 S) a0 := by kernel_rfl
theorem seg_unipoly_Of_13 (S : Nat → KT (RT [(.slice (.pair (.bool) (.slice (.int .u32))), false)])) (x9 : List Int) (x10 : Int) (x11 : Int) (x3 : List (Bool × List Int)) : stepT (entry (E_unipoly_Of) (lk c_unipoly_Of) S 13 (bodyOf Try.f22) noX (fe_unipoly_Of) (fe_unipoly_Of)) (cn_unipoly_Of_13 x9 x10 x11 x3) = S_unipoly_Of_13 (kk_unipoly_Of_13 S) x9 x10 x11 x3 := by kernel_rfl
noncomputable abbrev tb_unipoly_Of := tab (E_unipoly_Of) (lk c_unipoly_Of) (bodyOf Try.f22) (fe_unipoly_Of)
theorem ok_unipoly_Of : EnvOK Try.prog (E_unipoly_Of) := mkE_ok tys_ok ⟨⟨fs_integer_Of.csound, ⟨Try.f41, by kernel_rfl, by kernel_rfl, by kernel_rfl⟩⟩, trivial⟩ ⟨⟨PSound.mix os_unipoly_trim.psound (CSound.psound fs_unipoly_trim.csound), ⟨Try.f25, by kernel_rfl, by kernel_rfl, by kernel_rfl⟩⟩, trivial⟩
theorem fs_unipoly_Of : FSound Try.prog 22 [.slice (.int .i64)] [(.slice (.pair (.bool) (.slice (.int .u32))), false)] (fun τ => F_unipoly_Of τ.1) :=
  evG_sound (E := (E_unipoly_Of)) (C := (lk c_unipoly_Of)) ok_unipoly_Of mixed_ok (fn := Try.f22) (c := (bodyOf Try.f22)) (by kernel_rfl) (by kernel_rfl) (by kernel_rfl) (by kernel_rfl) (by kernel_rfl) (by kernel_rfl) (fun τ r h => by
    obtain ⟨a0, ⟨⟩⟩ := τ
    obtain ⟨m, hm⟩ := Rn_unipoly_Of (fun m => kk_unipoly_Of_13 (tb_unipoly_Of m)) (fun m x9 x10 x11 x3 => (tab_succ (E_unipoly_Of) (lk c_unipoly_Of) (bodyOf Try.f22) (fe_unipoly_Of) m 13 (cn_unipoly_Of_13 x9 x10 x11 x3)).trans (seg_unipoly_Of_13 (tb_unipoly_Of m) x9 x10 x11 x3)) a0 r h
    exact ⟨m, (top_unipoly_Of (tb_unipoly_Of m) a0).trans (hm m (Nat.le_refl m))⟩)

abbrev E_unidiv_zero : Env := mkE tys [(8, callE [.slice (.pair (.bool) (.slice (.int .u32)))] [(.int .i64, false)] (fun τ => F_unipoly_Degree τ.1))] []
def c_unidiv_zero : List (Nat × Live) := []
noncomputable abbrev fe_unidiv_zero := (finE (E_unidiv_zero) [(.bool, false)] Try.f29.results.toList)
theorem top_unidiv_zero (S : Nat → KT (RT [(.bool, false)])) (a0 : List (Bool × List Int)) : evA (E_unidiv_zero) (lk c_unidiv_zero) S (bodyOf Try.f29) noX (fe_unidiv_zero) (fe_unidiv_zero) (initSt [.slice (.pair (.bool) (.slice (.int .u32)))] (a0, ())) = T_unidiv_zero a0 := by kernel_rfl
noncomputable abbrev tb_unidiv_zero := tab (E_unidiv_zero) (lk c_unidiv_zero) (bodyOf Try.f29) (fe_unidiv_zero)
theorem ok_unidiv_zero : EnvOK Try.prog (E_unidiv_zero) := mkE_ok tys_ok ⟨⟨fs_unipoly_Degree.csound, ⟨Try.f8, by kernel_rfl, by kernel_rfl, by kernel_rfl⟩⟩, trivial⟩ trivial
theorem fs_unidiv_zero : FSound Try.prog 29 [.slice (.pair (.bool) (.slice (.int .u32)))] [(.bool, false)] (fun τ => F_unidiv_zero τ.1) :=
  evG_sound (E := (E_unidiv_zero)) (C := (lk c_unidiv_zero)) ok_unidiv_zero mixed_ok (fn := Try.f29) (c := (bodyOf Try.f29)) (by kernel_rfl) (by kernel_rfl) (by kernel_rfl) (by kernel_rfl) (by kernel_rfl) (by kernel_rfl) (fun τ r h => by
    obtain ⟨a0, ⟨⟩⟩ := τ
    obtain ⟨m, hm⟩ := Rn_unidiv_zero a0 r h
    exact ⟨m, (top_unidiv_zero (tb_unidiv_zero m) a0).trans (hm m (Nat.le_refl m))⟩)

abbrev Eo_natural_Add_1 : Env := mkE tys [(74, callE [.int .u32, .int .u32, .int .u32] [(.int .u32, false), (.int .u32, false)] (fun τ => F_bits_Add32 τ.1 τ.2.1 τ.2.2.1))] []
def co_natural_Add_1 : List (Nat × Live) := []
noncomputable abbrev feo_natural_Add_1 := (finO (Eo_natural_Add_1) 2 true (.int .u32) (.one (.int .u32)) Try.f76.results.toList)
theorem topo_natural_Add_1 (S : Nat → KT (CD true (.int .u32) × RS.D (.one (.int .u32)))) (a0 : Int) (a1 : Int) (l : Int) : evA (Eo_natural_Add_1) (lk co_natural_Add_1) S (bodyOf Try.f76) noX (feo_natural_Add_1) (feo_natural_Add_1) (initO [.int .u32, .int .u32] (a0, a1, ()) true (.int .u32) l) = To_natural_Add_1 a0 a1 l := by kernel_rfl
noncomputable abbrev tbo_natural_Add_1 := tab (Eo_natural_Add_1) (lk co_natural_Add_1) (bodyOf Try.f76) (feo_natural_Add_1)
theorem oko_natural_Add_1 : EnvOK Try.prog (Eo_natural_Add_1) := mkE_ok tys_ok ⟨⟨fs_bits_Add32.csound, ⟨Try.f74, by kernel_rfl, by kernel_rfl, by kernel_rfl⟩⟩, trivial⟩ trivial
theorem os_natural_Add_1 : OSound Try.prog 76 [.int .u32, .int .u32] true (.int .u32) (.one (.int .u32)) (fun τ l => O_natural_Add_1 τ.1 τ.2.1 l) :=
  evO_sound (E := (Eo_natural_Add_1)) (C := (lk co_natural_Add_1)) oko_natural_Add_1 mixed_ok (fn := Try.f76) (k := (bodyOf Try.f76)) (by kernel_rfl) (by kernel_rfl) (by kernel_rfl) (by kernel_rfl) (by kernel_rfl) (fun τ l r h => by
    obtain ⟨a0, a1, ⟨⟩⟩ := τ
    obtain ⟨m, hm⟩ := Rno_natural_Add_1 a0 a1 l r h
    exact ⟨m, (topo_natural_Add_1 (tbo_natural_Add_1 m) a0 a1 l).trans (hm m (Nat.le_refl m))⟩)

abbrev E_natural_Add : Env := mkE tys [] [(51, mixO (callO [] false (.int .u32) .pre (fun τ l => O_natural_trim l)) (callI (callE [.slice (.int .u32)] [(.slice (.int .u32), false)] (fun τ => F_natural_trim τ.1)))), (76, callO [.int .u32, .int .u32] true (.int .u32) (.one (.int .u32)) (fun τ l => O_natural_Add_1 τ.1 τ.2.1 l))]
def c_natural_Add : List (Nat × Live) := [(33, ⟨[(0, .slice (.int .u32)), (1, .slice (.int .u32)), (27, .slice (.int .u32)), (28, .int .i64), (29, .int .i64)], [(false, 5, .int .u32), (true, 6, .int .u32)], [7]⟩), (53, ⟨[(0, .slice (.int .u32)), (10, .int .i64)], [(false, 5, .int .u32), (true, 6, .int .u32)], [7]⟩)]
noncomputable abbrev fe_natural_Add := (finE (E_natural_Add) [(.slice (.int .u32), false)] Try.f65.results.toList)
noncomputable abbrev cn_natural_Add_33 (x0 : List Int) (x1 : List Int) (x27 : List Int) (x28 : Int) (x29 : Int) (x5 : List Int) (x6 : Int) : St := ⟨[(7, .one (.fn 76 [10001])), (6, .one (.ptr 10001 0 [])), (5, .one (.loc (.int .u32) 10000)), (29, .one (.val (.int .i64) x29)), (28, .one (.val (.int .i64) x28)), (27, .one (.val (.slice (.int .u32)) x27)), (1, .one (.val (.slice (.int .u32)) x1)), (0, .one (.val (.slice (.int .u32)) x0))], [(10001, some ⟨.int .u32, [x6], false⟩), (10000, some ⟨.int .u32, x5, false⟩)]⟩
noncomputable abbrev kk_natural_Add_33 (S : Nat → KT (RT [(.slice (.int .u32), false)])) := fun (x0 : List Int) (x1 : List Int) (x27 : List Int) (x28 : Int) (x29 : Int) (x5 : List Int) (x6 : Int) => S 33 (cn_natural_Add_33 x0 x1 x27 x28 x29 x5 x6)
noncomputable abbrev cn_natural_Add_53 (x0 : List Int) (x10 : Int) (x5 : List Int) (x6 : Int) : St := ⟨[(7, .one (.fn 76 [10001])), (6, .one (.ptr 10001 0 [])), (5, .one (.loc (.int .u32) 10000)), (10, .one (.val (.int .i64) x10)), (0, .one (.val (.slice (.int .u32)) x0))], [(10001, some ⟨.int .u32, [x6], false⟩), (10000, some ⟨.int .u32, x5, false⟩)]⟩
noncomputable abbrev kk_natural_Add_53 (S : Nat → KT (RT [(.slice (.int .u32), false)])) := fun (x0 : List Int) (x10 : Int) (x5 : List Int) (x6 : Int) => S 53 (cn_natural_Add_53 x0 x10 x5 x6)
theorem top_natural_Add (S : Nat → KT (RT [(.slice (.int .u32), false)])) (a0 : List Int) (a1 : List Int) : evA (E_natural_Add) (lk c_natural_Add) S (bodyOf Try.f65) noX (fe_natural_Add) (fe_natural_Add) (initSt [.slice (.int .u32), .slice (.int .u32)] (a0, a1, ())) = T_natural_Add (kk_natural_Add_33 S) (kk_natural_Add_53 S) a0 a1 := by kernel_rfl
theorem seg_natural_Add_33 (S : Nat → KT (RT [(.slice (.int .u32), false)])) (x0 : List Int) (x1 : List Int) (x27 : List Int) (x28 : Int) (x29 : Int) (x5 : List Int) (x6 : Int) : stepT (entry (E_natural_Add) (lk c_natural_Add) S 33 (bodyOf Try.f65) noX (fe_natural_Add) (fe_natural_Add)) (cn_natural_Add_33 x0 x1 x27 x28 x29 x5 x6) = S_natural_Add_33 (kk_natural_Add_33 S) (kk_natural_Add_53 S) x0 x1 x27 x28 x29 x5 x6 := by kernel_rfl
theorem seg_natural_Add_53 (S : Nat → KT (RT [(.slice (.int .u32), false)])) (x0 : List Int) (x10 : Int) (x5 : List Int) (x6 : Int) : stepT (entry (E_natural_Add) (lk c_natural_Add) S 53 (bodyOf Try.f65) noX (fe_natural_Add) (fe_natural_Add)) (cn_natural_Add_53 x0 x10 x5 x6) = S_natural_Add_53 (kk_natural_Add_33 S) (kk_natural_Add_53 S) x0 x10 x5 x6 := by kernel_rfl
noncomputable abbrev tb_natural_Add := tab (E_natural_Add) (lk c_natural_Add) (bodyOf Try.f65) (fe_natural_Add)
theorem ok_natural_Add : EnvOK Try.prog (E_natural_Add) := mkE_ok tys_ok trivial ⟨⟨PSound.mix os_natural_trim.psound (CSound.psound fs_natural_trim.csound), ⟨Try.f51, by kernel_rfl, by kernel_rfl, by kernel_rfl⟩⟩, ⟨os_natural_Add_1.psound, ⟨Try.f76, by kernel_rfl, by kernel_rfl, by kernel_rfl⟩⟩, trivial⟩
theorem fs_natural_Add : FSound Try.prog 65 [.slice (.int .u32), .slice (.int .u32)] [(.slice (.int .u32), false)] (fun τ => F_natural_Add τ.1 τ.2.1) :=
  evG_sound (E := (E_natural_Add)) (C := (lk c_natural_Add)) ok_natural_Add mixed_ok (fn := Try.f65) (c := (bodyOf Try.f65)) (by kernel_rfl) (by kernel_rfl) (by kernel_rfl) (by kernel_rfl) (by kernel_rfl) (by kernel_rfl) (fun τ r h => by
    obtain ⟨a0, a1, ⟨⟩⟩ := τ
    obtain ⟨m, hm⟩ := Rn_natural_Add (fun m => kk_natural_Add_33 (tb_natural_Add m)) (fun m => kk_natural_Add_53 (tb_natural_Add m)) (fun m x0 x1 x27 x28 x29 x5 x6 => (tab_succ (E_natural_Add) (lk c_natural_Add) (bodyOf Try.f65) (fe_natural_Add) m 33 (cn_natural_Add_33 x0 x1 x27 x28 x29 x5 x6)).trans (seg_natural_Add_33 (tb_natural_Add m) x0 x1 x27 x28 x29 x5 x6)) (fun m x0 x10 x5 x6 => (tab_succ (E_natural_Add) (lk c_natural_Add) (bodyOf Try.f65) (fe_natural_Add) m 53 (cn_natural_Add_53 x0 x10 x5 x6)).trans (seg_natural_Add_53 (tb_natural_Add m) x0 x10 x5 x6)) a0 a1 r h
    exact ⟨m, (top_natural_Add (tb_natural_Add m) a0 a1).trans (hm m (Nat.le_refl m))⟩)

abbrev E_bits_Sub32 : Env := mkE tys [] []
def c_bits_Sub32 : List (Nat × Live) := []
noncomputable abbrev fe_bits_Sub32 := (finE (E_bits_Sub32) [(.int .u32, false), (.int .u32, false)] Try.f77.results.toList)
theorem top_bits_Sub32 (S : Nat → KT (RT [(.int .u32, false), (.int .u32, false)])) (a0 : Int) (a1 : Int) (a2 : Int) : evA (E_bits_Sub32) (lk c_bits_Sub32) S (bodyOf Try.f77) noX (fe_bits_Sub32) (fe_bits_Sub32) (initSt [.int .u32, .int .u32, .int .u32] (a0, a1, a2, ())) = T_bits_Sub32 a0 a1 a2 := by kernel_rfl
noncomputable abbrev tb_bits_Sub32 := tab (E_bits_Sub32) (lk c_bits_Sub32) (bodyOf Try.f77) (fe_bits_Sub32)
theorem ok_bits_Sub32 : EnvOK Try.prog (E_bits_Sub32) := mkE_ok tys_ok trivial trivial
theorem fs_bits_Sub32 : FSound Try.prog 77 [.int .u32, .int .u32, .int .u32] [(.int .u32, false), (.int .u32, false)] (fun τ => F_bits_Sub32 τ.1 τ.2.1 τ.2.2.1) :=
  evG_sound (E := (E_bits_Sub32)) (C := (lk c_bits_Sub32)) ok_bits_Sub32 mixed_ok (fn := Try.f77) (c := (bodyOf Try.f77)) (by kernel_rfl) (by kernel_rfl) (by kernel_rfl) (by kernel_rfl) (by kernel_rfl) (by kernel_rfl) (fun τ r h => by
    obtain ⟨a0, a1, a2, ⟨⟩⟩ := τ
    obtain ⟨m, hm⟩ := Rn_bits_Sub32 a0 a1 a2 r h
    exact ⟨m, (top_bits_Sub32 (tb_bits_Sub32 m) a0 a1 a2).trans (hm m (Nat.le_refl m))⟩)

abbrev E_natural_Sub : Env := mkE tys [(61, callE [.slice (.int .u32), .slice (.int .u32)] [(.int .i64, false)] (fun τ => F_natural_Cmp τ.1 τ.2.1)), (77, callE [.int .u32, .int .u32, .int .u32] [(.int .u32, false), (.int .u32, false)] (fun τ => F_bits_Sub32 τ.1 τ.2.1 τ.2.2.1))] [(51, mixO (callO [] false (.int .u32) .pre (fun τ l => O_natural_trim l)) (callI (callE [.slice (.int .u32)] [(.slice (.int .u32), false)] (fun τ => F_natural_trim τ.1))))]
def c_natural_Sub : List (Nat × Live) := [(29, ⟨[(1, .slice (.int .u32)), (7, .int .u32), (22, .slice (.int .u32)), (23, .int .i64), (24, .int .i64)], [(false, 6, .int .u32)], []⟩)]
noncomputable abbrev fe_natural_Sub := (finE (E_natural_Sub) [(.slice (.int .u32), false), (.bool, false)] Try.f66.results.toList)
noncomputable abbrev cn_natural_Sub_29 (x1 : List Int) (x7 : Int) (x22 : List Int) (x23 : Int) (x24 : Int) (x6 : List Int) : St := ⟨[(6, .one (.loc (.int .u32) 10000)), (24, .one (.val (.int .i64) x24)), (23, .one (.val (.int .i64) x23)), (22, .one (.val (.slice (.int .u32)) x22)), (7, .one (.val (.int .u32) x7)), (1, .one (.val (.slice (.int .u32)) x1))], [(10000, some ⟨.int .u32, x6, false⟩)]⟩
noncomputable abbrev kk_natural_Sub_29 (S : Nat → KT (RT [(.slice (.int .u32), false), (.bool, false)])) := fun (x1 : List Int) (x7 : Int) (x22 : List Int) (x23 : Int) (x24 : Int) (x6 : List Int) => S 29 (cn_natural_Sub_29 x1 x7 x22 x23 x24 x6)
theorem top_natural_Sub (S : Nat → KT (RT [(.slice (.int .u32), false), (.bool, false)])) (a0 : List Int) (a1 : List Int) : evA (E_natural_Sub) (lk c_natural_Sub) S (bodyOf Try.f66) noX (fe_natural_Sub) (fe_natural_Sub) (initSt [.slice (.int .u32), .slice (.int .u32)] (a0, a1, ())) = T_natural_Sub (kk_natural_Sub_29 S) a0 a1 := by kernel_rfl
theorem seg_natural_Sub_29 (S : Nat → KT (RT [(.slice (.int .u32), false), (.bool, false)])) (x1 : List Int) (x7 : Int) (x22 : List Int) (x23 : Int) (x24 : Int) (x6 : List Int) : stepT (entry (E_natural_Sub) (lk c_natural_Sub) S 29 (bodyOf Try.f66) noX (fe_natural_Sub) (fe_natural_Sub)) (cn_natural_Sub_29 x1 x7 x22 x23 x24 x6) = S_natural_Sub_29 (kk_natural_Sub_29 S) x1 x7 x22 x23 x24 x6 := by kernel_rfl
noncomputable abbrev tb_natural_Sub := tab (E_natural_Sub) (lk c_natural_Sub) (bodyOf Try.f66) (fe_natural_Sub)
theorem ok_natural_Sub : EnvOK Try.prog (E_natural_Sub) := mkE_ok tys_ok ⟨⟨fs_natural_Cmp.csound, ⟨Try.f61, by kernel_rfl, by kernel_rfl, by kernel_rfl⟩⟩, ⟨fs_bits_Sub32.csound, ⟨Try.f77, by kernel_rfl, by kernel_rfl, by kernel_rfl⟩⟩, trivial⟩ ⟨⟨PSound.mix os_natural_trim.psound (CSound.psound fs_natural_trim.csound), ⟨Try.f51, by kernel_rfl, by kernel_rfl, by kernel_rfl⟩⟩, trivial⟩
theorem fs_natural_Sub : FSound Try.prog 66 [.slice (.int .u32), .slice (.int .u32)] [(.slice (.int .u32), false), (.bool, false)] (fun τ => F_natural_Sub τ.1 τ.2.1) :=
  evG_sound (E := (E_natural_Sub)) (C := (lk c_natural_Sub)) ok_natural_Sub mixed_ok (fn := Try.f66) (c := (bodyOf Try.f66)) (by kernel_rfl) (by kernel_rfl) (by kernel_rfl) (by kernel_rfl) (by kernel_rfl) (by kernel_rfl) (fun τ r h => by
    obtain ⟨a0, a1, ⟨⟩⟩ := τ
    obtain ⟨m, hm⟩ := Rn_natural_Sub (fun m => kk_natural_Sub_29 (tb_natural_Sub m)) (fun m x1 x7 x22 x23 x24 x6 => (tab_succ (E_natural_Sub) (lk c_natural_Sub) (bodyOf Try.f66) (fe_natural_Sub) m 29 (cn_natural_Sub_29 x1 x7 x22 x23 x24 x6)).trans (seg_natural_Sub_29 (tb_natural_Sub m) x1 x7 x22 x23 x24 x6)) a0 a1 r h
    exact ⟨m, (top_natural_Sub (tb_natural_Sub m) a0 a1).trans (hm m (Nat.le_refl m))⟩)

abbrev E_integer_Add : Env := mkE tys [(56, callE [.bool, .slice (.int .u32)] [(.pair (.bool) (.slice (.int .u32)), false)] (fun τ => F_integer_made τ.1 τ.2.1)), (65, callE [.slice (.int .u32), .slice (.int .u32)] [(.slice (.int .u32), false)] (fun τ => F_natural_Add τ.1 τ.2.1)), (66, callE [.slice (.int .u32), .slice (.int .u32)] [(.slice (.int .u32), false), (.bool, false)] (fun τ => F_natural_Sub τ.1 τ.2.1))] []
def c_integer_Add : List (Nat × Live) := []
noncomputable abbrev fe_integer_Add := (finE (E_integer_Add) [(.pair (.bool) (.slice (.int .u32)), false)] Try.f48.results.toList)
theorem top_integer_Add (S : Nat → KT (RT [(.pair (.bool) (.slice (.int .u32)), false)])) (a0 : Bool × List Int) (a1 : Bool × List Int) : evA (E_integer_Add) (lk c_integer_Add) S (bodyOf Try.f48) noX (fe_integer_Add) (fe_integer_Add) (initSt [.pair (.bool) (.slice (.int .u32)), .pair (.bool) (.slice (.int .u32))] (a0, a1, ())) = T_integer_Add a0 a1 := by kernel_rfl
noncomputable abbrev tb_integer_Add := tab (E_integer_Add) (lk c_integer_Add) (bodyOf Try.f48) (fe_integer_Add)
theorem ok_integer_Add : EnvOK Try.prog (E_integer_Add) := mkE_ok tys_ok ⟨⟨fs_integer_made.csound, ⟨Try.f56, by kernel_rfl, by kernel_rfl, by kernel_rfl⟩⟩, ⟨fs_natural_Add.csound, ⟨Try.f65, by kernel_rfl, by kernel_rfl, by kernel_rfl⟩⟩, ⟨fs_natural_Sub.csound, ⟨Try.f66, by kernel_rfl, by kernel_rfl, by kernel_rfl⟩⟩, trivial⟩ trivial
theorem fs_integer_Add : FSound Try.prog 48 [.pair (.bool) (.slice (.int .u32)), .pair (.bool) (.slice (.int .u32))] [(.pair (.bool) (.slice (.int .u32)), false)] (fun τ => F_integer_Add τ.1 τ.2.1) :=
  evG_sound (E := (E_integer_Add)) (C := (lk c_integer_Add)) ok_integer_Add mixed_ok (fn := Try.f48) (c := (bodyOf Try.f48)) (by kernel_rfl) (by kernel_rfl) (by kernel_rfl) (by kernel_rfl) (by kernel_rfl) (by kernel_rfl) (fun τ r h => by
    obtain ⟨a0, a1, ⟨⟩⟩ := τ
    obtain ⟨m, hm⟩ := Rn_integer_Add a0 a1 r h
    exact ⟨m, (top_integer_Add (tb_integer_Add m) a0 a1).trans (hm m (Nat.le_refl m))⟩)

abbrev E_unipoly_combine_Add : Env := mkE tys [(48, callE [.pair (.bool) (.slice (.int .u32)), .pair (.bool) (.slice (.int .u32))] [(.pair (.bool) (.slice (.int .u32)), false)] (fun τ => F_integer_Add τ.1 τ.2.1))] []
def c_unipoly_combine_Add : List (Nat × Live) := [(17, ⟨[(0, .slice (.pair (.bool) (.slice (.int .u32)))), (1, .slice (.pair (.bool) (.slice (.int .u32)))), (2, .fn 48), (19, .int .i64), (20, .int .i64)], [(false, 7, .pair (.bool) (.slice (.int .u32))), (true, 8, .pair (.bool) (.slice (.int .u32)))], []⟩), (36, ⟨[(0, .slice (.pair (.bool) (.slice (.int .u32)))), (1, .slice (.pair (.bool) (.slice (.int .u32)))), (2, .fn 48), (9, .int .i64), (19, .int .i64), (20, .int .i64)], [(false, 7, .pair (.bool) (.slice (.int .u32))), (true, 8, .pair (.bool) (.slice (.int .u32))), (true, 10, .pair (.bool) (.slice (.int .u32))), (true, 11, .pair (.bool) (.slice (.int .u32)))], []⟩)]
noncomputable abbrev fe_unipoly_combine_Add := (finE (E_unipoly_combine_Add) [(.slice (.pair (.bool) (.slice (.int .u32))), false)] Try.f47.results.toList)
noncomputable abbrev cn_unipoly_combine_Add_17 (x0 : List (Bool × List Int)) (x1 : List (Bool × List Int)) (x2 : Unit) (x19 : Int) (x20 : Int) (x7 : List (Bool × List Int)) (x8 : Bool × List Int) : St := ⟨[(8, .one (.ptr 10001 0 [])), (7, .one (.loc (.pair (.bool) (.slice (.int .u32))) 10000)), (20, .one (.val (.int .i64) x20)), (19, .one (.val (.int .i64) x19)), (2, .one (.val (.fn 48) x2)), (1, .one (.val (.slice (.pair (.bool) (.slice (.int .u32)))) x1)), (0, .one (.val (.slice (.pair (.bool) (.slice (.int .u32)))) x0))], [(10001, some ⟨.pair (.bool) (.slice (.int .u32)), [x8], false⟩), (10000, some ⟨.pair (.bool) (.slice (.int .u32)), x7, false⟩)]⟩
noncomputable abbrev kk_unipoly_combine_Add_17 (S : Nat → KT (RT [(.slice (.pair (.bool) (.slice (.int .u32))), false)])) := fun (x0 : List (Bool × List Int)) (x1 : List (Bool × List Int)) (x2 : Unit) (x19 : Int) (x20 : Int) (x7 : List (Bool × List Int)) (x8 : Bool × List Int) => S 17 (cn_unipoly_combine_Add_17 x0 x1 x2 x19 x20 x7 x8)
noncomputable abbrev cn_unipoly_combine_Add_36 (x0 : List (Bool × List Int)) (x1 : List (Bool × List Int)) (x2 : Unit) (x9 : Int) (x19 : Int) (x20 : Int) (x7 : List (Bool × List Int)) (x8 : Bool × List Int) (x10 : Bool × List Int) (x11 : Bool × List Int) : St := ⟨[(11, .one (.ptr 10003 0 [])), (10, .one (.ptr 10002 0 [])), (8, .one (.ptr 10001 0 [])), (7, .one (.loc (.pair (.bool) (.slice (.int .u32))) 10000)), (20, .one (.val (.int .i64) x20)), (19, .one (.val (.int .i64) x19)), (9, .one (.val (.int .i64) x9)), (2, .one (.val (.fn 48) x2)), (1, .one (.val (.slice (.pair (.bool) (.slice (.int .u32)))) x1)), (0, .one (.val (.slice (.pair (.bool) (.slice (.int .u32)))) x0))], [(10003, some ⟨.pair (.bool) (.slice (.int .u32)), [x11], false⟩), (10002, some ⟨.pair (.bool) (.slice (.int .u32)), [x10], false⟩), (10001, some ⟨.pair (.bool) (.slice (.int .u32)), [x8], false⟩), (10000, some ⟨.pair (.bool) (.slice (.int .u32)), x7, false⟩)]⟩
noncomputable abbrev kk_unipoly_combine_Add_36 (S : Nat → KT (RT [(.slice (.pair (.bool) (.slice (.int .u32))), false)])) := fun (x0 : List (Bool × List Int)) (x1 : List (Bool × List Int)) (x2 : Unit) (x9 : Int) (x19 : Int) (x20 : Int) (x7 : List (Bool × List Int)) (x8 : Bool × List Int) (x10 : Bool × List Int) (x11 : Bool × List Int) => S 36 (cn_unipoly_combine_Add_36 x0 x1 x2 x9 x19 x20 x7 x8 x10 x11)
theorem top_unipoly_combine_Add (S : Nat → KT (RT [(.slice (.pair (.bool) (.slice (.int .u32))), false)])) (a0 : List (Bool × List Int)) (a1 : List (Bool × List Int)) (a2 : Unit) : evA (E_unipoly_combine_Add) (lk c_unipoly_combine_Add) S (bodyOf Try.f47) noX (fe_unipoly_combine_Add) (fe_unipoly_combine_Add) (initSt [.slice (.pair (.bool) (.slice (.int .u32))), .slice (.pair (.bool) (.slice (.int .u32))), .fn 48] (a0, a1, a2, ())) = T_unipoly_combine_Add (kk_unipoly_combine_Add_17 S) (kk_unipoly_combine_Add_36 S) a0 a1 a2 := by kernel_rfl
theorem seg_unipoly_combine_Add_17 (S : Nat → KT (RT [(.slice (.pair (.bool) (.slice (.int .u32))), false)])) (x0 : List (Bool × List Int)) (x1 : List (Bool × List Int)) (x2 : Unit) (x19 : Int) (x20 : Int) (x7 : List (Bool × List Int)) (x8 : Bool × List Int) : stepT (entry (E_unipoly_combine_Add) (lk c_unipoly_combine_Add) S 17 (bodyOf Try.f47) noX (fe_unipoly_combine_Add) (fe_unipoly_combine_Add)) (cn_unipoly_combine_Add_17 x0 x1 x2 x19 x20 x7 x8) = S_unipoly_combine_Add_17 (kk_unipoly_combine_Add_17 S) (kk_unipoly_combine_Add_36 S) x0 x1 x2 x19 x20 x7 x8 := by kernel_rfl
theorem seg_unipoly_combine_Add_36 (S : Nat → KT (RT [(.slice (.pair (.bool) (.slice (.int .u32))), false)])) (x0 : List (Bool × List Int)) (x1 : List (Bool × List Int)) (x2 : Unit) (x9 : Int) (x19 : Int) (x20 : Int) (x7 : List (Bool × List Int)) (x8 : Bool × List Int) (x10 : Bool × List Int) (x11 : Bool × List Int) : stepT (entry (E_unipoly_combine_Add) (lk c_unipoly_combine_Add) S 36 (bodyOf Try.f47) noX (fe_unipoly_combine_Add) (fe_unipoly_combine_Add)) (cn_unipoly_combine_Add_36 x0 x1 x2 x9 x19 x20 x7 x8 x10 x11) = S_unipoly_combine_Add_36 (kk_unipoly_combine_Add_17 S) (kk_unipoly_combine_Add_36 S) x0 x1 x2 x9 x19 x20 x7 x8 x10 x11 := by kernel_rfl
noncomputable abbrev tb_unipoly_combine_Add := tab (E_unipoly_combine_Add) (lk c_unipoly_combine_Add) (bodyOf Try.f47) (fe_unipoly_combine_Add)
theorem ok_unipoly_combine_Add : EnvOK Try.prog (E_unipoly_combine_Add) := mkE_ok tys_ok ⟨⟨fs_integer_Add.csound, ⟨Try.f48, by kernel_rfl, by kernel_rfl, by kernel_rfl⟩⟩, trivial⟩ trivial
theorem fs_unipoly_combine_Add : FSound Try.prog 47 [.slice (.pair (.bool) (.slice (.int .u32))), .slice (.pair (.bool) (.slice (.int .u32))), .fn 48] [(.slice (.pair (.bool) (.slice (.int .u32))), false)] (fun τ => F_unipoly_combine_Add τ.1 τ.2.1 τ.2.2.1) :=
  evG_sound (E := (E_unipoly_combine_Add)) (C := (lk c_unipoly_combine_Add)) ok_unipoly_combine_Add mixed_ok (fn := Try.f47) (c := (bodyOf Try.f47)) (by kernel_rfl) (by kernel_rfl) (by kernel_rfl) (by kernel_rfl) (by kernel_rfl) (by kernel_rfl) (fun τ r h => by
    obtain ⟨a0, a1, a2, ⟨⟩⟩ := τ
    obtain ⟨m, hm⟩ := Rn_unipoly_combine_Add (fun m => kk_unipoly_combine_Add_17 (tb_unipoly_combine_Add m)) (fun m => kk_unipoly_combine_Add_36 (tb_unipoly_combine_Add m)) (fun m x0 x1 x2 x19 x20 x7 x8 => (tab_succ (E_unipoly_combine_Add) (lk c_unipoly_combine_Add) (bodyOf Try.f47) (fe_unipoly_combine_Add) m 17 (cn_unipoly_combine_Add_17 x0 x1 x2 x19 x20 x7 x8)).trans (seg_unipoly_combine_Add_17 (tb_unipoly_combine_Add m) x0 x1 x2 x19 x20 x7 x8)) (fun m x0 x1 x2 x9 x19 x20 x7 x8 x10 x11 => (tab_succ (E_unipoly_combine_Add) (lk c_unipoly_combine_Add) (bodyOf Try.f47) (fe_unipoly_combine_Add) m 36 (cn_unipoly_combine_Add_36 x0 x1 x2 x9 x19 x20 x7 x8 x10 x11)).trans (seg_unipoly_combine_Add_36 (tb_unipoly_combine_Add m) x0 x1 x2 x9 x19 x20 x7 x8 x10 x11)) a0 a1 a2 r h
    exact ⟨m, (top_unipoly_combine_Add (tb_unipoly_combine_Add m) a0 a1 a2).trans (hm m (Nat.le_refl m))⟩)

abbrev E_unipoly_Add : Env := mkE tys [(47, callE [.slice (.pair (.bool) (.slice (.int .u32))), .slice (.pair (.bool) (.slice (.int .u32))), .fn 48] [(.slice (.pair (.bool) (.slice (.int .u32))), false)] (fun τ => F_unipoly_combine_Add τ.1 τ.2.1 τ.2.2.1))] [(25, mixO (callO [] false (.pair (.bool) (.slice (.int .u32))) .pre (fun τ l => O_unipoly_trim l)) (callI (callE [.slice (.pair (.bool) (.slice (.int .u32)))] [(.slice (.pair (.bool) (.slice (.int .u32))), false)] (fun τ => F_unipoly_trim τ.1))))]
def c_unipoly_Add : List (Nat × Live) := []
noncomputable abbrev fe_unipoly_Add := (finE (E_unipoly_Add) [(.slice (.pair (.bool) (.slice (.int .u32))), false)] Try.f31.results.toList)
theorem top_unipoly_Add (S : Nat → KT (RT [(.slice (.pair (.bool) (.slice (.int .u32))), false)])) (a0 : List (Bool × List Int)) (a1 : List (Bool × List Int)) : evA (E_unipoly_Add) (lk c_unipoly_Add) S (bodyOf Try.f31) noX (fe_unipoly_Add) (fe_unipoly_Add) (initSt [.slice (.pair (.bool) (.slice (.int .u32))), .slice (.pair (.bool) (.slice (.int .u32)))] (a0, a1, ())) = T_unipoly_Add a0 a1 := by kernel_rfl
noncomputable abbrev tb_unipoly_Add := tab (E_unipoly_Add) (lk c_unipoly_Add) (bodyOf Try.f31) (fe_unipoly_Add)
theorem ok_unipoly_Add : EnvOK Try.prog (E_unipoly_Add) := mkE_ok tys_ok ⟨⟨fs_unipoly_combine_Add.csound, ⟨Try.f47, by kernel_rfl, by kernel_rfl, by kernel_rfl⟩⟩, trivial⟩ ⟨⟨PSound.mix os_unipoly_trim.psound (CSound.psound fs_unipoly_trim.csound), ⟨Try.f25, by kernel_rfl, by kernel_rfl, by kernel_rfl⟩⟩, trivial⟩
theorem fs_unipoly_Add : FSound Try.prog 31 [.slice (.pair (.bool) (.slice (.int .u32))), .slice (.pair (.bool) (.slice (.int .u32)))] [(.slice (.pair (.bool) (.slice (.int .u32))), false)] (fun τ => F_unipoly_Add τ.1 τ.2.1) :=
  evG_sound (E := (E_unipoly_Add)) (C := (lk c_unipoly_Add)) ok_unipoly_Add mixed_ok (fn := Try.f31) (c := (bodyOf Try.f31)) (by kernel_rfl) (by kernel_rfl) (by kernel_rfl) (by kernel_rfl) (by kernel_rfl) (by kernel_rfl) (fun τ r h => by
    obtain ⟨a0, a1, ⟨⟩⟩ := τ
    obtain ⟨m, hm⟩ := Rn_unipoly_Add a0 a1 r h
    exact ⟨m, (top_unipoly_Add (tb_unipoly_Add m) a0 a1).trans (hm m (Nat.le_refl m))⟩)

abbrev E_bits_Mul32 : Env := mkE tys [] []
def c_bits_Mul32 : List (Nat × Live) := []
noncomputable abbrev fe_bits_Mul32 := (finE (E_bits_Mul32) [(.int .u32, false), (.int .u32, false)] Try.f78.results.toList)
theorem top_bits_Mul32 (S : Nat → KT (RT [(.int .u32, false), (.int .u32, false)])) (a0 : Int) (a1 : Int) : evA (E_bits_Mul32) (lk c_bits_Mul32) S (bodyOf Try.f78) noX (fe_bits_Mul32) (fe_bits_Mul32) (initSt [.int .u32, .int .u32] (a0, a1, ())) = T_bits_Mul32 a0 a1 := by kernel_rfl
noncomputable abbrev tb_bits_Mul32 := tab (E_bits_Mul32) (lk c_bits_Mul32) (bodyOf Try.f78) (fe_bits_Mul32)
theorem ok_bits_Mul32 : EnvOK Try.prog (E_bits_Mul32) := mkE_ok tys_ok trivial trivial
theorem fs_bits_Mul32 : FSound Try.prog 78 [.int .u32, .int .u32] [(.int .u32, false), (.int .u32, false)] (fun τ => F_bits_Mul32 τ.1 τ.2.1) :=
  evG_sound (E := (E_bits_Mul32)) (C := (lk c_bits_Mul32)) ok_bits_Mul32 mixed_ok (fn := Try.f78) (c := (bodyOf Try.f78)) (by kernel_rfl) (by kernel_rfl) (by kernel_rfl) (by kernel_rfl) (by kernel_rfl) (by kernel_rfl) (fun τ r h => by
    obtain ⟨a0, a1, ⟨⟩⟩ := τ
    obtain ⟨m, hm⟩ := Rn_bits_Mul32 a0 a1 r h
    exact ⟨m, (top_bits_Mul32 (tb_bits_Mul32 m) a0 a1).trans (hm m (Nat.le_refl m))⟩)

abbrev E_natural_Mul : Env := mkE tys [(74, callE [.int .u32, .int .u32, .int .u32] [(.int .u32, false), (.int .u32, false)] (fun τ => F_bits_Add32 τ.1 τ.2.1 τ.2.2.1)), (78, callE [.int .u32, .int .u32] [(.int .u32, false), (.int .u32, false)] (fun τ => F_bits_Mul32 τ.1 τ.2.1))] [(51, mixO (callO [] false (.int .u32) .pre (fun τ l => O_natural_trim l)) (callI (callE [.slice (.int .u32)] [(.slice (.int .u32), false)] (fun τ => F_natural_trim τ.1))))]
def c_natural_Mul : List (Nat × Live) := [(25, ⟨[(1, .slice (.int .u32)), (33, .slice (.int .u32)), (34, .int .i64), (35, .int .i64)], [(false, 5, .int .u32)], []⟩), (49, ⟨[(1, .slice (.int .u32)), (6, .int .i64), (7, .int .u32), (8, .int .u32), (33, .slice (.int .u32)), (34, .int .i64), (35, .int .i64), (49, .slice (.int .u32)), (50, .int .i64), (51, .int .i64)], [(false, 5, .int .u32)], [9]⟩)]
noncomputable abbrev fe_natural_Mul := (finE (E_natural_Mul) [(.slice (.int .u32), false)] Try.f67.results.toList)
noncomputable abbrev cn_natural_Mul_25 (x1 : List Int) (x33 : List Int) (x34 : Int) (x35 : Int) (x5 : List Int) : St := ⟨[(5, .one (.loc (.int .u32) 10000)), (35, .one (.val (.int .i64) x35)), (34, .one (.val (.int .i64) x34)), (33, .one (.val (.slice (.int .u32)) x33)), (1, .one (.val (.slice (.int .u32)) x1))], [(10000, some ⟨.int .u32, x5, false⟩)]⟩
noncomputable abbrev kk_natural_Mul_25 (S : Nat → KT (RT [(.slice (.int .u32), false)])) := fun (x1 : List Int) (x33 : List Int) (x34 : Int) (x35 : Int) (x5 : List Int) => S 25 (cn_natural_Mul_25 x1 x33 x34 x35 x5)
noncomputable abbrev cn_natural_Mul_49 (x1 : List Int) (x6 : Int) (x7 : Int) (x8 : Int) (x33 : List Int) (x34 : Int) (x35 : Int) (x49 : List Int) (x50 : Int) (x51 : Int) (x5 : List Int) (o9 : Int) (n9 : Int) : St := ⟨[(9, .one (.sub (.int .u32) 10000 o9 n9)), (5, .one (.loc (.int .u32) 10000)), (51, .one (.val (.int .i64) x51)), (50, .one (.val (.int .i64) x50)), (49, .one (.val (.slice (.int .u32)) x49)), (35, .one (.val (.int .i64) x35)), (34, .one (.val (.int .i64) x34)), (33, .one (.val (.slice (.int .u32)) x33)), (8, .one (.val (.int .u32) x8)), (7, .one (.val (.int .u32) x7)), (6, .one (.val (.int .i64) x6)), (1, .one (.val (.slice (.int .u32)) x1))], [(10000, some ⟨.int .u32, x5, false⟩)]⟩
noncomputable abbrev kk_natural_Mul_49 (S : Nat → KT (RT [(.slice (.int .u32), false)])) := fun (x1 : List Int) (x6 : Int) (x7 : Int) (x8 : Int) (x33 : List Int) (x34 : Int) (x35 : Int) (x49 : List Int) (x50 : Int) (x51 : Int) (x5 : List Int) (o9 : Int) (n9 : Int) => S 49 (cn_natural_Mul_49 x1 x6 x7 x8 x33 x34 x35 x49 x50 x51 x5 o9 n9)
theorem top_natural_Mul (S : Nat → KT (RT [(.slice (.int .u32), false)])) (a0 : List Int) (a1 : List Int) : evA (E_natural_Mul) (lk c_natural_Mul) S (bodyOf Try.f67) noX (fe_natural_Mul) (fe_natural_Mul) (initSt [.slice (.int .u32), .slice (.int .u32)] (a0, a1, ())) = T_natural_Mul (kk_natural_Mul_25 S) (kk_natural_Mul_49 S) a0 a1 := by kernel_rfl
theorem seg_natural_Mul_25 (S : Nat → KT (RT [(.slice (.int .u32), false)])) (x1 : List Int) (x33 : List Int) (x34 : Int) (x35 : Int) (x5 : List Int) : stepT (entry (E_natural_Mul) (lk c_natural_Mul) S 25 (bodyOf Try.f67) noX (fe_natural_Mul) (fe_natural_Mul)) (cn_natural_Mul_25 x1 x33 x34 x35 x5) = S_natural_Mul_25 (kk_natural_Mul_25 S) (kk_natural_Mul_49 S) x1 x33 x34 x35 x5 := by kernel_rfl
theorem seg_natural_Mul_49 (S : Nat → KT (RT [(.slice (.int .u32), false)])) (x1 : List Int) (x6 : Int) (x7 : Int) (x8 : Int) (x33 : List Int) (x34 : Int) (x35 : Int) (x49 : List Int) (x50 : Int) (x51 : Int) (x5 : List Int) (o9 : Int) (n9 : Int) : stepT (entry (E_natural_Mul) (lk c_natural_Mul) S 49 (bodyOf Try.f67) noX (fe_natural_Mul) (fe_natural_Mul)) (cn_natural_Mul_49 x1 x6 x7 x8 x33 x34 x35 x49 x50 x51 x5 o9 n9) = S_natural_Mul_49 (kk_natural_Mul_25 S) (kk_natural_Mul_49 S) x1 x6 x7 x8 x33 x34 x35 x49 x50 x51 x5 o9 n9 := by kernel_rfl
noncomputable abbrev tb_natural_Mul := tab (E_natural_Mul) (lk c_natural_Mul) (bodyOf Try.f67) (fe_natural_Mul)
theorem ok_natural_Mul : EnvOK Try.prog (E_natural_Mul) := mkE_ok tys_ok ⟨⟨fs_bits_Add32.csound, ⟨Try.f74, by kernel_rfl, by kernel_rfl, by kernel_rfl⟩⟩, ⟨fs_bits_Mul32.csound, ⟨Try.f78, by kernel_rfl, by kernel_rfl, by kernel_rfl⟩⟩, trivial⟩ ⟨⟨PSound.mix os_natural_trim.psound (CSound.psound fs_natural_trim.csound), ⟨Try.f51, by kernel_rfl, by kernel_rfl, by kernel_rfl⟩⟩, trivial⟩
theorem fs_natural_Mul : FSound Try.prog 67 [.slice (.int .u32), .slice (.int .u32)] [(.slice (.int .u32), false)] (fun τ => F_natural_Mul τ.1 τ.2.1) :=
  evG_sound (E := (E_natural_Mul)) (C := (lk c_natural_Mul)) ok_natural_Mul mixed_ok (fn := Try.f67) (c := (bodyOf Try.f67)) (by kernel_rfl) (by kernel_rfl) (by kernel_rfl) (by kernel_rfl) (by kernel_rfl) (by kernel_rfl) (fun τ r h => by
    obtain ⟨a0, a1, ⟨⟩⟩ := τ
    obtain ⟨m, hm⟩ := Rn_natural_Mul (fun m => kk_natural_Mul_25 (tb_natural_Mul m)) (fun m => kk_natural_Mul_49 (tb_natural_Mul m)) (fun m x1 x33 x34 x35 x5 => (tab_succ (E_natural_Mul) (lk c_natural_Mul) (bodyOf Try.f67) (fe_natural_Mul) m 25 (cn_natural_Mul_25 x1 x33 x34 x35 x5)).trans (seg_natural_Mul_25 (tb_natural_Mul m) x1 x33 x34 x35 x5)) (fun m x1 x6 x7 x8 x33 x34 x35 x49 x50 x51 x5 o9 n9 => (tab_succ (E_natural_Mul) (lk c_natural_Mul) (bodyOf Try.f67) (fe_natural_Mul) m 49 (cn_natural_Mul_49 x1 x6 x7 x8 x33 x34 x35 x49 x50 x51 x5 o9 n9)).trans (seg_natural_Mul_49 (tb_natural_Mul m) x1 x6 x7 x8 x33 x34 x35 x49 x50 x51 x5 o9 n9)) a0 a1 r h
    exact ⟨m, (top_natural_Mul (tb_natural_Mul m) a0 a1).trans (hm m (Nat.le_refl m))⟩)

abbrev E_integer_Mul : Env := mkE tys [(56, callE [.bool, .slice (.int .u32)] [(.pair (.bool) (.slice (.int .u32)), false)] (fun τ => F_integer_made τ.1 τ.2.1)), (67, callE [.slice (.int .u32), .slice (.int .u32)] [(.slice (.int .u32), false)] (fun τ => F_natural_Mul τ.1 τ.2.1))] []
def c_integer_Mul : List (Nat × Live) := []
noncomputable abbrev fe_integer_Mul := (finE (E_integer_Mul) [(.pair (.bool) (.slice (.int .u32)), false)] Try.f49.results.toList)
theorem top_integer_Mul (S : Nat → KT (RT [(.pair (.bool) (.slice (.int .u32)), false)])) (a0 : Bool × List Int) (a1 : Bool × List Int) : evA (E_integer_Mul) (lk c_integer_Mul) S (bodyOf Try.f49) noX (fe_integer_Mul) (fe_integer_Mul) (initSt [.pair (.bool) (.slice (.int .u32)), .pair (.bool) (.slice (.int .u32))] (a0, a1, ())) = T_integer_Mul a0 a1 := by kernel_rfl
noncomputable abbrev tb_integer_Mul := tab (E_integer_Mul) (lk c_integer_Mul) (bodyOf Try.f49) (fe_integer_Mul)
theorem ok_integer_Mul : EnvOK Try.prog (E_integer_Mul) := mkE_ok tys_ok ⟨⟨fs_integer_made.csound, ⟨Try.f56, by kernel_rfl, by kernel_rfl, by kernel_rfl⟩⟩, ⟨fs_natural_Mul.csound, ⟨Try.f67, by kernel_rfl, by kernel_rfl, by kernel_rfl⟩⟩, trivial⟩ trivial
theorem fs_integer_Mul : FSound Try.prog 49 [.pair (.bool) (.slice (.int .u32)), .pair (.bool) (.slice (.int .u32))] [(.pair (.bool) (.slice (.int .u32)), false)] (fun τ => F_integer_Mul τ.1 τ.2.1) :=
  evG_sound (E := (E_integer_Mul)) (C := (lk c_integer_Mul)) ok_integer_Mul mixed_ok (fn := Try.f49) (c := (bodyOf Try.f49)) (by kernel_rfl) (by kernel_rfl) (by kernel_rfl) (by kernel_rfl) (by kernel_rfl) (by kernel_rfl) (fun τ r h => by
    obtain ⟨a0, a1, ⟨⟩⟩ := τ
    obtain ⟨m, hm⟩ := Rn_integer_Mul a0 a1 r h
    exact ⟨m, (top_integer_Mul (tb_integer_Mul m) a0 a1).trans (hm m (Nat.le_refl m))⟩)

abbrev E_unipoly_Scale : Env := mkE tys [(49, callE [.pair (.bool) (.slice (.int .u32)), .pair (.bool) (.slice (.int .u32))] [(.pair (.bool) (.slice (.int .u32)), false)] (fun τ => F_integer_Mul τ.1 τ.2.1))] [(25, mixO (callO [] false (.pair (.bool) (.slice (.int .u32))) .pre (fun τ l => O_unipoly_trim l)) (callI (callE [.slice (.pair (.bool) (.slice (.int .u32)))] [(.slice (.pair (.bool) (.slice (.int .u32))), false)] (fun τ => F_unipoly_trim τ.1))))]
def c_unipoly_Scale : List (Nat × Live) := [(13, ⟨[(0, .slice (.pair (.bool) (.slice (.int .u32)))), (12, .int .i64), (13, .int .i64)], [(true, 3, .pair (.bool) (.slice (.int .u32))), (false, 5, .pair (.bool) (.slice (.int .u32)))], []⟩)]
noncomputable abbrev fe_unipoly_Scale := (finE (E_unipoly_Scale) [(.slice (.pair (.bool) (.slice (.int .u32))), false)] Try.f32.results.toList)
noncomputable abbrev cn_unipoly_Scale_13 (x0 : List (Bool × List Int)) (x12 : Int) (x13 : Int) (x3 : Bool × List Int) (x5 : List (Bool × List Int)) : St := ⟨[(5, .one (.loc (.pair (.bool) (.slice (.int .u32))) 10001)), (3, .one (.ptr 10000 0 [])), (13, .one (.val (.int .i64) x13)), (12, .one (.val (.int .i64) x12)), (0, .one (.val (.slice (.pair (.bool) (.slice (.int .u32)))) x0))], [(10001, some ⟨.pair (.bool) (.slice (.int .u32)), x5, false⟩), (10000, some ⟨.pair (.bool) (.slice (.int .u32)), [x3], false⟩)]⟩
noncomputable abbrev kk_unipoly_Scale_13 (S : Nat → KT (RT [(.slice (.pair (.bool) (.slice (.int .u32))), false)])) := fun (x0 : List (Bool × List Int)) (x12 : Int) (x13 : Int) (x3 : Bool × List Int) (x5 : List (Bool × List Int)) => S 13 (cn_unipoly_Scale_13 x0 x12 x13 x3 x5)
theorem top_unipoly_Scale (S : Nat → KT (RT [(.slice (.pair (.bool) (.slice (.int .u32))), false)])) (a0 : List (Bool × List Int)) (a1 : Bool × List Int) : evA (E_unipoly_Scale) (lk c_unipoly_Scale) S (bodyOf Try.f32) noX (fe_unipoly_Scale) (fe_unipoly_Scale) (initSt [.slice (.pair (.bool) (.slice (.int .u32))), .pair (.bool) (.slice (.int .u32))] (a0, a1, ())) = T_unipoly_Scale (kk_unipoly_Scale_13 S) a0 a1 := by kernel_rfl
theorem seg_unipoly_Scale_13 (S : Nat → KT (RT [(.slice (.pair (.bool) (.slice (.int .u32))), false)])) (x0 : List (Bool × List Int)) (x12 : Int) (x13 : Int) (x3 : Bool × List Int) (x5 : List (Bool × List Int)) : stepT (entry (E_unipoly_Scale) (lk c_unipoly_Scale) S 13 (bodyOf Try.f32) noX (fe_unipoly_Scale) (fe_unipoly_Scale)) (cn_unipoly_Scale_13 x0 x12 x13 x3 x5) = S_unipoly_Scale_13 (kk_unipoly_Scale_13 S) x0 x12 x13 x3 x5 := by kernel_rfl
noncomputable abbrev tb_unipoly_Scale := tab (E_unipoly_Scale) (lk c_unipoly_Scale) (bodyOf Try.f32) (fe_unipoly_Scale)
theorem ok_unipoly_Scale : EnvOK Try.prog (E_unipoly_Scale) := mkE_ok tys_ok ⟨⟨fs_integer_Mul.csound, ⟨Try.f49, by kernel_rfl, by kernel_rfl, by kernel_rfl⟩⟩, trivial⟩ ⟨⟨PSound.mix os_unipoly_trim.psound (CSound.psound fs_unipoly_trim.csound), ⟨Try.f25, by kernel_rfl, by kernel_rfl, by kernel_rfl⟩⟩, trivial⟩
theorem fs_unipoly_Scale : FSound Try.prog 32 [.slice (.pair (.bool) (.slice (.int .u32))), .pair (.bool) (.slice (.int .u32))] [(.slice (.pair (.bool) (.slice (.int .u32))), false)] (fun τ => F_unipoly_Scale τ.1 τ.2.1) :=
  evG_sound (E := (E_unipoly_Scale)) (C := (lk c_unipoly_Scale)) ok_unipoly_Scale mixed_ok (fn := Try.f32) (c := (bodyOf Try.f32)) (by kernel_rfl) (by kernel_rfl) (by kernel_rfl) (by kernel_rfl) (by kernel_rfl) (by kernel_rfl) (fun τ r h => by
    obtain ⟨a0, a1, ⟨⟩⟩ := τ
    obtain ⟨m, hm⟩ := Rn_unipoly_Scale (fun m => kk_unipoly_Scale_13 (tb_unipoly_Scale m)) (fun m x0 x12 x13 x3 x5 => (tab_succ (E_unipoly_Scale) (lk c_unipoly_Scale) (bodyOf Try.f32) (fe_unipoly_Scale) m 13 (cn_unipoly_Scale_13 x0 x12 x13 x3 x5)).trans (seg_unipoly_Scale_13 (tb_unipoly_Scale m) x0 x12 x13 x3 x5)) a0 a1 r h
    exact ⟨m, (top_unipoly_Scale (tb_unipoly_Scale m) a0 a1).trans (hm m (Nat.le_refl m))⟩)

abbrev E_unidiv_shifted : Env := mkE tys [(32, callE [.slice (.pair (.bool) (.slice (.int .u32))), .pair (.bool) (.slice (.int .u32))] [(.slice (.pair (.bool) (.slice (.int .u32))), false)] (fun τ => F_unipoly_Scale τ.1 τ.2.1))] []
def c_unidiv_shifted : List (Nat × Live) := []
noncomputable abbrev fe_unidiv_shifted := (finE (E_unidiv_shifted) [(.slice (.pair (.bool) (.slice (.int .u32))), false)] Try.f33.results.toList)
theorem top_unidiv_shifted (S : Nat → KT (RT [(.slice (.pair (.bool) (.slice (.int .u32))), false)])) (a0 : List (Bool × List Int)) (a1 : Bool × List Int) (a2 : Int) : evA (E_unidiv_shifted) (lk c_unidiv_shifted) S (bodyOf Try.f33) noX (fe_unidiv_shifted) (fe_unidiv_shifted) (initSt [.slice (.pair (.bool) (.slice (.int .u32))), .pair (.bool) (.slice (.int .u32)), .int .i64] (a0, a1, a2, ())) = T_unidiv_shifted a0 a1 a2 := by kernel_rfl
noncomputable abbrev tb_unidiv_shifted := tab (E_unidiv_shifted) (lk c_unidiv_shifted) (bodyOf Try.f33) (fe_unidiv_shifted)
theorem ok_unidiv_shifted : EnvOK Try.prog (E_unidiv_shifted) := mkE_ok tys_ok ⟨⟨fs_unipoly_Scale.csound, ⟨Try.f32, by kernel_rfl, by kernel_rfl, by kernel_rfl⟩⟩, trivial⟩ trivial
theorem fs_unidiv_shifted : FSound Try.prog 33 [.slice (.pair (.bool) (.slice (.int .u32))), .pair (.bool) (.slice (.int .u32)), .int .i64] [(.slice (.pair (.bool) (.slice (.int .u32))), false)] (fun τ => F_unidiv_shifted τ.1 τ.2.1 τ.2.2.1) :=
  evG_sound (E := (E_unidiv_shifted)) (C := (lk c_unidiv_shifted)) ok_unidiv_shifted mixed_ok (fn := Try.f33) (c := (bodyOf Try.f33)) (by kernel_rfl) (by kernel_rfl) (by kernel_rfl) (by kernel_rfl) (by kernel_rfl) (by kernel_rfl) (fun τ r h => by
    obtain ⟨a0, a1, a2, ⟨⟩⟩ := τ
    obtain ⟨m, hm⟩ := Rn_unidiv_shifted a0 a1 a2 r h
    exact ⟨m, (top_unidiv_shifted (tb_unidiv_shifted m) a0 a1 a2).trans (hm m (Nat.le_refl m))⟩)

abbrev E_integer_Sub : Env := mkE tys [(48, callE [.pair (.bool) (.slice (.int .u32)), .pair (.bool) (.slice (.int .u32))] [(.pair (.bool) (.slice (.int .u32)), false)] (fun τ => F_integer_Add τ.1 τ.2.1))] []
def c_integer_Sub : List (Nat × Live) := []
noncomputable abbrev fe_integer_Sub := (finE (E_integer_Sub) [(.pair (.bool) (.slice (.int .u32)), false)] Try.f50.results.toList)
theorem top_integer_Sub (S : Nat → KT (RT [(.pair (.bool) (.slice (.int .u32)), false)])) (a0 : Bool × List Int) (a1 : Bool × List Int) : evA (E_integer_Sub) (lk c_integer_Sub) S (bodyOf Try.f50) noX (fe_integer_Sub) (fe_integer_Sub) (initSt [.pair (.bool) (.slice (.int .u32)), .pair (.bool) (.slice (.int .u32))] (a0, a1, ())) = T_integer_Sub a0 a1 := by kernel_rfl
noncomputable abbrev tb_integer_Sub := tab (E_integer_Sub) (lk c_integer_Sub) (bodyOf Try.f50) (fe_integer_Sub)
theorem ok_integer_Sub : EnvOK Try.prog (E_integer_Sub) := mkE_ok tys_ok ⟨⟨fs_integer_Add.csound, ⟨Try.f48, by kernel_rfl, by kernel_rfl, by kernel_rfl⟩⟩, trivial⟩ trivial
theorem fs_integer_Sub : FSound Try.prog 50 [.pair (.bool) (.slice (.int .u32)), .pair (.bool) (.slice (.int .u32))] [(.pair (.bool) (.slice (.int .u32)), false)] (fun τ => F_integer_Sub τ.1 τ.2.1) :=
  evG_sound (E := (E_integer_Sub)) (C := (lk c_integer_Sub)) ok_integer_Sub mixed_ok (fn := Try.f50) (c := (bodyOf Try.f50)) (by kernel_rfl) (by kernel_rfl) (by kernel_rfl) (by kernel_rfl) (by kernel_rfl) (by kernel_rfl) (fun τ r h => by
    obtain ⟨a0, a1, ⟨⟩⟩ := τ
    obtain ⟨m, hm⟩ := Rn_integer_Sub a0 a1 r h
    exact ⟨m, (top_integer_Sub (tb_integer_Sub m) a0 a1).trans (hm m (Nat.le_refl m))⟩)

abbrev E_unipoly_combine_Sub : Env := mkE tys [(50, callE [.pair (.bool) (.slice (.int .u32)), .pair (.bool) (.slice (.int .u32))] [(.pair (.bool) (.slice (.int .u32)), false)] (fun τ => F_integer_Sub τ.1 τ.2.1))] []
def c_unipoly_combine_Sub : List (Nat × Live) := [(17, ⟨[(0, .slice (.pair (.bool) (.slice (.int .u32)))), (1, .slice (.pair (.bool) (.slice (.int .u32)))), (2, .fn 50), (19, .int .i64), (20, .int .i64)], [(false, 7, .pair (.bool) (.slice (.int .u32))), (true, 8, .pair (.bool) (.slice (.int .u32)))], []⟩), (36, ⟨[(0, .slice (.pair (.bool) (.slice (.int .u32)))), (1, .slice (.pair (.bool) (.slice (.int .u32)))), (2, .fn 50), (9, .int .i64), (19, .int .i64), (20, .int .i64)], [(false, 7, .pair (.bool) (.slice (.int .u32))), (true, 8, .pair (.bool) (.slice (.int .u32))), (true, 10, .pair (.bool) (.slice (.int .u32))), (true, 11, .pair (.bool) (.slice (.int .u32)))], []⟩)]
noncomputable abbrev fe_unipoly_combine_Sub := (finE (E_unipoly_combine_Sub) [(.slice (.pair (.bool) (.slice (.int .u32))), false)] Try.f47.results.toList)
noncomputable abbrev cn_unipoly_combine_Sub_17 (x0 : List (Bool × List Int)) (x1 : List (Bool × List Int)) (x2 : Unit) (x19 : Int) (x20 : Int) (x7 : List (Bool × List Int)) (x8 : Bool × List Int) : St := ⟨[(8, .one (.ptr 10001 0 [])), (7, .one (.loc (.pair (.bool) (.slice (.int .u32))) 10000)), (20, .one (.val (.int .i64) x20)), (19, .one (.val (.int .i64) x19)), (2, .one (.val (.fn 50) x2)), (1, .one (.val (.slice (.pair (.bool) (.slice (.int .u32)))) x1)), (0, .one (.val (.slice (.pair (.bool) (.slice (.int .u32)))) x0))], [(10001, some ⟨.pair (.bool) (.slice (.int .u32)), [x8], false⟩), (10000, some ⟨.pair (.bool) (.slice (.int .u32)), x7, false⟩)]⟩
noncomputable abbrev kk_unipoly_combine_Sub_17 (S : Nat → KT (RT [(.slice (.pair (.bool) (.slice (.int .u32))), false)])) := fun (x0 : List (Bool × List Int)) (x1 : List (Bool × List Int)) (x2 : Unit) (x19 : Int) (x20 : Int) (x7 : List (Bool × List Int)) (x8 : Bool × List Int) => S 17 (cn_unipoly_combine_Sub_17 x0 x1 x2 x19 x20 x7 x8)
noncomputable abbrev cn_unipoly_combine_Sub_36 (x0 : List (Bool × List Int)) (x1 : List (Bool × List Int)) (x2 : Unit) (x9 : Int) (x19 : Int) (x20 : Int) (x7 : List (Bool × List Int)) (x8 : Bool × List Int) (x10 : Bool × List Int) (x11 : Bool × List Int) : St := ⟨[(11, .one (.ptr 10003 0 [])), (10, .one (.ptr 10002 0 [])), (8, .one (.ptr 10001 0 [])), (7, .one (.loc (.pair (.bool) (.slice (.int .u32))) 10000)), (20, .one (.val (.int .i64) x20)), (19, .one (.val (.int .i64) x19)), (9, .one (.val (.int .i64) x9)), (2, .one (.val (.fn 50) x2)), (1, .one (.val (.slice (.pair (.bool) (.slice (.int .u32)))) x1)), (0, .one (.val (.slice (.pair (.bool) (.slice (.int .u32)))) x0))], [(10003, some ⟨.pair (.bool) (.slice (.int .u32)), [x11], false⟩), (10002, some ⟨.pair (.bool) (.slice (.int .u32)), [x10], false⟩), (10001, some ⟨.pair (.bool) (.slice (.int .u32)), [x8], false⟩), (10000, some ⟨.pair (.bool) (.slice (.int .u32)), x7, false⟩)]⟩
noncomputable abbrev kk_unipoly_combine_Sub_36 (S : Nat → KT (RT [(.slice (.pair (.bool) (.slice (.int .u32))), false)])) := fun (x0 : List (Bool × List Int)) (x1 : List (Bool × List Int)) (x2 : Unit) (x9 : Int) (x19 : Int) (x20 : Int) (x7 : List (Bool × List Int)) (x8 : Bool × List Int) (x10 : Bool × List Int) (x11 : Bool × List Int) => S 36 (cn_unipoly_combine_Sub_36 x0 x1 x2 x9 x19 x20 x7 x8 x10 x11)
theorem top_unipoly_combine_Sub (S : Nat → KT (RT [(.slice (.pair (.bool) (.slice (.int .u32))), false)])) (a0 : List (Bool × List Int)) (a1 : List (Bool × List Int)) (a2 : Unit) : evA (E_unipoly_combine_Sub) (lk c_unipoly_combine_Sub) S (bodyOf Try.f47) noX (fe_unipoly_combine_Sub) (fe_unipoly_combine_Sub) (initSt [.slice (.pair (.bool) (.slice (.int .u32))), .slice (.pair (.bool) (.slice (.int .u32))), .fn 50] (a0, a1, a2, ())) = T_unipoly_combine_Sub (kk_unipoly_combine_Sub_17 S) (kk_unipoly_combine_Sub_36 S) a0 a1 a2 := by kernel_rfl
theorem seg_unipoly_combine_Sub_17 (S : Nat → KT (RT [(.slice (.pair (.bool) (.slice (.int .u32))), false)])) (x0 : List (Bool × List Int)) (x1 : List (Bool × List Int)) (x2 : Unit) (x19 : Int) (x20 : Int) (x7 : List (Bool × List Int)) (x8 : Bool × List Int) : stepT (entry (E_unipoly_combine_Sub) (lk c_unipoly_combine_Sub) S 17 (bodyOf Try.f47) noX (fe_unipoly_combine_Sub) (fe_unipoly_combine_Sub)) (cn_unipoly_combine_Sub_17 x0 x1 x2 x19 x20 x7 x8) = S_unipoly_combine_Sub_17 (kk_unipoly_combine_Sub_17 S) (kk_unipoly_combine_Sub_36 S) x0 x1 x2 x19 x20 x7 x8 := by kernel_rfl
theorem seg_unipoly_combine_Sub_36 (S : Nat → KT (RT [(.slice (.pair (.bool) (.slice (.int .u32))), false)])) (x0 : List (Bool × List Int)) (x1 : List (Bool × List Int)) (x2 : Unit) (x9 : Int) (x19 : Int) (x20 : Int) (x7 : List (Bool × List Int)) (x8 : Bool × List Int) (x10 : Bool × List Int) (x11 : Bool × List Int) : stepT (entry (E_unipoly_combine_Sub) (lk c_unipoly_combine_Sub) S 36 (bodyOf Try.f47) noX (fe_unipoly_combine_Sub) (fe_unipoly_combine_Sub)) (cn_unipoly_combine_Sub_36 x0 x1 x2 x9 x19 x20 x7 x8 x10 x11) = S_unipoly_combine_Sub_36 (kk_unipoly_combine_Sub_17 S) (kk_unipoly_combine_Sub_36 S) x0 x1 x2 x9 x19 x20 x7 x8 x10 x11 := by kernel_rfl
noncomputable abbrev tb_unipoly_combine_Sub := tab (E_unipoly_combine_Sub) (lk c_unipoly_combine_Sub) (bodyOf Try.f47) (fe_unipoly_combine_Sub)
theorem ok_unipoly_combine_Sub : EnvOK Try.prog (E_unipoly_combine_Sub) := mkE_ok tys_ok ⟨⟨fs_integer_Sub.csound, ⟨Try.f50, by kernel_rfl, by kernel_rfl, by kernel_rfl⟩⟩, trivial⟩ trivial
theorem fs_unipoly_combine_Sub : FSound Try.prog 47 [.slice (.pair (.bool) (.slice (.int .u32))), .slice (.pair (.bool) (.slice (.int .u32))), .fn 50] [(.slice (.pair (.bool) (.slice (.int .u32))), false)] (fun τ => F_unipoly_combine_Sub τ.1 τ.2.1 τ.2.2.1) :=
  evG_sound (E := (E_unipoly_combine_Sub)) (C := (lk c_unipoly_combine_Sub)) ok_unipoly_combine_Sub mixed_ok (fn := Try.f47) (c := (bodyOf Try.f47)) (by kernel_rfl) (by kernel_rfl) (by kernel_rfl) (by kernel_rfl) (by kernel_rfl) (by kernel_rfl) (fun τ r h => by
    obtain ⟨a0, a1, a2, ⟨⟩⟩ := τ
    obtain ⟨m, hm⟩ := Rn_unipoly_combine_Sub (fun m => kk_unipoly_combine_Sub_17 (tb_unipoly_combine_Sub m)) (fun m => kk_unipoly_combine_Sub_36 (tb_unipoly_combine_Sub m)) (fun m x0 x1 x2 x19 x20 x7 x8 => (tab_succ (E_unipoly_combine_Sub) (lk c_unipoly_combine_Sub) (bodyOf Try.f47) (fe_unipoly_combine_Sub) m 17 (cn_unipoly_combine_Sub_17 x0 x1 x2 x19 x20 x7 x8)).trans (seg_unipoly_combine_Sub_17 (tb_unipoly_combine_Sub m) x0 x1 x2 x19 x20 x7 x8)) (fun m x0 x1 x2 x9 x19 x20 x7 x8 x10 x11 => (tab_succ (E_unipoly_combine_Sub) (lk c_unipoly_combine_Sub) (bodyOf Try.f47) (fe_unipoly_combine_Sub) m 36 (cn_unipoly_combine_Sub_36 x0 x1 x2 x9 x19 x20 x7 x8 x10 x11)).trans (seg_unipoly_combine_Sub_36 (tb_unipoly_combine_Sub m) x0 x1 x2 x9 x19 x20 x7 x8 x10 x11)) a0 a1 a2 r h
    exact ⟨m, (top_unipoly_combine_Sub (tb_unipoly_combine_Sub m) a0 a1 a2).trans (hm m (Nat.le_refl m))⟩)

abbrev E_unipoly_Sub : Env := mkE tys [(47, callE [.slice (.pair (.bool) (.slice (.int .u32))), .slice (.pair (.bool) (.slice (.int .u32))), .fn 50] [(.slice (.pair (.bool) (.slice (.int .u32))), false)] (fun τ => F_unipoly_combine_Sub τ.1 τ.2.1 τ.2.2.1))] [(25, mixO (callO [] false (.pair (.bool) (.slice (.int .u32))) .pre (fun τ l => O_unipoly_trim l)) (callI (callE [.slice (.pair (.bool) (.slice (.int .u32)))] [(.slice (.pair (.bool) (.slice (.int .u32))), false)] (fun τ => F_unipoly_trim τ.1))))]
def c_unipoly_Sub : List (Nat × Live) := []
noncomputable abbrev fe_unipoly_Sub := (finE (E_unipoly_Sub) [(.slice (.pair (.bool) (.slice (.int .u32))), false)] Try.f34.results.toList)
theorem top_unipoly_Sub (S : Nat → KT (RT [(.slice (.pair (.bool) (.slice (.int .u32))), false)])) (a0 : List (Bool × List Int)) (a1 : List (Bool × List Int)) : evA (E_unipoly_Sub) (lk c_unipoly_Sub) S (bodyOf Try.f34) noX (fe_unipoly_Sub) (fe_unipoly_Sub) (initSt [.slice (.pair (.bool) (.slice (.int .u32))), .slice (.pair (.bool) (.slice (.int .u32)))] (a0, a1, ())) = T_unipoly_Sub a0 a1 := by kernel_rfl
noncomputable abbrev tb_unipoly_Sub := tab (E_unipoly_Sub) (lk c_unipoly_Sub) (bodyOf Try.f34) (fe_unipoly_Sub)
theorem ok_unipoly_Sub : EnvOK Try.prog (E_unipoly_Sub) := mkE_ok tys_ok ⟨⟨fs_unipoly_combine_Sub.csound, ⟨Try.f47, by kernel_rfl, by kernel_rfl, by kernel_rfl⟩⟩, trivial⟩ ⟨⟨PSound.mix os_unipoly_trim.psound (CSound.psound fs_unipoly_trim.csound), ⟨Try.f25, by kernel_rfl, by kernel_rfl, by kernel_rfl⟩⟩, trivial⟩
theorem fs_unipoly_Sub : FSound Try.prog 34 [.slice (.pair (.bool) (.slice (.int .u32))), .slice (.pair (.bool) (.slice (.int .u32)))] [(.slice (.pair (.bool) (.slice (.int .u32))), false)] (fun τ => F_unipoly_Sub τ.1 τ.2.1) :=
  evG_sound (E := (E_unipoly_Sub)) (C := (lk c_unipoly_Sub)) ok_unipoly_Sub mixed_ok (fn := Try.f34) (c := (bodyOf Try.f34)) (by kernel_rfl) (by kernel_rfl) (by kernel_rfl) (by kernel_rfl) (by kernel_rfl) (by kernel_rfl) (fun τ r h => by
    obtain ⟨a0, a1, ⟨⟩⟩ := τ
    obtain ⟨m, hm⟩ := Rn_unipoly_Sub a0 a1 r h
    exact ⟨m, (top_unipoly_Sub (tb_unipoly_Sub m) a0 a1).trans (hm m (Nat.le_refl m))⟩)

abbrev E_unidiv_power : Env := mkE tys [(41, callE [.int .i64] [(.pair (.bool) (.slice (.int .u32)), false)] (fun τ => F_integer_Of τ.1)), (49, callE [.pair (.bool) (.slice (.int .u32)), .pair (.bool) (.slice (.int .u32))] [(.pair (.bool) (.slice (.int .u32)), false)] (fun τ => F_integer_Mul τ.1 τ.2.1))] []
def c_unidiv_power : List (Nat × Live) := [(13, ⟨[(7, .int .i64), (8, .int .i64)], [(true, 2, .pair (.bool) (.slice (.int .u32))), (true, 4, .pair (.bool) (.slice (.int .u32))), (true, 5, .pair (.bool) (.slice (.int .u32)))], []⟩)]
noncomputable abbrev fe_unidiv_power := (finE (E_unidiv_power) [(.pair (.bool) (.slice (.int .u32)), false)] Try.f35.results.toList)
noncomputable abbrev cn_unidiv_power_13 (x7 : Int) (x8 : Int) (x2 : Bool × List Int) (x4 : Bool × List Int) (x5 : Bool × List Int) : St := ⟨[(5, .one (.ptr 10002 0 [])), (4, .one (.ptr 10001 0 [])), (2, .one (.ptr 10000 0 [])), (8, .one (.val (.int .i64) x8)), (7, .one (.val (.int .i64) x7))], [(10002, some ⟨.pair (.bool) (.slice (.int .u32)), [x5], false⟩), (10001, some ⟨.pair (.bool) (.slice (.int .u32)), [x4], false⟩), (10000, some ⟨.pair (.bool) (.slice (.int .u32)), [x2], false⟩)]⟩
noncomputable abbrev kk_unidiv_power_13 (S : Nat → KT (RT [(.pair (.bool) (.slice (.int .u32)), false)])) := fun (x7 : Int) (x8 : Int) (x2 : Bool × List Int) (x4 : Bool × List Int) (x5 : Bool × List Int) => S 13 (cn_unidiv_power_13 x7 x8 x2 x4 x5)
theorem top_unidiv_power (S : Nat → KT (RT [(.pair (.bool) (.slice (.int .u32)), false)])) (a0 : Bool × List Int) (a1 : Int) : evA (E_unidiv_power) (lk c_unidiv_power) S (bodyOf Try.f35) noX (fe_unidiv_power) (fe_unidiv_power) (initSt [.pair (.bool) (.slice (.int .u32)), .int .i64] (a0, a1, ())) = T_unidiv_power (kk_unidiv_power_13 S) a0 a1 := by kernel_rfl
theorem seg_unidiv_power_13 (S : Nat → KT (RT [(.pair (.bool) (.slice (.int .u32)), false)])) (x7 : Int) (x8 : Int) (x2 : Bool × List Int) (x4 : Bool × List Int) (x5 : Bool × List Int) : stepT (entry (E_unidiv_power) (lk c_unidiv_power) S 13 (bodyOf Try.f35) noX (fe_unidiv_power) (fe_unidiv_power)) (cn_unidiv_power_13 x7 x8 x2 x4 x5) = S_unidiv_power_13 (kk_unidiv_power_13 S) x7 x8 x2 x4 x5 := by kernel_rfl
noncomputable abbrev tb_unidiv_power := tab (E_unidiv_power) (lk c_unidiv_power) (bodyOf Try.f35) (fe_unidiv_power)
theorem ok_unidiv_power : EnvOK Try.prog (E_unidiv_power) := mkE_ok tys_ok ⟨⟨fs_integer_Of.csound, ⟨Try.f41, by kernel_rfl, by kernel_rfl, by kernel_rfl⟩⟩, ⟨fs_integer_Mul.csound, ⟨Try.f49, by kernel_rfl, by kernel_rfl, by kernel_rfl⟩⟩, trivial⟩ trivial
theorem fs_unidiv_power : FSound Try.prog 35 [.pair (.bool) (.slice (.int .u32)), .int .i64] [(.pair (.bool) (.slice (.int .u32)), false)] (fun τ => F_unidiv_power τ.1 τ.2.1) :=
  evG_sound (E := (E_unidiv_power)) (C := (lk c_unidiv_power)) ok_unidiv_power mixed_ok (fn := Try.f35) (c := (bodyOf Try.f35)) (by kernel_rfl) (by kernel_rfl) (by kernel_rfl) (by kernel_rfl) (by kernel_rfl) (by kernel_rfl) (fun τ r h => by
    obtain ⟨a0, a1, ⟨⟩⟩ := τ
    obtain ⟨m, hm⟩ := Rn_unidiv_power (fun m => kk_unidiv_power_13 (tb_unidiv_power m)) (fun m x7 x8 x2 x4 x5 => (tab_succ (E_unidiv_power) (lk c_unidiv_power) (bodyOf Try.f35) (fe_unidiv_power) m 13 (cn_unidiv_power_13 x7 x8 x2 x4 x5)).trans (seg_unidiv_power_13 (tb_unidiv_power m) x7 x8 x2 x4 x5)) a0 a1 r h
    exact ⟨m, (top_unidiv_power (tb_unidiv_power m) a0 a1).trans (hm m (Nat.le_refl m))⟩)

abbrev E_unidiv_Pseudo : Env := mkE tys [(8, callE [.slice (.pair (.bool) (.slice (.int .u32)))] [(.int .i64, false)] (fun τ => F_unipoly_Degree τ.1)), (13, callE [.slice (.pair (.bool) (.slice (.int .u32)))] [(.pair (.bool) (.slice (.int .u32)), false)] (fun τ => F_unipoly_Lead τ.1)), (22, callE [.slice (.int .i64)] [(.slice (.pair (.bool) (.slice (.int .u32))), false)] (fun τ => F_unipoly_Of τ.1)), (29, callE [.slice (.pair (.bool) (.slice (.int .u32)))] [(.bool, false)] (fun τ => F_unidiv_zero τ.1)), (30, callE [.slice (.pair (.bool) (.slice (.int .u32)))] [(.slice (.pair (.bool) (.slice (.int .u32))), true)] (fun τ => F_unipoly_Normal τ.1)), (31, callE [.slice (.pair (.bool) (.slice (.int .u32))), .slice (.pair (.bool) (.slice (.int .u32)))] [(.slice (.pair (.bool) (.slice (.int .u32))), false)] (fun τ => F_unipoly_Add τ.1 τ.2.1)), (32, callE [.slice (.pair (.bool) (.slice (.int .u32))), .pair (.bool) (.slice (.int .u32))] [(.slice (.pair (.bool) (.slice (.int .u32))), false)] (fun τ => F_unipoly_Scale τ.1 τ.2.1)), (33, callE [.slice (.pair (.bool) (.slice (.int .u32))), .pair (.bool) (.slice (.int .u32)), .int .i64] [(.slice (.pair (.bool) (.slice (.int .u32))), false)] (fun τ => F_unidiv_shifted τ.1 τ.2.1 τ.2.2.1)), (34, callE [.slice (.pair (.bool) (.slice (.int .u32))), .slice (.pair (.bool) (.slice (.int .u32)))] [(.slice (.pair (.bool) (.slice (.int .u32))), false)] (fun τ => F_unipoly_Sub τ.1 τ.2.1)), (35, callE [.pair (.bool) (.slice (.int .u32)), .int .i64] [(.pair (.bool) (.slice (.int .u32)), false)] (fun τ => F_unidiv_power τ.1 τ.2.1))] []
def c_unidiv_Pseudo : List (Nat × Live) := [(25, ⟨[(1, .slice (.pair (.bool) (.slice (.int .u32)))), (4, .slice (.pair (.bool) (.slice (.int .u32)))), (5, .slice (.pair (.bool) (.slice (.int .u32)))), (7, .int .i64), (9, .int .i64)], [(true, 8, .pair (.bool) (.slice (.int .u32)))], []⟩)]
noncomputable abbrev fe_unidiv_Pseudo := (finE (E_unidiv_Pseudo) [(.slice (.pair (.bool) (.slice (.int .u32))), false), (.slice (.pair (.bool) (.slice (.int .u32))), false), (.int .i64, false)] Try.f11.results.toList)
noncomputable abbrev cn_unidiv_Pseudo_25 (x1 : List (Bool × List Int)) (x4 : List (Bool × List Int)) (x5 : List (Bool × List Int)) (x7 : Int) (x9 : Int) (x8 : Bool × List Int) : St := ⟨[(8, .one (.ptr 10000 0 [])), (9, .one (.val (.int .i64) x9)), (7, .one (.val (.int .i64) x7)), (5, .one (.val (.slice (.pair (.bool) (.slice (.int .u32)))) x5)), (4, .one (.val (.slice (.pair (.bool) (.slice (.int .u32)))) x4)), (1, .one (.val (.slice (.pair (.bool) (.slice (.int .u32)))) x1))], [(10000, some ⟨.pair (.bool) (.slice (.int .u32)), [x8], false⟩)]⟩
noncomputable abbrev kk_unidiv_Pseudo_25 (S : Nat → KT (RT [(.slice (.pair (.bool) (.slice (.int .u32))), false), (.slice (.pair (.bool) (.slice (.int .u32))), false), (.int .i64, false)])) := fun (x1 : List (Bool × List Int)) (x4 : List (Bool × List Int)) (x5 : List (Bool × List Int)) (x7 : Int) (x9 : Int) (x8 : Bool × List Int) => S 25 (cn_unidiv_Pseudo_25 x1 x4 x5 x7 x9 x8)
theorem top_unidiv_Pseudo (S : Nat → KT (RT [(.slice (.pair (.bool) (.slice (.int .u32))), false), (.slice (.pair (.bool) (.slice (.int .u32))), false), (.int .i64, false)])) (a0 : List (Bool × List Int)) (a1 : List (Bool × List Int)) : evA (E_unidiv_Pseudo) (lk c_unidiv_Pseudo) S (bodyOf Try.f11) noX (fe_unidiv_Pseudo) (fe_unidiv_Pseudo) (initSt [.slice (.pair (.bool) (.slice (.int .u32))), .slice (.pair (.bool) (.slice (.int .u32)))] (a0, a1, ())) = T_unidiv_Pseudo (kk_unidiv_Pseudo_25 S) a0 a1 := by kernel_rfl
theorem seg_unidiv_Pseudo_25 (S : Nat → KT (RT [(.slice (.pair (.bool) (.slice (.int .u32))), false), (.slice (.pair (.bool) (.slice (.int .u32))), false), (.int .i64, false)])) (x1 : List (Bool × List Int)) (x4 : List (Bool × List Int)) (x5 : List (Bool × List Int)) (x7 : Int) (x9 : Int) (x8 : Bool × List Int) : stepT (entry (E_unidiv_Pseudo) (lk c_unidiv_Pseudo) S 25 (bodyOf Try.f11) noX (fe_unidiv_Pseudo) (fe_unidiv_Pseudo)) (cn_unidiv_Pseudo_25 x1 x4 x5 x7 x9 x8) = S_unidiv_Pseudo_25 (kk_unidiv_Pseudo_25 S) x1 x4 x5 x7 x9 x8 := by kernel_rfl
noncomputable abbrev tb_unidiv_Pseudo := tab (E_unidiv_Pseudo) (lk c_unidiv_Pseudo) (bodyOf Try.f11) (fe_unidiv_Pseudo)
theorem ok_unidiv_Pseudo : EnvOK Try.prog (E_unidiv_Pseudo) := mkE_ok tys_ok ⟨⟨fs_unipoly_Degree.csound, ⟨Try.f8, by kernel_rfl, by kernel_rfl, by kernel_rfl⟩⟩, ⟨fs_unipoly_Lead.csound, ⟨Try.f13, by kernel_rfl, by kernel_rfl, by kernel_rfl⟩⟩, ⟨fs_unipoly_Of.csound, ⟨Try.f22, by kernel_rfl, by kernel_rfl, by kernel_rfl⟩⟩, ⟨fs_unidiv_zero.csound, ⟨Try.f29, by kernel_rfl, by kernel_rfl, by kernel_rfl⟩⟩, ⟨fs_unipoly_Normal.csound, ⟨Try.f30, by kernel_rfl, by kernel_rfl, by kernel_rfl⟩⟩, ⟨fs_unipoly_Add.csound, ⟨Try.f31, by kernel_rfl, by kernel_rfl, by kernel_rfl⟩⟩, ⟨fs_unipoly_Scale.csound, ⟨Try.f32, by kernel_rfl, by kernel_rfl, by kernel_rfl⟩⟩, ⟨fs_unidiv_shifted.csound, ⟨Try.f33, by kernel_rfl, by kernel_rfl, by kernel_rfl⟩⟩, ⟨fs_unipoly_Sub.csound, ⟨Try.f34, by kernel_rfl, by kernel_rfl, by kernel_rfl⟩⟩, ⟨fs_unidiv_power.csound, ⟨Try.f35, by kernel_rfl, by kernel_rfl, by kernel_rfl⟩⟩, trivial⟩ trivial
theorem fs_unidiv_Pseudo : FSound Try.prog 11 [.slice (.pair (.bool) (.slice (.int .u32))), .slice (.pair (.bool) (.slice (.int .u32)))] [(.slice (.pair (.bool) (.slice (.int .u32))), false), (.slice (.pair (.bool) (.slice (.int .u32))), false), (.int .i64, false)] (fun τ => F_unidiv_Pseudo τ.1 τ.2.1) :=
  evG_sound (E := (E_unidiv_Pseudo)) (C := (lk c_unidiv_Pseudo)) ok_unidiv_Pseudo mixed_ok (fn := Try.f11) (c := (bodyOf Try.f11)) (by kernel_rfl) (by kernel_rfl) (by kernel_rfl) (by kernel_rfl) (by kernel_rfl) (by kernel_rfl) (fun τ r h => by
    obtain ⟨a0, a1, ⟨⟩⟩ := τ
    obtain ⟨m, hm⟩ := Rn_unidiv_Pseudo (fun m => kk_unidiv_Pseudo_25 (tb_unidiv_Pseudo m)) (fun m x1 x4 x5 x7 x9 x8 => (tab_succ (E_unidiv_Pseudo) (lk c_unidiv_Pseudo) (bodyOf Try.f11) (fe_unidiv_Pseudo) m 25 (cn_unidiv_Pseudo_25 x1 x4 x5 x7 x9 x8)).trans (seg_unidiv_Pseudo_25 (tb_unidiv_Pseudo m) x1 x4 x5 x7 x9 x8)) a0 a1 r h
    exact ⟨m, (top_unidiv_Pseudo (tb_unidiv_Pseudo m) a0 a1).trans (hm m (Nat.le_refl m))⟩)

abbrev E_unipoly_Neg : Env := mkE tys [(34, callE [.slice (.pair (.bool) (.slice (.int .u32))), .slice (.pair (.bool) (.slice (.int .u32)))] [(.slice (.pair (.bool) (.slice (.int .u32))), false)] (fun τ => F_unipoly_Sub τ.1 τ.2.1))] []
def c_unipoly_Neg : List (Nat × Live) := []
noncomputable abbrev fe_unipoly_Neg := (finE (E_unipoly_Neg) [(.slice (.pair (.bool) (.slice (.int .u32))), false)] Try.f14.results.toList)
theorem top_unipoly_Neg (S : Nat → KT (RT [(.slice (.pair (.bool) (.slice (.int .u32))), false)])) (a0 : List (Bool × List Int)) : evA (E_unipoly_Neg) (lk c_unipoly_Neg) S (bodyOf Try.f14) noX (fe_unipoly_Neg) (fe_unipoly_Neg) (initSt [.slice (.pair (.bool) (.slice (.int .u32)))] (a0, ())) = T_unipoly_Neg a0 := by kernel_rfl
noncomputable abbrev tb_unipoly_Neg := tab (E_unipoly_Neg) (lk c_unipoly_Neg) (bodyOf Try.f14) (fe_unipoly_Neg)
theorem ok_unipoly_Neg : EnvOK Try.prog (E_unipoly_Neg) := mkE_ok tys_ok ⟨⟨fs_unipoly_Sub.csound, ⟨Try.f34, by kernel_rfl, by kernel_rfl, by kernel_rfl⟩⟩, trivial⟩ trivial
theorem fs_unipoly_Neg : FSound Try.prog 14 [.slice (.pair (.bool) (.slice (.int .u32)))] [(.slice (.pair (.bool) (.slice (.int .u32))), false)] (fun τ => F_unipoly_Neg τ.1) :=
  evG_sound (E := (E_unipoly_Neg)) (C := (lk c_unipoly_Neg)) ok_unipoly_Neg mixed_ok (fn := Try.f14) (c := (bodyOf Try.f14)) (by kernel_rfl) (by kernel_rfl) (by kernel_rfl) (by kernel_rfl) (by kernel_rfl) (by kernel_rfl) (fun τ r h => by
    obtain ⟨a0, ⟨⟩⟩ := τ
    obtain ⟨m, hm⟩ := Rn_unipoly_Neg a0 r h
    exact ⟨m, (top_unipoly_Neg (tb_unipoly_Neg m) a0).trans (hm m (Nat.le_refl m))⟩)

abbrev E_sturm_negRemainder : Env := mkE tys [(8, callE [.slice (.pair (.bool) (.slice (.int .u32)))] [(.int .i64, false)] (fun τ => F_unipoly_Degree τ.1)), (11, callE [.slice (.pair (.bool) (.slice (.int .u32))), .slice (.pair (.bool) (.slice (.int .u32)))] [(.slice (.pair (.bool) (.slice (.int .u32))), false), (.slice (.pair (.bool) (.slice (.int .u32))), false), (.int .i64, false)] (fun τ => F_unidiv_Pseudo τ.1 τ.2.1)), (12, callE [.pair (.bool) (.slice (.int .u32))] [(.int .i64, false)] (fun τ => F_integer_Sign τ.1)), (13, callE [.slice (.pair (.bool) (.slice (.int .u32)))] [(.pair (.bool) (.slice (.int .u32)), false)] (fun τ => F_unipoly_Lead τ.1)), (14, callE [.slice (.pair (.bool) (.slice (.int .u32)))] [(.slice (.pair (.bool) (.slice (.int .u32))), false)] (fun τ => F_unipoly_Neg τ.1)), (23, callE [.slice (.pair (.bool) (.slice (.int .u32)))] [(.slice (.pair (.bool) (.slice (.int .u32))), false)] (fun τ => F_sturm_reduced τ.1))] []
def c_sturm_negRemainder : List (Nat × Live) := []
noncomputable abbrev fe_sturm_negRemainder := (finE (E_sturm_negRemainder) [(.slice (.pair (.bool) (.slice (.int .u32))), false)] Try.f24.results.toList)
theorem top_sturm_negRemainder (S : Nat → KT (RT [(.slice (.pair (.bool) (.slice (.int .u32))), false)])) (a0 : List (Bool × List Int)) (a1 : List (Bool × List Int)) : evA (E_sturm_negRemainder) (lk c_sturm_negRemainder) S (bodyOf Try.f24) noX (fe_sturm_negRemainder) (fe_sturm_negRemainder) (initSt [.slice (.pair (.bool) (.slice (.int .u32))), .slice (.pair (.bool) (.slice (.int .u32)))] (a0, a1, ())) = T_sturm_negRemainder a0 a1 := by kernel_rfl
noncomputable abbrev tb_sturm_negRemainder := tab (E_sturm_negRemainder) (lk c_sturm_negRemainder) (bodyOf Try.f24) (fe_sturm_negRemainder)
theorem ok_sturm_negRemainder : EnvOK Try.prog (E_sturm_negRemainder) := mkE_ok tys_ok ⟨⟨fs_unipoly_Degree.csound, ⟨Try.f8, by kernel_rfl, by kernel_rfl, by kernel_rfl⟩⟩, ⟨fs_unidiv_Pseudo.csound, ⟨Try.f11, by kernel_rfl, by kernel_rfl, by kernel_rfl⟩⟩, ⟨fs_integer_Sign.csound, ⟨Try.f12, by kernel_rfl, by kernel_rfl, by kernel_rfl⟩⟩, ⟨fs_unipoly_Lead.csound, ⟨Try.f13, by kernel_rfl, by kernel_rfl, by kernel_rfl⟩⟩, ⟨fs_unipoly_Neg.csound, ⟨Try.f14, by kernel_rfl, by kernel_rfl, by kernel_rfl⟩⟩, ⟨fs_sturm_reduced.csound, ⟨Try.f23, by kernel_rfl, by kernel_rfl, by kernel_rfl⟩⟩, trivial⟩ trivial
theorem fs_sturm_negRemainder : FSound Try.prog 24 [.slice (.pair (.bool) (.slice (.int .u32))), .slice (.pair (.bool) (.slice (.int .u32)))] [(.slice (.pair (.bool) (.slice (.int .u32))), false)] (fun τ => F_sturm_negRemainder τ.1 τ.2.1) :=
  evG_sound (E := (E_sturm_negRemainder)) (C := (lk c_sturm_negRemainder)) ok_sturm_negRemainder mixed_ok (fn := Try.f24) (c := (bodyOf Try.f24)) (by kernel_rfl) (by kernel_rfl) (by kernel_rfl) (by kernel_rfl) (by kernel_rfl) (by kernel_rfl) (fun τ r h => by
    obtain ⟨a0, a1, ⟨⟩⟩ := τ
    obtain ⟨m, hm⟩ := Rn_sturm_negRemainder a0 a1 r h
    exact ⟨m, (top_sturm_negRemainder (tb_sturm_negRemainder m) a0 a1).trans (hm m (Nat.le_refl m))⟩)

abbrev E_sturm_Chain : Env := mkE tys [(23, callE [.slice (.pair (.bool) (.slice (.int .u32)))] [(.slice (.pair (.bool) (.slice (.int .u32))), false)] (fun τ => F_sturm_reduced τ.1)), (24, callE [.slice (.pair (.bool) (.slice (.int .u32))), .slice (.pair (.bool) (.slice (.int .u32)))] [(.slice (.pair (.bool) (.slice (.int .u32))), false)] (fun τ => F_sturm_negRemainder τ.1 τ.2.1))] []
def c_sturm_Chain : List (Nat × Live) := [(21, ⟨[(5, .slice (.pair (.bool) (.slice (.int .u32)))), (6, .slice (.pair (.bool) (.slice (.int .u32))))], [(false, 7, .slice (.pair (.bool) (.slice (.int .u32))))], []⟩)]
noncomputable abbrev fe_sturm_Chain := (finE (E_sturm_Chain) [(.slice (.slice (.pair (.bool) (.slice (.int .u32)))), false)] Try.f7.results.toList)
noncomputable abbrev cn_sturm_Chain_21 (x5 : List (Bool × List Int)) (x6 : List (Bool × List Int)) (x7 : List (List (Bool × List Int))) : St := ⟨[(7, .one (.loc (.slice (.pair (.bool) (.slice (.int .u32)))) 10000)), (6, .one (.val (.slice (.pair (.bool) (.slice (.int .u32)))) x6)), (5, .one (.val (.slice (.pair (.bool) (.slice (.int .u32)))) x5))], [(10000, some ⟨.slice (.pair (.bool) (.slice (.int .u32))), x7, false⟩)]⟩
noncomputable abbrev kk_sturm_Chain_21 (S : Nat → KT (RT [(.slice (.slice (.pair (.bool) (.slice (.int .u32)))), false)])) := fun (x5 : List (Bool × List Int)) (x6 : List (Bool × List Int)) (x7 : List (List (Bool × List Int))) => S 21 (cn_sturm_Chain_21 x5 x6 x7)
theorem top_sturm_Chain (S : Nat → KT (RT [(.slice (.slice (.pair (.bool) (.slice (.int .u32)))), false)])) (a0 : List (Bool × List Int)) (a1 : List (Bool × List Int)) : evA (E_sturm_Chain) (lk c_sturm_Chain) S (bodyOf Try.f7) noX (fe_sturm_Chain) (fe_sturm_Chain) (initSt [.slice (.pair (.bool) (.slice (.int .u32))), .slice (.pair (.bool) (.slice (.int .u32)))] (a0, a1, ())) = T_sturm_Chain (kk_sturm_Chain_21 S) a0 a1 := by kernel_rfl
theorem seg_sturm_Chain_21 (S : Nat → KT (RT [(.slice (.slice (.pair (.bool) (.slice (.int .u32)))), false)])) (x5 : List (Bool × List Int)) (x6 : List (Bool × List Int)) (x7 : List (List (Bool × List Int))) : stepT (entry (E_sturm_Chain) (lk c_sturm_Chain) S 21 (bodyOf Try.f7) noX (fe_sturm_Chain) (fe_sturm_Chain)) (cn_sturm_Chain_21 x5 x6 x7) = S_sturm_Chain_21 (kk_sturm_Chain_21 S) x5 x6 x7 := by kernel_rfl
noncomputable abbrev tb_sturm_Chain := tab (E_sturm_Chain) (lk c_sturm_Chain) (bodyOf Try.f7) (fe_sturm_Chain)
theorem ok_sturm_Chain : EnvOK Try.prog (E_sturm_Chain) := mkE_ok tys_ok ⟨⟨fs_sturm_reduced.csound, ⟨Try.f23, by kernel_rfl, by kernel_rfl, by kernel_rfl⟩⟩, ⟨fs_sturm_negRemainder.csound, ⟨Try.f24, by kernel_rfl, by kernel_rfl, by kernel_rfl⟩⟩, trivial⟩ trivial
theorem fs_sturm_Chain : FSound Try.prog 7 [.slice (.pair (.bool) (.slice (.int .u32))), .slice (.pair (.bool) (.slice (.int .u32)))] [(.slice (.slice (.pair (.bool) (.slice (.int .u32)))), false)] (fun τ => F_sturm_Chain τ.1 τ.2.1) :=
  evG_sound (E := (E_sturm_Chain)) (C := (lk c_sturm_Chain)) ok_sturm_Chain mixed_ok (fn := Try.f7) (c := (bodyOf Try.f7)) (by kernel_rfl) (by kernel_rfl) (by kernel_rfl) (by kernel_rfl) (by kernel_rfl) (by kernel_rfl) (fun τ r h => by
    obtain ⟨a0, a1, ⟨⟩⟩ := τ
    obtain ⟨m, hm⟩ := Rn_sturm_Chain (fun m => kk_sturm_Chain_21 (tb_sturm_Chain m)) (fun m x5 x6 x7 => (tab_succ (E_sturm_Chain) (lk c_sturm_Chain) (bodyOf Try.f7) (fe_sturm_Chain) m 21 (cn_sturm_Chain_21 x5 x6 x7)).trans (seg_sturm_Chain_21 (tb_sturm_Chain m) x5 x6 x7)) a0 a1 r h
    exact ⟨m, (top_sturm_Chain (tb_sturm_Chain m) a0 a1).trans (hm m (Nat.le_refl m))⟩)

abbrev E_unipoly_Derivative : Env := mkE tys [(41, callE [.int .i64] [(.pair (.bool) (.slice (.int .u32)), false)] (fun τ => F_integer_Of τ.1)), (49, callE [.pair (.bool) (.slice (.int .u32)), .pair (.bool) (.slice (.int .u32))] [(.pair (.bool) (.slice (.int .u32)), false)] (fun τ => F_integer_Mul τ.1 τ.2.1))] [(25, mixO (callO [] false (.pair (.bool) (.slice (.int .u32))) .pre (fun τ l => O_unipoly_trim l)) (callI (callE [.slice (.pair (.bool) (.slice (.int .u32)))] [(.slice (.pair (.bool) (.slice (.int .u32))), false)] (fun τ => F_unipoly_trim τ.1))))]
def c_unipoly_Derivative : List (Nat × Live) := [(25, ⟨[(0, .slice (.pair (.bool) (.slice (.int .u32)))), (15, .int .i64), (16, .int .i64)], [(false, 3, .pair (.bool) (.slice (.int .u32)))], []⟩)]
noncomputable abbrev fe_unipoly_Derivative := (finE (E_unipoly_Derivative) [(.slice (.pair (.bool) (.slice (.int .u32))), false)] Try.f58.results.toList)
noncomputable abbrev cn_unipoly_Derivative_25 (x0 : List (Bool × List Int)) (x15 : Int) (x16 : Int) (x3 : List (Bool × List Int)) : St := ⟨[(3, .one (.loc (.pair (.bool) (.slice (.int .u32))) 10000)), (16, .one (.val (.int .i64) x16)), (15, .one (.val (.int .i64) x15)), (0, .one (.val (.slice (.pair (.bool) (.slice (.int .u32)))) x0))], [(10000, some ⟨.pair (.bool) (.slice (.int .u32)), x3, false⟩)]⟩
noncomputable abbrev kk_unipoly_Derivative_25 (S : Nat → KT (RT [(.slice (.pair (.bool) (.slice (.int .u32))), false)])) := fun (x0 : List (Bool × List Int)) (x15 : Int) (x16 : Int) (x3 : List (Bool × List Int)) => S 25 (cn_unipoly_Derivative_25 x0 x15 x16 x3)
theorem top_unipoly_Derivative (S : Nat → KT (RT [(.slice (.pair (.bool) (.slice (.int .u32))), false)])) (a0 : List (Bool × List Int)) : evA (E_unipoly_Derivative) (lk c_unipoly_Derivative) S (bodyOf Try.f58) noX (fe_unipoly_Derivative) (fe_unipoly_Derivative) (initSt [.slice (.pair (.bool) (.slice (.int .u32)))] (a0, ())) = T_unipoly_Derivative (kk_unipoly_Derivative_25 S) a0 := by kernel_rfl
theorem seg_unipoly_Derivative_25 (S : Nat → KT (RT [(.slice (.pair (.bool) (.slice (.int .u32))), false)])) (x0 : List (Bool × List Int)) (x15 : Int) (x16 : Int) (x3 : List (Bool × List Int)) : stepT (entry (E_unipoly_Derivative) (lk c_unipoly_Derivative) S 25 (bodyOf Try.f58) noX (fe_unipoly_Derivative) (fe_unipoly_Derivative)) (cn_unipoly_Derivative_25 x0 x15 x16 x3) = S_unipoly_Derivative_25 (kk_unipoly_Derivative_25 S) x0 x15 x16 x3 := by kernel_rfl
noncomputable abbrev tb_unipoly_Derivative := tab (E_unipoly_Derivative) (lk c_unipoly_Derivative) (bodyOf Try.f58) (fe_unipoly_Derivative)
theorem ok_unipoly_Derivative : EnvOK Try.prog (E_unipoly_Derivative) := mkE_ok tys_ok ⟨⟨fs_integer_Of.csound, ⟨Try.f41, by kernel_rfl, by kernel_rfl, by kernel_rfl⟩⟩, ⟨fs_integer_Mul.csound, ⟨Try.f49, by kernel_rfl, by kernel_rfl, by kernel_rfl⟩⟩, trivial⟩ ⟨⟨PSound.mix os_unipoly_trim.psound (CSound.psound fs_unipoly_trim.csound), ⟨Try.f25, by kernel_rfl, by kernel_rfl, by kernel_rfl⟩⟩, trivial⟩
theorem fs_unipoly_Derivative : FSound Try.prog 58 [.slice (.pair (.bool) (.slice (.int .u32)))] [(.slice (.pair (.bool) (.slice (.int .u32))), false)] (fun τ => F_unipoly_Derivative τ.1) :=
  evG_sound (E := (E_unipoly_Derivative)) (C := (lk c_unipoly_Derivative)) ok_unipoly_Derivative mixed_ok (fn := Try.f58) (c := (bodyOf Try.f58)) (by kernel_rfl) (by kernel_rfl) (by kernel_rfl) (by kernel_rfl) (by kernel_rfl) (by kernel_rfl) (fun τ r h => by
    obtain ⟨a0, ⟨⟩⟩ := τ
    obtain ⟨m, hm⟩ := Rn_unipoly_Derivative (fun m => kk_unipoly_Derivative_25 (tb_unipoly_Derivative m)) (fun m x0 x15 x16 x3 => (tab_succ (E_unipoly_Derivative) (lk c_unipoly_Derivative) (bodyOf Try.f58) (fe_unipoly_Derivative) m 25 (cn_unipoly_Derivative_25 x0 x15 x16 x3)).trans (seg_unipoly_Derivative_25 (tb_unipoly_Derivative m) x0 x15 x16 x3)) a0 r h
    exact ⟨m, (top_unipoly_Derivative (tb_unipoly_Derivative m) a0).trans (hm m (Nat.le_refl m))⟩)

abbrev E_sturm_Of : Env := mkE tys [(7, callE [.slice (.pair (.bool) (.slice (.int .u32))), .slice (.pair (.bool) (.slice (.int .u32)))] [(.slice (.slice (.pair (.bool) (.slice (.int .u32)))), false)] (fun τ => F_sturm_Chain τ.1 τ.2.1)), (58, callE [.slice (.pair (.bool) (.slice (.int .u32)))] [(.slice (.pair (.bool) (.slice (.int .u32))), false)] (fun τ => F_unipoly_Derivative τ.1))] []
def c_sturm_Of : List (Nat × Live) := []
noncomputable abbrev fe_sturm_Of := (finE (E_sturm_Of) [(.slice (.slice (.pair (.bool) (.slice (.int .u32)))), false)] Try.f43.results.toList)
theorem top_sturm_Of (S : Nat → KT (RT [(.slice (.slice (.pair (.bool) (.slice (.int .u32)))), false)])) (a0 : List (Bool × List Int)) : evA (E_sturm_Of) (lk c_sturm_Of) S (bodyOf Try.f43) noX (fe_sturm_Of) (fe_sturm_Of) (initSt [.slice (.pair (.bool) (.slice (.int .u32)))] (a0, ())) = T_sturm_Of a0 := by kernel_rfl
noncomputable abbrev tb_sturm_Of := tab (E_sturm_Of) (lk c_sturm_Of) (bodyOf Try.f43) (fe_sturm_Of)
theorem ok_sturm_Of : EnvOK Try.prog (E_sturm_Of) := mkE_ok tys_ok ⟨⟨fs_sturm_Chain.csound, ⟨Try.f7, by kernel_rfl, by kernel_rfl, by kernel_rfl⟩⟩, ⟨fs_unipoly_Derivative.csound, ⟨Try.f58, by kernel_rfl, by kernel_rfl, by kernel_rfl⟩⟩, trivial⟩ trivial
theorem fs_sturm_Of : FSound Try.prog 43 [.slice (.pair (.bool) (.slice (.int .u32)))] [(.slice (.slice (.pair (.bool) (.slice (.int .u32)))), false)] (fun τ => F_sturm_Of τ.1) :=
  evG_sound (E := (E_sturm_Of)) (C := (lk c_sturm_Of)) ok_sturm_Of mixed_ok (fn := Try.f43) (c := (bodyOf Try.f43)) (by kernel_rfl) (by kernel_rfl) (by kernel_rfl) (by kernel_rfl) (by kernel_rfl) (by kernel_rfl) (fun τ r h => by
    obtain ⟨a0, ⟨⟩⟩ := τ
    obtain ⟨m, hm⟩ := Rn_sturm_Of a0 r h
    exact ⟨m, (top_sturm_Of (tb_sturm_Of m) a0).trans (hm m (Nat.le_refl m))⟩)

abbrev E_sturm_All : Env := mkE tys [(20, callE [.slice (.slice (.pair (.bool) (.slice (.int .u32)))), .bool] [(.int .i64, false)] (fun τ => F_sturm_VariationsEnd τ.1 τ.2.1)), (43, callE [.slice (.pair (.bool) (.slice (.int .u32)))] [(.slice (.slice (.pair (.bool) (.slice (.int .u32)))), false)] (fun τ => F_sturm_Of τ.1))] []
def c_sturm_All : List (Nat × Live) := []
noncomputable abbrev fe_sturm_All := (finE (E_sturm_All) [(.int .i64, false)] Try.f21.results.toList)
theorem top_sturm_All (S : Nat → KT (RT [(.int .i64, false)])) (a0 : List (Bool × List Int)) : evA (E_sturm_All) (lk c_sturm_All) S (bodyOf Try.f21) noX (fe_sturm_All) (fe_sturm_All) (initSt [.slice (.pair (.bool) (.slice (.int .u32)))] (a0, ())) = T_sturm_All a0 := by kernel_rfl
noncomputable abbrev tb_sturm_All := tab (E_sturm_All) (lk c_sturm_All) (bodyOf Try.f21) (fe_sturm_All)
theorem ok_sturm_All : EnvOK Try.prog (E_sturm_All) := mkE_ok tys_ok ⟨⟨fs_sturm_VariationsEnd.csound, ⟨Try.f20, by kernel_rfl, by kernel_rfl, by kernel_rfl⟩⟩, ⟨fs_sturm_Of.csound, ⟨Try.f43, by kernel_rfl, by kernel_rfl, by kernel_rfl⟩⟩, trivial⟩ trivial
theorem fs_sturm_All : FSound Try.prog 21 [.slice (.pair (.bool) (.slice (.int .u32)))] [(.int .i64, false)] (fun τ => F_sturm_All τ.1) :=
  evG_sound (E := (E_sturm_All)) (C := (lk c_sturm_All)) ok_sturm_All mixed_ok (fn := Try.f21) (c := (bodyOf Try.f21)) (by kernel_rfl) (by kernel_rfl) (by kernel_rfl) (by kernel_rfl) (by kernel_rfl) (by kernel_rfl) (fun τ r h => by
    obtain ⟨a0, ⟨⟩⟩ := τ
    obtain ⟨m, hm⟩ := Rn_sturm_All a0 r h
    exact ⟨m, (top_sturm_All (tb_sturm_All m) a0).trans (hm m (Nat.le_refl m))⟩)

abbrev E_law15_awake : Env := mkE tys [(21, callE [.slice (.pair (.bool) (.slice (.int .u32)))] [(.int .i64, false)] (fun τ => F_sturm_All τ.1)), (22, callE [.slice (.int .i64)] [(.slice (.pair (.bool) (.slice (.int .u32))), false)] (fun τ => F_unipoly_Of τ.1))] []
def c_law15_awake : List (Nat × Live) := []
noncomputable abbrev fe_law15_awake := (finE (E_law15_awake) [(.bool, false)] Try.f5.results.toList)
theorem top_law15_awake (S : Nat → KT (RT [(.bool, false)])) : evA (E_law15_awake) (lk c_law15_awake) S (bodyOf Try.f5) noX (fe_law15_awake) (fe_law15_awake) (initSt [] ()) = T_law15_awake := by kernel_rfl
noncomputable abbrev tb_law15_awake := tab (E_law15_awake) (lk c_law15_awake) (bodyOf Try.f5) (fe_law15_awake)
theorem ok_law15_awake : EnvOK Try.prog (E_law15_awake) := mkE_ok tys_ok ⟨⟨fs_sturm_All.csound, ⟨Try.f21, by kernel_rfl, by kernel_rfl, by kernel_rfl⟩⟩, ⟨fs_unipoly_Of.csound, ⟨Try.f22, by kernel_rfl, by kernel_rfl, by kernel_rfl⟩⟩, trivial⟩ trivial
theorem fs_law15_awake : FSound Try.prog 5 [] [(.bool, false)] (fun τ => F_law15_awake) :=
  evG_sound (E := (E_law15_awake)) (C := (lk c_law15_awake)) ok_law15_awake mixed_ok (fn := Try.f5) (c := (bodyOf Try.f5)) (by kernel_rfl) (by kernel_rfl) (by kernel_rfl) (by kernel_rfl) (by kernel_rfl) (by kernel_rfl) (fun τ r h => by
    obtain ⟨⟩ := τ
    obtain ⟨m, hm⟩ := Rn_law15_awake r h
    exact ⟨m, (top_law15_awake (tb_law15_awake m)).trans (hm m (Nat.le_refl m))⟩)

abbrev E_law15_Short : Env := mkE tys [(22, callE [.slice (.int .i64)] [(.slice (.pair (.bool) (.slice (.int .u32))), false)] (fun τ => F_unipoly_Of τ.1))] []
def c_law15_Short : List (Nat × Live) := [(13, ⟨[(0, .slice (.int .i16)), (1, .int .i64), (6, .int .i64)], [(false, 5, .int .i64)], []⟩)]
noncomputable abbrev fe_law15_Short := (finE (E_law15_Short) [(.slice (.pair (.bool) (.slice (.int .u32))), false)] Try.f6.results.toList)
noncomputable abbrev cn_law15_Short_13 (x0 : List Int) (x1 : Int) (x6 : Int) (x5 : List Int) : St := ⟨[(5, .one (.loc (.int .i64) 10000)), (6, .one (.val (.int .i64) x6)), (1, .one (.val (.int .i64) x1)), (0, .one (.val (.slice (.int .i16)) x0))], [(10000, some ⟨.int .i64, x5, false⟩)]⟩
noncomputable abbrev kk_law15_Short_13 (S : Nat → KT (RT [(.slice (.pair (.bool) (.slice (.int .u32))), false)])) := fun (x0 : List Int) (x1 : Int) (x6 : Int) (x5 : List Int) => S 13 (cn_law15_Short_13 x0 x1 x6 x5)
theorem top_law15_Short (S : Nat → KT (RT [(.slice (.pair (.bool) (.slice (.int .u32))), false)])) (a0 : List Int) (a1 : Int) : evA (E_law15_Short) (lk c_law15_Short) S (bodyOf Try.f6) noX (fe_law15_Short) (fe_law15_Short) (initSt [.slice (.int .i16), .int .i64] (a0, a1, ())) = T_law15_Short (kk_law15_Short_13 S) a0 a1 := by kernel_rfl
theorem seg_law15_Short_13 (S : Nat → KT (RT [(.slice (.pair (.bool) (.slice (.int .u32))), false)])) (x0 : List Int) (x1 : Int) (x6 : Int) (x5 : List Int) : stepT (entry (E_law15_Short) (lk c_law15_Short) S 13 (bodyOf Try.f6) noX (fe_law15_Short) (fe_law15_Short)) (cn_law15_Short_13 x0 x1 x6 x5) = S_law15_Short_13 (kk_law15_Short_13 S) x0 x1 x6 x5 := by kernel_rfl
noncomputable abbrev tb_law15_Short := tab (E_law15_Short) (lk c_law15_Short) (bodyOf Try.f6) (fe_law15_Short)
theorem ok_law15_Short : EnvOK Try.prog (E_law15_Short) := mkE_ok tys_ok ⟨⟨fs_unipoly_Of.csound, ⟨Try.f22, by kernel_rfl, by kernel_rfl, by kernel_rfl⟩⟩, trivial⟩ trivial
theorem fs_law15_Short : FSound Try.prog 6 [.slice (.int .i16), .int .i64] [(.slice (.pair (.bool) (.slice (.int .u32))), false)] (fun τ => F_law15_Short τ.1 τ.2.1) :=
  evG_sound (E := (E_law15_Short)) (C := (lk c_law15_Short)) ok_law15_Short mixed_ok (fn := Try.f6) (c := (bodyOf Try.f6)) (by kernel_rfl) (by kernel_rfl) (by kernel_rfl) (by kernel_rfl) (by kernel_rfl) (by kernel_rfl) (fun τ r h => by
    obtain ⟨a0, a1, ⟨⟩⟩ := τ
    obtain ⟨m, hm⟩ := Rn_law15_Short (fun m => kk_law15_Short_13 (tb_law15_Short m)) (fun m x0 x1 x6 x5 => (tab_succ (E_law15_Short) (lk c_law15_Short) (bodyOf Try.f6) (fe_law15_Short) m 13 (cn_law15_Short_13 x0 x1 x6 x5)).trans (seg_law15_Short_13 (tb_law15_Short m) x0 x1 x6 x5)) a0 a1 r h
    exact ⟨m, (top_law15_Short (tb_law15_Short m) a0 a1).trans (hm m (Nat.le_refl m))⟩)

abbrev E_rational_one : Env := mkE tys [(57, callE [.int .u64] [(.slice (.int .u32), false)] (fun τ => F_natural_Of τ.1))] []
def c_rational_one : List (Nat × Live) := []
noncomputable abbrev fe_rational_one := (finE (E_rational_one) [(.slice (.int .u32), false)] Try.f68.results.toList)
theorem top_rational_one (S : Nat → KT (RT [(.slice (.int .u32), false)])) : evA (E_rational_one) (lk c_rational_one) S (bodyOf Try.f68) noX (fe_rational_one) (fe_rational_one) (initSt [] ()) = T_rational_one := by kernel_rfl
noncomputable abbrev tb_rational_one := tab (E_rational_one) (lk c_rational_one) (bodyOf Try.f68) (fe_rational_one)
theorem ok_rational_one : EnvOK Try.prog (E_rational_one) := mkE_ok tys_ok ⟨⟨fs_natural_Of.csound, ⟨Try.f57, by kernel_rfl, by kernel_rfl, by kernel_rfl⟩⟩, trivial⟩ trivial
theorem fs_rational_one : FSound Try.prog 68 [] [(.slice (.int .u32), false)] (fun τ => F_rational_one) :=
  evG_sound (E := (E_rational_one)) (C := (lk c_rational_one)) ok_rational_one mixed_ok (fn := Try.f68) (c := (bodyOf Try.f68)) (by kernel_rfl) (by kernel_rfl) (by kernel_rfl) (by kernel_rfl) (by kernel_rfl) (by kernel_rfl) (fun τ r h => by
    obtain ⟨⟩ := τ
    obtain ⟨m, hm⟩ := Rn_rational_one r h
    exact ⟨m, (top_rational_one (tb_rational_one m)).trans (hm m (Nat.le_refl m))⟩)

abbrev E_rational_isOne : Env := mkE tys [] []
def c_rational_isOne : List (Nat × Live) := []
noncomputable abbrev fe_rational_isOne := (finE (E_rational_isOne) [(.bool, false)] Try.f69.results.toList)
theorem top_rational_isOne (S : Nat → KT (RT [(.bool, false)])) (a0 : List Int) : evA (E_rational_isOne) (lk c_rational_isOne) S (bodyOf Try.f69) noX (fe_rational_isOne) (fe_rational_isOne) (initSt [.slice (.int .u32)] (a0, ())) = T_rational_isOne a0 := by kernel_rfl
noncomputable abbrev tb_rational_isOne := tab (E_rational_isOne) (lk c_rational_isOne) (bodyOf Try.f69) (fe_rational_isOne)
theorem ok_rational_isOne : EnvOK Try.prog (E_rational_isOne) := mkE_ok tys_ok trivial trivial
theorem fs_rational_isOne : FSound Try.prog 69 [.slice (.int .u32)] [(.bool, false)] (fun τ => F_rational_isOne τ.1) :=
  evG_sound (E := (E_rational_isOne)) (C := (lk c_rational_isOne)) ok_rational_isOne mixed_ok (fn := Try.f69) (c := (bodyOf Try.f69)) (by kernel_rfl) (by kernel_rfl) (by kernel_rfl) (by kernel_rfl) (by kernel_rfl) (by kernel_rfl) (fun τ r h => by
    obtain ⟨a0, ⟨⟩⟩ := τ
    obtain ⟨m, hm⟩ := Rn_rational_isOne a0 r h
    exact ⟨m, (top_rational_isOne (tb_rational_isOne m) a0).trans (hm m (Nat.le_refl m))⟩)

abbrev E_rational_made : Env := mkE tys [(36, callE [.slice (.int .u32)] [(.bool, false)] (fun τ => F_natural_IsZero τ.1)), (37, callE [.pair (.bool) (.slice (.int .u32))] [(.pair (.bool) (.slice (.int .u32)), false)] (fun τ => F_integer_Normal τ.1)), (44, callE [.pair (.bool) (.slice (.int .u32)), .pair (.bool) (.slice (.int .u32))] [(.pair (.bool) (.slice (.int .u32)), false), (.int .i64, false)] (fun τ => F_division_Exact τ.1 τ.2.1)), (46, callE [.pair (.bool) (.slice (.int .u32)), .pair (.bool) (.slice (.int .u32))] [(.pair (.bool) (.slice (.int .u32)), false)] (fun τ => F_division_Gcd τ.1 τ.2.1)), (52, callE [.bool, .slice (.int .u32)] [(.pair (.bool) (.slice (.int .u32)), false)] (fun τ => F_integer_From τ.1 τ.2.1)), (62, callE [.slice (.int .u32)] [(.slice (.int .u32), true)] (fun τ => F_natural_Normal τ.1)), (68, callE [] [(.slice (.int .u32), false)] (fun τ => F_rational_one)), (69, callE [.slice (.int .u32)] [(.bool, false)] (fun τ => F_rational_isOne τ.1))] []
def c_rational_made : List (Nat × Live) := [(12, ⟨[(20, .bool)], [(false, 1, .int .u32), (true, 2, .pair (.bool) (.slice (.int .u32))), (true, 4, .pair (.pair (.bool) (.slice (.int .u32))) (.slice (.int .u32)))], []⟩)]
noncomputable abbrev fe_rational_made := (finE (E_rational_made) [(.pair (.pair (.bool) (.slice (.int .u32))) (.slice (.int .u32)), false)] Try.f55.results.toList)
noncomputable abbrev cn_rational_made_12 (x20 : Bool) (x1 : List Int) (x2 : Bool × List Int) (x4 : (Bool × List Int) × List Int) : St := ⟨[(4, .one (.ptr 10002 0 [])), (2, .one (.ptr 10001 0 [])), (1, .one (.loc (.int .u32) 10000)), (20, .one (.val (.bool) x20))], [(10002, some ⟨.pair (.pair (.bool) (.slice (.int .u32))) (.slice (.int .u32)), [x4], false⟩), (10001, some ⟨.pair (.bool) (.slice (.int .u32)), [x2], false⟩), (10000, some ⟨.int .u32, x1, false⟩)]⟩
noncomputable abbrev kk_rational_made_12 (S : Nat → KT (RT [(.pair (.pair (.bool) (.slice (.int .u32))) (.slice (.int .u32)), false)])) := fun (x20 : Bool) (x1 : List Int) (x2 : Bool × List Int) (x4 : (Bool × List Int) × List Int) => S 12 (cn_rational_made_12 x20 x1 x2 x4)
theorem top_rational_made (S : Nat → KT (RT [(.pair (.pair (.bool) (.slice (.int .u32))) (.slice (.int .u32)), false)])) (a0 : Bool × List Int) (a1 : List Int) : evA (E_rational_made) (lk c_rational_made) S (bodyOf Try.f55) noX (fe_rational_made) (fe_rational_made) (initSt [.pair (.bool) (.slice (.int .u32)), .slice (.int .u32)] (a0, a1, ())) = T_rational_made (kk_rational_made_12 S) a0 a1 := by kernel_rfl
theorem seg_rational_made_12 (S : Nat → KT (RT [(.pair (.pair (.bool) (.slice (.int .u32))) (.slice (.int .u32)), false)])) (x20 : Bool) (x1 : List Int) (x2 : Bool × List Int) (x4 : (Bool × List Int) × List Int) : stepT (entry (E_rational_made) (lk c_rational_made) S 12 (bodyOf Try.f55) noX (fe_rational_made) (fe_rational_made)) (cn_rational_made_12 x20 x1 x2 x4) = S_rational_made_12 (kk_rational_made_12 S) x20 x1 x2 x4 := by kernel_rfl
noncomputable abbrev tb_rational_made := tab (E_rational_made) (lk c_rational_made) (bodyOf Try.f55) (fe_rational_made)
theorem ok_rational_made : EnvOK Try.prog (E_rational_made) := mkE_ok tys_ok ⟨⟨fs_natural_IsZero.csound, ⟨Try.f36, by kernel_rfl, by kernel_rfl, by kernel_rfl⟩⟩, ⟨fs_integer_Normal.csound, ⟨Try.f37, by kernel_rfl, by kernel_rfl, by kernel_rfl⟩⟩, ⟨fs_division_Exact.csound, ⟨Try.f44, by kernel_rfl, by kernel_rfl, by kernel_rfl⟩⟩, ⟨fs_division_Gcd.csound, ⟨Try.f46, by kernel_rfl, by kernel_rfl, by kernel_rfl⟩⟩, ⟨fs_integer_From.csound, ⟨Try.f52, by kernel_rfl, by kernel_rfl, by kernel_rfl⟩⟩, ⟨fs_natural_Normal.csound, ⟨Try.f62, by kernel_rfl, by kernel_rfl, by kernel_rfl⟩⟩, ⟨fs_rational_one.csound, ⟨Try.f68, by kernel_rfl, by kernel_rfl, by kernel_rfl⟩⟩, ⟨fs_rational_isOne.csound, ⟨Try.f69, by kernel_rfl, by kernel_rfl, by kernel_rfl⟩⟩, trivial⟩ trivial
theorem fs_rational_made : FSound Try.prog 55 [.pair (.bool) (.slice (.int .u32)), .slice (.int .u32)] [(.pair (.pair (.bool) (.slice (.int .u32))) (.slice (.int .u32)), false)] (fun τ => F_rational_made τ.1 τ.2.1) :=
  evG_sound (E := (E_rational_made)) (C := (lk c_rational_made)) ok_rational_made mixed_ok (fn := Try.f55) (c := (bodyOf Try.f55)) (by kernel_rfl) (by kernel_rfl) (by kernel_rfl) (by kernel_rfl) (by kernel_rfl) (by kernel_rfl) (fun τ r h => by
    obtain ⟨a0, a1, ⟨⟩⟩ := τ
    obtain ⟨m, hm⟩ := Rn_rational_made (fun m => kk_rational_made_12 (tb_rational_made m)) (fun m x20 x1 x2 x4 => (tab_succ (E_rational_made) (lk c_rational_made) (bodyOf Try.f55) (fe_rational_made) m 12 (cn_rational_made_12 x20 x1 x2 x4)).trans (seg_rational_made_12 (tb_rational_made m) x20 x1 x2 x4)) a0 a1 r h
    exact ⟨m, (top_rational_made (tb_rational_made m) a0 a1).trans (hm m (Nat.le_refl m))⟩)

abbrev E_rational_Normal : Env := mkE tys [(55, callE [.pair (.bool) (.slice (.int .u32)), .slice (.int .u32)] [(.pair (.pair (.bool) (.slice (.int .u32))) (.slice (.int .u32)), false)] (fun τ => F_rational_made τ.1 τ.2.1))] []
def c_rational_Normal : List (Nat × Live) := []
noncomputable abbrev fe_rational_Normal := (finE (E_rational_Normal) [(.pair (.pair (.bool) (.slice (.int .u32))) (.slice (.int .u32)), false)] Try.f53.results.toList)
theorem top_rational_Normal (S : Nat → KT (RT [(.pair (.pair (.bool) (.slice (.int .u32))) (.slice (.int .u32)), false)])) (a0 : (Bool × List Int) × List Int) : evA (E_rational_Normal) (lk c_rational_Normal) S (bodyOf Try.f53) noX (fe_rational_Normal) (fe_rational_Normal) (initSt [.pair (.pair (.bool) (.slice (.int .u32))) (.slice (.int .u32))] (a0, ())) = T_rational_Normal a0 := by kernel_rfl
noncomputable abbrev tb_rational_Normal := tab (E_rational_Normal) (lk c_rational_Normal) (bodyOf Try.f53) (fe_rational_Normal)
theorem ok_rational_Normal : EnvOK Try.prog (E_rational_Normal) := mkE_ok tys_ok ⟨⟨fs_rational_made.csound, ⟨Try.f55, by kernel_rfl, by kernel_rfl, by kernel_rfl⟩⟩, trivial⟩ trivial
theorem fs_rational_Normal : FSound Try.prog 53 [.pair (.pair (.bool) (.slice (.int .u32))) (.slice (.int .u32))] [(.pair (.pair (.bool) (.slice (.int .u32))) (.slice (.int .u32)), false)] (fun τ => F_rational_Normal τ.1) :=
  evG_sound (E := (E_rational_Normal)) (C := (lk c_rational_Normal)) ok_rational_Normal mixed_ok (fn := Try.f53) (c := (bodyOf Try.f53)) (by kernel_rfl) (by kernel_rfl) (by kernel_rfl) (by kernel_rfl) (by kernel_rfl) (by kernel_rfl) (fun τ r h => by
    obtain ⟨a0, ⟨⟩⟩ := τ
    obtain ⟨m, hm⟩ := Rn_rational_Normal a0 r h
    exact ⟨m, (top_rational_Normal (tb_rational_Normal m) a0).trans (hm m (Nat.le_refl m))⟩)

abbrev E_unipoly_scaled : Env := mkE tys [(41, callE [.int .i64] [(.pair (.bool) (.slice (.int .u32)), false)] (fun τ => F_integer_Of τ.1)), (48, callE [.pair (.bool) (.slice (.int .u32)), .pair (.bool) (.slice (.int .u32))] [(.pair (.bool) (.slice (.int .u32)), false)] (fun τ => F_integer_Add τ.1 τ.2.1)), (49, callE [.pair (.bool) (.slice (.int .u32)), .pair (.bool) (.slice (.int .u32))] [(.pair (.bool) (.slice (.int .u32)), false)] (fun τ => F_integer_Mul τ.1 τ.2.1)), (53, callE [.pair (.pair (.bool) (.slice (.int .u32))) (.slice (.int .u32))] [(.pair (.pair (.bool) (.slice (.int .u32))) (.slice (.int .u32)), false)] (fun τ => F_rational_Normal τ.1))] [(25, mixO (callO [] false (.pair (.bool) (.slice (.int .u32))) .pre (fun τ l => O_unipoly_trim l)) (callI (callE [.slice (.pair (.bool) (.slice (.int .u32)))] [(.slice (.pair (.bool) (.slice (.int .u32))), false)] (fun τ => F_unipoly_trim τ.1))))]
def c_unipoly_scaled : List (Nat × Live) := [(21, ⟨[(0, .slice (.pair (.bool) (.slice (.int .u32)))), (9, .int .i64)], [(true, 3, .pair (.pair (.bool) (.slice (.int .u32))) (.slice (.int .u32))), (true, 4, .pair (.bool) (.slice (.int .u32))), (true, 5, .pair (.bool) (.slice (.int .u32))), (true, 6, .pair (.bool) (.slice (.int .u32))), (true, 7, .pair (.bool) (.slice (.int .u32))), (true, 8, .pair (.bool) (.slice (.int .u32)))], []⟩)]
noncomputable abbrev fe_unipoly_scaled := (finE (E_unipoly_scaled) [(.pair (.bool) (.slice (.int .u32)), false), (.pair (.bool) (.slice (.int .u32)), false)] Try.f38.results.toList)
noncomputable abbrev cn_unipoly_scaled_21 (x0 : List (Bool × List Int)) (x9 : Int) (x3 : (Bool × List Int) × List Int) (x4 : Bool × List Int) (x5 : Bool × List Int) (x6 : Bool × List Int) (x7 : Bool × List Int) (x8 : Bool × List Int) : St := ⟨[(8, .one (.ptr 10005 0 [])), (7, .one (.ptr 10004 0 [])), (6, .one (.ptr 10003 0 [])), (5, .one (.ptr 10002 0 [])), (4, .one (.ptr 10001 0 [])), (3, .one (.ptr 10000 0 [])), (9, .one (.val (.int .i64) x9)), (0, .one (.val (.slice (.pair (.bool) (.slice (.int .u32)))) x0))], [(10005, some ⟨.pair (.bool) (.slice (.int .u32)), [x8], false⟩), (10004, some ⟨.pair (.bool) (.slice (.int .u32)), [x7], false⟩), (10003, some ⟨.pair (.bool) (.slice (.int .u32)), [x6], false⟩), (10002, some ⟨.pair (.bool) (.slice (.int .u32)), [x5], false⟩), (10001, some ⟨.pair (.bool) (.slice (.int .u32)), [x4], false⟩), (10000, some ⟨.pair (.pair (.bool) (.slice (.int .u32))) (.slice (.int .u32)), [x3], false⟩)]⟩
noncomputable abbrev kk_unipoly_scaled_21 (S : Nat → KT (RT [(.pair (.bool) (.slice (.int .u32)), false), (.pair (.bool) (.slice (.int .u32)), false)])) := fun (x0 : List (Bool × List Int)) (x9 : Int) (x3 : (Bool × List Int) × List Int) (x4 : Bool × List Int) (x5 : Bool × List Int) (x6 : Bool × List Int) (x7 : Bool × List Int) (x8 : Bool × List Int) => S 21 (cn_unipoly_scaled_21 x0 x9 x3 x4 x5 x6 x7 x8)
theorem top_unipoly_scaled (S : Nat → KT (RT [(.pair (.bool) (.slice (.int .u32)), false), (.pair (.bool) (.slice (.int .u32)), false)])) (a0 : List (Bool × List Int)) (a1 : (Bool × List Int) × List Int) : evA (E_unipoly_scaled) (lk c_unipoly_scaled) S (bodyOf Try.f38) noX (fe_unipoly_scaled) (fe_unipoly_scaled) (initSt [.slice (.pair (.bool) (.slice (.int .u32))), .pair (.pair (.bool) (.slice (.int .u32))) (.slice (.int .u32))] (a0, a1, ())) = T_unipoly_scaled (kk_unipoly_scaled_21 S) a0 a1 := by kernel_rfl
theorem seg_unipoly_scaled_21 (S : Nat → KT (RT [(.pair (.bool) (.slice (.int .u32)), false), (.pair (.bool) (.slice (.int .u32)), false)])) (x0 : List (Bool × List Int)) (x9 : Int) (x3 : (Bool × List Int) × List Int) (x4 : Bool × List Int) (x5 : Bool × List Int) (x6 : Bool × List Int) (x7 : Bool × List Int) (x8 : Bool × List Int) : stepT (entry (E_unipoly_scaled) (lk c_unipoly_scaled) S 21 (bodyOf Try.f38) noX (fe_unipoly_scaled) (fe_unipoly_scaled)) (cn_unipoly_scaled_21 x0 x9 x3 x4 x5 x6 x7 x8) = S_unipoly_scaled_21 (kk_unipoly_scaled_21 S) x0 x9 x3 x4 x5 x6 x7 x8 := by kernel_rfl
noncomputable abbrev tb_unipoly_scaled := tab (E_unipoly_scaled) (lk c_unipoly_scaled) (bodyOf Try.f38) (fe_unipoly_scaled)
theorem ok_unipoly_scaled : EnvOK Try.prog (E_unipoly_scaled) := mkE_ok tys_ok ⟨⟨fs_integer_Of.csound, ⟨Try.f41, by kernel_rfl, by kernel_rfl, by kernel_rfl⟩⟩, ⟨fs_integer_Add.csound, ⟨Try.f48, by kernel_rfl, by kernel_rfl, by kernel_rfl⟩⟩, ⟨fs_integer_Mul.csound, ⟨Try.f49, by kernel_rfl, by kernel_rfl, by kernel_rfl⟩⟩, ⟨fs_rational_Normal.csound, ⟨Try.f53, by kernel_rfl, by kernel_rfl, by kernel_rfl⟩⟩, trivial⟩ ⟨⟨PSound.mix os_unipoly_trim.psound (CSound.psound fs_unipoly_trim.csound), ⟨Try.f25, by kernel_rfl, by kernel_rfl, by kernel_rfl⟩⟩, trivial⟩
theorem fs_unipoly_scaled : FSound Try.prog 38 [.slice (.pair (.bool) (.slice (.int .u32))), .pair (.pair (.bool) (.slice (.int .u32))) (.slice (.int .u32))] [(.pair (.bool) (.slice (.int .u32)), false), (.pair (.bool) (.slice (.int .u32)), false)] (fun τ => F_unipoly_scaled τ.1 τ.2.1) :=
  evG_sound (E := (E_unipoly_scaled)) (C := (lk c_unipoly_scaled)) ok_unipoly_scaled mixed_ok (fn := Try.f38) (c := (bodyOf Try.f38)) (by kernel_rfl) (by kernel_rfl) (by kernel_rfl) (by kernel_rfl) (by kernel_rfl) (by kernel_rfl) (fun τ r h => by
    obtain ⟨a0, a1, ⟨⟩⟩ := τ
    obtain ⟨m, hm⟩ := Rn_unipoly_scaled (fun m => kk_unipoly_scaled_21 (tb_unipoly_scaled m)) (fun m x0 x9 x3 x4 x5 x6 x7 x8 => (tab_succ (E_unipoly_scaled) (lk c_unipoly_scaled) (bodyOf Try.f38) (fe_unipoly_scaled) m 21 (cn_unipoly_scaled_21 x0 x9 x3 x4 x5 x6 x7 x8)).trans (seg_unipoly_scaled_21 (tb_unipoly_scaled m) x0 x9 x3 x4 x5 x6 x7 x8)) a0 a1 r h
    exact ⟨m, (top_unipoly_scaled (tb_unipoly_scaled m) a0 a1).trans (hm m (Nat.le_refl m))⟩)

abbrev E_unipoly_SignAt : Env := mkE tys [(12, callE [.pair (.bool) (.slice (.int .u32))] [(.int .i64, false)] (fun τ => F_integer_Sign τ.1)), (38, callE [.slice (.pair (.bool) (.slice (.int .u32))), .pair (.pair (.bool) (.slice (.int .u32))) (.slice (.int .u32))] [(.pair (.bool) (.slice (.int .u32)), false), (.pair (.bool) (.slice (.int .u32)), false)] (fun τ => F_unipoly_scaled τ.1 τ.2.1))] []
def c_unipoly_SignAt : List (Nat × Live) := []
noncomputable abbrev fe_unipoly_SignAt := (finE (E_unipoly_SignAt) [(.int .i64, false)] Try.f15.results.toList)
theorem top_unipoly_SignAt (S : Nat → KT (RT [(.int .i64, false)])) (a0 : List (Bool × List Int)) (a1 : (Bool × List Int) × List Int) : evA (E_unipoly_SignAt) (lk c_unipoly_SignAt) S (bodyOf Try.f15) noX (fe_unipoly_SignAt) (fe_unipoly_SignAt) (initSt [.slice (.pair (.bool) (.slice (.int .u32))), .pair (.pair (.bool) (.slice (.int .u32))) (.slice (.int .u32))] (a0, a1, ())) = T_unipoly_SignAt a0 a1 := by kernel_rfl
noncomputable abbrev tb_unipoly_SignAt := tab (E_unipoly_SignAt) (lk c_unipoly_SignAt) (bodyOf Try.f15) (fe_unipoly_SignAt)
theorem ok_unipoly_SignAt : EnvOK Try.prog (E_unipoly_SignAt) := mkE_ok tys_ok ⟨⟨fs_integer_Sign.csound, ⟨Try.f12, by kernel_rfl, by kernel_rfl, by kernel_rfl⟩⟩, ⟨fs_unipoly_scaled.csound, ⟨Try.f38, by kernel_rfl, by kernel_rfl, by kernel_rfl⟩⟩, trivial⟩ trivial
theorem fs_unipoly_SignAt : FSound Try.prog 15 [.slice (.pair (.bool) (.slice (.int .u32))), .pair (.pair (.bool) (.slice (.int .u32))) (.slice (.int .u32))] [(.int .i64, false)] (fun τ => F_unipoly_SignAt τ.1 τ.2.1) :=
  evG_sound (E := (E_unipoly_SignAt)) (C := (lk c_unipoly_SignAt)) ok_unipoly_SignAt mixed_ok (fn := Try.f15) (c := (bodyOf Try.f15)) (by kernel_rfl) (by kernel_rfl) (by kernel_rfl) (by kernel_rfl) (by kernel_rfl) (by kernel_rfl) (fun τ r h => by
    obtain ⟨a0, a1, ⟨⟩⟩ := τ
    obtain ⟨m, hm⟩ := Rn_unipoly_SignAt a0 a1 r h
    exact ⟨m, (top_unipoly_SignAt (tb_unipoly_SignAt m) a0 a1).trans (hm m (Nat.le_refl m))⟩)

abbrev E_ref15_Frac : Env := mkE tys [] []
def c_ref15_Frac : List (Nat × Live) := []
noncomputable abbrev fe_ref15_Frac := (finE (E_ref15_Frac) [(.int .i64, false), (.int .i64, false)] Try.f39.results.toList)
theorem top_ref15_Frac (S : Nat → KT (RT [(.int .i64, false), (.int .i64, false)])) (a0 : List Int) : evA (E_ref15_Frac) (lk c_ref15_Frac) S (bodyOf Try.f39) noX (fe_ref15_Frac) (fe_ref15_Frac) (initSt [.arr 2 (.int .i8)] (a0, ())) = T_ref15_Frac a0 := by kernel_rfl
noncomputable abbrev tb_ref15_Frac := tab (E_ref15_Frac) (lk c_ref15_Frac) (bodyOf Try.f39) (fe_ref15_Frac)
theorem ok_ref15_Frac : EnvOK Try.prog (E_ref15_Frac) := mkE_ok tys_ok trivial trivial
theorem fs_ref15_Frac : FSound Try.prog 39 [.arr 2 (.int .i8)] [(.int .i64, false), (.int .i64, false)] (fun τ => F_ref15_Frac τ.1) :=
  evG_sound (E := (E_ref15_Frac)) (C := (lk c_ref15_Frac)) ok_ref15_Frac mixed_ok (fn := Try.f39) (c := (bodyOf Try.f39)) (by kernel_rfl) (by kernel_rfl) (by kernel_rfl) (by kernel_rfl) (by kernel_rfl) (by kernel_rfl) (fun τ r h => by
    obtain ⟨a0, ⟨⟩⟩ := τ
    obtain ⟨m, hm⟩ := Rn_ref15_Frac a0 r h
    exact ⟨m, (top_ref15_Frac (tb_ref15_Frac m) a0).trans (hm m (Nat.le_refl m))⟩)

abbrev E_integer_Neg : Env := mkE tys [(52, callE [.bool, .slice (.int .u32)] [(.pair (.bool) (.slice (.int .u32)), false)] (fun τ => F_integer_From τ.1 τ.2.1))] []
def c_integer_Neg : List (Nat × Live) := []
noncomputable abbrev fe_integer_Neg := (finE (E_integer_Neg) [(.pair (.bool) (.slice (.int .u32)), false)] Try.f54.results.toList)
theorem top_integer_Neg (S : Nat → KT (RT [(.pair (.bool) (.slice (.int .u32)), false)])) (a0 : Bool × List Int) : evA (E_integer_Neg) (lk c_integer_Neg) S (bodyOf Try.f54) noX (fe_integer_Neg) (fe_integer_Neg) (initSt [.pair (.bool) (.slice (.int .u32))] (a0, ())) = T_integer_Neg a0 := by kernel_rfl
noncomputable abbrev tb_integer_Neg := tab (E_integer_Neg) (lk c_integer_Neg) (bodyOf Try.f54) (fe_integer_Neg)
theorem ok_integer_Neg : EnvOK Try.prog (E_integer_Neg) := mkE_ok tys_ok ⟨⟨fs_integer_From.csound, ⟨Try.f52, by kernel_rfl, by kernel_rfl, by kernel_rfl⟩⟩, trivial⟩ trivial
theorem fs_integer_Neg : FSound Try.prog 54 [.pair (.bool) (.slice (.int .u32))] [(.pair (.bool) (.slice (.int .u32)), false)] (fun τ => F_integer_Neg τ.1) :=
  evG_sound (E := (E_integer_Neg)) (C := (lk c_integer_Neg)) ok_integer_Neg mixed_ok (fn := Try.f54) (c := (bodyOf Try.f54)) (by kernel_rfl) (by kernel_rfl) (by kernel_rfl) (by kernel_rfl) (by kernel_rfl) (by kernel_rfl) (fun τ r h => by
    obtain ⟨a0, ⟨⟩⟩ := τ
    obtain ⟨m, hm⟩ := Rn_integer_Neg a0 r h
    exact ⟨m, (top_integer_Neg (tb_integer_Neg m) a0).trans (hm m (Nat.le_refl m))⟩)

abbrev E_rational_Make : Env := mkE tys [(36, callE [.slice (.int .u32)] [(.bool, false)] (fun τ => F_natural_IsZero τ.1)), (54, callE [.pair (.bool) (.slice (.int .u32))] [(.pair (.bool) (.slice (.int .u32)), false)] (fun τ => F_integer_Neg τ.1)), (55, callE [.pair (.bool) (.slice (.int .u32)), .slice (.int .u32)] [(.pair (.pair (.bool) (.slice (.int .u32))) (.slice (.int .u32)), false)] (fun τ => F_rational_made τ.1 τ.2.1))] []
def c_rational_Make : List (Nat × Live) := []
noncomputable abbrev fe_rational_Make := (finE (E_rational_Make) [(.pair (.pair (.bool) (.slice (.int .u32))) (.slice (.int .u32)), false), (.int .i64, false)] Try.f40.results.toList)
theorem top_rational_Make (S : Nat → KT (RT [(.pair (.pair (.bool) (.slice (.int .u32))) (.slice (.int .u32)), false), (.int .i64, false)])) (a0 : Bool × List Int) (a1 : Bool × List Int) : evA (E_rational_Make) (lk c_rational_Make) S (bodyOf Try.f40) noX (fe_rational_Make) (fe_rational_Make) (initSt [.pair (.bool) (.slice (.int .u32)), .pair (.bool) (.slice (.int .u32))] (a0, a1, ())) = T_rational_Make a0 a1 := by kernel_rfl
noncomputable abbrev tb_rational_Make := tab (E_rational_Make) (lk c_rational_Make) (bodyOf Try.f40) (fe_rational_Make)
theorem ok_rational_Make : EnvOK Try.prog (E_rational_Make) := mkE_ok tys_ok ⟨⟨fs_natural_IsZero.csound, ⟨Try.f36, by kernel_rfl, by kernel_rfl, by kernel_rfl⟩⟩, ⟨fs_integer_Neg.csound, ⟨Try.f54, by kernel_rfl, by kernel_rfl, by kernel_rfl⟩⟩, ⟨fs_rational_made.csound, ⟨Try.f55, by kernel_rfl, by kernel_rfl, by kernel_rfl⟩⟩, trivial⟩ trivial
theorem fs_rational_Make : FSound Try.prog 40 [.pair (.bool) (.slice (.int .u32)), .pair (.bool) (.slice (.int .u32))] [(.pair (.pair (.bool) (.slice (.int .u32))) (.slice (.int .u32)), false), (.int .i64, false)] (fun τ => F_rational_Make τ.1 τ.2.1) :=
  evG_sound (E := (E_rational_Make)) (C := (lk c_rational_Make)) ok_rational_Make mixed_ok (fn := Try.f40) (c := (bodyOf Try.f40)) (by kernel_rfl) (by kernel_rfl) (by kernel_rfl) (by kernel_rfl) (by kernel_rfl) (by kernel_rfl) (fun τ r h => by
    obtain ⟨a0, a1, ⟨⟩⟩ := τ
    obtain ⟨m, hm⟩ := Rn_rational_Make a0 a1 r h
    exact ⟨m, (top_rational_Make (tb_rational_Make m) a0 a1).trans (hm m (Nat.le_refl m))⟩)

abbrev E_law15_Rat : Env := mkE tys [(39, callE [.arr 2 (.int .i8)] [(.int .i64, false), (.int .i64, false)] (fun τ => F_ref15_Frac τ.1)), (40, callE [.pair (.bool) (.slice (.int .u32)), .pair (.bool) (.slice (.int .u32))] [(.pair (.pair (.bool) (.slice (.int .u32))) (.slice (.int .u32)), false), (.int .i64, false)] (fun τ => F_rational_Make τ.1 τ.2.1)), (41, callE [.int .i64] [(.pair (.bool) (.slice (.int .u32)), false)] (fun τ => F_integer_Of τ.1))] []
def c_law15_Rat : List (Nat × Live) := []
noncomputable abbrev fe_law15_Rat := (finE (E_law15_Rat) [(.pair (.pair (.bool) (.slice (.int .u32))) (.slice (.int .u32)), false)] Try.f16.results.toList)
theorem top_law15_Rat (S : Nat → KT (RT [(.pair (.pair (.bool) (.slice (.int .u32))) (.slice (.int .u32)), false)])) (a0 : List Int) : evA (E_law15_Rat) (lk c_law15_Rat) S (bodyOf Try.f16) noX (fe_law15_Rat) (fe_law15_Rat) (initSt [.arr 2 (.int .i8)] (a0, ())) = T_law15_Rat a0 := by kernel_rfl
noncomputable abbrev tb_law15_Rat := tab (E_law15_Rat) (lk c_law15_Rat) (bodyOf Try.f16) (fe_law15_Rat)
theorem ok_law15_Rat : EnvOK Try.prog (E_law15_Rat) := mkE_ok tys_ok ⟨⟨fs_ref15_Frac.csound, ⟨Try.f39, by kernel_rfl, by kernel_rfl, by kernel_rfl⟩⟩, ⟨fs_rational_Make.csound, ⟨Try.f40, by kernel_rfl, by kernel_rfl, by kernel_rfl⟩⟩, ⟨fs_integer_Of.csound, ⟨Try.f41, by kernel_rfl, by kernel_rfl, by kernel_rfl⟩⟩, trivial⟩ trivial
theorem fs_law15_Rat : FSound Try.prog 16 [.arr 2 (.int .i8)] [(.pair (.pair (.bool) (.slice (.int .u32))) (.slice (.int .u32)), false)] (fun τ => F_law15_Rat τ.1) :=
  evG_sound (E := (E_law15_Rat)) (C := (lk c_law15_Rat)) ok_law15_Rat mixed_ok (fn := Try.f16) (c := (bodyOf Try.f16)) (by kernel_rfl) (by kernel_rfl) (by kernel_rfl) (by kernel_rfl) (by kernel_rfl) (by kernel_rfl) (fun τ r h => by
    obtain ⟨a0, ⟨⟩⟩ := τ
    obtain ⟨m, hm⟩ := Rn_law15_Rat a0 r h
    exact ⟨m, (top_law15_Rat (tb_law15_Rat m) a0).trans (hm m (Nat.le_refl m))⟩)

abbrev E_sturm_Variations : Env := mkE tys [(15, callE [.slice (.pair (.bool) (.slice (.int .u32))), .pair (.pair (.bool) (.slice (.int .u32))) (.slice (.int .u32))] [(.int .i64, false)] (fun τ => F_unipoly_SignAt τ.1 τ.2.1)), (42, callE [.slice (.int .i64)] [(.int .i64, false)] (fun τ => F_sturm_changes τ.1))] []
def c_sturm_Variations : List (Nat × Live) := [(13, ⟨[(11, .slice (.slice (.pair (.bool) (.slice (.int .u32))))), (12, .int .i64), (13, .int .i64)], [(true, 3, .pair (.pair (.bool) (.slice (.int .u32))) (.slice (.int .u32))), (false, 5, .int .i64)], []⟩)]
noncomputable abbrev fe_sturm_Variations := (finE (E_sturm_Variations) [(.int .i64, false)] Try.f18.results.toList)
noncomputable abbrev cn_sturm_Variations_13 (x11 : List (List (Bool × List Int))) (x12 : Int) (x13 : Int) (x3 : (Bool × List Int) × List Int) (x5 : List Int) : St := ⟨[(5, .one (.loc (.int .i64) 10001)), (3, .one (.ptr 10000 0 [])), (13, .one (.val (.int .i64) x13)), (12, .one (.val (.int .i64) x12)), (11, .one (.val (.slice (.slice (.pair (.bool) (.slice (.int .u32))))) x11))], [(10001, some ⟨.int .i64, x5, false⟩), (10000, some ⟨.pair (.pair (.bool) (.slice (.int .u32))) (.slice (.int .u32)), [x3], false⟩)]⟩
noncomputable abbrev kk_sturm_Variations_13 (S : Nat → KT (RT [(.int .i64, false)])) := fun (x11 : List (List (Bool × List Int))) (x12 : Int) (x13 : Int) (x3 : (Bool × List Int) × List Int) (x5 : List Int) => S 13 (cn_sturm_Variations_13 x11 x12 x13 x3 x5)
theorem top_sturm_Variations (S : Nat → KT (RT [(.int .i64, false)])) (a0 : List (List (Bool × List Int))) (a1 : (Bool × List Int) × List Int) : evA (E_sturm_Variations) (lk c_sturm_Variations) S (bodyOf Try.f18) noX (fe_sturm_Variations) (fe_sturm_Variations) (initSt [.slice (.slice (.pair (.bool) (.slice (.int .u32)))), .pair (.pair (.bool) (.slice (.int .u32))) (.slice (.int .u32))] (a0, a1, ())) = T_sturm_Variations (kk_sturm_Variations_13 S) a0 a1 := by kernel_rfl
theorem seg_sturm_Variations_13 (S : Nat → KT (RT [(.int .i64, false)])) (x11 : List (List (Bool × List Int))) (x12 : Int) (x13 : Int) (x3 : (Bool × List Int) × List Int) (x5 : List Int) : stepT (entry (E_sturm_Variations) (lk c_sturm_Variations) S 13 (bodyOf Try.f18) noX (fe_sturm_Variations) (fe_sturm_Variations)) (cn_sturm_Variations_13 x11 x12 x13 x3 x5) = S_sturm_Variations_13 (kk_sturm_Variations_13 S) x11 x12 x13 x3 x5 := by kernel_rfl
noncomputable abbrev tb_sturm_Variations := tab (E_sturm_Variations) (lk c_sturm_Variations) (bodyOf Try.f18) (fe_sturm_Variations)
theorem ok_sturm_Variations : EnvOK Try.prog (E_sturm_Variations) := mkE_ok tys_ok ⟨⟨fs_unipoly_SignAt.csound, ⟨Try.f15, by kernel_rfl, by kernel_rfl, by kernel_rfl⟩⟩, ⟨fs_sturm_changes.csound, ⟨Try.f42, by kernel_rfl, by kernel_rfl, by kernel_rfl⟩⟩, trivial⟩ trivial
theorem fs_sturm_Variations : FSound Try.prog 18 [.slice (.slice (.pair (.bool) (.slice (.int .u32)))), .pair (.pair (.bool) (.slice (.int .u32))) (.slice (.int .u32))] [(.int .i64, false)] (fun τ => F_sturm_Variations τ.1 τ.2.1) :=
  evG_sound (E := (E_sturm_Variations)) (C := (lk c_sturm_Variations)) ok_sturm_Variations mixed_ok (fn := Try.f18) (c := (bodyOf Try.f18)) (by kernel_rfl) (by kernel_rfl) (by kernel_rfl) (by kernel_rfl) (by kernel_rfl) (by kernel_rfl) (fun τ r h => by
    obtain ⟨a0, a1, ⟨⟩⟩ := τ
    obtain ⟨m, hm⟩ := Rn_sturm_Variations (fun m => kk_sturm_Variations_13 (tb_sturm_Variations m)) (fun m x11 x12 x13 x3 x5 => (tab_succ (E_sturm_Variations) (lk c_sturm_Variations) (bodyOf Try.f18) (fe_sturm_Variations) m 13 (cn_sturm_Variations_13 x11 x12 x13 x3 x5)).trans (seg_sturm_Variations_13 (tb_sturm_Variations m) x11 x12 x13 x3 x5)) a0 a1 r h
    exact ⟨m, (top_sturm_Variations (tb_sturm_Variations m) a0 a1).trans (hm m (Nat.le_refl m))⟩)

abbrev E_law15_changes : Env := mkE tys [] []
def c_law15_changes : List (Nat × Live) := [(17, ⟨[(0, .slice (.int .i64)), (3, .int .i64), (4, .int .i64), (5, .int .i64)], [], []⟩)]
noncomputable abbrev fe_law15_changes := (finE (E_law15_changes) [(.int .i64, false)] Try.f19.results.toList)
noncomputable abbrev cn_law15_changes_17 (x0 : List Int) (x3 : Int) (x4 : Int) (x5 : Int) : St := ⟨[(5, .one (.val (.int .i64) x5)), (4, .one (.val (.int .i64) x4)), (3, .one (.val (.int .i64) x3)), (0, .one (.val (.slice (.int .i64)) x0))], []⟩
noncomputable abbrev kk_law15_changes_17 (S : Nat → KT (RT [(.int .i64, false)])) := fun (x0 : List Int) (x3 : Int) (x4 : Int) (x5 : Int) => S 17 (cn_law15_changes_17 x0 x3 x4 x5)
theorem top_law15_changes (S : Nat → KT (RT [(.int .i64, false)])) (a0 : List Int) : evA (E_law15_changes) (lk c_law15_changes) S (bodyOf Try.f19) noX (fe_law15_changes) (fe_law15_changes) (initSt [.slice (.int .i64)] (a0, ())) = T_law15_changes (kk_law15_changes_17 S) a0 := by kernel_rfl
theorem seg_law15_changes_17 (S : Nat → KT (RT [(.int .i64, false)])) (x0 : List Int) (x3 : Int) (x4 : Int) (x5 : Int) : stepT (entry (E_law15_changes) (lk c_law15_changes) S 17 (bodyOf Try.f19) noX (fe_law15_changes) (fe_law15_changes)) (cn_law15_changes_17 x0 x3 x4 x5) = S_law15_changes_17 (kk_law15_changes_17 S) x0 x3 x4 x5 := by kernel_rfl
noncomputable abbrev tb_law15_changes := tab (E_law15_changes) (lk c_law15_changes) (bodyOf Try.f19) (fe_law15_changes)
theorem ok_law15_changes : EnvOK Try.prog (E_law15_changes) := mkE_ok tys_ok trivial trivial
theorem fs_law15_changes : FSound Try.prog 19 [.slice (.int .i64)] [(.int .i64, false)] (fun τ => F_law15_changes τ.1) :=
  evG_sound (E := (E_law15_changes)) (C := (lk c_law15_changes)) ok_law15_changes mixed_ok (fn := Try.f19) (c := (bodyOf Try.f19)) (by kernel_rfl) (by kernel_rfl) (by kernel_rfl) (by kernel_rfl) (by kernel_rfl) (by kernel_rfl) (fun τ r h => by
    obtain ⟨a0, ⟨⟩⟩ := τ
    obtain ⟨m, hm⟩ := Rn_law15_changes (fun m => kk_law15_changes_17 (tb_law15_changes m)) (fun m x0 x3 x4 x5 => (tab_succ (E_law15_changes) (lk c_law15_changes) (bodyOf Try.f19) (fe_law15_changes) m 17 (cn_law15_changes_17 x0 x3 x4 x5)).trans (seg_law15_changes_17 (tb_law15_changes m) x0 x3 x4 x5)) a0 r h
    exact ⟨m, (top_law15_changes (tb_law15_changes m) a0).trans (hm m (Nat.le_refl m))⟩)

abbrev E_law15_SturmVariations : Env := mkE tys [(5, callE [] [(.bool, false)] (fun τ => F_law15_awake)), (6, callE [.slice (.int .i16), .int .i64] [(.slice (.pair (.bool) (.slice (.int .u32))), false)] (fun τ => F_law15_Short τ.1 τ.2.1)), (15, callE [.slice (.pair (.bool) (.slice (.int .u32))), .pair (.pair (.bool) (.slice (.int .u32))) (.slice (.int .u32))] [(.int .i64, false)] (fun τ => F_unipoly_SignAt τ.1 τ.2.1)), (16, callE [.arr 2 (.int .i8)] [(.pair (.pair (.bool) (.slice (.int .u32))) (.slice (.int .u32)), false)] (fun τ => F_law15_Rat τ.1)), (17, callE [.slice (.pair (.bool) (.slice (.int .u32))), .bool] [(.int .i64, false)] (fun τ => F_unipoly_SignEnd τ.1 τ.2.1)), (18, callE [.slice (.slice (.pair (.bool) (.slice (.int .u32)))), .pair (.pair (.bool) (.slice (.int .u32))) (.slice (.int .u32))] [(.int .i64, false)] (fun τ => F_sturm_Variations τ.1 τ.2.1)), (19, callE [.slice (.int .i64)] [(.int .i64, false)] (fun τ => F_law15_changes τ.1)), (20, callE [.slice (.slice (.pair (.bool) (.slice (.int .u32)))), .bool] [(.int .i64, false)] (fun τ => F_sturm_VariationsEnd τ.1 τ.2.1))] []
def c_law15_SturmVariations : List (Nat × Live) := [(25, ⟨[(9, .int .i64)], [(true, 2, .arr 3 (.slice (.int .i16))), (true, 3, .arr 2 (.int .i8)), (false, 5, .slice (.pair (.bool) (.slice (.int .u32)))), (false, 6, .int .i64), (false, 7, .int .i64), (false, 8, .int .i64)], []⟩)]
noncomputable abbrev fe_law15_SturmVariations := (finE (E_law15_SturmVariations) [(.bool, false)] Try.f4.results.toList)
noncomputable abbrev cn_law15_SturmVariations_25 (x9 : Int) (x2 : List (List Int)) (x3 : List Int) (x5 : List (List (Bool × List Int))) (x6 : List Int) (x7 : List Int) (x8 : List Int) : St := ⟨[(8, .one (.loc (.int .i64) 10005)), (7, .one (.loc (.int .i64) 10004)), (6, .one (.loc (.int .i64) 10003)), (5, .one (.loc (.slice (.pair (.bool) (.slice (.int .u32)))) 10002)), (3, .one (.ptr 10001 0 [])), (2, .one (.ptr 10000 0 [])), (9, .one (.val (.int .i64) x9))], [(10005, some ⟨.int .i64, x8, false⟩), (10004, some ⟨.int .i64, x7, false⟩), (10003, some ⟨.int .i64, x6, false⟩), (10002, some ⟨.slice (.pair (.bool) (.slice (.int .u32))), x5, false⟩), (10001, some ⟨.arr 2 (.int .i8), [x3], false⟩), (10000, some ⟨.arr 3 (.slice (.int .i16)), [x2], false⟩)]⟩
noncomputable abbrev kk_law15_SturmVariations_25 (S : Nat → KT (RT [(.bool, false)])) := fun (x9 : Int) (x2 : List (List Int)) (x3 : List Int) (x5 : List (List (Bool × List Int))) (x6 : List Int) (x7 : List Int) (x8 : List Int) => S 25 (cn_law15_SturmVariations_25 x9 x2 x3 x5 x6 x7 x8)
theorem top_law15_SturmVariations (S : Nat → KT (RT [(.bool, false)])) (a0 : List (List Int)) (a1 : List Int) : evA (E_law15_SturmVariations) (lk c_law15_SturmVariations) S (bodyOf Try.f4) noX (fe_law15_SturmVariations) (fe_law15_SturmVariations) (initSt [.arr 3 (.slice (.int .i16)), .arr 2 (.int .i8)] (a0, a1, ())) = T_law15_SturmVariations (kk_law15_SturmVariations_25 S) a0 a1 := by kernel_rfl
theorem seg_law15_SturmVariations_25 (S : Nat → KT (RT [(.bool, false)])) (x9 : Int) (x2 : List (List Int)) (x3 : List Int) (x5 : List (List (Bool × List Int))) (x6 : List Int) (x7 : List Int) (x8 : List Int) : stepT (entry (E_law15_SturmVariations) (lk c_law15_SturmVariations) S 25 (bodyOf Try.f4) noX (fe_law15_SturmVariations) (fe_law15_SturmVariations)) (cn_law15_SturmVariations_25 x9 x2 x3 x5 x6 x7 x8) = S_law15_SturmVariations_25 (kk_law15_SturmVariations_25 S) x9 x2 x3 x5 x6 x7 x8 := by kernel_rfl
noncomputable abbrev tb_law15_SturmVariations := tab (E_law15_SturmVariations) (lk c_law15_SturmVariations) (bodyOf Try.f4) (fe_law15_SturmVariations)
theorem ok_law15_SturmVariations : EnvOK Try.prog (E_law15_SturmVariations) := mkE_ok tys_ok ⟨⟨fs_law15_awake.csound, ⟨Try.f5, by kernel_rfl, by kernel_rfl, by kernel_rfl⟩⟩, ⟨fs_law15_Short.csound, ⟨Try.f6, by kernel_rfl, by kernel_rfl, by kernel_rfl⟩⟩, ⟨fs_unipoly_SignAt.csound, ⟨Try.f15, by kernel_rfl, by kernel_rfl, by kernel_rfl⟩⟩, ⟨fs_law15_Rat.csound, ⟨Try.f16, by kernel_rfl, by kernel_rfl, by kernel_rfl⟩⟩, ⟨fs_unipoly_SignEnd.csound, ⟨Try.f17, by kernel_rfl, by kernel_rfl, by kernel_rfl⟩⟩, ⟨fs_sturm_Variations.csound, ⟨Try.f18, by kernel_rfl, by kernel_rfl, by kernel_rfl⟩⟩, ⟨fs_law15_changes.csound, ⟨Try.f19, by kernel_rfl, by kernel_rfl, by kernel_rfl⟩⟩, ⟨fs_sturm_VariationsEnd.csound, ⟨Try.f20, by kernel_rfl, by kernel_rfl, by kernel_rfl⟩⟩, trivial⟩ trivial
theorem fs_law15_SturmVariations : FSound Try.prog 4 [.arr 3 (.slice (.int .i16)), .arr 2 (.int .i8)] [(.bool, false)] (fun τ => F_law15_SturmVariations τ.1 τ.2.1) :=
  evG_sound (E := (E_law15_SturmVariations)) (C := (lk c_law15_SturmVariations)) ok_law15_SturmVariations mixed_ok (fn := Try.f4) (c := (bodyOf Try.f4)) (by kernel_rfl) (by kernel_rfl) (by kernel_rfl) (by kernel_rfl) (by kernel_rfl) (by kernel_rfl) (fun τ r h => by
    obtain ⟨a0, a1, ⟨⟩⟩ := τ
    obtain ⟨m, hm⟩ := Rn_law15_SturmVariations (fun m => kk_law15_SturmVariations_25 (tb_law15_SturmVariations m)) (fun m x9 x2 x3 x5 x6 x7 x8 => (tab_succ (E_law15_SturmVariations) (lk c_law15_SturmVariations) (bodyOf Try.f4) (fe_law15_SturmVariations) m 25 (cn_law15_SturmVariations_25 x9 x2 x3 x5 x6 x7 x8)).trans (seg_law15_SturmVariations_25 (tb_law15_SturmVariations m) x9 x2 x3 x5 x6 x7 x8)) a0 a1 r h
    exact ⟨m, (top_law15_SturmVariations (tb_law15_SturmVariations m) a0 a1).trans (hm m (Nat.le_refl m))⟩)
end
end Go.W

set_option linter.unusedVariables false
set_option linter.unusedSimpArgs false
namespace Go.W
open Go.ChangeShapes Go.WideShapes Go.ChangeAt Go.RowKit

/-! ### What a statement's reading of an argument says -/
def wfT : (t : Ty) → t.D → Prop
  | .int k, n => k.min ≤ n ∧ n ≤ k.max
  | .bool, _ => True
  | .str, s => ByteArray.size s ≤ maxLen
  | .slice e, l => l.length ≤ maxLen ∧ ∀ x ∈ l, wfT e x
  | .pair a b, v => wfT a v.1 ∧ wfT b v.2
  | .arr n e, l => l.length = n ∧ ∀ x ∈ l, wfT e x
  | .fn _, _ => True

/-- a reading of cells opens to a typed value -/
def Opens (P : Program) (t : TypeId) (ty : Ty) : Prop := ∀ (H : Type) (enc : TypeId × Value → H) (w : World) (fuel : Nat) (cs : List Value) (x : DataW H × List MemPlace),
  DataW.trod enc P w 0 (fun _ => true) true fuel t cs = some x → ∃ v : ty.D, Rep w (fun g => g < w.heap.size) ty v cs ∧ wfT ty v

theorem opens_int {P : Program} {t : TypeId} {k : IntKind} (hu : P.underlying t = some (.int k)) : Opens P t (.int k) := by
  intro H enc w fuel cs x h
  obtain ⟨n, rfl, _, hw⟩ := DataW.trod_int hu h
  exact ⟨n, rfl, by simpa [wfT, Lit.wf] using hw⟩

theorem opens_bool {P : Program} {t : TypeId} (hu : P.underlying t = some .bool) : Opens P t .bool := by
  intro H enc w fuel cs x h
  obtain ⟨n, rfl, _⟩ := DataW.trod_bool hu h
  exact ⟨n, rfl, trivial⟩

theorem opens_str {P : Program} {t : TypeId} (hu : P.underlying t = some .string) : Opens P t .str := by
  intro H enc w fuel cs x h
  obtain ⟨n, rfl, _, hw⟩ := DataW.trod_string hu h
  exact ⟨n, rfl, hw⟩

theorem exists_listW {α : Type} {p : Nat → α → Prop} : ∀ n : Nat, (∀ i, i < n → ∃ x, p i x) → ∃ l : List α, l.length = n ∧ ∀ i (h : i < l.length), p i l[i]
  | 0, _ => ⟨[], rfl, fun i h => by simp at h⟩
  | n + 1, h => by
    obtain ⟨l, hl, hp⟩ := exists_listW n (fun i hi => h i (by omega))
    obtain ⟨x, hx⟩ := h n (by omega)
    refine ⟨l ++ [x], by simp [hl], fun i hi => ?_⟩
    by_cases hc : i < l.length
    · rw [List.getElem_append_left hc]; exact hp i hc
    · have : i = n := by simp at hi; omega
      subst this
      rw [List.getElem_append_right (by omega)]
      simpa [hl] using hx

theorem opens_slice {P : Program} {t e : TypeId} {ty : Ty} (hu : P.underlying t = some (.slice e)) (hc : P.cellsOf e = ty.size) (hp : 0 < ty.size) (he : Opens P e ty) : Opens P t (.slice ty) := by
  intro H enc w fuel cs x h
  rcases DataW.trod_slice hu h with ⟨rfl, _⟩ | ⟨a, len, cap, elems, rest, n, _, rfl, _, _, hl, hm, hlen, hel, _⟩
  · exact ⟨[], ⟨none, 0, rfl, Nat.le_refl _, fun i hi => by simp at hi⟩, by simp [wfT]⟩
  · obtain ⟨b, off, spot⟩ := a
    have hspot : 0 < len → spot = none := fun h0 => by
      have h1 := hel 0 h0
      have h2 : 0 < elems.length := by omega
      rw [List.getElem?_eq_getElem h2] at h1
      cases hcs : w.cells? 0 ((⟨b, off, spot⟩ : Addr).add (0 * P.cellsOf e)) (P.cellsOf e) with
      | none => rw [hcs] at h1; cases h1
      | some es =>
        unfold World.cells? at hcs
        rw [if_pos (Nat.zero_le _)] at hcs
        have := mapM_some_get hcs 0 0 (by rw [hc]; simp [hp])
        cases hz : es[0]? with
        | none =>
          rw [hz] at this
          have hlen := mapM_some_length hcs
          have := List.getElem?_eq_none_iff.1 hz
          simp at hlen; omega
        | some u => rw [hz] at this; exact World.cell?_spot (a := ⟨b, off, spot⟩) (by simpa [Addr.add] using this)
    have each : ∀ i, i < len → ∃ v : ty.D, (∃ es, Rep w (fun g => g < w.heap.size) ty v es ∧ b < w.heap.size ∧ spot = none ∧ ∀ j u, es[j]? = some u → w.cell? ⟨b, off + i * ty.size + j, none⟩ = some u) ∧ wfT ty v := fun i hi => by
      obtain rfl := hspot (by omega)
      have h1 := hel i hi
      have h2 : i < elems.length := by omega
      rw [List.getElem?_eq_getElem h2] at h1
      cases hcs : w.cells? 0 ((⟨b, off, none⟩ : Addr).add (i * P.cellsOf e)) (P.cellsOf e) with
      | none => rw [hcs] at h1; cases h1
      | some es =>
        rw [hcs] at h1
        obtain ⟨v, hr, hv⟩ := he H enc w n es _ h1
        unfold World.cells? at hcs
        rw [if_pos (Nat.zero_le _)] at hcs
        have hlen := mapM_some_length hcs
        have hget : ∀ j u, es[j]? = some u → w.cell? ⟨b, off + i * ty.size + j, none⟩ = some u := fun j u hj => by
          have hj' : j < P.cellsOf e := by
            have := (List.getElem?_eq_some_iff.1 hj).1
            simp at hlen; omega
          have := mapM_some_get hcs j j (by simp [hj'])
          rw [hj] at this
          rwa [Addr.add_lit, Addr.add_lit, hc] at this
        have hsz := hr.size
        obtain ⟨u, hu'⟩ : ∃ u, es[0]? = some u := ⟨es[0]'(by omega), by rw [List.getElem?_eq_getElem]⟩
        have h0 := hget 0 u hu'
        exact ⟨v, ⟨es, hr, World.block_lt_of_cell? w _ h0, rfl, hget⟩, hv⟩
    obtain ⟨l, hll, hl'⟩ := exists_listW len each
    refine ⟨l, ⟨_, cap, by rw [hll], by omega, fun i hi => ?_⟩, by omega, fun x hx => ?_⟩
    · obtain ⟨⟨es, hr, hb, rfl, hg⟩, _⟩ := hl' i hi
      exact ⟨b, off, es, rfl, hb, hr, hg⟩
    · obtain ⟨i, hi, rfl⟩ := List.getElem_of_mem hx
      exact (hl' i hi).2

theorem take_drop_all {α : Type} (l : List α) (a b : Nat) (h : l.length = a + b) : l = (l.drop 0).take a ++ (l.drop a).take b := by
  have : (l.drop a).take b = l.drop a := List.take_of_length_le (by simp; omega)
  rw [this, List.drop_zero, List.take_append_drop]

theorem opens_pair {P : Program} {t : TypeId} {f0 f1 : Field} {a b : Ty} (hu : P.underlying t = some (.struct #[f0, f1])) (hc : P.cellsOf t = a.size + b.size) (h0 : f0.offset = 0) (h1 : f1.offset = a.size)
    (c0 : P.cellsOf f0.type = a.size) (c1 : P.cellsOf f1.type = b.size) (o0 : Opens P f0.type a) (o1 : Opens P f1.type b) : Opens P t (.pair a b) := by
  intro H enc w fuel cs x h
  obtain ⟨y0, y1, n, _, hl, e0, e1⟩ := trod_struct2 hu h
  rw [h0, c0] at e0
  rw [h1, c1] at e1
  obtain ⟨v0, r0, w0⟩ := o0 H enc w n _ _ e0
  obtain ⟨v1, r1, w1⟩ := o1 H enc w n _ _ e1
  exact ⟨(v0, v1), ⟨_, _, take_drop_all cs _ _ (by omega), r0, r1⟩, w0, w1⟩

theorem opens_three {P : Program} {t : TypeId} {f0 f1 f2 : Field} {a b c : Ty} (hu : P.underlying t = some (.struct #[f0, f1, f2])) (hc : P.cellsOf t = a.size + (b.size + c.size)) (h0 : f0.offset = 0) (h1 : f1.offset = a.size)
    (h2 : f2.offset = a.size + b.size) (c0 : P.cellsOf f0.type = a.size) (c1 : P.cellsOf f1.type = b.size) (c2 : P.cellsOf f2.type = c.size) (o0 : Opens P f0.type a) (o1 : Opens P f1.type b) (o2 : Opens P f2.type c) : Opens P t (.pair a (.pair b c)) := by
  intro H enc w fuel cs x h
  obtain ⟨xs, n, _, rfl, hl, hlen, hf⟩ := DataW.trod_struct hu h
  match xs, hlen with
  | [y0, y1, y2], _ =>
    have e0 := hf 0 f0 rfl
    have e1 := hf 1 f1 rfl
    have e2 := hf 2 f2 rfl
    rw [h0, c0] at e0
    rw [h1, c1] at e1
    rw [h2, c2] at e2
    obtain ⟨v0, r0, w0⟩ := o0 H enc w n _ _ e0
    obtain ⟨v1, r1, w1⟩ := o1 H enc w n _ _ e1
    obtain ⟨v2, r2, w2⟩ := o2 H enc w n _ _ e2
    refine ⟨(v0, v1, v2), ⟨(cs.drop 0).take a.size, cs.drop a.size, by simp, r0, ⟨(cs.drop a.size).take b.size, (cs.drop (a.size + b.size)).take c.size, ?_, r1, r2⟩⟩, w0, w1, w2⟩
    have := take_drop_all (cs.drop a.size) b.size c.size (by simp; omega)
    simpa [List.drop_drop] using this

theorem opens_two {P : Program} {t e : TypeId} {ty : Ty} (hu : P.underlying t = some (.array 2 e)) (hc : P.cellsOf t = 2 * ty.size) (he : P.cellsOf e = ty.size) (o : Opens P e ty) : Opens P t (.arr 2 ty) := by
  intro H enc w fuel cs x h
  obtain ⟨xs, m, _, rfl, hl, hlen, hf⟩ := DataW.trod_array hu h
  match xs, hlen with
  | [y0, y1], _ =>
    have h0 := hf 0 (by omega)
    have h1 := hf 1 (by omega)
    rw [he] at h0 h1
    obtain ⟨v0, r0, w0⟩ := o H enc w m _ y0 h0
    obtain ⟨v1, r1, w1⟩ := o H enc w m _ y1 h1
    refine ⟨[v0, v1], ⟨rfl, [(cs.drop (0 * ty.size)).take ty.size, (cs.drop (1 * ty.size)).take ty.size], ?_, rfl, fun i hi hi' => ?_⟩, rfl, fun x hx => ?_⟩
    · have := take_drop_all cs ty.size ty.size (by omega)
      simpa using this
    · match i, hi with
      | 0, _ => exact r0
      | 1, _ => exact r1
    · simp only [List.mem_cons, List.not_mem_nil, or_false] at hx
      rcases hx with rfl | rfl
      · exact w0
      · exact w1

def chk {α : Type} (s : Nat) : Nat → List α → List (List α)
  | 0, _ => []
  | n + 1, l => l.take s :: chk s n (l.drop s)
theorem chk_len {α : Type} (s : Nat) : ∀ (n : Nat) (l : List α), (chk s n l).length = n
  | 0, _ => rfl
  | n + 1, l => by simp [chk, chk_len s n]
theorem chk_flat {α : Type} (s : Nat) : ∀ (n : Nat) (l : List α), l.length = n * s → (chk s n l).flatten = l
  | 0, l, h => by
    have : l = [] := List.eq_nil_of_length_eq_zero (by omega)
    rw [this]; rfl
  | n + 1, l, h => by
    rw [Nat.add_mul] at h
    simp only [chk, List.flatten_cons]
    rw [chk_flat s n (l.drop s) (by simp; omega), List.take_append_drop]
theorem chk_get {α : Type} (s : Nat) : ∀ (n i : Nat) (l : List α) (h : i < (chk s n l).length), (chk s n l)[i] = (l.drop (i * s)).take s
  | 0, i, l, h => by simp [chk] at h
  | n + 1, 0, l, h => by simp [chk]
  | n + 1, i + 1, l, h => by
    simp only [chk, List.getElem_cons_succ]
    rw [chk_get s n i (l.drop s), List.drop_drop, Nat.add_mul, Nat.one_mul, Nat.add_comm]
theorem opens_arr {P : Program} {t e : TypeId} {ty : Ty} {n : Nat} (hu : P.underlying t = some (.array n e)) (hc : P.cellsOf t = n * ty.size) (he : P.cellsOf e = ty.size) (o : Opens P e ty) : Opens P t (.arr n ty) := by
  intro H enc w fuel cs x h
  obtain ⟨xs, m, _, rfl, hl, hlen, hf⟩ := DataW.trod_array hu h
  obtain ⟨l, l1, l2⟩ := exists_listW (p := fun i v => Rep w (fun g => g < w.heap.size) ty v ((cs.drop (i * ty.size)).take ty.size) ∧ wfT ty v) n (fun i hi => by
    have h1 := hf i hi
    rw [he, List.getElem?_eq_getElem (by omega)] at h1
    obtain ⟨v, r, wf⟩ := o H enc w m _ _ h1
    exact ⟨v, r, wf⟩)
  refine ⟨l, ⟨l1, chk ty.size n cs, (chk_flat _ _ _ (by omega)).symm, by rw [chk_len, l1], fun i hi hi' => ?_⟩, l1, fun v hv => ?_⟩
  · rw [chk_get]; exact (l2 i hi).1
  · obtain ⟨i, hi, rfl⟩ := List.getElem_of_mem hv
    exact (l2 i hi).2

/-- a whole value opens -/
def OpensV (P : Program) (t : TypeId) (ty : Ty) : Prop := ∀ (H : Type) (enc : TypeId × Value → H) (w : World) (base : Nat) (v : Value) (d : DataW H) (ps : List MemPlace),
  Value.okWide P w .any base t v → DataW.Trod enc P w 0 (fun _ => true) true t v d ps → ∃ x : ty.D, RepV w (fun g => g < w.heap.size) ty x v ∧ wfT ty x

theorem opensV_int {P : Program} {t : TypeId} {k : IntKind} (hu : P.underlying t = some (.int k)) : OpensV P t (.int k) := by
  intro H enc w base v d ps ho ⟨fuel, h⟩
  obtain ⟨n, rfl⟩ := okWide_int hu ho
  obtain ⟨x, hr, hw⟩ := opens_int hu H enc w fuel _ _ h
  exact ⟨x, ⟨_, hr, .inr ⟨rfl, rfl⟩⟩, hw⟩
theorem opensV_bool {P : Program} {t : TypeId} (hu : P.underlying t = some .bool) : OpensV P t .bool := by
  intro H enc w base v d ps ho ⟨fuel, h⟩
  obtain ⟨n, rfl⟩ := okWide_bool hu ho
  obtain ⟨x, hr, hw⟩ := opens_bool hu H enc w fuel _ _ h
  exact ⟨x, ⟨_, hr, .inr ⟨rfl, rfl⟩⟩, hw⟩
theorem opensV_str {P : Program} {t : TypeId} (hu : P.underlying t = some .string) : OpensV P t .str := by
  intro H enc w base v d ps ho ⟨fuel, h⟩
  obtain ⟨n, rfl⟩ := okWide_string hu ho
  obtain ⟨x, hr, hw⟩ := opens_str hu H enc w fuel _ _ h
  exact ⟨x, ⟨_, hr, .inr ⟨rfl, rfl⟩⟩, hw⟩
theorem opensV_slice {P : Program} {t e : TypeId} {ty : Ty} (hu : P.underlying t = some (.slice e)) (ho : Opens P t (.slice ty)) : OpensV P t (.slice ty) := by
  intro H enc w base v d ps hk ⟨fuel, h⟩
  obtain ⟨a, len, cap, rfl⟩ := okWide_slice hu hk
  obtain ⟨x, hr, hw⟩ := ho H enc w fuel _ _ h
  exact ⟨x, ⟨_, hr, .inr ⟨rfl, rfl⟩⟩, hw⟩
theorem opensV_struct {P : Program} {t : TypeId} {fs : Array Field} {a b : Ty} (hu : P.underlying t = some (.struct fs)) (ho : Opens P t (.pair a b)) : OpensV P t (.pair a b) := by
  intro H enc w base v d ps hk ⟨fuel, h⟩
  obtain ⟨cs, rfl, _⟩ := okWide_struct hu hk
  obtain ⟨x, hr, hw⟩ := ho H enc w fuel _ _ h
  exact ⟨x, ⟨_, hr, .inl ⟨rfl, by simp [Value.cells]⟩⟩, hw⟩

theorem opensV_arr {P : Program} {t e : TypeId} {n : Nat} {ty : Ty} (hu : P.underlying t = some (.array n e)) (ho : Opens P t (.arr n ty)) : OpensV P t (.arr n ty) := by
  intro H enc w base v d ps hk ⟨fuel, h⟩
  have hk' : ∃ cs, v = .agg cs := by
    unfold Value.okWide at hk
    rw [hu] at hk
    obtain ⟨cs, e, _⟩ := hk
    exact ⟨cs, e⟩
  obtain ⟨cs, rfl⟩ := hk'
  obtain ⟨x, hr, hw⟩ := ho H enc w fuel _ _ h
  exact ⟨x, ⟨_, hr, .inl ⟨rfl, by simp [Value.cells]⟩⟩, hw⟩

/-! ### All arguments at once -/
def wfA : (ts : List Ty) → AT ts → Prop
  | [], _ => True
  | t :: ts, τ => wfT t τ.1 ∧ wfA ts τ.2
def ParsOK (P : Program) : List TypeId → List Ty → Prop
  | [], [] => True
  | t :: ts, ty :: tys => (OpensV P t ty ∧ P.readableRec t = true ∧ t < P.types.size) ∧ ParsOK P ts tys
  | _, _ => False

theorem args_open {P : Program} {H : Type} {enc : TypeId × Value → H} {w : World} {base : Nat} : ∀ {ts : List TypeId} {tys : List Ty} {vs : List Value} {ds : List (DataW H)} {ps : List MemPlace}, ParsOK P ts tys →
    DataW.TrodAll enc P w 0 (fun _ => true) true ts vs ds ps → (∀ (j : Nat) t v, ts[j]? = some t → vs[j]? = some v → Value.okWide P w .any base t v) →
    ∃ τ : AT tys, ArgsRep w (fun g => g < w.heap.size) tys τ vs ∧ wfA tys τ
  | [], [], vs, ds, ps, _, h, _ => by
    obtain ⟨rfl, rfl, rfl⟩ := trodAll_nil h
    exact ⟨(), rfl, trivial⟩
  | t :: ts, ty :: tys, vs, ds, ps, hp, h, hk => by
    obtain ⟨v, vs', d, ds', p, q, rfl, rfl, rfl, h1, h2⟩ := trodAll_cons h
    obtain ⟨x, hx, hw⟩ := hp.1.1 H enc w base v d p (hk 0 t v rfl rfl) h1
    obtain ⟨τ, hτ, hwτ⟩ := args_open hp.2 h2 (fun j t' v' ht hv => hk (j + 1) t' v' (by simpa using ht) (by simpa using hv))
    exact ⟨(x, τ), ⟨v, vs', rfl, hx, hτ⟩, hw, hwτ⟩
  | [], _ :: _, _, _, _, hp, _, _ => hp.elim
  | _ :: _, [], _, _, _, hp, _, _ => hp.elim

theorem args_shut {P : Program} (hl : laidOutB P = true) {H : Type} {enc : TypeId × Value → H} {w w' : World} (hb : Below w.heap.size w w') : ∀ {ts : List TypeId} {tys : List Ty} {vs : List Value} {ds : List (DataW H)} {ps : List MemPlace}, ParsOK P ts tys →
    DataW.TrodAll enc P w 0 (fun _ => true) true ts vs ds ps → DataW.TrodAll enc P w' 0 (fun b => decide (b < w.heap.size)) true ts vs ds ps
  | [], [], vs, ds, ps, _, h => by
    obtain ⟨rfl, rfl, rfl⟩ := trodAll_nil h
    exact rfl
  | t :: ts, ty :: tys, vs, ds, ps, hp, h => by
    obtain ⟨v, vs', d, ds', p, q, rfl, rfl, rfl, h1, h2⟩ := trodAll_cons h
    have lt : ∀ x ∈ p, x.block < w.heap.size := by obtain ⟨m, hm⟩ := h1; exact DataW.trod_lt m _ _ _ hm
    exact trodAll_cons_mk (Below.trod hl hp.1.2.1 hp.1.2.2 h1 hb lt) (args_shut hl hb hp.2 h2)
  | [], _ :: _, _, _, _, hp, _ => hp.elim
  | _ :: _, [], _, _, _, hp, _ => hp.elim

theorem Fr.below {w w' : World} (h : Fr (fun _ => False) w w') : Below w.heap.size w w' :=
  ⟨h.os, h.tape, h.output, h.size, fun k hk => h.block k hk (fun x => x)⟩

/-- A law that returns true for every input: its contract over the machine gives the statement's end. -/
theorem law_post {P : Program} {H : Type} {enc : TypeId × Value → H} {f : FuncId} {fn : Func} {s : ChangeSpec} {tys : List Ty} {F : AT tys → Option (RT [(.bool, false)])} (hl : laidOutB P = true) (hF : FSound P f tys [(.bool, false)] F) (hT : ∀ τ, wfA tys τ → F τ = some true)
    (hp : ParsOK P fn.params.toList tys) {rt : TypeId} (hr : fn.resultTypes = #[rt]) (hb : P.underlying rt = some .bool) (hv : s.vars = []) (hs : ∀ (ds : List (DataW H)), ds.length = fn.params.size → (s.fn H ds).results = [.lit (.bool true)] ∧ (s.fn H ds).args = ds ∧ (s.fn H ds).vars = [])
    {W : World} {base : Nat} {args : Array Value} {ds gs : List (DataW H)} {before : List MemPlace} (hval : ∀ (j : Nat) t v, fn.params[j]? = some t → args[j]? = some v → Value.okWide P W .any base t v)
    (hW : DataW.Whole enc P fn.params.toList s.vars false W args.toList ds gs before) :
    Calls P f args W fun e W' => ∃ v, e = .returned v ∧ s.post enc P fn false true false false W args v W' := by
  have hW' := hW
  obtain ⟨p, q, hA, hV, rfl, hfz, hnd⟩ := hW
  rw [hv] at hV
  obtain ⟨rfl, rfl⟩ := trodVars_none hV
  obtain ⟨τ, hτ, hw⟩ := args_open (base := base) hp hA (fun j t v ht hv => hval j t v (by simpa using ht) (by simpa using hv))
  have hc := hF τ true (hT τ hw) W (fun g => g < W.heap.size) args.toList (fun g hg => hg) hτ
  refine (show Calls P f args.toList.toArray W _ from hc).mono fun e W' ⟨xs, mg, he, hfr, _, hres⟩ => ?_
  obtain ⟨x, xs', rfl, hx, hxs⟩ := hres
  have hxs : xs' = [] := hxs
  subst hxs
  obtain ⟨cs, hcs, hcx⟩ := hx
  have hcs : cs = [.bool true] := hcs
  subst hcs
  have hxe : x = .bool true := by
    rcases hcx with ⟨h, _⟩ | ⟨_, h⟩
    · cases h
    · injection h with h _; exact h.symm
  subst hxe he
  have hbel := hfr.below
  have hlen : ds.length = fn.params.size := by
    have : ∀ {ts : List TypeId} {vs : List Value} {ds : List (DataW H)} {ps : List MemPlace}, DataW.TrodAll enc P W 0 (fun _ => true) true ts vs ds ps → ds.length = ts.length := by
      intro ts
      induction ts with
      | nil => intro vs ds ps h; obtain ⟨_, rfl, _⟩ := trodAll_nil h; rfl
      | cons t ts ih =>
        intro vs ds ps h
        obtain ⟨v, vs', d, ds', p, q, rfl, rfl, rfl, h1, h2⟩ := trodAll_cons h
        simp [ih h2]
    rw [this hA]; simp
  obtain ⟨e1, e2, e3⟩ := hs ds hlen
  refine ⟨_, rfl, ds, [], _, [], p, [], hW', ?_, ?_, ?_, hbel.frame _, fun h => by cases h⟩
  · rw [List.append_nil, e1, hr]
    exact trodAll_mk1 (shut_bool hb _)
  · rw [List.append_nil, e2]
    exact args_shut hl hbel hp hA
  · rw [List.append_nil, e3, hv]; exact rfl
end Go.W

set_option linter.unusedVariables false
namespace Go.W
open Go.Proofs Go.ChangeShapes Go.WideShapes Go.ChangeAt Go.RowKit

theorem own : ownKnob Try.prog.godebug = none := by kernel_rfl
theorem laidOut : laidOutB Try.prog = true := by kernel_rfl
theorem opens_t22 : Opens Try.prog 22 (.slice (.int .i16)) := opens_slice Try.underlying22 (by kernel_rfl) (by decide) (opens_int Try.underlying57)
theorem par_t22 : OpensV Try.prog 22 (.slice (.int .i16)) ∧ Try.prog.readableRec 22 = true ∧ 22 < Try.prog.types.size := ⟨opensV_slice Try.underlying22 opens_t22, by kernel_rfl, of_decide_eq_true (by kernel_rfl)⟩
theorem opens_t42 : Opens Try.prog 42 (.arr 3 (.slice (.int .i16))) := opens_arr Try.underlying42 (by kernel_rfl) (by kernel_rfl) opens_t22
theorem par_t42 : OpensV Try.prog 42 (.arr 3 (.slice (.int .i16))) ∧ Try.prog.readableRec 42 = true ∧ 42 < Try.prog.types.size := ⟨opensV_arr Try.underlying42 opens_t42, by kernel_rfl, of_decide_eq_true (by kernel_rfl)⟩
theorem opens_t44 : Opens Try.prog 44 (.arr 2 (.int .i8)) := opens_arr Try.underlying44 (by kernel_rfl) (by kernel_rfl) (opens_int Try.underlying43)
theorem par_t44 : OpensV Try.prog 44 (.arr 2 (.int .i8)) ∧ Try.prog.readableRec 44 = true ∧ 44 < Try.prog.types.size := ⟨opensV_arr Try.underlying44 opens_t44, by kernel_rfl, of_decide_eq_true (by kernel_rfl)⟩
end Go.W

set_option linter.unusedVariables false
namespace Go.W

/-! ### No function of a closure calls itself: by a rank -/
def leads (P : Program) (g : FuncId) : List FuncId := (P.funcs[g]?).elim [] P.leadsTo

theorem mem_closureVia {P : Program} {J : Nat → Prop} (hJ : ∀ g, J g → ∀ h ∈ leads P g, J h) : ∀ (n : Nat) (todo seen : List FuncId), (∀ x ∈ todo, J x) → (∀ x ∈ seen, J x) → ∀ x ∈ P.closureVia n todo seen, J x
  | 0, todo, seen, _, hs, x, hx => hs x (by simpa [Program.closureVia] using hx)
  | n + 1, [], seen, _, hs, x, hx => hs x (by simpa [Program.closureVia] using hx)
  | n + 1, f :: todo, seen, ht, hs, x, hx => by
    rw [Program.closureVia] at hx
    split at hx
    · exact mem_closureVia hJ n todo seen (fun y hy => ht y (List.mem_cons_of_mem _ hy)) hs x hx
    · refine mem_closureVia hJ n _ (f :: seen) (fun y hy => ?_) (fun y hy => ?_) x hx
      · rcases List.mem_append.1 hy with hy | hy
        · exact hJ f (ht f (by simp)) y hy
        · exact ht y (List.mem_cons_of_mem _ hy)
      · rcases List.mem_cons.1 hy with rfl | hy
        · exact ht _ (by simp)
        · exact hs y hy

def rankOK (P : Program) (l : List Nat) : Bool := l.all fun g => (leads P g).all fun h => Nat.blt (l.idxOf h) (l.idxOf g)

theorem recurses_false {P : Program} {f : FuncId} {l : List Nat} (hu : P.unfollowed f = false) (h : rankOK P l = true) (hf : l.contains f = true) : P.recurses f = false := by
  have hr : ∀ g, g ∈ l → ∀ h ∈ leads P g, h ∈ l ∧ l.idxOf h < l.idxOf g := fun g hg k hk => by
    have h1 := List.all_eq_true.1 h g hg
    have h2 := List.all_eq_true.1 h1 k hk
    have h3 : l.idxOf k < l.idxOf g := by simpa [Nat.blt_eq] using h2
    exact ⟨List.idxOf_lt_length_iff.1 (Nat.lt_of_lt_of_le h3 (List.idxOf_le_length)), h3⟩
  have hf : f ∈ l := by simpa using hf
  unfold Program.recurses
  rw [hu, Bool.false_or]
  rw [Bool.eq_false_iff]
  intro hx
  obtain ⟨g, hg, hx⟩ := List.any_eq_true.1 hx
  obtain ⟨k, hk, hx⟩ := List.any_eq_true.1 hx
  have hgl : g ∈ l := mem_closureVia (J := fun x => x ∈ l) (fun a ha b hb => (hr a ha b hb).1) _ [f] [] (fun x hx => by simpa using (by simpa using hx : x = f) ▸ hf) (fun x hx => by simp at hx) g hg
  obtain ⟨hkl, hlt⟩ := hr g hgl k hk
  have := mem_closureVia (J := fun x => x ∈ l ∧ l.idxOf x ≤ l.idxOf k) (fun a ha b hb => ⟨(hr a ha.1 b hb).1, Nat.le_trans (Nat.le_of_lt (hr a ha.1 b hb).2) ha.2⟩) _ [k] [] (fun x hx => by
    obtain rfl : x = k := by simpa using hx
    exact ⟨hkl, Nat.le_refl _⟩) (fun x hx => by simp at hx) g (by simpa [Program.closure] using hx)
  omega
end Go.W

