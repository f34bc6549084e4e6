/- A part of the proof: texts LkG, RY, GM1, GM2, GM3, GM4, GM5, GM6, GM7, GM8. What is proved in the end stands in the last file. -/
import Derived.Test.YtedncdlpemnpaaaIs4
import Derived.Test.YtedncdlpemnpaaaProg
import Derived.RangeFuncIn
import Derived.RangeFuncRecord
import Derived.RangeFuncSeq
import Derived.RangeFuncCalls
import Derived.TacticsIn
import Derived.OrdersIn
set_option linter.unusedVariables false
set_option linter.unusedSimpArgs false
set_option linter.unusedSectionVars false
set_option linter.unusedVariables false
namespace Go.W
open Go.Proofs
noncomputable section
abbrev tN : Ty := .slice (.int .u32)
abbrev tI : Ty := .pair .bool tN
abbrev tP : Ty := .slice tI

def tys : List (Nat × TI) := [(2, ⟨.int .i64, 0, 0⟩), (3, ⟨.int .i64, 0, 0⟩), (4, ⟨.bool, 0, 0⟩), (5, ⟨.int .u8, 0, 0⟩), (6, ⟨.int .u8, 0, 0⟩), (7, ⟨.pair (.int .i64) (.pair (.int .i64) (.pair (.bool) (.int .u8))), 4, 0⟩), (8, ⟨.pair (.int .i64) (.pair (.int .i64) (.pair (.bool) (.int .u8))), 4, 0⟩), (9, ⟨.str, 0, 0⟩), (10, ⟨.str, 0, 0⟩), (11, ⟨.str, 0, 0⟩), (12, ⟨.int .u64, 0, 0⟩), (13, ⟨.pair (.str) (.int .u64), 2, 0⟩), (14, ⟨.pair (.str) (.int .u64), 2, 0⟩), (21, ⟨.int .i32, 0, 0⟩), (22, ⟨.slice (.int .i16), 0, 2⟩), (23, ⟨.int .i8, 0, 0⟩), (24, ⟨.arr 2 (.int .i8), 0, 0⟩), (25, ⟨.arr 2 (.arr 2 (.int .i8)), 0, 0⟩), (27, ⟨tP, 0, 32⟩), (28, ⟨tP, 0, 32⟩), (30, ⟨tN, 0, 4⟩), (31, ⟨tN, 0, 4⟩), (32, ⟨tI, 2, 0⟩), (33, ⟨tI, 2, 0⟩), (34, ⟨.pair tI tN, 2, 0⟩), (35, ⟨.pair tI tN, 2, 0⟩), (37, ⟨.pair (.pair tI tN) (.pair tI tN), 2, 0⟩), (38, ⟨.pair (.pair tI tN) (.pair tI tN), 2, 0⟩), (41, ⟨.slice (.arr 2 (.arr 2 (.int .i8))), 0, 4⟩), (42, ⟨.slice (.pair (.pair tI tN) (.pair tI tN)), 0, 112⟩), (43, ⟨.arr 2 (.arr 2 (.int .i8)), 0, 0⟩), (44, ⟨.slice (.pair tI tN), 0, 56⟩), (51, ⟨.slice (.int .i64), 0, 8⟩), (52, ⟨.int .i16, 0, 0⟩), (55, ⟨.int .i64, 0, 0⟩), (73, ⟨.slice tP, 0, 24⟩), (75, ⟨.pair tP (.slice tP), 2, 0⟩), (76, ⟨.pair tP (.slice tP), 2, 0⟩), (84, ⟨.int .u64, 0, 0⟩), (97, ⟨.int .u32, 0, 0⟩), (98, ⟨.int .u64, 0, 0⟩), (99, ⟨.slice (.int .i64), 0, 8⟩), (141, ⟨.int .u8, 0, 0⟩), (142, ⟨.int .u8, 0, 0⟩), (145, ⟨.int .i32, 0, 0⟩), (146, ⟨.int .i32, 0, 0⟩)]
theorem tys_ok : tysChk Try.prog (lk tys) tys = true := by kernel_rfl
theorem mixed_ok : Try.prog.follows .mixedOrders = true := by kernel_rfl

abbrev E_natural_trim : Env := mkE tys [] []
def c_natural_trim : List (Nat × Live) := [(9, ⟨[(0, tN), (3, .int .i64)], [], []⟩)]
noncomputable abbrev fe_natural_trim := (finE (E_natural_trim) [(tN, false)] Try.f61.results.toList)
noncomputable abbrev cn_natural_trim_9 (x0 : List Int) (x3 : Int) : St := ⟨[(3, .one (.val (.int .i64) x3)), (0, .one (.val tN x0))], []⟩
noncomputable abbrev kk_natural_trim_9 (S : Nat → KT (RT [(tN, false)])) := fun (x0 : List Int) (x3 : Int) => S 9 (cn_natural_trim_9 x0 x3)
theorem top_natural_trim (S : Nat → KT (RT [(tN, false)])) (a0 : List Int) : evA (E_natural_trim) (lk c_natural_trim) S (bodyOf Try.f61) noX (fe_natural_trim) (fe_natural_trim) (initSt [tN] (a0, ())) = T_natural_trim (kk_natural_trim_9 S) a0 := by kernel_rfl
theorem seg_natural_trim_9 (S : Nat → KT (RT [(tN, false)])) (x0 : List Int) (x3 : Int) : stepT (entry (E_natural_trim) (lk c_natural_trim) S 9 (bodyOf Try.f61) noX (fe_natural_trim) (fe_natural_trim)) (cn_natural_trim_9 x0 x3) = S_natural_trim_9 (kk_natural_trim_9 S) x0 x3 := by kernel_rfl
noncomputable abbrev tb_natural_trim := tab (E_natural_trim) (lk c_natural_trim) (bodyOf Try.f61) (fe_natural_trim)
theorem ok_natural_trim : EnvOK Try.prog (E_natural_trim) := mkE_ok tys_ok trivial trivial
theorem fs_natural_trim : FSound Try.prog 61 [tN] [(tN, false)] (fun τ => F_natural_trim τ.1) :=
  evG_sound (E := (E_natural_trim)) (C := (lk c_natural_trim)) ok_natural_trim mixed_ok (fn := Try.f61) (c := (bodyOf Try.f61)) (by kernel_rfl) (by kernel_rfl) (by kernel_rfl) (by kernel_rfl) (by kernel_rfl) (by kernel_rfl) (fun τ r h => by
    obtain ⟨a0, ⟨⟩⟩ := τ
    obtain ⟨m, hm⟩ := Rn_natural_trim (fun m => kk_natural_trim_9 (tb_natural_trim m)) (fun m x0 x3 => (tab_succ (E_natural_trim) (lk c_natural_trim) (bodyOf Try.f61) (fe_natural_trim) m 9 (cn_natural_trim_9 x0 x3)).trans (seg_natural_trim_9 (tb_natural_trim m) x0 x3)) a0 r h
    exact ⟨m, (top_natural_trim (tb_natural_trim m) a0).trans (hm m (Nat.le_refl m))⟩)

abbrev Eo_natural_trim : Env := mkE tys [] []
def co_natural_trim : List (Nat × Live) := [(9, ⟨[(3, .int .i64)], [(false, 0, .int .u32)], []⟩)]
noncomputable abbrev feo_natural_trim := (finO (Eo_natural_trim) 0 false (.int .u32) .pre Try.f61.results.toList)
noncomputable abbrev cno_natural_trim_9 (x3 : Int) (x0 : List Int) : St := ⟨[(0, .one (.loc (.int .u32) 10000)), (3, .one (.val (.int .i64) x3))], [(10000, some ⟨.int .u32, x0, false⟩)]⟩
noncomputable abbrev kko_natural_trim_9 (S : Nat → KT (CD false (.int .u32) × RS.D .pre)) := fun (x3 : Int) (x0 : List Int) => S 9 (cno_natural_trim_9 x3 x0)
theorem topo_natural_trim (S : Nat → KT (CD false (.int .u32) × RS.D .pre)) (l : List Int) : evA (Eo_natural_trim) (lk co_natural_trim) S (bodyOf Try.f61) noX (feo_natural_trim) (feo_natural_trim) (initO [] () false (.int .u32) l) = To_natural_trim (kko_natural_trim_9 S) l := by kernel_rfl
theorem sego_natural_trim_9 (S : Nat → KT (CD false (.int .u32) × RS.D .pre)) (x3 : Int) (x0 : List Int) : stepT (entry (Eo_natural_trim) (lk co_natural_trim) S 9 (bodyOf Try.f61) noX (feo_natural_trim) (feo_natural_trim)) (cno_natural_trim_9 x3 x0) = So_natural_trim_9 (kko_natural_trim_9 S) x3 x0 := by kernel_rfl
noncomputable abbrev tbo_natural_trim := tab (Eo_natural_trim) (lk co_natural_trim) (bodyOf Try.f61) (feo_natural_trim)
theorem oko_natural_trim : EnvOK Try.prog (Eo_natural_trim) := mkE_ok tys_ok trivial trivial
theorem os_natural_trim : OSound Try.prog 61 [] false (.int .u32) .pre (fun τ l => O_natural_trim l) :=
  evO_sound (E := (Eo_natural_trim)) (C := (lk co_natural_trim)) oko_natural_trim mixed_ok (fn := Try.f61) (k := (bodyOf Try.f61)) (by kernel_rfl) (by kernel_rfl) (by kernel_rfl) (by kernel_rfl) (by kernel_rfl) (fun τ l r h => by
    obtain ⟨⟩ := τ
    obtain ⟨m, hm⟩ := Rno_natural_trim (fun m => kko_natural_trim_9 (tbo_natural_trim m)) (fun m x3 x0 => (tab_succ (Eo_natural_trim) (lk co_natural_trim) (bodyOf Try.f61) (feo_natural_trim) m 9 (cno_natural_trim_9 x3 x0)).trans (sego_natural_trim_9 (tbo_natural_trim m) x3 x0)) l r h
    exact ⟨m, (topo_natural_trim (tbo_natural_trim m) l).trans (hm m (Nat.le_refl m))⟩)

abbrev E_natural_IsZero : Env := mkE tys [] [(61, mixO (callO [] false (.int .u32) .pre (fun τ l => O_natural_trim l)) (callI (callE [tN] [(tN, false)] (fun τ => F_natural_trim τ.1))))]
def c_natural_IsZero : List (Nat × Live) := []
noncomputable abbrev fe_natural_IsZero := (finE (E_natural_IsZero) [(.bool, false)] Try.f38.results.toList)
theorem top_natural_IsZero (S : Nat → KT (RT [(.bool, false)])) (a0 : List Int) : evA (E_natural_IsZero) (lk c_natural_IsZero) S (bodyOf Try.f38) noX (fe_natural_IsZero) (fe_natural_IsZero) (initSt [tN] (a0, ())) = T_natural_IsZero a0 := by kernel_rfl
noncomputable abbrev tb_natural_IsZero := tab (E_natural_IsZero) (lk c_natural_IsZero) (bodyOf Try.f38) (fe_natural_IsZero)
theorem ok_natural_IsZero : EnvOK Try.prog (E_natural_IsZero) := mkE_ok tys_ok trivial ⟨⟨PSound.mix os_natural_trim.psound (CSound.psound fs_natural_trim.csound), ⟨Try.f61, by kernel_rfl, by kernel_rfl, by kernel_rfl⟩⟩, trivial⟩
theorem fs_natural_IsZero : FSound Try.prog 38 [tN] [(.bool, false)] (fun τ => F_natural_IsZero τ.1) :=
  evG_sound (E := (E_natural_IsZero)) (C := (lk c_natural_IsZero)) ok_natural_IsZero mixed_ok (fn := Try.f38) (c := (bodyOf Try.f38)) (by kernel_rfl) (by kernel_rfl) (by kernel_rfl) (by kernel_rfl) (by kernel_rfl) (by kernel_rfl) (fun τ r h => by
    obtain ⟨a0, ⟨⟩⟩ := τ
    obtain ⟨m, hm⟩ := Rn_natural_IsZero a0 r h
    exact ⟨m, (top_natural_IsZero (tb_natural_IsZero m) a0).trans (hm m (Nat.le_refl m))⟩)

abbrev E_integer_Sign : Env := mkE tys [(38, callE [tN] [(.bool, false)] (fun τ => F_natural_IsZero τ.1))] []
def c_integer_Sign : List (Nat × Live) := []
noncomputable abbrev fe_integer_Sign := (finE (E_integer_Sign) [(.int .i64, false)] Try.f28.results.toList)
theorem top_integer_Sign (S : Nat → KT (RT [(.int .i64, false)])) (a0 : Bool × List Int) : evA (E_integer_Sign) (lk c_integer_Sign) S (bodyOf Try.f28) noX (fe_integer_Sign) (fe_integer_Sign) (initSt [tI] (a0, ())) = T_integer_Sign a0 := by kernel_rfl
noncomputable abbrev tb_integer_Sign := tab (E_integer_Sign) (lk c_integer_Sign) (bodyOf Try.f28) (fe_integer_Sign)
theorem ok_integer_Sign : EnvOK Try.prog (E_integer_Sign) := mkE_ok tys_ok ⟨⟨fs_natural_IsZero.csound, ⟨Try.f38, by kernel_rfl, by kernel_rfl, by kernel_rfl⟩⟩, trivial⟩ trivial
theorem fs_integer_Sign : FSound Try.prog 28 [tI] [(.int .i64, false)] (fun τ => F_integer_Sign τ.1) :=
  evG_sound (E := (E_integer_Sign)) (C := (lk c_integer_Sign)) ok_integer_Sign mixed_ok (fn := Try.f28) (c := (bodyOf Try.f28)) (by kernel_rfl) (by kernel_rfl) (by kernel_rfl) (by kernel_rfl) (by kernel_rfl) (by kernel_rfl) (fun τ r h => by
    obtain ⟨a0, ⟨⟩⟩ := τ
    obtain ⟨m, hm⟩ := Rn_integer_Sign a0 r h
    exact ⟨m, (top_integer_Sign (tb_integer_Sign m) a0).trans (hm m (Nat.le_refl m))⟩)

abbrev E_integer_made : Env := mkE tys [] []
def c_integer_made : List (Nat × Live) := []
noncomputable abbrev fe_integer_made := (finE (E_integer_made) [(tI, false)] Try.f41.results.toList)
theorem top_integer_made (S : Nat → KT (RT [(tI, false)])) (a0 : Bool) (a1 : List Int) : evA (E_integer_made) (lk c_integer_made) S (bodyOf Try.f41) noX (fe_integer_made) (fe_integer_made) (initSt [.bool, tN] (a0, a1, ())) = T_integer_made a0 a1 := by kernel_rfl
noncomputable abbrev tb_integer_made := tab (E_integer_made) (lk c_integer_made) (bodyOf Try.f41) (fe_integer_made)
theorem ok_integer_made : EnvOK Try.prog (E_integer_made) := mkE_ok tys_ok trivial trivial
theorem fs_integer_made : FSound Try.prog 41 [.bool, tN] [(tI, false)] (fun τ => F_integer_made τ.1 τ.2.1) :=
  evG_sound (E := (E_integer_made)) (C := (lk c_integer_made)) ok_integer_made mixed_ok (fn := Try.f41) (c := (bodyOf Try.f41)) (by kernel_rfl) (by kernel_rfl) (by kernel_rfl) (by kernel_rfl) (by kernel_rfl) (by kernel_rfl) (fun τ r h => by
    obtain ⟨a0, a1, ⟨⟩⟩ := τ
    obtain ⟨m, hm⟩ := Rn_integer_made a0 a1 r h
    exact ⟨m, (top_integer_made (tb_integer_made m) a0 a1).trans (hm m (Nat.le_refl m))⟩)

abbrev E_natural_Normal : Env := mkE tys [] [(61, mixO (callO [] false (.int .u32) .pre (fun τ l => O_natural_trim l)) (callI (callE [tN] [(tN, false)] (fun τ => F_natural_trim τ.1))))]
def c_natural_Normal : List (Nat × Live) := []
noncomputable abbrev fe_natural_Normal := (finE (E_natural_Normal) [(tN, true)] Try.f63.results.toList)
theorem top_natural_Normal (S : Nat → KT (RT [(tN, true)])) (a0 : List Int) : evA (E_natural_Normal) (lk c_natural_Normal) S (bodyOf Try.f63) noX (fe_natural_Normal) (fe_natural_Normal) (initSt [tN] (a0, ())) = T_natural_Normal a0 := by kernel_rfl
noncomputable abbrev tb_natural_Normal := tab (E_natural_Normal) (lk c_natural_Normal) (bodyOf Try.f63) (fe_natural_Normal)
theorem ok_natural_Normal : EnvOK Try.prog (E_natural_Normal) := mkE_ok tys_ok trivial ⟨⟨PSound.mix os_natural_trim.psound (CSound.psound fs_natural_trim.csound), ⟨Try.f61, by kernel_rfl, by kernel_rfl, by kernel_rfl⟩⟩, trivial⟩
theorem fs_natural_Normal : FSound Try.prog 63 [tN] [(tN, true)] (fun τ => F_natural_Normal τ.1) :=
  evG_sound (E := (E_natural_Normal)) (C := (lk c_natural_Normal)) ok_natural_Normal mixed_ok (fn := Try.f63) (c := (bodyOf Try.f63)) (by kernel_rfl) (by kernel_rfl) (by kernel_rfl) (by kernel_rfl) (by kernel_rfl) (by kernel_rfl) (fun τ r h => by
    obtain ⟨a0, ⟨⟩⟩ := τ
    obtain ⟨m, hm⟩ := Rn_natural_Normal a0 r h
    exact ⟨m, (top_natural_Normal (tb_natural_Normal m) a0).trans (hm m (Nat.le_refl m))⟩)

abbrev E_integer_From : Env := mkE tys [(41, callE [.bool, tN] [(tI, false)] (fun τ => F_integer_made τ.1 τ.2.1)), (63, callE [tN] [(tN, true)] (fun τ => F_natural_Normal τ.1))] []
def c_integer_From : List (Nat × Live) := []
noncomputable abbrev fe_integer_From := (finE (E_integer_From) [(tI, false)] Try.f62.results.toList)
theorem top_integer_From (S : Nat → KT (RT [(tI, false)])) (a0 : Bool) (a1 : List Int) : evA (E_integer_From) (lk c_integer_From) S (bodyOf Try.f62) noX (fe_integer_From) (fe_integer_From) (initSt [.bool, tN] (a0, a1, ())) = T_integer_From a0 a1 := by kernel_rfl
noncomputable abbrev tb_integer_From := tab (E_integer_From) (lk c_integer_From) (bodyOf Try.f62) (fe_integer_From)
theorem ok_integer_From : EnvOK Try.prog (E_integer_From) := mkE_ok tys_ok ⟨⟨fs_integer_made.csound, ⟨Try.f41, by kernel_rfl, by kernel_rfl, by kernel_rfl⟩⟩, ⟨fs_natural_Normal.csound, ⟨Try.f63, by kernel_rfl, by kernel_rfl, by kernel_rfl⟩⟩, trivial⟩ trivial
theorem fs_integer_From : FSound Try.prog 62 [.bool, tN] [(tI, false)] (fun τ => F_integer_From τ.1 τ.2.1) :=
  evG_sound (E := (E_integer_From)) (C := (lk c_integer_From)) ok_integer_From mixed_ok (fn := Try.f62) (c := (bodyOf Try.f62)) (by kernel_rfl) (by kernel_rfl) (by kernel_rfl) (by kernel_rfl) (by kernel_rfl) (by kernel_rfl) (fun τ r h => by
    obtain ⟨a0, a1, ⟨⟩⟩ := τ
    obtain ⟨m, hm⟩ := Rn_integer_From a0 a1 r h
    exact ⟨m, (top_integer_From (tb_integer_From m) a0 a1).trans (hm m (Nat.le_refl m))⟩)

abbrev E_integer_Neg : Env := mkE tys [(62, callE [.bool, tN] [(tI, false)] (fun τ => F_integer_From τ.1 τ.2.1))] []
def c_integer_Neg : List (Nat × Live) := []
noncomputable abbrev fe_integer_Neg := (finE (E_integer_Neg) [(tI, false)] Try.f39.results.toList)
theorem top_integer_Neg (S : Nat → KT (RT [(tI, false)])) (a0 : Bool × List Int) : evA (E_integer_Neg) (lk c_integer_Neg) S (bodyOf Try.f39) noX (fe_integer_Neg) (fe_integer_Neg) (initSt [tI] (a0, ())) = T_integer_Neg a0 := by kernel_rfl
noncomputable abbrev tb_integer_Neg := tab (E_integer_Neg) (lk c_integer_Neg) (bodyOf Try.f39) (fe_integer_Neg)
theorem ok_integer_Neg : EnvOK Try.prog (E_integer_Neg) := mkE_ok tys_ok ⟨⟨fs_integer_From.csound, ⟨Try.f62, by kernel_rfl, by kernel_rfl, by kernel_rfl⟩⟩, trivial⟩ trivial
theorem fs_integer_Neg : FSound Try.prog 39 [tI] [(tI, false)] (fun τ => F_integer_Neg τ.1) :=
  evG_sound (E := (E_integer_Neg)) (C := (lk c_integer_Neg)) ok_integer_Neg mixed_ok (fn := Try.f39) (c := (bodyOf Try.f39)) (by kernel_rfl) (by kernel_rfl) (by kernel_rfl) (by kernel_rfl) (by kernel_rfl) (by kernel_rfl) (fun τ r h => by
    obtain ⟨a0, ⟨⟩⟩ := τ
    obtain ⟨m, hm⟩ := Rn_integer_Neg a0 r h
    exact ⟨m, (top_integer_Neg (tb_integer_Neg m) a0).trans (hm m (Nat.le_refl m))⟩)

abbrev E_unipoly_trim : Env := mkE tys [(38, callE [tN] [(.bool, false)] (fun τ => F_natural_IsZero τ.1))] []
def c_unipoly_trim : List (Nat × Live) := [(9, ⟨[(0, tP), (3, .int .i64)], [], []⟩)]
noncomputable abbrev fe_unipoly_trim := (finE (E_unipoly_trim) [(tP, false)] Try.f37.results.toList)
noncomputable abbrev cn_unipoly_trim_9 (x0 : List (Bool × List Int)) (x3 : Int) : St := ⟨[(3, .one (.val (.int .i64) x3)), (0, .one (.val tP x0))], []⟩
noncomputable abbrev kk_unipoly_trim_9 (S : Nat → KT (RT [(tP, false)])) := fun (x0 : List (Bool × List Int)) (x3 : Int) => S 9 (cn_unipoly_trim_9 x0 x3)
theorem top_unipoly_trim (S : Nat → KT (RT [(tP, false)])) (a0 : List (Bool × List Int)) : evA (E_unipoly_trim) (lk c_unipoly_trim) S (bodyOf Try.f37) noX (fe_unipoly_trim) (fe_unipoly_trim) (initSt [tP] (a0, ())) = T_unipoly_trim (kk_unipoly_trim_9 S) a0 := by kernel_rfl
theorem seg_unipoly_trim_9 (S : Nat → KT (RT [(tP, false)])) (x0 : List (Bool × List Int)) (x3 : Int) : stepT (entry (E_unipoly_trim) (lk c_unipoly_trim) S 9 (bodyOf Try.f37) noX (fe_unipoly_trim) (fe_unipoly_trim)) (cn_unipoly_trim_9 x0 x3) = S_unipoly_trim_9 (kk_unipoly_trim_9 S) x0 x3 := by kernel_rfl
noncomputable abbrev tb_unipoly_trim := tab (E_unipoly_trim) (lk c_unipoly_trim) (bodyOf Try.f37) (fe_unipoly_trim)
theorem ok_unipoly_trim : EnvOK Try.prog (E_unipoly_trim) := mkE_ok tys_ok ⟨⟨fs_natural_IsZero.csound, ⟨Try.f38, by kernel_rfl, by kernel_rfl, by kernel_rfl⟩⟩, trivial⟩ trivial
theorem fs_unipoly_trim : FSound Try.prog 37 [tP] [(tP, false)] (fun τ => F_unipoly_trim τ.1) :=
  evG_sound (E := (E_unipoly_trim)) (C := (lk c_unipoly_trim)) ok_unipoly_trim mixed_ok (fn := Try.f37) (c := (bodyOf Try.f37)) (by kernel_rfl) (by kernel_rfl) (by kernel_rfl) (by kernel_rfl) (by kernel_rfl) (by kernel_rfl) (fun τ r h => by
    obtain ⟨a0, ⟨⟩⟩ := τ
    obtain ⟨m, hm⟩ := Rn_unipoly_trim (fun m => kk_unipoly_trim_9 (tb_unipoly_trim m)) (fun m x0 x3 => (tab_succ (E_unipoly_trim) (lk c_unipoly_trim) (bodyOf Try.f37) (fe_unipoly_trim) m 9 (cn_unipoly_trim_9 x0 x3)).trans (seg_unipoly_trim_9 (tb_unipoly_trim m) x0 x3)) a0 r h
    exact ⟨m, (top_unipoly_trim (tb_unipoly_trim m) a0).trans (hm m (Nat.le_refl m))⟩)

abbrev E_integer_Normal : Env := mkE tys [(62, callE [.bool, tN] [(tI, false)] (fun τ => F_integer_From τ.1 τ.2.1))] []
def c_integer_Normal : List (Nat × Live) := []
noncomputable abbrev fe_integer_Normal := (finE (E_integer_Normal) [(tI, false)] Try.f54.results.toList)
theorem top_integer_Normal (S : Nat → KT (RT [(tI, false)])) (a0 : Bool × List Int) : evA (E_integer_Normal) (lk c_integer_Normal) S (bodyOf Try.f54) noX (fe_integer_Normal) (fe_integer_Normal) (initSt [tI] (a0, ())) = T_integer_Normal a0 := by kernel_rfl
noncomputable abbrev tb_integer_Normal := tab (E_integer_Normal) (lk c_integer_Normal) (bodyOf Try.f54) (fe_integer_Normal)
theorem ok_integer_Normal : EnvOK Try.prog (E_integer_Normal) := mkE_ok tys_ok ⟨⟨fs_integer_From.csound, ⟨Try.f62, by kernel_rfl, by kernel_rfl, by kernel_rfl⟩⟩, trivial⟩ trivial
theorem fs_integer_Normal : FSound Try.prog 54 [tI] [(tI, false)] (fun τ => F_integer_Normal τ.1) :=
  evG_sound (E := (E_integer_Normal)) (C := (lk c_integer_Normal)) ok_integer_Normal mixed_ok (fn := Try.f54) (c := (bodyOf Try.f54)) (by kernel_rfl) (by kernel_rfl) (by kernel_rfl) (by kernel_rfl) (by kernel_rfl) (by kernel_rfl) (fun τ r h => by
    obtain ⟨a0, ⟨⟩⟩ := τ
    obtain ⟨m, hm⟩ := Rn_integer_Normal a0 r h
    exact ⟨m, (top_integer_Normal (tb_integer_Normal m) a0).trans (hm m (Nat.le_refl m))⟩)

abbrev Eo_unipoly_trim : Env := mkE tys [(38, callE [tN] [(.bool, false)] (fun τ => F_natural_IsZero τ.1))] []
def co_unipoly_trim : List (Nat × Live) := [(9, ⟨[(3, .int .i64)], [(false, 0, tI)], []⟩)]
noncomputable abbrev feo_unipoly_trim := (finO (Eo_unipoly_trim) 0 false tI .pre Try.f37.results.toList)
noncomputable abbrev cno_unipoly_trim_9 (x3 : Int) (x0 : List (Bool × List Int)) : St := ⟨[(0, .one (.loc tI 10000)), (3, .one (.val (.int .i64) x3))], [(10000, some ⟨tI, x0, false⟩)]⟩
noncomputable abbrev kko_unipoly_trim_9 (S : Nat → KT (CD false tI × RS.D .pre)) := fun (x3 : Int) (x0 : List (Bool × List Int)) => S 9 (cno_unipoly_trim_9 x3 x0)
theorem topo_unipoly_trim (S : Nat → KT (CD false tI × RS.D .pre)) (l : List (Bool × List Int)) : evA (Eo_unipoly_trim) (lk co_unipoly_trim) S (bodyOf Try.f37) noX (feo_unipoly_trim) (feo_unipoly_trim) (initO [] () false tI l) = To_unipoly_trim (kko_unipoly_trim_9 S) l := by kernel_rfl
theorem sego_unipoly_trim_9 (S : Nat → KT (CD false tI × RS.D .pre)) (x3 : Int) (x0 : List (Bool × List Int)) : stepT (entry (Eo_unipoly_trim) (lk co_unipoly_trim) S 9 (bodyOf Try.f37) noX (feo_unipoly_trim) (feo_unipoly_trim)) (cno_unipoly_trim_9 x3 x0) = So_unipoly_trim_9 (kko_unipoly_trim_9 S) x3 x0 := by kernel_rfl
noncomputable abbrev tbo_unipoly_trim := tab (Eo_unipoly_trim) (lk co_unipoly_trim) (bodyOf Try.f37) (feo_unipoly_trim)
theorem oko_unipoly_trim : EnvOK Try.prog (Eo_unipoly_trim) := mkE_ok tys_ok ⟨⟨fs_natural_IsZero.csound, ⟨Try.f38, by kernel_rfl, by kernel_rfl, by kernel_rfl⟩⟩, trivial⟩ trivial
theorem os_unipoly_trim : OSound Try.prog 37 [] false tI .pre (fun τ l => O_unipoly_trim l) :=
  evO_sound (E := (Eo_unipoly_trim)) (C := (lk co_unipoly_trim)) oko_unipoly_trim mixed_ok (fn := Try.f37) (k := (bodyOf Try.f37)) (by kernel_rfl) (by kernel_rfl) (by kernel_rfl) (by kernel_rfl) (by kernel_rfl) (fun τ l r h => by
    obtain ⟨⟩ := τ
    obtain ⟨m, hm⟩ := Rno_unipoly_trim (fun m => kko_unipoly_trim_9 (tbo_unipoly_trim m)) (fun m x3 x0 => (tab_succ (Eo_unipoly_trim) (lk co_unipoly_trim) (bodyOf Try.f37) (feo_unipoly_trim) m 9 (cno_unipoly_trim_9 x3 x0)).trans (sego_unipoly_trim_9 (tbo_unipoly_trim m) x3 x0)) l r h
    exact ⟨m, (topo_unipoly_trim (tbo_unipoly_trim m) l).trans (hm m (Nat.le_refl m))⟩)

abbrev E_unipoly_Lead : Env := mkE tys [(54, callE [tI] [(tI, false)] (fun τ => F_integer_Normal τ.1))] [(37, mixO (callO [] false tI .pre (fun τ l => O_unipoly_trim l)) (callI (callE [tP] [(tP, false)] (fun τ => F_unipoly_trim τ.1))))]
def c_unipoly_Lead : List (Nat × Live) := []
noncomputable abbrev fe_unipoly_Lead := (finE (E_unipoly_Lead) [(tI, false)] Try.f57.results.toList)
theorem top_unipoly_Lead (S : Nat → KT (RT [(tI, false)])) (a0 : List (Bool × List Int)) : evA (E_unipoly_Lead) (lk c_unipoly_Lead) S (bodyOf Try.f57) noX (fe_unipoly_Lead) (fe_unipoly_Lead) (initSt [tP] (a0, ())) = T_unipoly_Lead a0 := by kernel_rfl
noncomputable abbrev tb_unipoly_Lead := tab (E_unipoly_Lead) (lk c_unipoly_Lead) (bodyOf Try.f57) (fe_unipoly_Lead)
theorem ok_unipoly_Lead : EnvOK Try.prog (E_unipoly_Lead) := mkE_ok tys_ok ⟨⟨fs_integer_Normal.csound, ⟨Try.f54, by kernel_rfl, by kernel_rfl, by kernel_rfl⟩⟩, trivial⟩ ⟨⟨PSound.mix os_unipoly_trim.psound (CSound.psound fs_unipoly_trim.csound), ⟨Try.f37, by kernel_rfl, by kernel_rfl, by kernel_rfl⟩⟩, trivial⟩
theorem fs_unipoly_Lead : FSound Try.prog 57 [tP] [(tI, false)] (fun τ => F_unipoly_Lead τ.1) :=
  evG_sound (E := (E_unipoly_Lead)) (C := (lk c_unipoly_Lead)) ok_unipoly_Lead mixed_ok (fn := Try.f57) (c := (bodyOf Try.f57)) (by kernel_rfl) (by kernel_rfl) (by kernel_rfl) (by kernel_rfl) (by kernel_rfl) (by kernel_rfl) (fun τ r h => by
    obtain ⟨a0, ⟨⟩⟩ := τ
    obtain ⟨m, hm⟩ := Rn_unipoly_Lead a0 r h
    exact ⟨m, (top_unipoly_Lead (tb_unipoly_Lead m) a0).trans (hm m (Nat.le_refl m))⟩)

abbrev E_unipoly_Degree : Env := mkE tys [] [(37, mixO (callO [] false tI .pre (fun τ l => O_unipoly_trim l)) (callI (callE [tP] [(tP, false)] (fun τ => F_unipoly_trim τ.1))))]
def c_unipoly_Degree : List (Nat × Live) := []
noncomputable abbrev fe_unipoly_Degree := (finE (E_unipoly_Degree) [(.int .i64, false)] Try.f19.results.toList)
theorem top_unipoly_Degree (S : Nat → KT (RT [(.int .i64, false)])) (a0 : List (Bool × List Int)) : evA (E_unipoly_Degree) (lk c_unipoly_Degree) S (bodyOf Try.f19) noX (fe_unipoly_Degree) (fe_unipoly_Degree) (initSt [tP] (a0, ())) = T_unipoly_Degree a0 := by kernel_rfl
noncomputable abbrev tb_unipoly_Degree := tab (E_unipoly_Degree) (lk c_unipoly_Degree) (bodyOf Try.f19) (fe_unipoly_Degree)
theorem ok_unipoly_Degree : EnvOK Try.prog (E_unipoly_Degree) := mkE_ok tys_ok trivial ⟨⟨PSound.mix os_unipoly_trim.psound (CSound.psound fs_unipoly_trim.csound), ⟨Try.f37, by kernel_rfl, by kernel_rfl, by kernel_rfl⟩⟩, trivial⟩
theorem fs_unipoly_Degree : FSound Try.prog 19 [tP] [(.int .i64, false)] (fun τ => F_unipoly_Degree τ.1) :=
  evG_sound (E := (E_unipoly_Degree)) (C := (lk c_unipoly_Degree)) ok_unipoly_Degree mixed_ok (fn := Try.f19) (c := (bodyOf Try.f19)) (by kernel_rfl) (by kernel_rfl) (by kernel_rfl) (by kernel_rfl) (by kernel_rfl) (by kernel_rfl) (fun τ r h => by
    obtain ⟨a0, ⟨⟩⟩ := τ
    obtain ⟨m, hm⟩ := Rn_unipoly_Degree a0 r h
    exact ⟨m, (top_unipoly_Degree (tb_unipoly_Degree m) a0).trans (hm m (Nat.le_refl m))⟩)

abbrev E_unidiv_zero : Env := mkE tys [(19, callE [tP] [(.int .i64, false)] (fun τ => F_unipoly_Degree τ.1))] []
def c_unidiv_zero : List (Nat × Live) := []
noncomputable abbrev fe_unidiv_zero := (finE (E_unidiv_zero) [(.bool, false)] Try.f73.results.toList)
theorem top_unidiv_zero (S : Nat → KT (RT [(.bool, false)])) (a0 : List (Bool × List Int)) : evA (E_unidiv_zero) (lk c_unidiv_zero) S (bodyOf Try.f73) noX (fe_unidiv_zero) (fe_unidiv_zero) (initSt [tP] (a0, ())) = T_unidiv_zero a0 := by kernel_rfl
noncomputable abbrev tb_unidiv_zero := tab (E_unidiv_zero) (lk c_unidiv_zero) (bodyOf Try.f73) (fe_unidiv_zero)
theorem ok_unidiv_zero : EnvOK Try.prog (E_unidiv_zero) := mkE_ok tys_ok ⟨⟨fs_unipoly_Degree.csound, ⟨Try.f19, by kernel_rfl, by kernel_rfl, by kernel_rfl⟩⟩, trivial⟩ trivial
theorem fs_unidiv_zero : FSound Try.prog 73 [tP] [(.bool, false)] (fun τ => F_unidiv_zero τ.1) :=
  evG_sound (E := (E_unidiv_zero)) (C := (lk c_unidiv_zero)) ok_unidiv_zero mixed_ok (fn := Try.f73) (c := (bodyOf Try.f73)) (by kernel_rfl) (by kernel_rfl) (by kernel_rfl) (by kernel_rfl) (by kernel_rfl) (by kernel_rfl) (fun τ r h => by
    obtain ⟨a0, ⟨⟩⟩ := τ
    obtain ⟨m, hm⟩ := Rn_unidiv_zero a0 r h
    exact ⟨m, (top_unidiv_zero (tb_unidiv_zero m) a0).trans (hm m (Nat.le_refl m))⟩)

abbrev E_natural_Of : Env := mkE tys [] [(61, mixO (callO [] false (.int .u32) .pre (fun τ l => O_natural_trim l)) (callI (callE [tN] [(tN, false)] (fun τ => F_natural_trim τ.1))))]
def c_natural_Of : List (Nat × Live) := []
noncomputable abbrev fe_natural_Of := (finE (E_natural_Of) [(tN, false)] Try.f42.results.toList)
theorem top_natural_Of (S : Nat → KT (RT [(tN, false)])) (a0 : Int) : evA (E_natural_Of) (lk c_natural_Of) S (bodyOf Try.f42) noX (fe_natural_Of) (fe_natural_Of) (initSt [.int .u64] (a0, ())) = T_natural_Of a0 := by kernel_rfl
noncomputable abbrev tb_natural_Of := tab (E_natural_Of) (lk c_natural_Of) (bodyOf Try.f42) (fe_natural_Of)
theorem ok_natural_Of : EnvOK Try.prog (E_natural_Of) := mkE_ok tys_ok trivial ⟨⟨PSound.mix os_natural_trim.psound (CSound.psound fs_natural_trim.csound), ⟨Try.f61, by kernel_rfl, by kernel_rfl, by kernel_rfl⟩⟩, trivial⟩
theorem fs_natural_Of : FSound Try.prog 42 [.int .u64] [(tN, false)] (fun τ => F_natural_Of τ.1) :=
  evG_sound (E := (E_natural_Of)) (C := (lk c_natural_Of)) ok_natural_Of mixed_ok (fn := Try.f42) (c := (bodyOf Try.f42)) (by kernel_rfl) (by kernel_rfl) (by kernel_rfl) (by kernel_rfl) (by kernel_rfl) (by kernel_rfl) (fun τ r h => by
    obtain ⟨a0, ⟨⟩⟩ := τ
    obtain ⟨m, hm⟩ := Rn_natural_Of a0 r h
    exact ⟨m, (top_natural_Of (tb_natural_Of m) a0).trans (hm m (Nat.le_refl m))⟩)

abbrev E_natural_Uint64 : Env := mkE tys [] [(61, mixO (callO [] false (.int .u32) .pre (fun τ l => O_natural_trim l)) (callI (callE [tN] [(tN, false)] (fun τ => F_natural_trim τ.1))))]
def c_natural_Uint64 : List (Nat × Live) := []
noncomputable abbrev fe_natural_Uint64 := (finE (E_natural_Uint64) [(.int .u64, false), (.bool, false)] Try.f84.results.toList)
theorem top_natural_Uint64 (S : Nat → KT (RT [(.int .u64, false), (.bool, false)])) (a0 : List Int) : evA (E_natural_Uint64) (lk c_natural_Uint64) S (bodyOf Try.f84) noX (fe_natural_Uint64) (fe_natural_Uint64) (initSt [tN] (a0, ())) = T_natural_Uint64 a0 := by kernel_rfl
noncomputable abbrev tb_natural_Uint64 := tab (E_natural_Uint64) (lk c_natural_Uint64) (bodyOf Try.f84) (fe_natural_Uint64)
theorem ok_natural_Uint64 : EnvOK Try.prog (E_natural_Uint64) := mkE_ok tys_ok trivial ⟨⟨PSound.mix os_natural_trim.psound (CSound.psound fs_natural_trim.csound), ⟨Try.f61, by kernel_rfl, by kernel_rfl, by kernel_rfl⟩⟩, trivial⟩
theorem fs_natural_Uint64 : FSound Try.prog 84 [tN] [(.int .u64, false), (.bool, false)] (fun τ => F_natural_Uint64 τ.1) :=
  evG_sound (E := (E_natural_Uint64)) (C := (lk c_natural_Uint64)) ok_natural_Uint64 mixed_ok (fn := Try.f84) (c := (bodyOf Try.f84)) (by kernel_rfl) (by kernel_rfl) (by kernel_rfl) (by kernel_rfl) (by kernel_rfl) (by kernel_rfl) (fun τ r h => by
    obtain ⟨a0, ⟨⟩⟩ := τ
    obtain ⟨m, hm⟩ := Rn_natural_Uint64 a0 r h
    exact ⟨m, (top_natural_Uint64 (tb_natural_Uint64 m) a0).trans (hm m (Nat.le_refl m))⟩)

abbrev E_natural_Cmp : Env := mkE tys [] [(61, mixO (callO [] false (.int .u32) .pre (fun τ l => O_natural_trim l)) (callI (callE [tN] [(tN, false)] (fun τ => F_natural_trim τ.1))))]
def c_natural_Cmp : List (Nat × Live) := [(29, ⟨[(0, tN), (1, tN), (5, .int .i64)], [], []⟩)]
noncomputable abbrev fe_natural_Cmp := (finE (E_natural_Cmp) [(.int .i64, false)] Try.f49.results.toList)
noncomputable abbrev cn_natural_Cmp_29 (x0 : List Int) (x1 : List Int) (x5 : Int) : St := ⟨[(5, .one (.val (.int .i64) x5)), (1, .one (.val tN x1)), (0, .one (.val tN x0))], []⟩
noncomputable abbrev kk_natural_Cmp_29 (S : Nat → KT (RT [(.int .i64, false)])) := fun (x0 : List Int) (x1 : List Int) (x5 : Int) => S 29 (cn_natural_Cmp_29 x0 x1 x5)
theorem top_natural_Cmp (S : Nat → KT (RT [(.int .i64, false)])) (a0 : List Int) (a1 : List Int) : evA (E_natural_Cmp) (lk c_natural_Cmp) S (bodyOf Try.f49) noX (fe_natural_Cmp) (fe_natural_Cmp) (initSt [tN, tN] (a0, a1, ())) = T_natural_Cmp (kk_natural_Cmp_29 S) a0 a1 := by kernel_rfl
theorem seg_natural_Cmp_29 (S : Nat → KT (RT [(.int .i64, false)])) (x0 : List Int) (x1 : List Int) (x5 : Int) : stepT (entry (E_natural_Cmp) (lk c_natural_Cmp) S 29 (bodyOf Try.f49) noX (fe_natural_Cmp) (fe_natural_Cmp)) (cn_natural_Cmp_29 x0 x1 x5) = S_natural_Cmp_29 (kk_natural_Cmp_29 S) x0 x1 x5 := by kernel_rfl
noncomputable abbrev tb_natural_Cmp := tab (E_natural_Cmp) (lk c_natural_Cmp) (bodyOf Try.f49) (fe_natural_Cmp)
theorem ok_natural_Cmp : EnvOK Try.prog (E_natural_Cmp) := mkE_ok tys_ok trivial ⟨⟨PSound.mix os_natural_trim.psound (CSound.psound fs_natural_trim.csound), ⟨Try.f61, by kernel_rfl, by kernel_rfl, by kernel_rfl⟩⟩, trivial⟩
theorem fs_natural_Cmp : FSound Try.prog 49 [tN, tN] [(.int .i64, false)] (fun τ => F_natural_Cmp τ.1 τ.2.1) :=
  evG_sound (E := (E_natural_Cmp)) (C := (lk c_natural_Cmp)) ok_natural_Cmp mixed_ok (fn := Try.f49) (c := (bodyOf Try.f49)) (by kernel_rfl) (by kernel_rfl) (by kernel_rfl) (by kernel_rfl) (by kernel_rfl) (by kernel_rfl) (fun τ r h => by
    obtain ⟨a0, a1, ⟨⟩⟩ := τ
    obtain ⟨m, hm⟩ := Rn_natural_Cmp (fun m => kk_natural_Cmp_29 (tb_natural_Cmp m)) (fun m x0 x1 x5 => (tab_succ (E_natural_Cmp) (lk c_natural_Cmp) (bodyOf Try.f49) (fe_natural_Cmp) m 29 (cn_natural_Cmp_29 x0 x1 x5)).trans (seg_natural_Cmp_29 (tb_natural_Cmp m) x0 x1 x5)) a0 a1 r h
    exact ⟨m, (top_natural_Cmp (tb_natural_Cmp m) a0 a1).trans (hm m (Nat.le_refl m))⟩)

abbrev E_bits_Add32 : Env := mkE tys [] []
def c_bits_Add32 : List (Nat × Live) := []
noncomputable abbrev fe_bits_Add32 := (finE (E_bits_Add32) [(.int .u32, false), (.int .u32, false)] Try.f72.results.toList)
theorem top_bits_Add32 (S : Nat → KT (RT [(.int .u32, false), (.int .u32, false)])) (a0 : Int) (a1 : Int) (a2 : Int) : evA (E_bits_Add32) (lk c_bits_Add32) S (bodyOf Try.f72) noX (fe_bits_Add32) (fe_bits_Add32) (initSt [.int .u32, .int .u32, .int .u32] (a0, a1, a2, ())) = T_bits_Add32 a0 a1 a2 := by kernel_rfl
noncomputable abbrev tb_bits_Add32 := tab (E_bits_Add32) (lk c_bits_Add32) (bodyOf Try.f72) (fe_bits_Add32)
theorem ok_bits_Add32 : EnvOK Try.prog (E_bits_Add32) := mkE_ok tys_ok trivial trivial
theorem fs_bits_Add32 : FSound Try.prog 72 [.int .u32, .int .u32, .int .u32] [(.int .u32, false), (.int .u32, false)] (fun τ => F_bits_Add32 τ.1 τ.2.1 τ.2.2.1) :=
  evG_sound (E := (E_bits_Add32)) (C := (lk c_bits_Add32)) ok_bits_Add32 mixed_ok (fn := Try.f72) (c := (bodyOf Try.f72)) (by kernel_rfl) (by kernel_rfl) (by kernel_rfl) (by kernel_rfl) (by kernel_rfl) (by kernel_rfl) (fun τ r h => by
    obtain ⟨a0, a1, a2, ⟨⟩⟩ := τ
    obtain ⟨m, hm⟩ := Rn_bits_Add32 a0 a1 a2 r h
    exact ⟨m, (top_bits_Add32 (tb_bits_Add32 m) a0 a1 a2).trans (hm m (Nat.le_refl m))⟩)

abbrev E_bits_Div32 : Env := mkE tys [] []
def c_bits_Div32 : List (Nat × Live) := [(8, ⟨[(0, .int .u32), (1, .int .u32), (2, .int .u32), (15, .bool)], [], []⟩)]
noncomputable abbrev fe_bits_Div32 := (finE (E_bits_Div32) [(.int .u32, false), (.int .u32, false)] Try.f101.results.toList)
noncomputable abbrev cn_bits_Div32_8 (x0 : Int) (x1 : Int) (x2 : Int) (x15 : Bool) : St := ⟨[(15, .one (.val (.bool) x15)), (2, .one (.val (.int .u32) x2)), (1, .one (.val (.int .u32) x1)), (0, .one (.val (.int .u32) x0))], []⟩
noncomputable abbrev kk_bits_Div32_8 (S : Nat → KT (RT [(.int .u32, false), (.int .u32, false)])) := fun (x0 : Int) (x1 : Int) (x2 : Int) (x15 : Bool) => S 8 (cn_bits_Div32_8 x0 x1 x2 x15)
theorem top_bits_Div32 (S : Nat → KT (RT [(.int .u32, false), (.int .u32, false)])) (a0 : Int) (a1 : Int) (a2 : Int) : evA (E_bits_Div32) (lk c_bits_Div32) S (bodyOf Try.f101) noX (fe_bits_Div32) (fe_bits_Div32) (initSt [.int .u32, .int .u32, .int .u32] (a0, a1, a2, ())) = T_bits_Div32 (kk_bits_Div32_8 S) a0 a1 a2 := by kernel_rfl
theorem seg_bits_Div32_8 (S : Nat → KT (RT [(.int .u32, false), (.int .u32, false)])) (x0 : Int) (x1 : Int) (x2 : Int) (x15 : Bool) : stepT (entry (E_bits_Div32) (lk c_bits_Div32) S 8 (bodyOf Try.f101) noX (fe_bits_Div32) (fe_bits_Div32)) (cn_bits_Div32_8 x0 x1 x2 x15) = S_bits_Div32_8 (kk_bits_Div32_8 S) x0 x1 x2 x15 := by kernel_rfl
noncomputable abbrev tb_bits_Div32 := tab (E_bits_Div32) (lk c_bits_Div32) (bodyOf Try.f101) (fe_bits_Div32)
theorem ok_bits_Div32 : EnvOK Try.prog (E_bits_Div32) := mkE_ok tys_ok trivial trivial
theorem fs_bits_Div32 : FSound Try.prog 101 [.int .u32, .int .u32, .int .u32] [(.int .u32, false), (.int .u32, false)] (fun τ => F_bits_Div32 τ.1 τ.2.1 τ.2.2.1) :=
  evG_sound (E := (E_bits_Div32)) (C := (lk c_bits_Div32)) ok_bits_Div32 mixed_ok (fn := Try.f101) (c := (bodyOf Try.f101)) (by kernel_rfl) (by kernel_rfl) (by kernel_rfl) (by kernel_rfl) (by kernel_rfl) (by kernel_rfl) (fun τ r h => by
    obtain ⟨a0, a1, a2, ⟨⟩⟩ := τ
    obtain ⟨m, hm⟩ := Rn_bits_Div32 (fun m => kk_bits_Div32_8 (tb_bits_Div32 m)) (fun m x0 x1 x2 x15 => (tab_succ (E_bits_Div32) (lk c_bits_Div32) (bodyOf Try.f101) (fe_bits_Div32) m 8 (cn_bits_Div32_8 x0 x1 x2 x15)).trans (seg_bits_Div32_8 (tb_bits_Div32 m) x0 x1 x2 x15)) a0 a1 a2 r h
    exact ⟨m, (top_bits_Div32 (tb_bits_Div32 m) a0 a1 a2).trans (hm m (Nat.le_refl m))⟩)

abbrev E_natural_DivSmall : Env := mkE tys [(101, callE [.int .u32, .int .u32, .int .u32] [(.int .u32, false), (.int .u32, false)] (fun τ => F_bits_Div32 τ.1 τ.2.1 τ.2.2.1))] [(61, mixO (callO [] false (.int .u32) .pre (fun τ l => O_natural_trim l)) (callI (callE [tN] [(tN, false)] (fun τ => F_natural_trim τ.1))))]
def c_natural_DivSmall : List (Nat × Live) := [(29, ⟨[(0, tN), (1, .int .u32), (8, .int .u32), (9, .int .i64)], [(false, 7, .int .u32)], []⟩)]
noncomputable abbrev fe_natural_DivSmall := (finE (E_natural_DivSmall) [(tN, false), (.int .u32, false), (.bool, false)] Try.f94.results.toList)
noncomputable abbrev cn_natural_DivSmall_29 (x0 : List Int) (x1 : Int) (x8 : Int) (x9 : Int) (x7 : List Int) : St := ⟨[(7, .one (.loc (.int .u32) 10000)), (9, .one (.val (.int .i64) x9)), (8, .one (.val (.int .u32) x8)), (1, .one (.val (.int .u32) x1)), (0, .one (.val tN x0))], [(10000, some ⟨.int .u32, x7, false⟩)]⟩
noncomputable abbrev kk_natural_DivSmall_29 (S : Nat → KT (RT [(tN, false), (.int .u32, false), (.bool, false)])) := fun (x0 : List Int) (x1 : Int) (x8 : Int) (x9 : Int) (x7 : List Int) => S 29 (cn_natural_DivSmall_29 x0 x1 x8 x9 x7)
theorem top_natural_DivSmall (S : Nat → KT (RT [(tN, false), (.int .u32, false), (.bool, false)])) (a0 : List Int) (a1 : Int) : evA (E_natural_DivSmall) (lk c_natural_DivSmall) S (bodyOf Try.f94) noX (fe_natural_DivSmall) (fe_natural_DivSmall) (initSt [tN, .int .u32] (a0, a1, ())) = T_natural_DivSmall (kk_natural_DivSmall_29 S) a0 a1 := by kernel_rfl
theorem seg_natural_DivSmall_29 (S : Nat → KT (RT [(tN, false), (.int .u32, false), (.bool, false)])) (x0 : List Int) (x1 : Int) (x8 : Int) (x9 : Int) (x7 : List Int) : stepT (entry (E_natural_DivSmall) (lk c_natural_DivSmall) S 29 (bodyOf Try.f94) noX (fe_natural_DivSmall) (fe_natural_DivSmall)) (cn_natural_DivSmall_29 x0 x1 x8 x9 x7) = S_natural_DivSmall_29 (kk_natural_DivSmall_29 S) x0 x1 x8 x9 x7 := by kernel_rfl
noncomputable abbrev tb_natural_DivSmall := tab (E_natural_DivSmall) (lk c_natural_DivSmall) (bodyOf Try.f94) (fe_natural_DivSmall)
theorem ok_natural_DivSmall : EnvOK Try.prog (E_natural_DivSmall) := mkE_ok tys_ok ⟨⟨fs_bits_Div32.csound, ⟨Try.f101, by kernel_rfl, by kernel_rfl, by kernel_rfl⟩⟩, trivial⟩ ⟨⟨PSound.mix os_natural_trim.psound (CSound.psound fs_natural_trim.csound), ⟨Try.f61, by kernel_rfl, by kernel_rfl, by kernel_rfl⟩⟩, trivial⟩
theorem fs_natural_DivSmall : FSound Try.prog 94 [tN, .int .u32] [(tN, false), (.int .u32, false), (.bool, false)] (fun τ => F_natural_DivSmall τ.1 τ.2.1) :=
  evG_sound (E := (E_natural_DivSmall)) (C := (lk c_natural_DivSmall)) ok_natural_DivSmall mixed_ok (fn := Try.f94) (c := (bodyOf Try.f94)) (by kernel_rfl) (by kernel_rfl) (by kernel_rfl) (by kernel_rfl) (by kernel_rfl) (by kernel_rfl) (fun τ r h => by
    obtain ⟨a0, a1, ⟨⟩⟩ := τ
    obtain ⟨m, hm⟩ := Rn_natural_DivSmall (fun m => kk_natural_DivSmall_29 (tb_natural_DivSmall m)) (fun m x0 x1 x8 x9 x7 => (tab_succ (E_natural_DivSmall) (lk c_natural_DivSmall) (bodyOf Try.f94) (fe_natural_DivSmall) m 29 (cn_natural_DivSmall_29 x0 x1 x8 x9 x7)).trans (seg_natural_DivSmall_29 (tb_natural_DivSmall m) x0 x1 x8 x9 x7)) a0 a1 r h
    exact ⟨m, (top_natural_DivSmall (tb_natural_DivSmall m) a0 a1).trans (hm m (Nat.le_refl m))⟩)

abbrev E_bits_Len32 : Env := mkE tys [] []
def c_bits_Len32 : List (Nat × Live) := [(16, ⟨[(0, .int .u32), (2, .int .i64)], [], []⟩), (28, ⟨[(0, .int .u32), (2, .int .i64)], [], []⟩)]
noncomputable abbrev fe_bits_Len32 := (finE (E_bits_Len32) [(.int .i64, false)] Try.f102.results.toList)
noncomputable abbrev cn_bits_Len32_16 (x0 : Int) (x2 : Int) : St := ⟨[(2, .one (.val (.int .i64) x2)), (0, .one (.val (.int .u32) x0))], []⟩
noncomputable abbrev kk_bits_Len32_16 (S : Nat → KT (RT [(.int .i64, false)])) := fun (x0 : Int) (x2 : Int) => S 16 (cn_bits_Len32_16 x0 x2)
noncomputable abbrev cn_bits_Len32_28 (x0 : Int) (x2 : Int) : St := ⟨[(2, .one (.val (.int .i64) x2)), (0, .one (.val (.int .u32) x0))], []⟩
noncomputable abbrev kk_bits_Len32_28 (S : Nat → KT (RT [(.int .i64, false)])) := fun (x0 : Int) (x2 : Int) => S 28 (cn_bits_Len32_28 x0 x2)
theorem top_bits_Len32 (S : Nat → KT (RT [(.int .i64, false)])) (a0 : Int) : evA (E_bits_Len32) (lk c_bits_Len32) S (bodyOf Try.f102) noX (fe_bits_Len32) (fe_bits_Len32) (initSt [.int .u32] (a0, ())) = T_bits_Len32 (kk_bits_Len32_16 S) (kk_bits_Len32_28 S) a0 := by kernel_rfl
theorem seg_bits_Len32_16 (S : Nat → KT (RT [(.int .i64, false)])) (x0 : Int) (x2 : Int) : stepT (entry (E_bits_Len32) (lk c_bits_Len32) S 16 (bodyOf Try.f102) noX (fe_bits_Len32) (fe_bits_Len32)) (cn_bits_Len32_16 x0 x2) = S_bits_Len32_16 (kk_bits_Len32_16 S) (kk_bits_Len32_28 S) x0 x2 := by kernel_rfl
theorem seg_bits_Len32_28 (S : Nat → KT (RT [(.int .i64, false)])) (x0 : Int) (x2 : Int) : stepT (entry (E_bits_Len32) (lk c_bits_Len32) S 28 (bodyOf Try.f102) noX (fe_bits_Len32) (fe_bits_Len32)) (cn_bits_Len32_28 x0 x2) = S_bits_Len32_28 (kk_bits_Len32_16 S) (kk_bits_Len32_28 S) x0 x2 := by kernel_rfl
noncomputable abbrev tb_bits_Len32 := tab (E_bits_Len32) (lk c_bits_Len32) (bodyOf Try.f102) (fe_bits_Len32)
theorem ok_bits_Len32 : EnvOK Try.prog (E_bits_Len32) := mkE_ok tys_ok trivial trivial
theorem fs_bits_Len32 : FSound Try.prog 102 [.int .u32] [(.int .i64, false)] (fun τ => F_bits_Len32 τ.1) :=
  evG_sound (E := (E_bits_Len32)) (C := (lk c_bits_Len32)) ok_bits_Len32 mixed_ok (fn := Try.f102) (c := (bodyOf Try.f102)) (by kernel_rfl) (by kernel_rfl) (by kernel_rfl) (by kernel_rfl) (by kernel_rfl) (by kernel_rfl) (fun τ r h => by
    obtain ⟨a0, ⟨⟩⟩ := τ
    obtain ⟨m, hm⟩ := Rn_bits_Len32 (fun m => kk_bits_Len32_16 (tb_bits_Len32 m)) (fun m => kk_bits_Len32_28 (tb_bits_Len32 m)) (fun m x0 x2 => (tab_succ (E_bits_Len32) (lk c_bits_Len32) (bodyOf Try.f102) (fe_bits_Len32) m 16 (cn_bits_Len32_16 x0 x2)).trans (seg_bits_Len32_16 (tb_bits_Len32 m) x0 x2)) (fun m x0 x2 => (tab_succ (E_bits_Len32) (lk c_bits_Len32) (bodyOf Try.f102) (fe_bits_Len32) m 28 (cn_bits_Len32_28 x0 x2)).trans (seg_bits_Len32_28 (tb_bits_Len32 m) x0 x2)) a0 r h
    exact ⟨m, (top_bits_Len32 (tb_bits_Len32 m) a0).trans (hm m (Nat.le_refl m))⟩)

abbrev E_bits_LeadingZeros32 : Env := mkE tys [(102, callE [.int .u32] [(.int .i64, false)] (fun τ => F_bits_Len32 τ.1))] []
def c_bits_LeadingZeros32 : List (Nat × Live) := []
noncomputable abbrev fe_bits_LeadingZeros32 := (finE (E_bits_LeadingZeros32) [(.int .i64, false)] Try.f95.results.toList)
theorem top_bits_LeadingZeros32 (S : Nat → KT (RT [(.int .i64, false)])) (a0 : Int) : evA (E_bits_LeadingZeros32) (lk c_bits_LeadingZeros32) S (bodyOf Try.f95) noX (fe_bits_LeadingZeros32) (fe_bits_LeadingZeros32) (initSt [.int .u32] (a0, ())) = T_bits_LeadingZeros32 a0 := by kernel_rfl
noncomputable abbrev tb_bits_LeadingZeros32 := tab (E_bits_LeadingZeros32) (lk c_bits_LeadingZeros32) (bodyOf Try.f95) (fe_bits_LeadingZeros32)
theorem ok_bits_LeadingZeros32 : EnvOK Try.prog (E_bits_LeadingZeros32) := mkE_ok tys_ok ⟨⟨fs_bits_Len32.csound, ⟨Try.f102, by kernel_rfl, by kernel_rfl, by kernel_rfl⟩⟩, trivial⟩ trivial
theorem fs_bits_LeadingZeros32 : FSound Try.prog 95 [.int .u32] [(.int .i64, false)] (fun τ => F_bits_LeadingZeros32 τ.1) :=
  evG_sound (E := (E_bits_LeadingZeros32)) (C := (lk c_bits_LeadingZeros32)) ok_bits_LeadingZeros32 mixed_ok (fn := Try.f95) (c := (bodyOf Try.f95)) (by kernel_rfl) (by kernel_rfl) (by kernel_rfl) (by kernel_rfl) (by kernel_rfl) (by kernel_rfl) (fun τ r h => by
    obtain ⟨a0, ⟨⟩⟩ := τ
    obtain ⟨m, hm⟩ := Rn_bits_LeadingZeros32 a0 r h
    exact ⟨m, (top_bits_LeadingZeros32 (tb_bits_LeadingZeros32 m) a0).trans (hm m (Nat.le_refl m))⟩)

abbrev E_natural_Shl : Env := mkE tys [] [(61, mixO (callO [] false (.int .u32) .pre (fun τ l => O_natural_trim l)) (callI (callE [tN] [(tN, false)] (fun τ => F_natural_trim τ.1))))]
def c_natural_Shl : List (Nat × Live) := [(45, ⟨[(6, .int .i64), (8, .int .u32), (9, .int .i64)], [(false, 7, .int .u32)], []⟩)]
noncomputable abbrev fe_natural_Shl := (finE (E_natural_Shl) [(tN, true)] Try.f96.results.toList)
noncomputable abbrev cn_natural_Shl_45 (x6 : Int) (x8 : Int) (x9 : Int) (x7 : List Int) : St := ⟨[(7, .one (.loc (.int .u32) 10000)), (9, .one (.val (.int .i64) x9)), (8, .one (.val (.int .u32) x8)), (6, .one (.val (.int .i64) x6))], [(10000, some ⟨.int .u32, x7, false⟩)]⟩
noncomputable abbrev kk_natural_Shl_45 (S : Nat → KT (RT [(tN, true)])) := fun (x6 : Int) (x8 : Int) (x9 : Int) (x7 : List Int) => S 45 (cn_natural_Shl_45 x6 x8 x9 x7)
theorem top_natural_Shl (S : Nat → KT (RT [(tN, true)])) (a0 : List Int) (a1 : Int) : evA (E_natural_Shl) (lk c_natural_Shl) S (bodyOf Try.f96) noX (fe_natural_Shl) (fe_natural_Shl) (initSt [tN, .int .i64] (a0, a1, ())) = T_natural_Shl (kk_natural_Shl_45 S) a0 a1 := by kernel_rfl
theorem seg_natural_Shl_45 (S : Nat → KT (RT [(tN, true)])) (x6 : Int) (x8 : Int) (x9 : Int) (x7 : List Int) : stepT (entry (E_natural_Shl) (lk c_natural_Shl) S 45 (bodyOf Try.f96) noX (fe_natural_Shl) (fe_natural_Shl)) (cn_natural_Shl_45 x6 x8 x9 x7) = S_natural_Shl_45 (kk_natural_Shl_45 S) x6 x8 x9 x7 := by kernel_rfl
noncomputable abbrev tb_natural_Shl := tab (E_natural_Shl) (lk c_natural_Shl) (bodyOf Try.f96) (fe_natural_Shl)
theorem ok_natural_Shl : EnvOK Try.prog (E_natural_Shl) := mkE_ok tys_ok trivial ⟨⟨PSound.mix os_natural_trim.psound (CSound.psound fs_natural_trim.csound), ⟨Try.f61, by kernel_rfl, by kernel_rfl, by kernel_rfl⟩⟩, trivial⟩
theorem fs_natural_Shl : FSound Try.prog 96 [tN, .int .i64] [(tN, true)] (fun τ => F_natural_Shl τ.1 τ.2.1) :=
  evG_sound (E := (E_natural_Shl)) (C := (lk c_natural_Shl)) ok_natural_Shl mixed_ok (fn := Try.f96) (c := (bodyOf Try.f96)) (by kernel_rfl) (by kernel_rfl) (by kernel_rfl) (by kernel_rfl) (by kernel_rfl) (by kernel_rfl) (fun τ r h => by
    obtain ⟨a0, a1, ⟨⟩⟩ := τ
    obtain ⟨m, hm⟩ := Rn_natural_Shl (fun m => kk_natural_Shl_45 (tb_natural_Shl m)) (fun m x6 x8 x9 x7 => (tab_succ (E_natural_Shl) (lk c_natural_Shl) (bodyOf Try.f96) (fe_natural_Shl) m 45 (cn_natural_Shl_45 x6 x8 x9 x7)).trans (seg_natural_Shl_45 (tb_natural_Shl m) x6 x8 x9 x7)) a0 a1 r h
    exact ⟨m, (top_natural_Shl (tb_natural_Shl m) a0 a1).trans (hm m (Nat.le_refl m))⟩)

abbrev E_bits_Len64 : Env := mkE tys [] []
def c_bits_Len64 : List (Nat × Live) := [(16, ⟨[(0, .int .u64), (2, .int .i64)], [], []⟩), (28, ⟨[(0, .int .u64), (2, .int .i64)], [], []⟩), (40, ⟨[(0, .int .u64), (2, .int .i64)], [], []⟩)]
noncomputable abbrev fe_bits_Len64 := (finE (E_bits_Len64) [(.int .i64, false)] Try.f104.results.toList)
noncomputable abbrev cn_bits_Len64_16 (x0 : Int) (x2 : Int) : St := ⟨[(2, .one (.val (.int .i64) x2)), (0, .one (.val (.int .u64) x0))], []⟩
noncomputable abbrev kk_bits_Len64_16 (S : Nat → KT (RT [(.int .i64, false)])) := fun (x0 : Int) (x2 : Int) => S 16 (cn_bits_Len64_16 x0 x2)
noncomputable abbrev cn_bits_Len64_28 (x0 : Int) (x2 : Int) : St := ⟨[(2, .one (.val (.int .i64) x2)), (0, .one (.val (.int .u64) x0))], []⟩
noncomputable abbrev kk_bits_Len64_28 (S : Nat → KT (RT [(.int .i64, false)])) := fun (x0 : Int) (x2 : Int) => S 28 (cn_bits_Len64_28 x0 x2)
noncomputable abbrev cn_bits_Len64_40 (x0 : Int) (x2 : Int) : St := ⟨[(2, .one (.val (.int .i64) x2)), (0, .one (.val (.int .u64) x0))], []⟩
noncomputable abbrev kk_bits_Len64_40 (S : Nat → KT (RT [(.int .i64, false)])) := fun (x0 : Int) (x2 : Int) => S 40 (cn_bits_Len64_40 x0 x2)
theorem top_bits_Len64 (S : Nat → KT (RT [(.int .i64, false)])) (a0 : Int) : evA (E_bits_Len64) (lk c_bits_Len64) S (bodyOf Try.f104) noX (fe_bits_Len64) (fe_bits_Len64) (initSt [.int .u64] (a0, ())) = T_bits_Len64 (kk_bits_Len64_16 S) (kk_bits_Len64_28 S) (kk_bits_Len64_40 S) a0 := by kernel_rfl
theorem seg_bits_Len64_16 (S : Nat → KT (RT [(.int .i64, false)])) (x0 : Int) (x2 : Int) : stepT (entry (E_bits_Len64) (lk c_bits_Len64) S 16 (bodyOf Try.f104) noX (fe_bits_Len64) (fe_bits_Len64)) (cn_bits_Len64_16 x0 x2) = S_bits_Len64_16 (kk_bits_Len64_16 S) (kk_bits_Len64_28 S) (kk_bits_Len64_40 S) x0 x2 := by kernel_rfl
theorem seg_bits_Len64_28 (S : Nat → KT (RT [(.int .i64, false)])) (x0 : Int) (x2 : Int) : stepT (entry (E_bits_Len64) (lk c_bits_Len64) S 28 (bodyOf Try.f104) noX (fe_bits_Len64) (fe_bits_Len64)) (cn_bits_Len64_28 x0 x2) = S_bits_Len64_28 (kk_bits_Len64_16 S) (kk_bits_Len64_28 S) (kk_bits_Len64_40 S) x0 x2 := by kernel_rfl
theorem seg_bits_Len64_40 (S : Nat → KT (RT [(.int .i64, false)])) (x0 : Int) (x2 : Int) : stepT (entry (E_bits_Len64) (lk c_bits_Len64) S 40 (bodyOf Try.f104) noX (fe_bits_Len64) (fe_bits_Len64)) (cn_bits_Len64_40 x0 x2) = S_bits_Len64_40 (kk_bits_Len64_16 S) (kk_bits_Len64_28 S) (kk_bits_Len64_40 S) x0 x2 := by kernel_rfl
noncomputable abbrev tb_bits_Len64 := tab (E_bits_Len64) (lk c_bits_Len64) (bodyOf Try.f104) (fe_bits_Len64)
theorem ok_bits_Len64 : EnvOK Try.prog (E_bits_Len64) := mkE_ok tys_ok trivial trivial
theorem fs_bits_Len64 : FSound Try.prog 104 [.int .u64] [(.int .i64, false)] (fun τ => F_bits_Len64 τ.1) :=
  evG_sound (E := (E_bits_Len64)) (C := (lk c_bits_Len64)) ok_bits_Len64 mixed_ok (fn := Try.f104) (c := (bodyOf Try.f104)) (by kernel_rfl) (by kernel_rfl) (by kernel_rfl) (by kernel_rfl) (by kernel_rfl) (by kernel_rfl) (fun τ r h => by
    obtain ⟨a0, ⟨⟩⟩ := τ
    obtain ⟨m, hm⟩ := Rn_bits_Len64 (fun m => kk_bits_Len64_16 (tb_bits_Len64 m)) (fun m => kk_bits_Len64_28 (tb_bits_Len64 m)) (fun m => kk_bits_Len64_40 (tb_bits_Len64 m)) (fun m x0 x2 => (tab_succ (E_bits_Len64) (lk c_bits_Len64) (bodyOf Try.f104) (fe_bits_Len64) m 16 (cn_bits_Len64_16 x0 x2)).trans (seg_bits_Len64_16 (tb_bits_Len64 m) x0 x2)) (fun m x0 x2 => (tab_succ (E_bits_Len64) (lk c_bits_Len64) (bodyOf Try.f104) (fe_bits_Len64) m 28 (cn_bits_Len64_28 x0 x2)).trans (seg_bits_Len64_28 (tb_bits_Len64 m) x0 x2)) (fun m x0 x2 => (tab_succ (E_bits_Len64) (lk c_bits_Len64) (bodyOf Try.f104) (fe_bits_Len64) m 40 (cn_bits_Len64_40 x0 x2)).trans (seg_bits_Len64_40 (tb_bits_Len64 m) x0 x2)) a0 r h
    exact ⟨m, (top_bits_Len64 (tb_bits_Len64 m) a0).trans (hm m (Nat.le_refl m))⟩)

abbrev E_bits_LeadingZeros64 : Env := mkE tys [(104, callE [.int .u64] [(.int .i64, false)] (fun τ => F_bits_Len64 τ.1))] []
def c_bits_LeadingZeros64 : List (Nat × Live) := []
noncomputable abbrev fe_bits_LeadingZeros64 := (finE (E_bits_LeadingZeros64) [(.int .i64, false)] Try.f103.results.toList)
theorem top_bits_LeadingZeros64 (S : Nat → KT (RT [(.int .i64, false)])) (a0 : Int) : evA (E_bits_LeadingZeros64) (lk c_bits_LeadingZeros64) S (bodyOf Try.f103) noX (fe_bits_LeadingZeros64) (fe_bits_LeadingZeros64) (initSt [.int .u64] (a0, ())) = T_bits_LeadingZeros64 a0 := by kernel_rfl
noncomputable abbrev tb_bits_LeadingZeros64 := tab (E_bits_LeadingZeros64) (lk c_bits_LeadingZeros64) (bodyOf Try.f103) (fe_bits_LeadingZeros64)
theorem ok_bits_LeadingZeros64 : EnvOK Try.prog (E_bits_LeadingZeros64) := mkE_ok tys_ok ⟨⟨fs_bits_Len64.csound, ⟨Try.f104, by kernel_rfl, by kernel_rfl, by kernel_rfl⟩⟩, trivial⟩ trivial
theorem fs_bits_LeadingZeros64 : FSound Try.prog 103 [.int .u64] [(.int .i64, false)] (fun τ => F_bits_LeadingZeros64 τ.1) :=
  evG_sound (E := (E_bits_LeadingZeros64)) (C := (lk c_bits_LeadingZeros64)) ok_bits_LeadingZeros64 mixed_ok (fn := Try.f103) (c := (bodyOf Try.f103)) (by kernel_rfl) (by kernel_rfl) (by kernel_rfl) (by kernel_rfl) (by kernel_rfl) (by kernel_rfl) (fun τ r h => by
    obtain ⟨a0, ⟨⟩⟩ := τ
    obtain ⟨m, hm⟩ := Rn_bits_LeadingZeros64 a0 r h
    exact ⟨m, (top_bits_LeadingZeros64 (tb_bits_LeadingZeros64 m) a0).trans (hm m (Nat.le_refl m))⟩)

abbrev E_bits_Div64 : Env := mkE tys [(103, callE [.int .u64] [(.int .i64, false)] (fun τ => F_bits_LeadingZeros64 τ.1))] []
def c_bits_Div64 : List (Nat × Live) := [(69, ⟨[(2, .int .u64), (8, .int .u64), (9, .int .u64), (10, .int .u64), (11, .int .u64), (13, .int .u64), (14, .int .u64), (15, .int .u64), (16, .int .u64)], [], []⟩), (72, ⟨[(2, .int .u64), (8, .int .u64), (9, .int .u64), (10, .int .u64), (11, .int .u64), (13, .int .u64), (14, .int .u64), (15, .int .u64), (16, .int .u64)], [], []⟩), (97, ⟨[(2, .int .u64), (8, .int .u64), (9, .int .u64), (10, .int .u64), (14, .int .u64), (15, .int .u64), (16, .int .u64), (17, .int .u64), (18, .int .u64)], [], []⟩), (100, ⟨[(2, .int .u64), (8, .int .u64), (9, .int .u64), (10, .int .u64), (14, .int .u64), (15, .int .u64), (16, .int .u64), (17, .int .u64), (18, .int .u64)], [], []⟩)]
noncomputable abbrev fe_bits_Div64 := (finE (E_bits_Div64) [(.int .u64, false), (.int .u64, false)] Try.f97.results.toList)
noncomputable abbrev cn_bits_Div64_69 (x2 : Int) (x8 : Int) (x9 : Int) (x10 : Int) (x11 : Int) (x13 : Int) (x14 : Int) (x15 : Int) (x16 : Int) : St := ⟨[(16, .one (.val (.int .u64) x16)), (15, .one (.val (.int .u64) x15)), (14, .one (.val (.int .u64) x14)), (13, .one (.val (.int .u64) x13)), (11, .one (.val (.int .u64) x11)), (10, .one (.val (.int .u64) x10)), (9, .one (.val (.int .u64) x9)), (8, .one (.val (.int .u64) x8)), (2, .one (.val (.int .u64) x2))], []⟩
noncomputable abbrev kk_bits_Div64_69 (S : Nat → KT (RT [(.int .u64, false), (.int .u64, false)])) := fun (x2 : Int) (x8 : Int) (x9 : Int) (x10 : Int) (x11 : Int) (x13 : Int) (x14 : Int) (x15 : Int) (x16 : Int) => S 69 (cn_bits_Div64_69 x2 x8 x9 x10 x11 x13 x14 x15 x16)
noncomputable abbrev cn_bits_Div64_72 (x2 : Int) (x8 : Int) (x9 : Int) (x10 : Int) (x11 : Int) (x13 : Int) (x14 : Int) (x15 : Int) (x16 : Int) : St := ⟨[(16, .one (.val (.int .u64) x16)), (15, .one (.val (.int .u64) x15)), (14, .one (.val (.int .u64) x14)), (13, .one (.val (.int .u64) x13)), (11, .one (.val (.int .u64) x11)), (10, .one (.val (.int .u64) x10)), (9, .one (.val (.int .u64) x9)), (8, .one (.val (.int .u64) x8)), (2, .one (.val (.int .u64) x2))], []⟩
noncomputable abbrev kk_bits_Div64_72 (S : Nat → KT (RT [(.int .u64, false), (.int .u64, false)])) := fun (x2 : Int) (x8 : Int) (x9 : Int) (x10 : Int) (x11 : Int) (x13 : Int) (x14 : Int) (x15 : Int) (x16 : Int) => S 72 (cn_bits_Div64_72 x2 x8 x9 x10 x11 x13 x14 x15 x16)
noncomputable abbrev cn_bits_Div64_97 (x2 : Int) (x8 : Int) (x9 : Int) (x10 : Int) (x14 : Int) (x15 : Int) (x16 : Int) (x17 : Int) (x18 : Int) : St := ⟨[(18, .one (.val (.int .u64) x18)), (17, .one (.val (.int .u64) x17)), (16, .one (.val (.int .u64) x16)), (15, .one (.val (.int .u64) x15)), (14, .one (.val (.int .u64) x14)), (10, .one (.val (.int .u64) x10)), (9, .one (.val (.int .u64) x9)), (8, .one (.val (.int .u64) x8)), (2, .one (.val (.int .u64) x2))], []⟩
noncomputable abbrev kk_bits_Div64_97 (S : Nat → KT (RT [(.int .u64, false), (.int .u64, false)])) := fun (x2 : Int) (x8 : Int) (x9 : Int) (x10 : Int) (x14 : Int) (x15 : Int) (x16 : Int) (x17 : Int) (x18 : Int) => S 97 (cn_bits_Div64_97 x2 x8 x9 x10 x14 x15 x16 x17 x18)
noncomputable abbrev cn_bits_Div64_100 (x2 : Int) (x8 : Int) (x9 : Int) (x10 : Int) (x14 : Int) (x15 : Int) (x16 : Int) (x17 : Int) (x18 : Int) : St := ⟨[(18, .one (.val (.int .u64) x18)), (17, .one (.val (.int .u64) x17)), (16, .one (.val (.int .u64) x16)), (15, .one (.val (.int .u64) x15)), (14, .one (.val (.int .u64) x14)), (10, .one (.val (.int .u64) x10)), (9, .one (.val (.int .u64) x9)), (8, .one (.val (.int .u64) x8)), (2, .one (.val (.int .u64) x2))], []⟩
noncomputable abbrev kk_bits_Div64_100 (S : Nat → KT (RT [(.int .u64, false), (.int .u64, false)])) := fun (x2 : Int) (x8 : Int) (x9 : Int) (x10 : Int) (x14 : Int) (x15 : Int) (x16 : Int) (x17 : Int) (x18 : Int) => S 100 (cn_bits_Div64_100 x2 x8 x9 x10 x14 x15 x16 x17 x18)
theorem top_bits_Div64 (S : Nat → KT (RT [(.int .u64, false), (.int .u64, false)])) (a0 : Int) (a1 : Int) (a2 : Int) : evA (E_bits_Div64) (lk c_bits_Div64) S (bodyOf Try.f97) noX (fe_bits_Div64) (fe_bits_Div64) (initSt [.int .u64, .int .u64, .int .u64] (a0, a1, a2, ())) = T_bits_Div64 (kk_bits_Div64_69 S) (kk_bits_Div64_72 S) (kk_bits_Div64_97 S) (kk_bits_Div64_100 S) a0 a1 a2 := by kernel_rfl
theorem seg_bits_Div64_69 (S : Nat → KT (RT [(.int .u64, false), (.int .u64, false)])) (x2 : Int) (x8 : Int) (x9 : Int) (x10 : Int) (x11 : Int) (x13 : Int) (x14 : Int) (x15 : Int) (x16 : Int) : stepT (entry (E_bits_Div64) (lk c_bits_Div64) S 69 (bodyOf Try.f97) noX (fe_bits_Div64) (fe_bits_Div64)) (cn_bits_Div64_69 x2 x8 x9 x10 x11 x13 x14 x15 x16) = S_bits_Div64_69 (kk_bits_Div64_69 S) (kk_bits_Div64_72 S) (kk_bits_Div64_97 S) (kk_bits_Div64_100 S) x2 x8 x9 x10 x11 x13 x14 x15 x16 := by kernel_rfl
theorem seg_bits_Div64_72 (S : Nat → KT (RT [(.int .u64, false), (.int .u64, false)])) (x2 : Int) (x8 : Int) (x9 : Int) (x10 : Int) (x11 : Int) (x13 : Int) (x14 : Int) (x15 : Int) (x16 : Int) : stepT (entry (E_bits_Div64) (lk c_bits_Div64) S 72 (bodyOf Try.f97) noX (fe_bits_Div64) (fe_bits_Div64)) (cn_bits_Div64_72 x2 x8 x9 x10 x11 x13 x14 x15 x16) = S_bits_Div64_72 (kk_bits_Div64_69 S) (kk_bits_Div64_72 S) (kk_bits_Div64_97 S) (kk_bits_Div64_100 S) x2 x8 x9 x10 x11 x13 x14 x15 x16 := by kernel_rfl
theorem seg_bits_Div64_97 (S : Nat → KT (RT [(.int .u64, false), (.int .u64, false)])) (x2 : Int) (x8 : Int) (x9 : Int) (x10 : Int) (x14 : Int) (x15 : Int) (x16 : Int) (x17 : Int) (x18 : Int) : stepT (entry (E_bits_Div64) (lk c_bits_Div64) S 97 (bodyOf Try.f97) noX (fe_bits_Div64) (fe_bits_Div64)) (cn_bits_Div64_97 x2 x8 x9 x10 x14 x15 x16 x17 x18) = S_bits_Div64_97 (kk_bits_Div64_69 S) (kk_bits_Div64_72 S) (kk_bits_Div64_97 S) (kk_bits_Div64_100 S) x2 x8 x9 x10 x14 x15 x16 x17 x18 := by kernel_rfl
theorem seg_bits_Div64_100 (S : Nat → KT (RT [(.int .u64, false), (.int .u64, false)])) (x2 : Int) (x8 : Int) (x9 : Int) (x10 : Int) (x14 : Int) (x15 : Int) (x16 : Int) (x17 : Int) (x18 : Int) : stepT (entry (E_bits_Div64) (lk c_bits_Div64) S 100 (bodyOf Try.f97) noX (fe_bits_Div64) (fe_bits_Div64)) (cn_bits_Div64_100 x2 x8 x9 x10 x14 x15 x16 x17 x18) = S_bits_Div64_100 (kk_bits_Div64_69 S) (kk_bits_Div64_72 S) (kk_bits_Div64_97 S) (kk_bits_Div64_100 S) x2 x8 x9 x10 x14 x15 x16 x17 x18 := by kernel_rfl
noncomputable abbrev tb_bits_Div64 := tab (E_bits_Div64) (lk c_bits_Div64) (bodyOf Try.f97) (fe_bits_Div64)
theorem ok_bits_Div64 : EnvOK Try.prog (E_bits_Div64) := mkE_ok tys_ok ⟨⟨fs_bits_LeadingZeros64.csound, ⟨Try.f103, by kernel_rfl, by kernel_rfl, by kernel_rfl⟩⟩, trivial⟩ trivial
theorem fs_bits_Div64 : FSound Try.prog 97 [.int .u64, .int .u64, .int .u64] [(.int .u64, false), (.int .u64, false)] (fun τ => F_bits_Div64 τ.1 τ.2.1 τ.2.2.1) :=
  evG_sound (E := (E_bits_Div64)) (C := (lk c_bits_Div64)) ok_bits_Div64 mixed_ok (fn := Try.f97) (c := (bodyOf Try.f97)) (by kernel_rfl) (by kernel_rfl) (by kernel_rfl) (by kernel_rfl) (by kernel_rfl) (by kernel_rfl) (fun τ r h => by
    obtain ⟨a0, a1, a2, ⟨⟩⟩ := τ
    obtain ⟨m, hm⟩ := Rn_bits_Div64 (fun m => kk_bits_Div64_69 (tb_bits_Div64 m)) (fun m => kk_bits_Div64_72 (tb_bits_Div64 m)) (fun m => kk_bits_Div64_97 (tb_bits_Div64 m)) (fun m => kk_bits_Div64_100 (tb_bits_Div64 m)) (fun m x2 x8 x9 x10 x11 x13 x14 x15 x16 => (tab_succ (E_bits_Div64) (lk c_bits_Div64) (bodyOf Try.f97) (fe_bits_Div64) m 69 (cn_bits_Div64_69 x2 x8 x9 x10 x11 x13 x14 x15 x16)).trans (seg_bits_Div64_69 (tb_bits_Div64 m) x2 x8 x9 x10 x11 x13 x14 x15 x16)) (fun m x2 x8 x9 x10 x11 x13 x14 x15 x16 => (tab_succ (E_bits_Div64) (lk c_bits_Div64) (bodyOf Try.f97) (fe_bits_Div64) m 72 (cn_bits_Div64_72 x2 x8 x9 x10 x11 x13 x14 x15 x16)).trans (seg_bits_Div64_72 (tb_bits_Div64 m) x2 x8 x9 x10 x11 x13 x14 x15 x16)) (fun m x2 x8 x9 x10 x14 x15 x16 x17 x18 => (tab_succ (E_bits_Div64) (lk c_bits_Div64) (bodyOf Try.f97) (fe_bits_Div64) m 97 (cn_bits_Div64_97 x2 x8 x9 x10 x14 x15 x16 x17 x18)).trans (seg_bits_Div64_97 (tb_bits_Div64 m) x2 x8 x9 x10 x14 x15 x16 x17 x18)) (fun m x2 x8 x9 x10 x14 x15 x16 x17 x18 => (tab_succ (E_bits_Div64) (lk c_bits_Div64) (bodyOf Try.f97) (fe_bits_Div64) m 100 (cn_bits_Div64_100 x2 x8 x9 x10 x14 x15 x16 x17 x18)).trans (seg_bits_Div64_100 (tb_bits_Div64 m) x2 x8 x9 x10 x14 x15 x16 x17 x18)) a0 a1 a2 r h
    exact ⟨m, (top_bits_Div64 (tb_bits_Div64 m) a0 a1 a2).trans (hm m (Nat.le_refl m))⟩)

abbrev E_natural_Shr : Env := mkE tys [] [(61, mixO (callO [] false (.int .u32) .pre (fun τ l => O_natural_trim l)) (callI (callE [tN] [(tN, false)] (fun τ => F_natural_trim τ.1))))]
def c_natural_Shr : List (Nat × Live) := [(37, ⟨[(6, .int .i64), (29, .int .i64), (30, .int .i64)], [(false, 7, .int .u32)], []⟩), (56, ⟨[(6, .int .i64), (8, .int .i64), (9, .int .u32), (29, .int .i64), (30, .int .i64)], [(false, 7, .int .u32)], []⟩)]
noncomputable abbrev fe_natural_Shr := (finE (E_natural_Shr) [(tN, false)] Try.f98.results.toList)
noncomputable abbrev cn_natural_Shr_37 (x6 : Int) (x29 : Int) (x30 : Int) (x7 : List Int) : St := ⟨[(7, .one (.loc (.int .u32) 10000)), (30, .one (.val (.int .i64) x30)), (29, .one (.val (.int .i64) x29)), (6, .one (.val (.int .i64) x6))], [(10000, some ⟨.int .u32, x7, false⟩)]⟩
noncomputable abbrev kk_natural_Shr_37 (S : Nat → KT (RT [(tN, false)])) := fun (x6 : Int) (x29 : Int) (x30 : Int) (x7 : List Int) => S 37 (cn_natural_Shr_37 x6 x29 x30 x7)
noncomputable abbrev cn_natural_Shr_56 (x6 : Int) (x8 : Int) (x9 : Int) (x29 : Int) (x30 : Int) (x7 : List Int) : St := ⟨[(7, .one (.loc (.int .u32) 10000)), (30, .one (.val (.int .i64) x30)), (29, .one (.val (.int .i64) x29)), (9, .one (.val (.int .u32) x9)), (8, .one (.val (.int .i64) x8)), (6, .one (.val (.int .i64) x6))], [(10000, some ⟨.int .u32, x7, false⟩)]⟩
noncomputable abbrev kk_natural_Shr_56 (S : Nat → KT (RT [(tN, false)])) := fun (x6 : Int) (x8 : Int) (x9 : Int) (x29 : Int) (x30 : Int) (x7 : List Int) => S 56 (cn_natural_Shr_56 x6 x8 x9 x29 x30 x7)
theorem top_natural_Shr (S : Nat → KT (RT [(tN, false)])) (a0 : List Int) (a1 : Int) : evA (E_natural_Shr) (lk c_natural_Shr) S (bodyOf Try.f98) noX (fe_natural_Shr) (fe_natural_Shr) (initSt [tN, .int .i64] (a0, a1, ())) = T_natural_Shr (kk_natural_Shr_37 S) (kk_natural_Shr_56 S) a0 a1 := by kernel_rfl
theorem seg_natural_Shr_37 (S : Nat → KT (RT [(tN, false)])) (x6 : Int) (x29 : Int) (x30 : Int) (x7 : List Int) : stepT (entry (E_natural_Shr) (lk c_natural_Shr) S 37 (bodyOf Try.f98) noX (fe_natural_Shr) (fe_natural_Shr)) (cn_natural_Shr_37 x6 x29 x30 x7) = S_natural_Shr_37 (kk_natural_Shr_37 S) (kk_natural_Shr_56 S) x6 x29 x30 x7 := by kernel_rfl
theorem seg_natural_Shr_56 (S : Nat → KT (RT [(tN, false)])) (x6 : Int) (x8 : Int) (x9 : Int) (x29 : Int) (x30 : Int) (x7 : List Int) : stepT (entry (E_natural_Shr) (lk c_natural_Shr) S 56 (bodyOf Try.f98) noX (fe_natural_Shr) (fe_natural_Shr)) (cn_natural_Shr_56 x6 x8 x9 x29 x30 x7) = S_natural_Shr_56 (kk_natural_Shr_37 S) (kk_natural_Shr_56 S) x6 x8 x9 x29 x30 x7 := by kernel_rfl
noncomputable abbrev tb_natural_Shr := tab (E_natural_Shr) (lk c_natural_Shr) (bodyOf Try.f98) (fe_natural_Shr)
theorem ok_natural_Shr : EnvOK Try.prog (E_natural_Shr) := mkE_ok tys_ok trivial ⟨⟨PSound.mix os_natural_trim.psound (CSound.psound fs_natural_trim.csound), ⟨Try.f61, by kernel_rfl, by kernel_rfl, by kernel_rfl⟩⟩, trivial⟩
theorem fs_natural_Shr : FSound Try.prog 98 [tN, .int .i64] [(tN, false)] (fun τ => F_natural_Shr τ.1 τ.2.1) :=
  evG_sound (E := (E_natural_Shr)) (C := (lk c_natural_Shr)) ok_natural_Shr mixed_ok (fn := Try.f98) (c := (bodyOf Try.f98)) (by kernel_rfl) (by kernel_rfl) (by kernel_rfl) (by kernel_rfl) (by kernel_rfl) (by kernel_rfl) (fun τ r h => by
    obtain ⟨a0, a1, ⟨⟩⟩ := τ
    obtain ⟨m, hm⟩ := Rn_natural_Shr (fun m => kk_natural_Shr_37 (tb_natural_Shr m)) (fun m => kk_natural_Shr_56 (tb_natural_Shr m)) (fun m x6 x29 x30 x7 => (tab_succ (E_natural_Shr) (lk c_natural_Shr) (bodyOf Try.f98) (fe_natural_Shr) m 37 (cn_natural_Shr_37 x6 x29 x30 x7)).trans (seg_natural_Shr_37 (tb_natural_Shr m) x6 x29 x30 x7)) (fun m x6 x8 x9 x29 x30 x7 => (tab_succ (E_natural_Shr) (lk c_natural_Shr) (bodyOf Try.f98) (fe_natural_Shr) m 56 (cn_natural_Shr_56 x6 x8 x9 x29 x30 x7)).trans (seg_natural_Shr_56 (tb_natural_Shr m) x6 x8 x9 x29 x30 x7)) a0 a1 r h
    exact ⟨m, (top_natural_Shr (tb_natural_Shr m) a0 a1).trans (hm m (Nat.le_refl m))⟩)

abbrev E_division_long : Env := mkE tys [(42, callE [.int .u64] [(tN, false)] (fun τ => F_natural_Of τ.1)), (49, callE [tN, tN] [(.int .i64, false)] (fun τ => F_natural_Cmp τ.1 τ.2.1)), (63, callE [tN] [(tN, true)] (fun τ => F_natural_Normal τ.1)), (72, callE [.int .u32, .int .u32, .int .u32] [(.int .u32, false), (.int .u32, false)] (fun τ => F_bits_Add32 τ.1 τ.2.1 τ.2.2.1)), (94, callE [tN, .int .u32] [(tN, false), (.int .u32, false), (.bool, false)] (fun τ => F_natural_DivSmall τ.1 τ.2.1)), (95, callE [.int .u32] [(.int .i64, false)] (fun τ => F_bits_LeadingZeros32 τ.1)), (96, callE [tN, .int .i64] [(tN, true)] (fun τ => F_natural_Shl τ.1 τ.2.1)), (97, callE [.int .u64, .int .u64, .int .u64] [(.int .u64, false), (.int .u64, false)] (fun τ => F_bits_Div64 τ.1 τ.2.1 τ.2.2.1)), (98, callE [tN, .int .i64] [(tN, false)] (fun τ => F_natural_Shr τ.1 τ.2.1))] []
def c_division_long : List (Nat × Live) := [(57, ⟨[(6, .int .i64), (10, .int .i64), (13, .int .u64), (14, .int .u64), (15, .int .i64)], [(false, 4, .int .u32), (false, 11, .int .u32), (false, 12, .int .u32)], []⟩), (69, ⟨[(6, .int .i64), (10, .int .i64), (13, .int .u64), (14, .int .u64), (15, .int .i64), (16, .int .u64), (17, .int .u64)], [(false, 4, .int .u32), (false, 11, .int .u32), (false, 12, .int .u32)], []⟩), (93, ⟨[(6, .int .i64), (10, .int .i64), (13, .int .u64), (14, .int .u64), (15, .int .i64), (16, .int .u64), (18, .int .u64), (19, .int .u64), (142, .int .i64), (143, .int .i64)], [(false, 4, .int .u32), (false, 11, .int .u32), (false, 12, .int .u32)], [141]⟩), (153, ⟨[(6, .int .i64), (10, .int .i64), (13, .int .u64), (14, .int .u64), (15, .int .i64), (25, .int .u32), (211, .int .i64), (212, .int .i64)], [(false, 4, .int .u32), (false, 11, .int .u32), (false, 12, .int .u32)], [210]⟩)]
noncomputable abbrev fe_division_long := (finE (E_division_long) [(tN, false), (tN, false)] Try.f85.results.toList)
noncomputable abbrev cn_division_long_57 (x6 : Int) (x10 : Int) (x13 : Int) (x14 : Int) (x15 : Int) (x4 : List Int) (x11 : List Int) (x12 : List Int) : St := ⟨[(12, .one (.loc (.int .u32) 10002)), (11, .one (.loc (.int .u32) 10001)), (4, .one (.loc (.int .u32) 10000)), (15, .one (.val (.int .i64) x15)), (14, .one (.val (.int .u64) x14)), (13, .one (.val (.int .u64) x13)), (10, .one (.val (.int .i64) x10)), (6, .one (.val (.int .i64) x6))], [(10002, some ⟨.int .u32, x12, false⟩), (10001, some ⟨.int .u32, x11, false⟩), (10000, some ⟨.int .u32, x4, false⟩)]⟩
noncomputable abbrev kk_division_long_57 (S : Nat → KT (RT [(tN, false), (tN, false)])) := fun (x6 : Int) (x10 : Int) (x13 : Int) (x14 : Int) (x15 : Int) (x4 : List Int) (x11 : List Int) (x12 : List Int) => S 57 (cn_division_long_57 x6 x10 x13 x14 x15 x4 x11 x12)
noncomputable abbrev cn_division_long_69 (x6 : Int) (x10 : Int) (x13 : Int) (x14 : Int) (x15 : Int) (x16 : Int) (x17 : Int) (x4 : List Int) (x11 : List Int) (x12 : List Int) : St := ⟨[(12, .one (.loc (.int .u32) 10002)), (11, .one (.loc (.int .u32) 10001)), (4, .one (.loc (.int .u32) 10000)), (17, .one (.val (.int .u64) x17)), (16, .one (.val (.int .u64) x16)), (15, .one (.val (.int .i64) x15)), (14, .one (.val (.int .u64) x14)), (13, .one (.val (.int .u64) x13)), (10, .one (.val (.int .i64) x10)), (6, .one (.val (.int .i64) x6))], [(10002, some ⟨.int .u32, x12, false⟩), (10001, some ⟨.int .u32, x11, false⟩), (10000, some ⟨.int .u32, x4, false⟩)]⟩
noncomputable abbrev kk_division_long_69 (S : Nat → KT (RT [(tN, false), (tN, false)])) := fun (x6 : Int) (x10 : Int) (x13 : Int) (x14 : Int) (x15 : Int) (x16 : Int) (x17 : Int) (x4 : List Int) (x11 : List Int) (x12 : List Int) => S 69 (cn_division_long_69 x6 x10 x13 x14 x15 x16 x17 x4 x11 x12)
noncomputable abbrev cn_division_long_93 (x6 : Int) (x10 : Int) (x13 : Int) (x14 : Int) (x15 : Int) (x16 : Int) (x18 : Int) (x19 : Int) (x142 : Int) (x143 : Int) (x4 : List Int) (x11 : List Int) (x12 : List Int) : St := ⟨[(141, .one (.loc (.int .u32) 10001)), (12, .one (.loc (.int .u32) 10002)), (11, .one (.loc (.int .u32) 10001)), (4, .one (.loc (.int .u32) 10000)), (143, .one (.val (.int .i64) x143)), (142, .one (.val (.int .i64) x142)), (19, .one (.val (.int .u64) x19)), (18, .one (.val (.int .u64) x18)), (16, .one (.val (.int .u64) x16)), (15, .one (.val (.int .i64) x15)), (14, .one (.val (.int .u64) x14)), (13, .one (.val (.int .u64) x13)), (10, .one (.val (.int .i64) x10)), (6, .one (.val (.int .i64) x6))], [(10002, some ⟨.int .u32, x12, false⟩), (10001, some ⟨.int .u32, x11, false⟩), (10000, some ⟨.int .u32, x4, false⟩)]⟩
noncomputable abbrev kk_division_long_93 (S : Nat → KT (RT [(tN, false), (tN, false)])) := fun (x6 : Int) (x10 : Int) (x13 : Int) (x14 : Int) (x15 : Int) (x16 : Int) (x18 : Int) (x19 : Int) (x142 : Int) (x143 : Int) (x4 : List Int) (x11 : List Int) (x12 : List Int) => S 93 (cn_division_long_93 x6 x10 x13 x14 x15 x16 x18 x19 x142 x143 x4 x11 x12)
noncomputable abbrev cn_division_long_153 (x6 : Int) (x10 : Int) (x13 : Int) (x14 : Int) (x15 : Int) (x25 : Int) (x211 : Int) (x212 : Int) (x4 : List Int) (x11 : List Int) (x12 : List Int) : St := ⟨[(210, .one (.loc (.int .u32) 10001)), (12, .one (.loc (.int .u32) 10002)), (11, .one (.loc (.int .u32) 10001)), (4, .one (.loc (.int .u32) 10000)), (212, .one (.val (.int .i64) x212)), (211, .one (.val (.int .i64) x211)), (25, .one (.val (.int .u32) x25)), (15, .one (.val (.int .i64) x15)), (14, .one (.val (.int .u64) x14)), (13, .one (.val (.int .u64) x13)), (10, .one (.val (.int .i64) x10)), (6, .one (.val (.int .i64) x6))], [(10002, some ⟨.int .u32, x12, false⟩), (10001, some ⟨.int .u32, x11, false⟩), (10000, some ⟨.int .u32, x4, false⟩)]⟩
noncomputable abbrev kk_division_long_153 (S : Nat → KT (RT [(tN, false), (tN, false)])) := fun (x6 : Int) (x10 : Int) (x13 : Int) (x14 : Int) (x15 : Int) (x25 : Int) (x211 : Int) (x212 : Int) (x4 : List Int) (x11 : List Int) (x12 : List Int) => S 153 (cn_division_long_153 x6 x10 x13 x14 x15 x25 x211 x212 x4 x11 x12)
theorem top_division_long (S : Nat → KT (RT [(tN, false), (tN, false)])) (a0 : List Int) (a1 : List Int) : evA (E_division_long) (lk c_division_long) S (bodyOf Try.f85) noX (fe_division_long) (fe_division_long) (initSt [tN, tN] (a0, a1, ())) = T_division_long (kk_division_long_57 S) (kk_division_long_69 S) (kk_division_long_93 S) (kk_division_long_153 S) a0 a1 := by kernel_rfl
theorem seg_division_long_57 (S : Nat → KT (RT [(tN, false), (tN, false)])) (x6 : Int) (x10 : Int) (x13 : Int) (x14 : Int) (x15 : Int) (x4 : List Int) (x11 : List Int) (x12 : List Int) : stepT (entry (E_division_long) (lk c_division_long) S 57 (bodyOf Try.f85) noX (fe_division_long) (fe_division_long)) (cn_division_long_57 x6 x10 x13 x14 x15 x4 x11 x12) = S_division_long_57 (kk_division_long_57 S) (kk_division_long_69 S) (kk_division_long_93 S) (kk_division_long_153 S) x6 x10 x13 x14 x15 x4 x11 x12 := by kernel_rfl
theorem seg_division_long_69 (S : Nat → KT (RT [(tN, false), (tN, false)])) (x6 : Int) (x10 : Int) (x13 : Int) (x14 : Int) (x15 : Int) (x16 : Int) (x17 : Int) (x4 : List Int) (x11 : List Int) (x12 : List Int) : stepT (entry (E_division_long) (lk c_division_long) S 69 (bodyOf Try.f85) noX (fe_division_long) (fe_division_long)) (cn_division_long_69 x6 x10 x13 x14 x15 x16 x17 x4 x11 x12) = S_division_long_69 (kk_division_long_57 S) (kk_division_long_69 S) (kk_division_long_93 S) (kk_division_long_153 S) x6 x10 x13 x14 x15 x16 x17 x4 x11 x12 := by kernel_rfl
theorem seg_division_long_93 (S : Nat → KT (RT [(tN, false), (tN, false)])) (x6 : Int) (x10 : Int) (x13 : Int) (x14 : Int) (x15 : Int) (x16 : Int) (x18 : Int) (x19 : Int) (x142 : Int) (x143 : Int) (x4 : List Int) (x11 : List Int) (x12 : List Int) : stepT (entry (E_division_long) (lk c_division_long) S 93 (bodyOf Try.f85) noX (fe_division_long) (fe_division_long)) (cn_division_long_93 x6 x10 x13 x14 x15 x16 x18 x19 x142 x143 x4 x11 x12) = S_division_long_93 (kk_division_long_57 S) (kk_division_long_69 S) (kk_division_long_93 S) (kk_division_long_153 S) x6 x10 x13 x14 x15 x16 x18 x19 x142 x143 x4 x11 x12 := by kernel_rfl
theorem seg_division_long_153 (S : Nat → KT (RT [(tN, false), (tN, false)])) (x6 : Int) (x10 : Int) (x13 : Int) (x14 : Int) (x15 : Int) (x25 : Int) (x211 : Int) (x212 : Int) (x4 : List Int) (x11 : List Int) (x12 : List Int) : stepT (entry (E_division_long) (lk c_division_long) S 153 (bodyOf Try.f85) noX (fe_division_long) (fe_division_long)) (cn_division_long_153 x6 x10 x13 x14 x15 x25 x211 x212 x4 x11 x12) = S_division_long_153 (kk_division_long_57 S) (kk_division_long_69 S) (kk_division_long_93 S) (kk_division_long_153 S) x6 x10 x13 x14 x15 x25 x211 x212 x4 x11 x12 := by kernel_rfl
noncomputable abbrev tb_division_long := tab (E_division_long) (lk c_division_long) (bodyOf Try.f85) (fe_division_long)
theorem ok_division_long : EnvOK Try.prog (E_division_long) := mkE_ok tys_ok ⟨⟨fs_natural_Of.csound, ⟨Try.f42, by kernel_rfl, by kernel_rfl, by kernel_rfl⟩⟩, ⟨fs_natural_Cmp.csound, ⟨Try.f49, by kernel_rfl, by kernel_rfl, by kernel_rfl⟩⟩, ⟨fs_natural_Normal.csound, ⟨Try.f63, by kernel_rfl, by kernel_rfl, by kernel_rfl⟩⟩, ⟨fs_bits_Add32.csound, ⟨Try.f72, by kernel_rfl, by kernel_rfl, by kernel_rfl⟩⟩, ⟨fs_natural_DivSmall.csound, ⟨Try.f94, by kernel_rfl, by kernel_rfl, by kernel_rfl⟩⟩, ⟨fs_bits_LeadingZeros32.csound, ⟨Try.f95, by kernel_rfl, by kernel_rfl, by kernel_rfl⟩⟩, ⟨fs_natural_Shl.csound, ⟨Try.f96, by kernel_rfl, by kernel_rfl, by kernel_rfl⟩⟩, ⟨fs_bits_Div64.csound, ⟨Try.f97, by kernel_rfl, by kernel_rfl, by kernel_rfl⟩⟩, ⟨fs_natural_Shr.csound, ⟨Try.f98, by kernel_rfl, by kernel_rfl, by kernel_rfl⟩⟩, trivial⟩ trivial
theorem fs_division_long : FSound Try.prog 85 [tN, tN] [(tN, false), (tN, false)] (fun τ => F_division_long τ.1 τ.2.1) :=
  evG_sound (E := (E_division_long)) (C := (lk c_division_long)) ok_division_long mixed_ok (fn := Try.f85) (c := (bodyOf Try.f85)) (by kernel_rfl) (by kernel_rfl) (by kernel_rfl) (by kernel_rfl) (by kernel_rfl) (by kernel_rfl) (fun τ r h => by
    obtain ⟨a0, a1, ⟨⟩⟩ := τ
    obtain ⟨m, hm⟩ := Rn_division_long (fun m => kk_division_long_57 (tb_division_long m)) (fun m => kk_division_long_69 (tb_division_long m)) (fun m => kk_division_long_93 (tb_division_long m)) (fun m => kk_division_long_153 (tb_division_long m)) (fun m x6 x10 x13 x14 x15 x4 x11 x12 => (tab_succ (E_division_long) (lk c_division_long) (bodyOf Try.f85) (fe_division_long) m 57 (cn_division_long_57 x6 x10 x13 x14 x15 x4 x11 x12)).trans (seg_division_long_57 (tb_division_long m) x6 x10 x13 x14 x15 x4 x11 x12)) (fun m x6 x10 x13 x14 x15 x16 x17 x4 x11 x12 => (tab_succ (E_division_long) (lk c_division_long) (bodyOf Try.f85) (fe_division_long) m 69 (cn_division_long_69 x6 x10 x13 x14 x15 x16 x17 x4 x11 x12)).trans (seg_division_long_69 (tb_division_long m) x6 x10 x13 x14 x15 x16 x17 x4 x11 x12)) (fun m x6 x10 x13 x14 x15 x16 x18 x19 x142 x143 x4 x11 x12 => (tab_succ (E_division_long) (lk c_division_long) (bodyOf Try.f85) (fe_division_long) m 93 (cn_division_long_93 x6 x10 x13 x14 x15 x16 x18 x19 x142 x143 x4 x11 x12)).trans (seg_division_long_93 (tb_division_long m) x6 x10 x13 x14 x15 x16 x18 x19 x142 x143 x4 x11 x12)) (fun m x6 x10 x13 x14 x15 x25 x211 x212 x4 x11 x12 => (tab_succ (E_division_long) (lk c_division_long) (bodyOf Try.f85) (fe_division_long) m 153 (cn_division_long_153 x6 x10 x13 x14 x15 x25 x211 x212 x4 x11 x12)).trans (seg_division_long_153 (tb_division_long m) x6 x10 x13 x14 x15 x25 x211 x212 x4 x11 x12)) a0 a1 r h
    exact ⟨m, (top_division_long (tb_division_long m) a0 a1).trans (hm m (Nat.le_refl m))⟩)

abbrev E_division_Gcd : Env := mkE tys [(42, callE [.int .u64] [(tN, false)] (fun τ => F_natural_Of τ.1)), (62, callE [.bool, tN] [(tI, false)] (fun τ => F_integer_From τ.1 τ.2.1)), (63, callE [tN] [(tN, true)] (fun τ => F_natural_Normal τ.1)), (84, callE [tN] [(.int .u64, false), (.bool, false)] (fun τ => F_natural_Uint64 τ.1)), (85, callE [tN, tN] [(tN, false), (tN, false)] (fun τ => F_division_long τ.1 τ.2.1))] []
def c_division_Gcd : List (Nat × Live) := [(9, ⟨[(5, tN), (6, tN)], [(true, 4, tI)], []⟩), (29, ⟨[(7, .int .u64), (9, .int .u64)], [(true, 4, tI)], []⟩)]
noncomputable abbrev fe_division_Gcd := (finE (E_division_Gcd) [(tI, false)] Try.f65.results.toList)
noncomputable abbrev cn_division_Gcd_9 (x5 : List Int) (x6 : List Int) (x4 : Bool × List Int) : St := ⟨[(4, .one (.ptr 10000 0 [])), (6, .one (.val tN x6)), (5, .one (.val tN x5))], [(10000, some ⟨tI, [x4], false⟩)]⟩
noncomputable abbrev kk_division_Gcd_9 (S : Nat → KT (RT [(tI, false)])) := fun (x5 : List Int) (x6 : List Int) (x4 : Bool × List Int) => S 9 (cn_division_Gcd_9 x5 x6 x4)
noncomputable abbrev cn_division_Gcd_29 (x7 : Int) (x9 : Int) (x4 : Bool × List Int) : St := ⟨[(4, .one (.ptr 10000 0 [])), (9, .one (.val (.int .u64) x9)), (7, .one (.val (.int .u64) x7))], [(10000, some ⟨tI, [x4], false⟩)]⟩
noncomputable abbrev kk_division_Gcd_29 (S : Nat → KT (RT [(tI, false)])) := fun (x7 : Int) (x9 : Int) (x4 : Bool × List Int) => S 29 (cn_division_Gcd_29 x7 x9 x4)
theorem top_division_Gcd (S : Nat → KT (RT [(tI, false)])) (a0 : Bool × List Int) (a1 : Bool × List Int) : evA (E_division_Gcd) (lk c_division_Gcd) S (bodyOf Try.f65) noX (fe_division_Gcd) (fe_division_Gcd) (initSt [tI, tI] (a0, a1, ())) = T_division_Gcd (kk_division_Gcd_9 S) (kk_division_Gcd_29 S) a0 a1 := by kernel_rfl
theorem seg_division_Gcd_9 (S : Nat → KT (RT [(tI, false)])) (x5 : List Int) (x6 : List Int) (x4 : Bool × List Int) : stepT (entry (E_division_Gcd) (lk c_division_Gcd) S 9 (bodyOf Try.f65) noX (fe_division_Gcd) (fe_division_Gcd)) (cn_division_Gcd_9 x5 x6 x4) = S_division_Gcd_9 (kk_division_Gcd_9 S) (kk_division_Gcd_29 S) x5 x6 x4 := by kernel_rfl
theorem seg_division_Gcd_29 (S : Nat → KT (RT [(tI, false)])) (x7 : Int) (x9 : Int) (x4 : Bool × List Int) : stepT (entry (E_division_Gcd) (lk c_division_Gcd) S 29 (bodyOf Try.f65) noX (fe_division_Gcd) (fe_division_Gcd)) (cn_division_Gcd_29 x7 x9 x4) = S_division_Gcd_29 (kk_division_Gcd_9 S) (kk_division_Gcd_29 S) x7 x9 x4 := by kernel_rfl
noncomputable abbrev tb_division_Gcd := tab (E_division_Gcd) (lk c_division_Gcd) (bodyOf Try.f65) (fe_division_Gcd)
theorem ok_division_Gcd : EnvOK Try.prog (E_division_Gcd) := mkE_ok tys_ok ⟨⟨fs_natural_Of.csound, ⟨Try.f42, by kernel_rfl, by kernel_rfl, by kernel_rfl⟩⟩, ⟨fs_integer_From.csound, ⟨Try.f62, by kernel_rfl, by kernel_rfl, by kernel_rfl⟩⟩, ⟨fs_natural_Normal.csound, ⟨Try.f63, by kernel_rfl, by kernel_rfl, by kernel_rfl⟩⟩, ⟨fs_natural_Uint64.csound, ⟨Try.f84, by kernel_rfl, by kernel_rfl, by kernel_rfl⟩⟩, ⟨fs_division_long.csound, ⟨Try.f85, by kernel_rfl, by kernel_rfl, by kernel_rfl⟩⟩, trivial⟩ trivial
theorem fs_division_Gcd : FSound Try.prog 65 [tI, tI] [(tI, false)] (fun τ => F_division_Gcd τ.1 τ.2.1) :=
  evG_sound (E := (E_division_Gcd)) (C := (lk c_division_Gcd)) ok_division_Gcd mixed_ok (fn := Try.f65) (c := (bodyOf Try.f65)) (by kernel_rfl) (by kernel_rfl) (by kernel_rfl) (by kernel_rfl) (by kernel_rfl) (by kernel_rfl) (fun τ r h => by
    obtain ⟨a0, a1, ⟨⟩⟩ := τ
    obtain ⟨m, hm⟩ := Rn_division_Gcd (fun m => kk_division_Gcd_9 (tb_division_Gcd m)) (fun m => kk_division_Gcd_29 (tb_division_Gcd m)) (fun m x5 x6 x4 => (tab_succ (E_division_Gcd) (lk c_division_Gcd) (bodyOf Try.f65) (fe_division_Gcd) m 9 (cn_division_Gcd_9 x5 x6 x4)).trans (seg_division_Gcd_9 (tb_division_Gcd m) x5 x6 x4)) (fun m x7 x9 x4 => (tab_succ (E_division_Gcd) (lk c_division_Gcd) (bodyOf Try.f65) (fe_division_Gcd) m 29 (cn_division_Gcd_29 x7 x9 x4)).trans (seg_division_Gcd_29 (tb_division_Gcd m) x7 x9 x4)) a0 a1 r h
    exact ⟨m, (top_division_Gcd (tb_division_Gcd m) a0 a1).trans (hm m (Nat.le_refl m))⟩)

abbrev E_unidiv_Content : Env := mkE tys [(65, callE [tI, tI] [(tI, false)] (fun τ => F_division_Gcd τ.1 τ.2.1))] []
def c_unidiv_Content : List (Nat × Live) := [(13, ⟨[(7, tP), (8, .int .i64), (9, .int .i64)], [(true, 2, tI), (true, 3, tI)], []⟩)]
noncomputable abbrev fe_unidiv_Content := (finE (E_unidiv_Content) [(tI, false)] Try.f74.results.toList)
noncomputable abbrev cn_unidiv_Content_13 (x7 : List (Bool × List Int)) (x8 : Int) (x9 : Int) (x2 : Bool × List Int) (x3 : Bool × List Int) : St := ⟨[(3, .one (.ptr 10001 0 [])), (2, .one (.ptr 10000 0 [])), (9, .one (.val (.int .i64) x9)), (8, .one (.val (.int .i64) x8)), (7, .one (.val tP x7))], [(10001, some ⟨tI, [x3], false⟩), (10000, some ⟨tI, [x2], false⟩)]⟩
noncomputable abbrev kk_unidiv_Content_13 (S : Nat → KT (RT [(tI, false)])) := fun (x7 : List (Bool × List Int)) (x8 : Int) (x9 : Int) (x2 : Bool × List Int) (x3 : Bool × List Int) => S 13 (cn_unidiv_Content_13 x7 x8 x9 x2 x3)
theorem top_unidiv_Content (S : Nat → KT (RT [(tI, false)])) (a0 : List (Bool × List Int)) : evA (E_unidiv_Content) (lk c_unidiv_Content) S (bodyOf Try.f74) noX (fe_unidiv_Content) (fe_unidiv_Content) (initSt [tP] (a0, ())) = T_unidiv_Content (kk_unidiv_Content_13 S) a0 := by kernel_rfl
theorem seg_unidiv_Content_13 (S : Nat → KT (RT [(tI, false)])) (x7 : List (Bool × List Int)) (x8 : Int) (x9 : Int) (x2 : Bool × List Int) (x3 : Bool × List Int) : stepT (entry (E_unidiv_Content) (lk c_unidiv_Content) S 13 (bodyOf Try.f74) noX (fe_unidiv_Content) (fe_unidiv_Content)) (cn_unidiv_Content_13 x7 x8 x9 x2 x3) = S_unidiv_Content_13 (kk_unidiv_Content_13 S) x7 x8 x9 x2 x3 := by kernel_rfl
noncomputable abbrev tb_unidiv_Content := tab (E_unidiv_Content) (lk c_unidiv_Content) (bodyOf Try.f74) (fe_unidiv_Content)
theorem ok_unidiv_Content : EnvOK Try.prog (E_unidiv_Content) := mkE_ok tys_ok ⟨⟨fs_division_Gcd.csound, ⟨Try.f65, by kernel_rfl, by kernel_rfl, by kernel_rfl⟩⟩, trivial⟩ trivial
theorem fs_unidiv_Content : FSound Try.prog 74 [tP] [(tI, false)] (fun τ => F_unidiv_Content τ.1) :=
  evG_sound (E := (E_unidiv_Content)) (C := (lk c_unidiv_Content)) ok_unidiv_Content mixed_ok (fn := Try.f74) (c := (bodyOf Try.f74)) (by kernel_rfl) (by kernel_rfl) (by kernel_rfl) (by kernel_rfl) (by kernel_rfl) (by kernel_rfl) (fun τ r h => by
    obtain ⟨a0, ⟨⟩⟩ := τ
    obtain ⟨m, hm⟩ := Rn_unidiv_Content (fun m => kk_unidiv_Content_13 (tb_unidiv_Content m)) (fun m x7 x8 x9 x2 x3 => (tab_succ (E_unidiv_Content) (lk c_unidiv_Content) (bodyOf Try.f74) (fe_unidiv_Content) m 13 (cn_unidiv_Content_13 x7 x8 x9 x2 x3)).trans (seg_unidiv_Content_13 (tb_unidiv_Content m) x7 x8 x9 x2 x3)) a0 r h
    exact ⟨m, (top_unidiv_Content (tb_unidiv_Content m) a0).trans (hm m (Nat.le_refl m))⟩)

abbrev E_unipoly_Normal : Env := mkE tys [(54, callE [tI] [(tI, false)] (fun τ => F_integer_Normal τ.1))] [(37, mixO (callO [] false tI .pre (fun τ l => O_unipoly_trim l)) (callI (callE [tP] [(tP, false)] (fun τ => F_unipoly_trim τ.1))))]
def c_unipoly_Normal : List (Nat × Live) := [(13, ⟨[(0, tP), (10, .int .i64), (11, .int .i64)], [(false, 3, tI)], []⟩)]
noncomputable abbrev fe_unipoly_Normal := (finE (E_unipoly_Normal) [(tP, true)] Try.f55.results.toList)
noncomputable abbrev cn_unipoly_Normal_13 (x0 : List (Bool × List Int)) (x10 : Int) (x11 : Int) (x3 : List (Bool × List Int)) : St := ⟨[(3, .one (.loc tI 10000)), (11, .one (.val (.int .i64) x11)), (10, .one (.val (.int .i64) x10)), (0, .one (.val tP x0))], [(10000, some ⟨tI, x3, false⟩)]⟩
noncomputable abbrev kk_unipoly_Normal_13 (S : Nat → KT (RT [(tP, true)])) := fun (x0 : List (Bool × List Int)) (x10 : Int) (x11 : Int) (x3 : List (Bool × List Int)) => S 13 (cn_unipoly_Normal_13 x0 x10 x11 x3)
theorem top_unipoly_Normal (S : Nat → KT (RT [(tP, true)])) (a0 : List (Bool × List Int)) : evA (E_unipoly_Normal) (lk c_unipoly_Normal) S (bodyOf Try.f55) noX (fe_unipoly_Normal) (fe_unipoly_Normal) (initSt [tP] (a0, ())) = T_unipoly_Normal (kk_unipoly_Normal_13 S) a0 := by kernel_rfl
theorem seg_unipoly_Normal_13 (S : Nat → KT (RT [(tP, true)])) (x0 : List (Bool × List Int)) (x10 : Int) (x11 : Int) (x3 : List (Bool × List Int)) : stepT (entry (E_unipoly_Normal) (lk c_unipoly_Normal) S 13 (bodyOf Try.f55) noX (fe_unipoly_Normal) (fe_unipoly_Normal)) (cn_unipoly_Normal_13 x0 x10 x11 x3) = S_unipoly_Normal_13 (kk_unipoly_Normal_13 S) x0 x10 x11 x3 := by kernel_rfl
noncomputable abbrev tb_unipoly_Normal := tab (E_unipoly_Normal) (lk c_unipoly_Normal) (bodyOf Try.f55) (fe_unipoly_Normal)
theorem ok_unipoly_Normal : EnvOK Try.prog (E_unipoly_Normal) := mkE_ok tys_ok ⟨⟨fs_integer_Normal.csound, ⟨Try.f54, by kernel_rfl, by kernel_rfl, by kernel_rfl⟩⟩, trivial⟩ ⟨⟨PSound.mix os_unipoly_trim.psound (CSound.psound fs_unipoly_trim.csound), ⟨Try.f37, by kernel_rfl, by kernel_rfl, by kernel_rfl⟩⟩, trivial⟩
theorem fs_unipoly_Normal : FSound Try.prog 55 [tP] [(tP, true)] (fun τ => F_unipoly_Normal τ.1) :=
  evG_sound (E := (E_unipoly_Normal)) (C := (lk c_unipoly_Normal)) ok_unipoly_Normal mixed_ok (fn := Try.f55) (c := (bodyOf Try.f55)) (by kernel_rfl) (by kernel_rfl) (by kernel_rfl) (by kernel_rfl) (by kernel_rfl) (by kernel_rfl) (fun τ r h => by
    obtain ⟨a0, ⟨⟩⟩ := τ
    obtain ⟨m, hm⟩ := Rn_unipoly_Normal (fun m => kk_unipoly_Normal_13 (tb_unipoly_Normal m)) (fun m x0 x10 x11 x3 => (tab_succ (E_unipoly_Normal) (lk c_unipoly_Normal) (bodyOf Try.f55) (fe_unipoly_Normal) m 13 (cn_unipoly_Normal_13 x0 x10 x11 x3)).trans (seg_unipoly_Normal_13 (tb_unipoly_Normal m) x0 x10 x11 x3)) a0 r h
    exact ⟨m, (top_unipoly_Normal (tb_unipoly_Normal m) a0).trans (hm m (Nat.le_refl m))⟩)

abbrev E_division_zero : Env := mkE tys [(38, callE [tN] [(.bool, false)] (fun τ => F_natural_IsZero τ.1))] []
def c_division_zero : List (Nat × Live) := []
noncomputable abbrev fe_division_zero := (finE (E_division_zero) [(.bool, false)] Try.f80.results.toList)
theorem top_division_zero (S : Nat → KT (RT [(.bool, false)])) (a0 : Bool × List Int) : evA (E_division_zero) (lk c_division_zero) S (bodyOf Try.f80) noX (fe_division_zero) (fe_division_zero) (initSt [tI] (a0, ())) = T_division_zero a0 := by kernel_rfl
noncomputable abbrev tb_division_zero := tab (E_division_zero) (lk c_division_zero) (bodyOf Try.f80) (fe_division_zero)
theorem ok_division_zero : EnvOK Try.prog (E_division_zero) := mkE_ok tys_ok ⟨⟨fs_natural_IsZero.csound, ⟨Try.f38, by kernel_rfl, by kernel_rfl, by kernel_rfl⟩⟩, trivial⟩ trivial
theorem fs_division_zero : FSound Try.prog 80 [tI] [(.bool, false)] (fun τ => F_division_zero τ.1) :=
  evG_sound (E := (E_division_zero)) (C := (lk c_division_zero)) ok_division_zero mixed_ok (fn := Try.f80) (c := (bodyOf Try.f80)) (by kernel_rfl) (by kernel_rfl) (by kernel_rfl) (by kernel_rfl) (by kernel_rfl) (by kernel_rfl) (fun τ r h => by
    obtain ⟨a0, ⟨⟩⟩ := τ
    obtain ⟨m, hm⟩ := Rn_division_zero a0 r h
    exact ⟨m, (top_division_zero (tb_division_zero m) a0).trans (hm m (Nat.le_refl m))⟩)

abbrev E_division_Quo : Env := mkE tys [(62, callE [.bool, tN] [(tI, false)] (fun τ => F_integer_From τ.1 τ.2.1)), (80, callE [tI] [(.bool, false)] (fun τ => F_division_zero τ.1)), (85, callE [tN, tN] [(tN, false), (tN, false)] (fun τ => F_division_long τ.1 τ.2.1))] []
def c_division_Quo : List (Nat × Live) := []
noncomputable abbrev fe_division_Quo := (finE (E_division_Quo) [(tI, false), (tI, false), (.int .i64, false)] Try.f79.results.toList)
theorem top_division_Quo (S : Nat → KT (RT [(tI, false), (tI, false), (.int .i64, false)])) (a0 : Bool × List Int) (a1 : Bool × List Int) : evA (E_division_Quo) (lk c_division_Quo) S (bodyOf Try.f79) noX (fe_division_Quo) (fe_division_Quo) (initSt [tI, tI] (a0, a1, ())) = T_division_Quo a0 a1 := by kernel_rfl
noncomputable abbrev tb_division_Quo := tab (E_division_Quo) (lk c_division_Quo) (bodyOf Try.f79) (fe_division_Quo)
theorem ok_division_Quo : EnvOK Try.prog (E_division_Quo) := mkE_ok tys_ok ⟨⟨fs_integer_From.csound, ⟨Try.f62, by kernel_rfl, by kernel_rfl, by kernel_rfl⟩⟩, ⟨fs_division_zero.csound, ⟨Try.f80, by kernel_rfl, by kernel_rfl, by kernel_rfl⟩⟩, ⟨fs_division_long.csound, ⟨Try.f85, by kernel_rfl, by kernel_rfl, by kernel_rfl⟩⟩, trivial⟩ trivial
theorem fs_division_Quo : FSound Try.prog 79 [tI, tI] [(tI, false), (tI, false), (.int .i64, false)] (fun τ => F_division_Quo τ.1 τ.2.1) :=
  evG_sound (E := (E_division_Quo)) (C := (lk c_division_Quo)) ok_division_Quo mixed_ok (fn := Try.f79) (c := (bodyOf Try.f79)) (by kernel_rfl) (by kernel_rfl) (by kernel_rfl) (by kernel_rfl) (by kernel_rfl) (by kernel_rfl) (fun τ r h => by
    obtain ⟨a0, a1, ⟨⟩⟩ := τ
    obtain ⟨m, hm⟩ := Rn_division_Quo a0 a1 r h
    exact ⟨m, (top_division_Quo (tb_division_Quo m) a0 a1).trans (hm m (Nat.le_refl m))⟩)

abbrev E_division_Exact : Env := mkE tys [(79, callE [tI, tI] [(tI, false), (tI, false), (.int .i64, false)] (fun τ => F_division_Quo τ.1 τ.2.1)), (80, callE [tI] [(.bool, false)] (fun τ => F_division_zero τ.1))] []
def c_division_Exact : List (Nat × Live) := []
noncomputable abbrev fe_division_Exact := (finE (E_division_Exact) [(tI, false), (.int .i64, false)] Try.f66.results.toList)
theorem top_division_Exact (S : Nat → KT (RT [(tI, false), (.int .i64, false)])) (a0 : Bool × List Int) (a1 : Bool × List Int) : evA (E_division_Exact) (lk c_division_Exact) S (bodyOf Try.f66) noX (fe_division_Exact) (fe_division_Exact) (initSt [tI, tI] (a0, a1, ())) = T_division_Exact a0 a1 := by kernel_rfl
noncomputable abbrev tb_division_Exact := tab (E_division_Exact) (lk c_division_Exact) (bodyOf Try.f66) (fe_division_Exact)
theorem ok_division_Exact : EnvOK Try.prog (E_division_Exact) := mkE_ok tys_ok ⟨⟨fs_division_Quo.csound, ⟨Try.f79, by kernel_rfl, by kernel_rfl, by kernel_rfl⟩⟩, ⟨fs_division_zero.csound, ⟨Try.f80, by kernel_rfl, by kernel_rfl, by kernel_rfl⟩⟩, trivial⟩ trivial
theorem fs_division_Exact : FSound Try.prog 66 [tI, tI] [(tI, false), (.int .i64, false)] (fun τ => F_division_Exact τ.1 τ.2.1) :=
  evG_sound (E := (E_division_Exact)) (C := (lk c_division_Exact)) ok_division_Exact mixed_ok (fn := Try.f66) (c := (bodyOf Try.f66)) (by kernel_rfl) (by kernel_rfl) (by kernel_rfl) (by kernel_rfl) (by kernel_rfl) (by kernel_rfl) (fun τ r h => by
    obtain ⟨a0, a1, ⟨⟩⟩ := τ
    obtain ⟨m, hm⟩ := Rn_division_Exact a0 a1 r h
    exact ⟨m, (top_division_Exact (tb_division_Exact m) a0 a1).trans (hm m (Nat.le_refl m))⟩)

abbrev E_unidiv_divided : Env := mkE tys [(55, callE [tP] [(tP, true)] (fun τ => F_unipoly_Normal τ.1)), (66, callE [tI, tI] [(tI, false), (.int .i64, false)] (fun τ => F_division_Exact τ.1 τ.2.1))] []
def c_unidiv_divided : List (Nat × Live) := [(13, ⟨[(10, .int .i64), (11, .int .i64)], [(true, 3, tI), (false, 5, tI)], []⟩)]
noncomputable abbrev fe_unidiv_divided := (finE (E_unidiv_divided) [(tP, false)] Try.f75.results.toList)
noncomputable abbrev cn_unidiv_divided_13 (x10 : Int) (x11 : Int) (x3 : Bool × List Int) (x5 : List (Bool × List Int)) : St := ⟨[(5, .one (.loc tI 10001)), (3, .one (.ptr 10000 0 [])), (11, .one (.val (.int .i64) x11)), (10, .one (.val (.int .i64) x10))], [(10001, some ⟨tI, x5, false⟩), (10000, some ⟨tI, [x3], false⟩)]⟩
noncomputable abbrev kk_unidiv_divided_13 (S : Nat → KT (RT [(tP, false)])) := fun (x10 : Int) (x11 : Int) (x3 : Bool × List Int) (x5 : List (Bool × List Int)) => S 13 (cn_unidiv_divided_13 x10 x11 x3 x5)
theorem top_unidiv_divided (S : Nat → KT (RT [(tP, false)])) (a0 : List (Bool × List Int)) (a1 : Bool × List Int) : evA (E_unidiv_divided) (lk c_unidiv_divided) S (bodyOf Try.f75) noX (fe_unidiv_divided) (fe_unidiv_divided) (initSt [tP, tI] (a0, a1, ())) = T_unidiv_divided (kk_unidiv_divided_13 S) a0 a1 := by kernel_rfl
theorem seg_unidiv_divided_13 (S : Nat → KT (RT [(tP, false)])) (x10 : Int) (x11 : Int) (x3 : Bool × List Int) (x5 : List (Bool × List Int)) : stepT (entry (E_unidiv_divided) (lk c_unidiv_divided) S 13 (bodyOf Try.f75) noX (fe_unidiv_divided) (fe_unidiv_divided)) (cn_unidiv_divided_13 x10 x11 x3 x5) = S_unidiv_divided_13 (kk_unidiv_divided_13 S) x10 x11 x3 x5 := by kernel_rfl
noncomputable abbrev tb_unidiv_divided := tab (E_unidiv_divided) (lk c_unidiv_divided) (bodyOf Try.f75) (fe_unidiv_divided)
theorem ok_unidiv_divided : EnvOK Try.prog (E_unidiv_divided) := mkE_ok tys_ok ⟨⟨fs_unipoly_Normal.csound, ⟨Try.f55, by kernel_rfl, by kernel_rfl, by kernel_rfl⟩⟩, ⟨fs_division_Exact.csound, ⟨Try.f66, by kernel_rfl, by kernel_rfl, by kernel_rfl⟩⟩, trivial⟩ trivial
theorem fs_unidiv_divided : FSound Try.prog 75 [tP, tI] [(tP, false)] (fun τ => F_unidiv_divided τ.1 τ.2.1) :=
  evG_sound (E := (E_unidiv_divided)) (C := (lk c_unidiv_divided)) ok_unidiv_divided mixed_ok (fn := Try.f75) (c := (bodyOf Try.f75)) (by kernel_rfl) (by kernel_rfl) (by kernel_rfl) (by kernel_rfl) (by kernel_rfl) (by kernel_rfl) (fun τ r h => by
    obtain ⟨a0, a1, ⟨⟩⟩ := τ
    obtain ⟨m, hm⟩ := Rn_unidiv_divided (fun m => kk_unidiv_divided_13 (tb_unidiv_divided m)) (fun m x10 x11 x3 x5 => (tab_succ (E_unidiv_divided) (lk c_unidiv_divided) (bodyOf Try.f75) (fe_unidiv_divided) m 13 (cn_unidiv_divided_13 x10 x11 x3 x5)).trans (seg_unidiv_divided_13 (tb_unidiv_divided m) x10 x11 x3 x5)) a0 a1 r h
    exact ⟨m, (top_unidiv_divided (tb_unidiv_divided m) a0 a1).trans (hm m (Nat.le_refl m))⟩)

abbrev E_unidiv_Primitive : Env := mkE tys [(28, callE [tI] [(.int .i64, false)] (fun τ => F_integer_Sign τ.1)), (39, callE [tI] [(tI, false)] (fun τ => F_integer_Neg τ.1)), (57, callE [tP] [(tI, false)] (fun τ => F_unipoly_Lead τ.1)), (73, callE [tP] [(.bool, false)] (fun τ => F_unidiv_zero τ.1)), (74, callE [tP] [(tI, false)] (fun τ => F_unidiv_Content τ.1)), (75, callE [tP, tI] [(tP, false)] (fun τ => F_unidiv_divided τ.1 τ.2.1))] []
def c_unidiv_Primitive : List (Nat × Live) := []
noncomputable abbrev fe_unidiv_Primitive := (finE (E_unidiv_Primitive) [(tP, false)] Try.f50.results.toList)
theorem top_unidiv_Primitive (S : Nat → KT (RT [(tP, false)])) (a0 : List (Bool × List Int)) : evA (E_unidiv_Primitive) (lk c_unidiv_Primitive) S (bodyOf Try.f50) noX (fe_unidiv_Primitive) (fe_unidiv_Primitive) (initSt [tP] (a0, ())) = T_unidiv_Primitive a0 := by kernel_rfl
noncomputable abbrev tb_unidiv_Primitive := tab (E_unidiv_Primitive) (lk c_unidiv_Primitive) (bodyOf Try.f50) (fe_unidiv_Primitive)
theorem ok_unidiv_Primitive : EnvOK Try.prog (E_unidiv_Primitive) := mkE_ok tys_ok ⟨⟨fs_integer_Sign.csound, ⟨Try.f28, by kernel_rfl, by kernel_rfl, by kernel_rfl⟩⟩, ⟨fs_integer_Neg.csound, ⟨Try.f39, by kernel_rfl, by kernel_rfl, by kernel_rfl⟩⟩, ⟨fs_unipoly_Lead.csound, ⟨Try.f57, by kernel_rfl, by kernel_rfl, by kernel_rfl⟩⟩, ⟨fs_unidiv_zero.csound, ⟨Try.f73, by kernel_rfl, by kernel_rfl, by kernel_rfl⟩⟩, ⟨fs_unidiv_Content.csound, ⟨Try.f74, by kernel_rfl, by kernel_rfl, by kernel_rfl⟩⟩, ⟨fs_unidiv_divided.csound, ⟨Try.f75, by kernel_rfl, by kernel_rfl, by kernel_rfl⟩⟩, trivial⟩ trivial
theorem fs_unidiv_Primitive : FSound Try.prog 50 [tP] [(tP, false)] (fun τ => F_unidiv_Primitive τ.1) :=
  evG_sound (E := (E_unidiv_Primitive)) (C := (lk c_unidiv_Primitive)) ok_unidiv_Primitive mixed_ok (fn := Try.f50) (c := (bodyOf Try.f50)) (by kernel_rfl) (by kernel_rfl) (by kernel_rfl) (by kernel_rfl) (by kernel_rfl) (by kernel_rfl) (fun τ r h => by
    obtain ⟨a0, ⟨⟩⟩ := τ
    obtain ⟨m, hm⟩ := Rn_unidiv_Primitive a0 r h
    exact ⟨m, (top_unidiv_Primitive (tb_unidiv_Primitive m) a0).trans (hm m (Nat.le_refl m))⟩)

abbrev E_bits_Mul32 : Env := mkE tys [] []
def c_bits_Mul32 : List (Nat × Live) := []
noncomputable abbrev fe_bits_Mul32 := (finE (E_bits_Mul32) [(.int .u32, false), (.int .u32, false)] Try.f71.results.toList)
theorem top_bits_Mul32 (S : Nat → KT (RT [(.int .u32, false), (.int .u32, false)])) (a0 : Int) (a1 : Int) : evA (E_bits_Mul32) (lk c_bits_Mul32) S (bodyOf Try.f71) noX (fe_bits_Mul32) (fe_bits_Mul32) (initSt [.int .u32, .int .u32] (a0, a1, ())) = T_bits_Mul32 a0 a1 := by kernel_rfl
noncomputable abbrev tb_bits_Mul32 := tab (E_bits_Mul32) (lk c_bits_Mul32) (bodyOf Try.f71) (fe_bits_Mul32)
theorem ok_bits_Mul32 : EnvOK Try.prog (E_bits_Mul32) := mkE_ok tys_ok trivial trivial
theorem fs_bits_Mul32 : FSound Try.prog 71 [.int .u32, .int .u32] [(.int .u32, false), (.int .u32, false)] (fun τ => F_bits_Mul32 τ.1 τ.2.1) :=
  evG_sound (E := (E_bits_Mul32)) (C := (lk c_bits_Mul32)) ok_bits_Mul32 mixed_ok (fn := Try.f71) (c := (bodyOf Try.f71)) (by kernel_rfl) (by kernel_rfl) (by kernel_rfl) (by kernel_rfl) (by kernel_rfl) (by kernel_rfl) (fun τ r h => by
    obtain ⟨a0, a1, ⟨⟩⟩ := τ
    obtain ⟨m, hm⟩ := Rn_bits_Mul32 a0 a1 r h
    exact ⟨m, (top_bits_Mul32 (tb_bits_Mul32 m) a0 a1).trans (hm m (Nat.le_refl m))⟩)

abbrev E_natural_Mul : Env := mkE tys [(71, callE [.int .u32, .int .u32] [(.int .u32, false), (.int .u32, false)] (fun τ => F_bits_Mul32 τ.1 τ.2.1)), (72, callE [.int .u32, .int .u32, .int .u32] [(.int .u32, false), (.int .u32, false)] (fun τ => F_bits_Add32 τ.1 τ.2.1 τ.2.2.1))] [(61, mixO (callO [] false (.int .u32) .pre (fun τ l => O_natural_trim l)) (callI (callE [tN] [(tN, false)] (fun τ => F_natural_trim τ.1))))]
def c_natural_Mul : List (Nat × Live) := [(25, ⟨[(1, tN), (33, tN), (34, .int .i64), (35, .int .i64)], [(false, 5, .int .u32)], []⟩), (49, ⟨[(1, tN), (6, .int .i64), (7, .int .u32), (8, .int .u32), (33, tN), (34, .int .i64), (35, .int .i64), (49, tN), (50, .int .i64), (51, .int .i64)], [(false, 5, .int .u32)], [9]⟩)]
noncomputable abbrev fe_natural_Mul := (finE (E_natural_Mul) [(tN, false)] Try.f48.results.toList)
noncomputable abbrev cn_natural_Mul_25 (x1 : List Int) (x33 : List Int) (x34 : Int) (x35 : Int) (x5 : List Int) : St := ⟨[(5, .one (.loc (.int .u32) 10000)), (35, .one (.val (.int .i64) x35)), (34, .one (.val (.int .i64) x34)), (33, .one (.val tN x33)), (1, .one (.val tN x1))], [(10000, some ⟨.int .u32, x5, false⟩)]⟩
noncomputable abbrev kk_natural_Mul_25 (S : Nat → KT (RT [(tN, false)])) := fun (x1 : List Int) (x33 : List Int) (x34 : Int) (x35 : Int) (x5 : List Int) => S 25 (cn_natural_Mul_25 x1 x33 x34 x35 x5)
noncomputable abbrev cn_natural_Mul_49 (x1 : List Int) (x6 : Int) (x7 : Int) (x8 : Int) (x33 : List Int) (x34 : Int) (x35 : Int) (x49 : List Int) (x50 : Int) (x51 : Int) (x5 : List Int) (o9 : Int) (n9 : Int) : St := ⟨[(9, .one (.sub (.int .u32) 10000 o9 n9)), (5, .one (.loc (.int .u32) 10000)), (51, .one (.val (.int .i64) x51)), (50, .one (.val (.int .i64) x50)), (49, .one (.val tN x49)), (35, .one (.val (.int .i64) x35)), (34, .one (.val (.int .i64) x34)), (33, .one (.val tN x33)), (8, .one (.val (.int .u32) x8)), (7, .one (.val (.int .u32) x7)), (6, .one (.val (.int .i64) x6)), (1, .one (.val tN x1))], [(10000, some ⟨.int .u32, x5, false⟩)]⟩
noncomputable abbrev kk_natural_Mul_49 (S : Nat → KT (RT [(tN, false)])) := fun (x1 : List Int) (x6 : Int) (x7 : Int) (x8 : Int) (x33 : List Int) (x34 : Int) (x35 : Int) (x49 : List Int) (x50 : Int) (x51 : Int) (x5 : List Int) (o9 : Int) (n9 : Int) => S 49 (cn_natural_Mul_49 x1 x6 x7 x8 x33 x34 x35 x49 x50 x51 x5 o9 n9)
theorem top_natural_Mul (S : Nat → KT (RT [(tN, false)])) (a0 : List Int) (a1 : List Int) : evA (E_natural_Mul) (lk c_natural_Mul) S (bodyOf Try.f48) noX (fe_natural_Mul) (fe_natural_Mul) (initSt [tN, tN] (a0, a1, ())) = T_natural_Mul (kk_natural_Mul_25 S) (kk_natural_Mul_49 S) a0 a1 := by kernel_rfl
theorem seg_natural_Mul_25 (S : Nat → KT (RT [(tN, false)])) (x1 : List Int) (x33 : List Int) (x34 : Int) (x35 : Int) (x5 : List Int) : stepT (entry (E_natural_Mul) (lk c_natural_Mul) S 25 (bodyOf Try.f48) noX (fe_natural_Mul) (fe_natural_Mul)) (cn_natural_Mul_25 x1 x33 x34 x35 x5) = S_natural_Mul_25 (kk_natural_Mul_25 S) (kk_natural_Mul_49 S) x1 x33 x34 x35 x5 := by kernel_rfl
theorem seg_natural_Mul_49 (S : Nat → KT (RT [(tN, false)])) (x1 : List Int) (x6 : Int) (x7 : Int) (x8 : Int) (x33 : List Int) (x34 : Int) (x35 : Int) (x49 : List Int) (x50 : Int) (x51 : Int) (x5 : List Int) (o9 : Int) (n9 : Int) : stepT (entry (E_natural_Mul) (lk c_natural_Mul) S 49 (bodyOf Try.f48) noX (fe_natural_Mul) (fe_natural_Mul)) (cn_natural_Mul_49 x1 x6 x7 x8 x33 x34 x35 x49 x50 x51 x5 o9 n9) = S_natural_Mul_49 (kk_natural_Mul_25 S) (kk_natural_Mul_49 S) x1 x6 x7 x8 x33 x34 x35 x49 x50 x51 x5 o9 n9 := by kernel_rfl
noncomputable abbrev tb_natural_Mul := tab (E_natural_Mul) (lk c_natural_Mul) (bodyOf Try.f48) (fe_natural_Mul)
theorem ok_natural_Mul : EnvOK Try.prog (E_natural_Mul) := mkE_ok tys_ok ⟨⟨fs_bits_Mul32.csound, ⟨Try.f71, by kernel_rfl, by kernel_rfl, by kernel_rfl⟩⟩, ⟨fs_bits_Add32.csound, ⟨Try.f72, by kernel_rfl, by kernel_rfl, by kernel_rfl⟩⟩, trivial⟩ ⟨⟨PSound.mix os_natural_trim.psound (CSound.psound fs_natural_trim.csound), ⟨Try.f61, by kernel_rfl, by kernel_rfl, by kernel_rfl⟩⟩, trivial⟩
theorem fs_natural_Mul : FSound Try.prog 48 [tN, tN] [(tN, false)] (fun τ => F_natural_Mul τ.1 τ.2.1) :=
  evG_sound (E := (E_natural_Mul)) (C := (lk c_natural_Mul)) ok_natural_Mul mixed_ok (fn := Try.f48) (c := (bodyOf Try.f48)) (by kernel_rfl) (by kernel_rfl) (by kernel_rfl) (by kernel_rfl) (by kernel_rfl) (by kernel_rfl) (fun τ r h => by
    obtain ⟨a0, a1, ⟨⟩⟩ := τ
    obtain ⟨m, hm⟩ := Rn_natural_Mul (fun m => kk_natural_Mul_25 (tb_natural_Mul m)) (fun m => kk_natural_Mul_49 (tb_natural_Mul m)) (fun m x1 x33 x34 x35 x5 => (tab_succ (E_natural_Mul) (lk c_natural_Mul) (bodyOf Try.f48) (fe_natural_Mul) m 25 (cn_natural_Mul_25 x1 x33 x34 x35 x5)).trans (seg_natural_Mul_25 (tb_natural_Mul m) x1 x33 x34 x35 x5)) (fun m x1 x6 x7 x8 x33 x34 x35 x49 x50 x51 x5 o9 n9 => (tab_succ (E_natural_Mul) (lk c_natural_Mul) (bodyOf Try.f48) (fe_natural_Mul) m 49 (cn_natural_Mul_49 x1 x6 x7 x8 x33 x34 x35 x49 x50 x51 x5 o9 n9)).trans (seg_natural_Mul_49 (tb_natural_Mul m) x1 x6 x7 x8 x33 x34 x35 x49 x50 x51 x5 o9 n9)) a0 a1 r h
    exact ⟨m, (top_natural_Mul (tb_natural_Mul m) a0 a1).trans (hm m (Nat.le_refl m))⟩)

abbrev E_integer_Mul : Env := mkE tys [(41, callE [.bool, tN] [(tI, false)] (fun τ => F_integer_made τ.1 τ.2.1)), (48, callE [tN, tN] [(tN, false)] (fun τ => F_natural_Mul τ.1 τ.2.1))] []
def c_integer_Mul : List (Nat × Live) := []
noncomputable abbrev fe_integer_Mul := (finE (E_integer_Mul) [(tI, false)] Try.f30.results.toList)
theorem top_integer_Mul (S : Nat → KT (RT [(tI, false)])) (a0 : Bool × List Int) (a1 : Bool × List Int) : evA (E_integer_Mul) (lk c_integer_Mul) S (bodyOf Try.f30) noX (fe_integer_Mul) (fe_integer_Mul) (initSt [tI, tI] (a0, a1, ())) = T_integer_Mul a0 a1 := by kernel_rfl
noncomputable abbrev tb_integer_Mul := tab (E_integer_Mul) (lk c_integer_Mul) (bodyOf Try.f30) (fe_integer_Mul)
theorem ok_integer_Mul : EnvOK Try.prog (E_integer_Mul) := mkE_ok tys_ok ⟨⟨fs_integer_made.csound, ⟨Try.f41, by kernel_rfl, by kernel_rfl, by kernel_rfl⟩⟩, ⟨fs_natural_Mul.csound, ⟨Try.f48, by kernel_rfl, by kernel_rfl, by kernel_rfl⟩⟩, trivial⟩ trivial
theorem fs_integer_Mul : FSound Try.prog 30 [tI, tI] [(tI, false)] (fun τ => F_integer_Mul τ.1 τ.2.1) :=
  evG_sound (E := (E_integer_Mul)) (C := (lk c_integer_Mul)) ok_integer_Mul mixed_ok (fn := Try.f30) (c := (bodyOf Try.f30)) (by kernel_rfl) (by kernel_rfl) (by kernel_rfl) (by kernel_rfl) (by kernel_rfl) (by kernel_rfl) (fun τ r h => by
    obtain ⟨a0, a1, ⟨⟩⟩ := τ
    obtain ⟨m, hm⟩ := Rn_integer_Mul a0 a1 r h
    exact ⟨m, (top_integer_Mul (tb_integer_Mul m) a0 a1).trans (hm m (Nat.le_refl m))⟩)

abbrev E_unipoly_Scale : Env := mkE tys [(30, callE [tI, tI] [(tI, false)] (fun τ => F_integer_Mul τ.1 τ.2.1))] [(37, mixO (callO [] false tI .pre (fun τ l => O_unipoly_trim l)) (callI (callE [tP] [(tP, false)] (fun τ => F_unipoly_trim τ.1))))]
def c_unipoly_Scale : List (Nat × Live) := [(13, ⟨[(0, tP), (12, .int .i64), (13, .int .i64)], [(true, 3, tI), (false, 5, tI)], []⟩)]
noncomputable abbrev fe_unipoly_Scale := (finE (E_unipoly_Scale) [(tP, false)] Try.f78.results.toList)
noncomputable abbrev cn_unipoly_Scale_13 (x0 : List (Bool × List Int)) (x12 : Int) (x13 : Int) (x3 : Bool × List Int) (x5 : List (Bool × List Int)) : St := ⟨[(5, .one (.loc tI 10001)), (3, .one (.ptr 10000 0 [])), (13, .one (.val (.int .i64) x13)), (12, .one (.val (.int .i64) x12)), (0, .one (.val tP x0))], [(10001, some ⟨tI, x5, false⟩), (10000, some ⟨tI, [x3], false⟩)]⟩
noncomputable abbrev kk_unipoly_Scale_13 (S : Nat → KT (RT [(tP, false)])) := fun (x0 : List (Bool × List Int)) (x12 : Int) (x13 : Int) (x3 : Bool × List Int) (x5 : List (Bool × List Int)) => S 13 (cn_unipoly_Scale_13 x0 x12 x13 x3 x5)
theorem top_unipoly_Scale (S : Nat → KT (RT [(tP, false)])) (a0 : List (Bool × List Int)) (a1 : Bool × List Int) : evA (E_unipoly_Scale) (lk c_unipoly_Scale) S (bodyOf Try.f78) noX (fe_unipoly_Scale) (fe_unipoly_Scale) (initSt [tP, tI] (a0, a1, ())) = T_unipoly_Scale (kk_unipoly_Scale_13 S) a0 a1 := by kernel_rfl
theorem seg_unipoly_Scale_13 (S : Nat → KT (RT [(tP, false)])) (x0 : List (Bool × List Int)) (x12 : Int) (x13 : Int) (x3 : Bool × List Int) (x5 : List (Bool × List Int)) : stepT (entry (E_unipoly_Scale) (lk c_unipoly_Scale) S 13 (bodyOf Try.f78) noX (fe_unipoly_Scale) (fe_unipoly_Scale)) (cn_unipoly_Scale_13 x0 x12 x13 x3 x5) = S_unipoly_Scale_13 (kk_unipoly_Scale_13 S) x0 x12 x13 x3 x5 := by kernel_rfl
noncomputable abbrev tb_unipoly_Scale := tab (E_unipoly_Scale) (lk c_unipoly_Scale) (bodyOf Try.f78) (fe_unipoly_Scale)
theorem ok_unipoly_Scale : EnvOK Try.prog (E_unipoly_Scale) := mkE_ok tys_ok ⟨⟨fs_integer_Mul.csound, ⟨Try.f30, by kernel_rfl, by kernel_rfl, by kernel_rfl⟩⟩, trivial⟩ ⟨⟨PSound.mix os_unipoly_trim.psound (CSound.psound fs_unipoly_trim.csound), ⟨Try.f37, by kernel_rfl, by kernel_rfl, by kernel_rfl⟩⟩, trivial⟩
theorem fs_unipoly_Scale : FSound Try.prog 78 [tP, tI] [(tP, false)] (fun τ => F_unipoly_Scale τ.1 τ.2.1) :=
  evG_sound (E := (E_unipoly_Scale)) (C := (lk c_unipoly_Scale)) ok_unipoly_Scale mixed_ok (fn := Try.f78) (c := (bodyOf Try.f78)) (by kernel_rfl) (by kernel_rfl) (by kernel_rfl) (by kernel_rfl) (by kernel_rfl) (by kernel_rfl) (fun τ r h => by
    obtain ⟨a0, a1, ⟨⟩⟩ := τ
    obtain ⟨m, hm⟩ := Rn_unipoly_Scale (fun m => kk_unipoly_Scale_13 (tb_unipoly_Scale m)) (fun m x0 x12 x13 x3 x5 => (tab_succ (E_unipoly_Scale) (lk c_unipoly_Scale) (bodyOf Try.f78) (fe_unipoly_Scale) m 13 (cn_unipoly_Scale_13 x0 x12 x13 x3 x5)).trans (seg_unipoly_Scale_13 (tb_unipoly_Scale m) x0 x12 x13 x3 x5)) a0 a1 r h
    exact ⟨m, (top_unipoly_Scale (tb_unipoly_Scale m) a0 a1).trans (hm m (Nat.le_refl m))⟩)

abbrev E_integer_Of : Env := mkE tys [(41, callE [.bool, tN] [(tI, false)] (fun τ => F_integer_made τ.1 τ.2.1)), (42, callE [.int .u64] [(tN, false)] (fun τ => F_natural_Of τ.1))] []
def c_integer_Of : List (Nat × Live) := []
noncomputable abbrev fe_integer_Of := (finE (E_integer_Of) [(tI, false)] Try.f18.results.toList)
theorem top_integer_Of (S : Nat → KT (RT [(tI, false)])) (a0 : Int) : evA (E_integer_Of) (lk c_integer_Of) S (bodyOf Try.f18) noX (fe_integer_Of) (fe_integer_Of) (initSt [.int .i64] (a0, ())) = T_integer_Of a0 := by kernel_rfl
noncomputable abbrev tb_integer_Of := tab (E_integer_Of) (lk c_integer_Of) (bodyOf Try.f18) (fe_integer_Of)
theorem ok_integer_Of : EnvOK Try.prog (E_integer_Of) := mkE_ok tys_ok ⟨⟨fs_integer_made.csound, ⟨Try.f41, by kernel_rfl, by kernel_rfl, by kernel_rfl⟩⟩, ⟨fs_natural_Of.csound, ⟨Try.f42, by kernel_rfl, by kernel_rfl, by kernel_rfl⟩⟩, trivial⟩ trivial
theorem fs_integer_Of : FSound Try.prog 18 [.int .i64] [(tI, false)] (fun τ => F_integer_Of τ.1) :=
  evG_sound (E := (E_integer_Of)) (C := (lk c_integer_Of)) ok_integer_Of mixed_ok (fn := Try.f18) (c := (bodyOf Try.f18)) (by kernel_rfl) (by kernel_rfl) (by kernel_rfl) (by kernel_rfl) (by kernel_rfl) (by kernel_rfl) (fun τ r h => by
    obtain ⟨a0, ⟨⟩⟩ := τ
    obtain ⟨m, hm⟩ := Rn_integer_Of a0 r h
    exact ⟨m, (top_integer_Of (tb_integer_Of m) a0).trans (hm m (Nat.le_refl m))⟩)

abbrev E_unidiv_power : Env := mkE tys [(18, callE [.int .i64] [(tI, false)] (fun τ => F_integer_Of τ.1)), (30, callE [tI, tI] [(tI, false)] (fun τ => F_integer_Mul τ.1 τ.2.1))] []
def c_unidiv_power : List (Nat × Live) := [(13, ⟨[(7, .int .i64), (8, .int .i64)], [(true, 2, tI), (true, 4, tI), (true, 5, tI)], []⟩)]
noncomputable abbrev fe_unidiv_power := (finE (E_unidiv_power) [(tI, false)] Try.f91.results.toList)
noncomputable abbrev cn_unidiv_power_13 (x7 : Int) (x8 : Int) (x2 : Bool × List Int) (x4 : Bool × List Int) (x5 : Bool × List Int) : St := ⟨[(5, .one (.ptr 10002 0 [])), (4, .one (.ptr 10001 0 [])), (2, .one (.ptr 10000 0 [])), (8, .one (.val (.int .i64) x8)), (7, .one (.val (.int .i64) x7))], [(10002, some ⟨tI, [x5], false⟩), (10001, some ⟨tI, [x4], false⟩), (10000, some ⟨tI, [x2], false⟩)]⟩
noncomputable abbrev kk_unidiv_power_13 (S : Nat → KT (RT [(tI, false)])) := fun (x7 : Int) (x8 : Int) (x2 : Bool × List Int) (x4 : Bool × List Int) (x5 : Bool × List Int) => S 13 (cn_unidiv_power_13 x7 x8 x2 x4 x5)
theorem top_unidiv_power (S : Nat → KT (RT [(tI, false)])) (a0 : Bool × List Int) (a1 : Int) : evA (E_unidiv_power) (lk c_unidiv_power) S (bodyOf Try.f91) noX (fe_unidiv_power) (fe_unidiv_power) (initSt [tI, .int .i64] (a0, a1, ())) = T_unidiv_power (kk_unidiv_power_13 S) a0 a1 := by kernel_rfl
theorem seg_unidiv_power_13 (S : Nat → KT (RT [(tI, false)])) (x7 : Int) (x8 : Int) (x2 : Bool × List Int) (x4 : Bool × List Int) (x5 : Bool × List Int) : stepT (entry (E_unidiv_power) (lk c_unidiv_power) S 13 (bodyOf Try.f91) noX (fe_unidiv_power) (fe_unidiv_power)) (cn_unidiv_power_13 x7 x8 x2 x4 x5) = S_unidiv_power_13 (kk_unidiv_power_13 S) x7 x8 x2 x4 x5 := by kernel_rfl
noncomputable abbrev tb_unidiv_power := tab (E_unidiv_power) (lk c_unidiv_power) (bodyOf Try.f91) (fe_unidiv_power)
theorem ok_unidiv_power : EnvOK Try.prog (E_unidiv_power) := mkE_ok tys_ok ⟨⟨fs_integer_Of.csound, ⟨Try.f18, by kernel_rfl, by kernel_rfl, by kernel_rfl⟩⟩, ⟨fs_integer_Mul.csound, ⟨Try.f30, by kernel_rfl, by kernel_rfl, by kernel_rfl⟩⟩, trivial⟩ trivial
theorem fs_unidiv_power : FSound Try.prog 91 [tI, .int .i64] [(tI, false)] (fun τ => F_unidiv_power τ.1 τ.2.1) :=
  evG_sound (E := (E_unidiv_power)) (C := (lk c_unidiv_power)) ok_unidiv_power mixed_ok (fn := Try.f91) (c := (bodyOf Try.f91)) (by kernel_rfl) (by kernel_rfl) (by kernel_rfl) (by kernel_rfl) (by kernel_rfl) (by kernel_rfl) (fun τ r h => by
    obtain ⟨a0, a1, ⟨⟩⟩ := τ
    obtain ⟨m, hm⟩ := Rn_unidiv_power (fun m => kk_unidiv_power_13 (tb_unidiv_power m)) (fun m x7 x8 x2 x4 x5 => (tab_succ (E_unidiv_power) (lk c_unidiv_power) (bodyOf Try.f91) (fe_unidiv_power) m 13 (cn_unidiv_power_13 x7 x8 x2 x4 x5)).trans (seg_unidiv_power_13 (tb_unidiv_power m) x7 x8 x2 x4 x5)) a0 a1 r h
    exact ⟨m, (top_unidiv_power (tb_unidiv_power m) a0 a1).trans (hm m (Nat.le_refl m))⟩)

abbrev E_unipoly_Of : Env := mkE tys [(18, callE [.int .i64] [(tI, false)] (fun τ => F_integer_Of τ.1))] [(37, mixO (callO [] false tI .pre (fun τ l => O_unipoly_trim l)) (callI (callE [tP] [(tP, false)] (fun τ => F_unipoly_trim τ.1))))]
def c_unipoly_Of : List (Nat × Live) := [(13, ⟨[(9, .slice (.int .i64)), (10, .int .i64), (11, .int .i64)], [(false, 3, tI)], []⟩)]
noncomputable abbrev fe_unipoly_Of := (finE (E_unipoly_Of) [(tP, false)] Try.f15.results.toList)
noncomputable abbrev cn_unipoly_Of_13 (x9 : List Int) (x10 : Int) (x11 : Int) (x3 : List (Bool × List Int)) : St := ⟨[(3, .one (.loc tI 10000)), (11, .one (.val (.int .i64) x11)), (10, .one (.val (.int .i64) x10)), (9, .one (.val (.slice (.int .i64)) x9))], [(10000, some ⟨tI, x3, false⟩)]⟩
noncomputable abbrev kk_unipoly_Of_13 (S : Nat → KT (RT [(tP, false)])) := fun (x9 : List Int) (x10 : Int) (x11 : Int) (x3 : List (Bool × List Int)) => S 13 (cn_unipoly_Of_13 x9 x10 x11 x3)
theorem top_unipoly_Of (S : Nat → KT (RT [(tP, false)])) (a0 : List Int) : evA (E_unipoly_Of) (lk c_unipoly_Of) S (bodyOf Try.f15) noX (fe_unipoly_Of) (fe_unipoly_Of) (initSt [.slice (.int .i64)] (a0, ())) = T_unipoly_Of (kk_unipoly_Of_13 S) a0 := by kernel_rfl
theorem seg_unipoly_Of_13 (S : Nat → KT (RT [(tP, false)])) (x9 : List Int) (x10 : Int) (x11 : Int) (x3 : List (Bool × List Int)) : stepT (entry (E_unipoly_Of) (lk c_unipoly_Of) S 13 (bodyOf Try.f15) noX (fe_unipoly_Of) (fe_unipoly_Of)) (cn_unipoly_Of_13 x9 x10 x11 x3) = S_unipoly_Of_13 (kk_unipoly_Of_13 S) x9 x10 x11 x3 := by kernel_rfl
noncomputable abbrev tb_unipoly_Of := tab (E_unipoly_Of) (lk c_unipoly_Of) (bodyOf Try.f15) (fe_unipoly_Of)
theorem ok_unipoly_Of : EnvOK Try.prog (E_unipoly_Of) := mkE_ok tys_ok ⟨⟨fs_integer_Of.csound, ⟨Try.f18, by kernel_rfl, by kernel_rfl, by kernel_rfl⟩⟩, trivial⟩ ⟨⟨PSound.mix os_unipoly_trim.psound (CSound.psound fs_unipoly_trim.csound), ⟨Try.f37, by kernel_rfl, by kernel_rfl, by kernel_rfl⟩⟩, trivial⟩
theorem fs_unipoly_Of : FSound Try.prog 15 [.slice (.int .i64)] [(tP, false)] (fun τ => F_unipoly_Of τ.1) :=
  evG_sound (E := (E_unipoly_Of)) (C := (lk c_unipoly_Of)) ok_unipoly_Of mixed_ok (fn := Try.f15) (c := (bodyOf Try.f15)) (by kernel_rfl) (by kernel_rfl) (by kernel_rfl) (by kernel_rfl) (by kernel_rfl) (by kernel_rfl) (fun τ r h => by
    obtain ⟨a0, ⟨⟩⟩ := τ
    obtain ⟨m, hm⟩ := Rn_unipoly_Of (fun m => kk_unipoly_Of_13 (tb_unipoly_Of m)) (fun m x9 x10 x11 x3 => (tab_succ (E_unipoly_Of) (lk c_unipoly_Of) (bodyOf Try.f15) (fe_unipoly_Of) m 13 (cn_unipoly_Of_13 x9 x10 x11 x3)).trans (seg_unipoly_Of_13 (tb_unipoly_Of m) x9 x10 x11 x3)) a0 r h
    exact ⟨m, (top_unipoly_Of (tb_unipoly_Of m) a0).trans (hm m (Nat.le_refl m))⟩)

abbrev Eo_natural_Add_1 : Env := mkE tys [(72, callE [.int .u32, .int .u32, .int .u32] [(.int .u32, false), (.int .u32, false)] (fun τ => F_bits_Add32 τ.1 τ.2.1 τ.2.2.1))] []
def co_natural_Add_1 : List (Nat × Live) := []
noncomputable abbrev feo_natural_Add_1 := (finO (Eo_natural_Add_1) 2 true (.int .u32) (.one (.int .u32)) Try.f86.results.toList)
theorem topo_natural_Add_1 (S : Nat → KT (CD true (.int .u32) × RS.D (.one (.int .u32)))) (a0 : Int) (a1 : Int) (l : Int) : evA (Eo_natural_Add_1) (lk co_natural_Add_1) S (bodyOf Try.f86) noX (feo_natural_Add_1) (feo_natural_Add_1) (initO [.int .u32, .int .u32] (a0, a1, ()) true (.int .u32) l) = To_natural_Add_1 a0 a1 l := by kernel_rfl
noncomputable abbrev tbo_natural_Add_1 := tab (Eo_natural_Add_1) (lk co_natural_Add_1) (bodyOf Try.f86) (feo_natural_Add_1)
theorem oko_natural_Add_1 : EnvOK Try.prog (Eo_natural_Add_1) := mkE_ok tys_ok ⟨⟨fs_bits_Add32.csound, ⟨Try.f72, by kernel_rfl, by kernel_rfl, by kernel_rfl⟩⟩, trivial⟩ trivial
theorem os_natural_Add_1 : OSound Try.prog 86 [.int .u32, .int .u32] true (.int .u32) (.one (.int .u32)) (fun τ l => O_natural_Add_1 τ.1 τ.2.1 l) :=
  evO_sound (E := (Eo_natural_Add_1)) (C := (lk co_natural_Add_1)) oko_natural_Add_1 mixed_ok (fn := Try.f86) (k := (bodyOf Try.f86)) (by kernel_rfl) (by kernel_rfl) (by kernel_rfl) (by kernel_rfl) (by kernel_rfl) (fun τ l r h => by
    obtain ⟨a0, a1, ⟨⟩⟩ := τ
    obtain ⟨m, hm⟩ := Rno_natural_Add_1 a0 a1 l r h
    exact ⟨m, (topo_natural_Add_1 (tbo_natural_Add_1 m) a0 a1 l).trans (hm m (Nat.le_refl m))⟩)

abbrev E_natural_Add : Env := mkE tys [] [(61, mixO (callO [] false (.int .u32) .pre (fun τ l => O_natural_trim l)) (callI (callE [tN] [(tN, false)] (fun τ => F_natural_trim τ.1)))), (86, callO [.int .u32, .int .u32] true (.int .u32) (.one (.int .u32)) (fun τ l => O_natural_Add_1 τ.1 τ.2.1 l))]
def c_natural_Add : List (Nat × Live) := [(33, ⟨[(0, tN), (1, tN), (27, tN), (28, .int .i64), (29, .int .i64)], [(false, 5, .int .u32), (true, 6, .int .u32)], [7]⟩), (53, ⟨[(0, tN), (10, .int .i64)], [(false, 5, .int .u32), (true, 6, .int .u32)], [7]⟩)]
noncomputable abbrev fe_natural_Add := (finE (E_natural_Add) [(tN, false)] Try.f69.results.toList)
noncomputable abbrev cn_natural_Add_33 (x0 : List Int) (x1 : List Int) (x27 : List Int) (x28 : Int) (x29 : Int) (x5 : List Int) (x6 : Int) : St := ⟨[(7, .one (.fn 86 [10001])), (6, .one (.ptr 10001 0 [])), (5, .one (.loc (.int .u32) 10000)), (29, .one (.val (.int .i64) x29)), (28, .one (.val (.int .i64) x28)), (27, .one (.val tN x27)), (1, .one (.val tN x1)), (0, .one (.val tN x0))], [(10001, some ⟨.int .u32, [x6], false⟩), (10000, some ⟨.int .u32, x5, false⟩)]⟩
noncomputable abbrev kk_natural_Add_33 (S : Nat → KT (RT [(tN, false)])) := fun (x0 : List Int) (x1 : List Int) (x27 : List Int) (x28 : Int) (x29 : Int) (x5 : List Int) (x6 : Int) => S 33 (cn_natural_Add_33 x0 x1 x27 x28 x29 x5 x6)
noncomputable abbrev cn_natural_Add_53 (x0 : List Int) (x10 : Int) (x5 : List Int) (x6 : Int) : St := ⟨[(7, .one (.fn 86 [10001])), (6, .one (.ptr 10001 0 [])), (5, .one (.loc (.int .u32) 10000)), (10, .one (.val (.int .i64) x10)), (0, .one (.val tN x0))], [(10001, some ⟨.int .u32, [x6], false⟩), (10000, some ⟨.int .u32, x5, false⟩)]⟩
noncomputable abbrev kk_natural_Add_53 (S : Nat → KT (RT [(tN, false)])) := fun (x0 : List Int) (x10 : Int) (x5 : List Int) (x6 : Int) => S 53 (cn_natural_Add_53 x0 x10 x5 x6)
theorem top_natural_Add (S : Nat → KT (RT [(tN, false)])) (a0 : List Int) (a1 : List Int) : evA (E_natural_Add) (lk c_natural_Add) S (bodyOf Try.f69) noX (fe_natural_Add) (fe_natural_Add) (initSt [tN, tN] (a0, a1, ())) = T_natural_Add (kk_natural_Add_33 S) (kk_natural_Add_53 S) a0 a1 := by kernel_rfl
theorem seg_natural_Add_33 (S : Nat → KT (RT [(tN, false)])) (x0 : List Int) (x1 : List Int) (x27 : List Int) (x28 : Int) (x29 : Int) (x5 : List Int) (x6 : Int) : stepT (entry (E_natural_Add) (lk c_natural_Add) S 33 (bodyOf Try.f69) noX (fe_natural_Add) (fe_natural_Add)) (cn_natural_Add_33 x0 x1 x27 x28 x29 x5 x6) = S_natural_Add_33 (kk_natural_Add_33 S) (kk_natural_Add_53 S) x0 x1 x27 x28 x29 x5 x6 := by kernel_rfl
theorem seg_natural_Add_53 (S : Nat → KT (RT [(tN, false)])) (x0 : List Int) (x10 : Int) (x5 : List Int) (x6 : Int) : stepT (entry (E_natural_Add) (lk c_natural_Add) S 53 (bodyOf Try.f69) noX (fe_natural_Add) (fe_natural_Add)) (cn_natural_Add_53 x0 x10 x5 x6) = S_natural_Add_53 (kk_natural_Add_33 S) (kk_natural_Add_53 S) x0 x10 x5 x6 := by kernel_rfl
noncomputable abbrev tb_natural_Add := tab (E_natural_Add) (lk c_natural_Add) (bodyOf Try.f69) (fe_natural_Add)
theorem ok_natural_Add : EnvOK Try.prog (E_natural_Add) := mkE_ok tys_ok trivial ⟨⟨PSound.mix os_natural_trim.psound (CSound.psound fs_natural_trim.csound), ⟨Try.f61, by kernel_rfl, by kernel_rfl, by kernel_rfl⟩⟩, ⟨os_natural_Add_1.psound, ⟨Try.f86, by kernel_rfl, by kernel_rfl, by kernel_rfl⟩⟩, trivial⟩
theorem fs_natural_Add : FSound Try.prog 69 [tN, tN] [(tN, false)] (fun τ => F_natural_Add τ.1 τ.2.1) :=
  evG_sound (E := (E_natural_Add)) (C := (lk c_natural_Add)) ok_natural_Add mixed_ok (fn := Try.f69) (c := (bodyOf Try.f69)) (by kernel_rfl) (by kernel_rfl) (by kernel_rfl) (by kernel_rfl) (by kernel_rfl) (by kernel_rfl) (fun τ r h => by
    obtain ⟨a0, a1, ⟨⟩⟩ := τ
    obtain ⟨m, hm⟩ := Rn_natural_Add (fun m => kk_natural_Add_33 (tb_natural_Add m)) (fun m => kk_natural_Add_53 (tb_natural_Add m)) (fun m x0 x1 x27 x28 x29 x5 x6 => (tab_succ (E_natural_Add) (lk c_natural_Add) (bodyOf Try.f69) (fe_natural_Add) m 33 (cn_natural_Add_33 x0 x1 x27 x28 x29 x5 x6)).trans (seg_natural_Add_33 (tb_natural_Add m) x0 x1 x27 x28 x29 x5 x6)) (fun m x0 x10 x5 x6 => (tab_succ (E_natural_Add) (lk c_natural_Add) (bodyOf Try.f69) (fe_natural_Add) m 53 (cn_natural_Add_53 x0 x10 x5 x6)).trans (seg_natural_Add_53 (tb_natural_Add m) x0 x10 x5 x6)) a0 a1 r h
    exact ⟨m, (top_natural_Add (tb_natural_Add m) a0 a1).trans (hm m (Nat.le_refl m))⟩)

abbrev E_bits_Sub32 : Env := mkE tys [] []
def c_bits_Sub32 : List (Nat × Live) := []
noncomputable abbrev fe_bits_Sub32 := (finE (E_bits_Sub32) [(.int .u32, false), (.int .u32, false)] Try.f87.results.toList)
theorem top_bits_Sub32 (S : Nat → KT (RT [(.int .u32, false), (.int .u32, false)])) (a0 : Int) (a1 : Int) (a2 : Int) : evA (E_bits_Sub32) (lk c_bits_Sub32) S (bodyOf Try.f87) noX (fe_bits_Sub32) (fe_bits_Sub32) (initSt [.int .u32, .int .u32, .int .u32] (a0, a1, a2, ())) = T_bits_Sub32 a0 a1 a2 := by kernel_rfl
noncomputable abbrev tb_bits_Sub32 := tab (E_bits_Sub32) (lk c_bits_Sub32) (bodyOf Try.f87) (fe_bits_Sub32)
theorem ok_bits_Sub32 : EnvOK Try.prog (E_bits_Sub32) := mkE_ok tys_ok trivial trivial
theorem fs_bits_Sub32 : FSound Try.prog 87 [.int .u32, .int .u32, .int .u32] [(.int .u32, false), (.int .u32, false)] (fun τ => F_bits_Sub32 τ.1 τ.2.1 τ.2.2.1) :=
  evG_sound (E := (E_bits_Sub32)) (C := (lk c_bits_Sub32)) ok_bits_Sub32 mixed_ok (fn := Try.f87) (c := (bodyOf Try.f87)) (by kernel_rfl) (by kernel_rfl) (by kernel_rfl) (by kernel_rfl) (by kernel_rfl) (by kernel_rfl) (fun τ r h => by
    obtain ⟨a0, a1, a2, ⟨⟩⟩ := τ
    obtain ⟨m, hm⟩ := Rn_bits_Sub32 a0 a1 a2 r h
    exact ⟨m, (top_bits_Sub32 (tb_bits_Sub32 m) a0 a1 a2).trans (hm m (Nat.le_refl m))⟩)

abbrev E_natural_Sub : Env := mkE tys [(49, callE [tN, tN] [(.int .i64, false)] (fun τ => F_natural_Cmp τ.1 τ.2.1)), (87, callE [.int .u32, .int .u32, .int .u32] [(.int .u32, false), (.int .u32, false)] (fun τ => F_bits_Sub32 τ.1 τ.2.1 τ.2.2.1))] [(61, mixO (callO [] false (.int .u32) .pre (fun τ l => O_natural_trim l)) (callI (callE [tN] [(tN, false)] (fun τ => F_natural_trim τ.1))))]
def c_natural_Sub : List (Nat × Live) := [(29, ⟨[(1, tN), (7, .int .u32), (22, tN), (23, .int .i64), (24, .int .i64)], [(false, 6, .int .u32)], []⟩)]
noncomputable abbrev fe_natural_Sub := (finE (E_natural_Sub) [(tN, false), (.bool, false)] Try.f70.results.toList)
noncomputable abbrev cn_natural_Sub_29 (x1 : List Int) (x7 : Int) (x22 : List Int) (x23 : Int) (x24 : Int) (x6 : List Int) : St := ⟨[(6, .one (.loc (.int .u32) 10000)), (24, .one (.val (.int .i64) x24)), (23, .one (.val (.int .i64) x23)), (22, .one (.val tN x22)), (7, .one (.val (.int .u32) x7)), (1, .one (.val tN x1))], [(10000, some ⟨.int .u32, x6, false⟩)]⟩
noncomputable abbrev kk_natural_Sub_29 (S : Nat → KT (RT [(tN, false), (.bool, false)])) := fun (x1 : List Int) (x7 : Int) (x22 : List Int) (x23 : Int) (x24 : Int) (x6 : List Int) => S 29 (cn_natural_Sub_29 x1 x7 x22 x23 x24 x6)
theorem top_natural_Sub (S : Nat → KT (RT [(tN, false), (.bool, false)])) (a0 : List Int) (a1 : List Int) : evA (E_natural_Sub) (lk c_natural_Sub) S (bodyOf Try.f70) noX (fe_natural_Sub) (fe_natural_Sub) (initSt [tN, tN] (a0, a1, ())) = T_natural_Sub (kk_natural_Sub_29 S) a0 a1 := by kernel_rfl
theorem seg_natural_Sub_29 (S : Nat → KT (RT [(tN, false), (.bool, false)])) (x1 : List Int) (x7 : Int) (x22 : List Int) (x23 : Int) (x24 : Int) (x6 : List Int) : stepT (entry (E_natural_Sub) (lk c_natural_Sub) S 29 (bodyOf Try.f70) noX (fe_natural_Sub) (fe_natural_Sub)) (cn_natural_Sub_29 x1 x7 x22 x23 x24 x6) = S_natural_Sub_29 (kk_natural_Sub_29 S) x1 x7 x22 x23 x24 x6 := by kernel_rfl
noncomputable abbrev tb_natural_Sub := tab (E_natural_Sub) (lk c_natural_Sub) (bodyOf Try.f70) (fe_natural_Sub)
theorem ok_natural_Sub : EnvOK Try.prog (E_natural_Sub) := mkE_ok tys_ok ⟨⟨fs_natural_Cmp.csound, ⟨Try.f49, by kernel_rfl, by kernel_rfl, by kernel_rfl⟩⟩, ⟨fs_bits_Sub32.csound, ⟨Try.f87, by kernel_rfl, by kernel_rfl, by kernel_rfl⟩⟩, trivial⟩ ⟨⟨PSound.mix os_natural_trim.psound (CSound.psound fs_natural_trim.csound), ⟨Try.f61, by kernel_rfl, by kernel_rfl, by kernel_rfl⟩⟩, trivial⟩
theorem fs_natural_Sub : FSound Try.prog 70 [tN, tN] [(tN, false), (.bool, false)] (fun τ => F_natural_Sub τ.1 τ.2.1) :=
  evG_sound (E := (E_natural_Sub)) (C := (lk c_natural_Sub)) ok_natural_Sub mixed_ok (fn := Try.f70) (c := (bodyOf Try.f70)) (by kernel_rfl) (by kernel_rfl) (by kernel_rfl) (by kernel_rfl) (by kernel_rfl) (by kernel_rfl) (fun τ r h => by
    obtain ⟨a0, a1, ⟨⟩⟩ := τ
    obtain ⟨m, hm⟩ := Rn_natural_Sub (fun m => kk_natural_Sub_29 (tb_natural_Sub m)) (fun m x1 x7 x22 x23 x24 x6 => (tab_succ (E_natural_Sub) (lk c_natural_Sub) (bodyOf Try.f70) (fe_natural_Sub) m 29 (cn_natural_Sub_29 x1 x7 x22 x23 x24 x6)).trans (seg_natural_Sub_29 (tb_natural_Sub m) x1 x7 x22 x23 x24 x6)) a0 a1 r h
    exact ⟨m, (top_natural_Sub (tb_natural_Sub m) a0 a1).trans (hm m (Nat.le_refl m))⟩)

abbrev E_integer_Add : Env := mkE tys [(41, callE [.bool, tN] [(tI, false)] (fun τ => F_integer_made τ.1 τ.2.1)), (69, callE [tN, tN] [(tN, false)] (fun τ => F_natural_Add τ.1 τ.2.1)), (70, callE [tN, tN] [(tN, false), (.bool, false)] (fun τ => F_natural_Sub τ.1 τ.2.1))] []
def c_integer_Add : List (Nat × Live) := []
noncomputable abbrev fe_integer_Add := (finE (E_integer_Add) [(tI, false)] Try.f47.results.toList)
theorem top_integer_Add (S : Nat → KT (RT [(tI, false)])) (a0 : Bool × List Int) (a1 : Bool × List Int) : evA (E_integer_Add) (lk c_integer_Add) S (bodyOf Try.f47) noX (fe_integer_Add) (fe_integer_Add) (initSt [tI, tI] (a0, a1, ())) = T_integer_Add a0 a1 := by kernel_rfl
noncomputable abbrev tb_integer_Add := tab (E_integer_Add) (lk c_integer_Add) (bodyOf Try.f47) (fe_integer_Add)
theorem ok_integer_Add : EnvOK Try.prog (E_integer_Add) := mkE_ok tys_ok ⟨⟨fs_integer_made.csound, ⟨Try.f41, by kernel_rfl, by kernel_rfl, by kernel_rfl⟩⟩, ⟨fs_natural_Add.csound, ⟨Try.f69, by kernel_rfl, by kernel_rfl, by kernel_rfl⟩⟩, ⟨fs_natural_Sub.csound, ⟨Try.f70, by kernel_rfl, by kernel_rfl, by kernel_rfl⟩⟩, trivial⟩ trivial
theorem fs_integer_Add : FSound Try.prog 47 [tI, tI] [(tI, false)] (fun τ => F_integer_Add τ.1 τ.2.1) :=
  evG_sound (E := (E_integer_Add)) (C := (lk c_integer_Add)) ok_integer_Add mixed_ok (fn := Try.f47) (c := (bodyOf Try.f47)) (by kernel_rfl) (by kernel_rfl) (by kernel_rfl) (by kernel_rfl) (by kernel_rfl) (by kernel_rfl) (fun τ r h => by
    obtain ⟨a0, a1, ⟨⟩⟩ := τ
    obtain ⟨m, hm⟩ := Rn_integer_Add a0 a1 r h
    exact ⟨m, (top_integer_Add (tb_integer_Add m) a0 a1).trans (hm m (Nat.le_refl m))⟩)

abbrev E_integer_Sub : Env := mkE tys [(47, callE [tI, tI] [(tI, false)] (fun τ => F_integer_Add τ.1 τ.2.1))] []
def c_integer_Sub : List (Nat × Live) := []
noncomputable abbrev fe_integer_Sub := (finE (E_integer_Sub) [(tI, false)] Try.f81.results.toList)
theorem top_integer_Sub (S : Nat → KT (RT [(tI, false)])) (a0 : Bool × List Int) (a1 : Bool × List Int) : evA (E_integer_Sub) (lk c_integer_Sub) S (bodyOf Try.f81) noX (fe_integer_Sub) (fe_integer_Sub) (initSt [tI, tI] (a0, a1, ())) = T_integer_Sub a0 a1 := by kernel_rfl
noncomputable abbrev tb_integer_Sub := tab (E_integer_Sub) (lk c_integer_Sub) (bodyOf Try.f81) (fe_integer_Sub)
theorem ok_integer_Sub : EnvOK Try.prog (E_integer_Sub) := mkE_ok tys_ok ⟨⟨fs_integer_Add.csound, ⟨Try.f47, by kernel_rfl, by kernel_rfl, by kernel_rfl⟩⟩, trivial⟩ trivial
theorem fs_integer_Sub : FSound Try.prog 81 [tI, tI] [(tI, false)] (fun τ => F_integer_Sub τ.1 τ.2.1) :=
  evG_sound (E := (E_integer_Sub)) (C := (lk c_integer_Sub)) ok_integer_Sub mixed_ok (fn := Try.f81) (c := (bodyOf Try.f81)) (by kernel_rfl) (by kernel_rfl) (by kernel_rfl) (by kernel_rfl) (by kernel_rfl) (by kernel_rfl) (fun τ r h => by
    obtain ⟨a0, a1, ⟨⟩⟩ := τ
    obtain ⟨m, hm⟩ := Rn_integer_Sub a0 a1 r h
    exact ⟨m, (top_integer_Sub (tb_integer_Sub m) a0 a1).trans (hm m (Nat.le_refl m))⟩)

abbrev E_unipoly_combine_Sub : Env := mkE tys [(81, callE [tI, tI] [(tI, false)] (fun τ => F_integer_Sub τ.1 τ.2.1))] []
def c_unipoly_combine_Sub : List (Nat × Live) := [(17, ⟨[(0, tP), (1, tP), (2, .fn 81), (19, .int .i64), (20, .int .i64)], [(false, 7, tI), (true, 8, tI)], []⟩), (36, ⟨[(0, tP), (1, tP), (2, .fn 81), (9, .int .i64), (19, .int .i64), (20, .int .i64)], [(false, 7, tI), (true, 8, tI), (true, 10, tI), (true, 11, tI)], []⟩)]
noncomputable abbrev fe_unipoly_combine_Sub := (finE (E_unipoly_combine_Sub) [(tP, false)] Try.f99.results.toList)
noncomputable abbrev cn_unipoly_combine_Sub_17 (x0 : List (Bool × List Int)) (x1 : List (Bool × List Int)) (x2 : Unit) (x19 : Int) (x20 : Int) (x7 : List (Bool × List Int)) (x8 : Bool × List Int) : St := ⟨[(8, .one (.ptr 10001 0 [])), (7, .one (.loc tI 10000)), (20, .one (.val (.int .i64) x20)), (19, .one (.val (.int .i64) x19)), (2, .one (.val (.fn 81) x2)), (1, .one (.val tP x1)), (0, .one (.val tP x0))], [(10001, some ⟨tI, [x8], false⟩), (10000, some ⟨tI, x7, false⟩)]⟩
noncomputable abbrev kk_unipoly_combine_Sub_17 (S : Nat → KT (RT [(tP, false)])) := fun (x0 : List (Bool × List Int)) (x1 : List (Bool × List Int)) (x2 : Unit) (x19 : Int) (x20 : Int) (x7 : List (Bool × List Int)) (x8 : Bool × List Int) => S 17 (cn_unipoly_combine_Sub_17 x0 x1 x2 x19 x20 x7 x8)
noncomputable abbrev cn_unipoly_combine_Sub_36 (x0 : List (Bool × List Int)) (x1 : List (Bool × List Int)) (x2 : Unit) (x9 : Int) (x19 : Int) (x20 : Int) (x7 : List (Bool × List Int)) (x8 : Bool × List Int) (x10 : Bool × List Int) (x11 : Bool × List Int) : St := ⟨[(11, .one (.ptr 10003 0 [])), (10, .one (.ptr 10002 0 [])), (8, .one (.ptr 10001 0 [])), (7, .one (.loc tI 10000)), (20, .one (.val (.int .i64) x20)), (19, .one (.val (.int .i64) x19)), (9, .one (.val (.int .i64) x9)), (2, .one (.val (.fn 81) x2)), (1, .one (.val tP x1)), (0, .one (.val tP x0))], [(10003, some ⟨tI, [x11], false⟩), (10002, some ⟨tI, [x10], false⟩), (10001, some ⟨tI, [x8], false⟩), (10000, some ⟨tI, x7, false⟩)]⟩
noncomputable abbrev kk_unipoly_combine_Sub_36 (S : Nat → KT (RT [(tP, false)])) := fun (x0 : List (Bool × List Int)) (x1 : List (Bool × List Int)) (x2 : Unit) (x9 : Int) (x19 : Int) (x20 : Int) (x7 : List (Bool × List Int)) (x8 : Bool × List Int) (x10 : Bool × List Int) (x11 : Bool × List Int) => S 36 (cn_unipoly_combine_Sub_36 x0 x1 x2 x9 x19 x20 x7 x8 x10 x11)
theorem top_unipoly_combine_Sub (S : Nat → KT (RT [(tP, false)])) (a0 : List (Bool × List Int)) (a1 : List (Bool × List Int)) (a2 : Unit) : evA (E_unipoly_combine_Sub) (lk c_unipoly_combine_Sub) S (bodyOf Try.f99) noX (fe_unipoly_combine_Sub) (fe_unipoly_combine_Sub) (initSt [tP, tP, .fn 81] (a0, a1, a2, ())) = T_unipoly_combine_Sub (kk_unipoly_combine_Sub_17 S) (kk_unipoly_combine_Sub_36 S) a0 a1 a2 := by kernel_rfl
theorem seg_unipoly_combine_Sub_17 (S : Nat → KT (RT [(tP, false)])) (x0 : List (Bool × List Int)) (x1 : List (Bool × List Int)) (x2 : Unit) (x19 : Int) (x20 : Int) (x7 : List (Bool × List Int)) (x8 : Bool × List Int) : stepT (entry (E_unipoly_combine_Sub) (lk c_unipoly_combine_Sub) S 17 (bodyOf Try.f99) noX (fe_unipoly_combine_Sub) (fe_unipoly_combine_Sub)) (cn_unipoly_combine_Sub_17 x0 x1 x2 x19 x20 x7 x8) = S_unipoly_combine_Sub_17 (kk_unipoly_combine_Sub_17 S) (kk_unipoly_combine_Sub_36 S) x0 x1 x2 x19 x20 x7 x8 := by kernel_rfl
theorem seg_unipoly_combine_Sub_36 (S : Nat → KT (RT [(tP, false)])) (x0 : List (Bool × List Int)) (x1 : List (Bool × List Int)) (x2 : Unit) (x9 : Int) (x19 : Int) (x20 : Int) (x7 : List (Bool × List Int)) (x8 : Bool × List Int) (x10 : Bool × List Int) (x11 : Bool × List Int) : stepT (entry (E_unipoly_combine_Sub) (lk c_unipoly_combine_Sub) S 36 (bodyOf Try.f99) noX (fe_unipoly_combine_Sub) (fe_unipoly_combine_Sub)) (cn_unipoly_combine_Sub_36 x0 x1 x2 x9 x19 x20 x7 x8 x10 x11) = S_unipoly_combine_Sub_36 (kk_unipoly_combine_Sub_17 S) (kk_unipoly_combine_Sub_36 S) x0 x1 x2 x9 x19 x20 x7 x8 x10 x11 := by kernel_rfl
noncomputable abbrev tb_unipoly_combine_Sub := tab (E_unipoly_combine_Sub) (lk c_unipoly_combine_Sub) (bodyOf Try.f99) (fe_unipoly_combine_Sub)
theorem ok_unipoly_combine_Sub : EnvOK Try.prog (E_unipoly_combine_Sub) := mkE_ok tys_ok ⟨⟨fs_integer_Sub.csound, ⟨Try.f81, by kernel_rfl, by kernel_rfl, by kernel_rfl⟩⟩, trivial⟩ trivial
theorem fs_unipoly_combine_Sub : FSound Try.prog 99 [tP, tP, .fn 81] [(tP, false)] (fun τ => F_unipoly_combine_Sub τ.1 τ.2.1 τ.2.2.1) :=
  evG_sound (E := (E_unipoly_combine_Sub)) (C := (lk c_unipoly_combine_Sub)) ok_unipoly_combine_Sub mixed_ok (fn := Try.f99) (c := (bodyOf Try.f99)) (by kernel_rfl) (by kernel_rfl) (by kernel_rfl) (by kernel_rfl) (by kernel_rfl) (by kernel_rfl) (fun τ r h => by
    obtain ⟨a0, a1, a2, ⟨⟩⟩ := τ
    obtain ⟨m, hm⟩ := Rn_unipoly_combine_Sub (fun m => kk_unipoly_combine_Sub_17 (tb_unipoly_combine_Sub m)) (fun m => kk_unipoly_combine_Sub_36 (tb_unipoly_combine_Sub m)) (fun m x0 x1 x2 x19 x20 x7 x8 => (tab_succ (E_unipoly_combine_Sub) (lk c_unipoly_combine_Sub) (bodyOf Try.f99) (fe_unipoly_combine_Sub) m 17 (cn_unipoly_combine_Sub_17 x0 x1 x2 x19 x20 x7 x8)).trans (seg_unipoly_combine_Sub_17 (tb_unipoly_combine_Sub m) x0 x1 x2 x19 x20 x7 x8)) (fun m x0 x1 x2 x9 x19 x20 x7 x8 x10 x11 => (tab_succ (E_unipoly_combine_Sub) (lk c_unipoly_combine_Sub) (bodyOf Try.f99) (fe_unipoly_combine_Sub) m 36 (cn_unipoly_combine_Sub_36 x0 x1 x2 x9 x19 x20 x7 x8 x10 x11)).trans (seg_unipoly_combine_Sub_36 (tb_unipoly_combine_Sub m) x0 x1 x2 x9 x19 x20 x7 x8 x10 x11)) a0 a1 a2 r h
    exact ⟨m, (top_unipoly_combine_Sub (tb_unipoly_combine_Sub m) a0 a1 a2).trans (hm m (Nat.le_refl m))⟩)

abbrev E_unipoly_Sub : Env := mkE tys [(99, callE [tP, tP, .fn 81] [(tP, false)] (fun τ => F_unipoly_combine_Sub τ.1 τ.2.1 τ.2.2.1))] [(37, mixO (callO [] false tI .pre (fun τ l => O_unipoly_trim l)) (callI (callE [tP] [(tP, false)] (fun τ => F_unipoly_trim τ.1))))]
def c_unipoly_Sub : List (Nat × Live) := []
noncomputable abbrev fe_unipoly_Sub := (finE (E_unipoly_Sub) [(tP, false)] Try.f88.results.toList)
theorem top_unipoly_Sub (S : Nat → KT (RT [(tP, false)])) (a0 : List (Bool × List Int)) (a1 : List (Bool × List Int)) : evA (E_unipoly_Sub) (lk c_unipoly_Sub) S (bodyOf Try.f88) noX (fe_unipoly_Sub) (fe_unipoly_Sub) (initSt [tP, tP] (a0, a1, ())) = T_unipoly_Sub a0 a1 := by kernel_rfl
noncomputable abbrev tb_unipoly_Sub := tab (E_unipoly_Sub) (lk c_unipoly_Sub) (bodyOf Try.f88) (fe_unipoly_Sub)
theorem ok_unipoly_Sub : EnvOK Try.prog (E_unipoly_Sub) := mkE_ok tys_ok ⟨⟨fs_unipoly_combine_Sub.csound, ⟨Try.f99, by kernel_rfl, by kernel_rfl, by kernel_rfl⟩⟩, trivial⟩ ⟨⟨PSound.mix os_unipoly_trim.psound (CSound.psound fs_unipoly_trim.csound), ⟨Try.f37, by kernel_rfl, by kernel_rfl, by kernel_rfl⟩⟩, trivial⟩
theorem fs_unipoly_Sub : FSound Try.prog 88 [tP, tP] [(tP, false)] (fun τ => F_unipoly_Sub τ.1 τ.2.1) :=
  evG_sound (E := (E_unipoly_Sub)) (C := (lk c_unipoly_Sub)) ok_unipoly_Sub mixed_ok (fn := Try.f88) (c := (bodyOf Try.f88)) (by kernel_rfl) (by kernel_rfl) (by kernel_rfl) (by kernel_rfl) (by kernel_rfl) (by kernel_rfl) (fun τ r h => by
    obtain ⟨a0, a1, ⟨⟩⟩ := τ
    obtain ⟨m, hm⟩ := Rn_unipoly_Sub a0 a1 r h
    exact ⟨m, (top_unipoly_Sub (tb_unipoly_Sub m) a0 a1).trans (hm m (Nat.le_refl m))⟩)

abbrev E_unidiv_shifted : Env := mkE tys [(78, callE [tP, tI] [(tP, false)] (fun τ => F_unipoly_Scale τ.1 τ.2.1))] []
def c_unidiv_shifted : List (Nat × Live) := []
noncomputable abbrev fe_unidiv_shifted := (finE (E_unidiv_shifted) [(tP, false)] Try.f89.results.toList)
theorem top_unidiv_shifted (S : Nat → KT (RT [(tP, false)])) (a0 : List (Bool × List Int)) (a1 : Bool × List Int) (a2 : Int) : evA (E_unidiv_shifted) (lk c_unidiv_shifted) S (bodyOf Try.f89) noX (fe_unidiv_shifted) (fe_unidiv_shifted) (initSt [tP, tI, .int .i64] (a0, a1, a2, ())) = T_unidiv_shifted a0 a1 a2 := by kernel_rfl
noncomputable abbrev tb_unidiv_shifted := tab (E_unidiv_shifted) (lk c_unidiv_shifted) (bodyOf Try.f89) (fe_unidiv_shifted)
theorem ok_unidiv_shifted : EnvOK Try.prog (E_unidiv_shifted) := mkE_ok tys_ok ⟨⟨fs_unipoly_Scale.csound, ⟨Try.f78, by kernel_rfl, by kernel_rfl, by kernel_rfl⟩⟩, trivial⟩ trivial
theorem fs_unidiv_shifted : FSound Try.prog 89 [tP, tI, .int .i64] [(tP, false)] (fun τ => F_unidiv_shifted τ.1 τ.2.1 τ.2.2.1) :=
  evG_sound (E := (E_unidiv_shifted)) (C := (lk c_unidiv_shifted)) ok_unidiv_shifted mixed_ok (fn := Try.f89) (c := (bodyOf Try.f89)) (by kernel_rfl) (by kernel_rfl) (by kernel_rfl) (by kernel_rfl) (by kernel_rfl) (by kernel_rfl) (fun τ r h => by
    obtain ⟨a0, a1, a2, ⟨⟩⟩ := τ
    obtain ⟨m, hm⟩ := Rn_unidiv_shifted a0 a1 a2 r h
    exact ⟨m, (top_unidiv_shifted (tb_unidiv_shifted m) a0 a1 a2).trans (hm m (Nat.le_refl m))⟩)

abbrev E_unipoly_combine_Add : Env := mkE tys [(47, callE [tI, tI] [(tI, false)] (fun τ => F_integer_Add τ.1 τ.2.1))] []
def c_unipoly_combine_Add : List (Nat × Live) := [(17, ⟨[(0, tP), (1, tP), (2, .fn 47), (19, .int .i64), (20, .int .i64)], [(false, 7, tI), (true, 8, tI)], []⟩), (36, ⟨[(0, tP), (1, tP), (2, .fn 47), (9, .int .i64), (19, .int .i64), (20, .int .i64)], [(false, 7, tI), (true, 8, tI), (true, 10, tI), (true, 11, tI)], []⟩)]
noncomputable abbrev fe_unipoly_combine_Add := (finE (E_unipoly_combine_Add) [(tP, false)] Try.f99.results.toList)
noncomputable abbrev cn_unipoly_combine_Add_17 (x0 : List (Bool × List Int)) (x1 : List (Bool × List Int)) (x2 : Unit) (x19 : Int) (x20 : Int) (x7 : List (Bool × List Int)) (x8 : Bool × List Int) : St := ⟨[(8, .one (.ptr 10001 0 [])), (7, .one (.loc tI 10000)), (20, .one (.val (.int .i64) x20)), (19, .one (.val (.int .i64) x19)), (2, .one (.val (.fn 47) x2)), (1, .one (.val tP x1)), (0, .one (.val tP x0))], [(10001, some ⟨tI, [x8], false⟩), (10000, some ⟨tI, x7, false⟩)]⟩
noncomputable abbrev kk_unipoly_combine_Add_17 (S : Nat → KT (RT [(tP, false)])) := fun (x0 : List (Bool × List Int)) (x1 : List (Bool × List Int)) (x2 : Unit) (x19 : Int) (x20 : Int) (x7 : List (Bool × List Int)) (x8 : Bool × List Int) => S 17 (cn_unipoly_combine_Add_17 x0 x1 x2 x19 x20 x7 x8)
noncomputable abbrev cn_unipoly_combine_Add_36 (x0 : List (Bool × List Int)) (x1 : List (Bool × List Int)) (x2 : Unit) (x9 : Int) (x19 : Int) (x20 : Int) (x7 : List (Bool × List Int)) (x8 : Bool × List Int) (x10 : Bool × List Int) (x11 : Bool × List Int) : St := ⟨[(11, .one (.ptr 10003 0 [])), (10, .one (.ptr 10002 0 [])), (8, .one (.ptr 10001 0 [])), (7, .one (.loc tI 10000)), (20, .one (.val (.int .i64) x20)), (19, .one (.val (.int .i64) x19)), (9, .one (.val (.int .i64) x9)), (2, .one (.val (.fn 47) x2)), (1, .one (.val tP x1)), (0, .one (.val tP x0))], [(10003, some ⟨tI, [x11], false⟩), (10002, some ⟨tI, [x10], false⟩), (10001, some ⟨tI, [x8], false⟩), (10000, some ⟨tI, x7, false⟩)]⟩
noncomputable abbrev kk_unipoly_combine_Add_36 (S : Nat → KT (RT [(tP, false)])) := fun (x0 : List (Bool × List Int)) (x1 : List (Bool × List Int)) (x2 : Unit) (x9 : Int) (x19 : Int) (x20 : Int) (x7 : List (Bool × List Int)) (x8 : Bool × List Int) (x10 : Bool × List Int) (x11 : Bool × List Int) => S 36 (cn_unipoly_combine_Add_36 x0 x1 x2 x9 x19 x20 x7 x8 x10 x11)
theorem top_unipoly_combine_Add (S : Nat → KT (RT [(tP, false)])) (a0 : List (Bool × List Int)) (a1 : List (Bool × List Int)) (a2 : Unit) : evA (E_unipoly_combine_Add) (lk c_unipoly_combine_Add) S (bodyOf Try.f99) noX (fe_unipoly_combine_Add) (fe_unipoly_combine_Add) (initSt [tP, tP, .fn 47] (a0, a1, a2, ())) = T_unipoly_combine_Add (kk_unipoly_combine_Add_17 S) (kk_unipoly_combine_Add_36 S) a0 a1 a2 := by kernel_rfl
theorem seg_unipoly_combine_Add_17 (S : Nat → KT (RT [(tP, false)])) (x0 : List (Bool × List Int)) (x1 : List (Bool × List Int)) (x2 : Unit) (x19 : Int) (x20 : Int) (x7 : List (Bool × List Int)) (x8 : Bool × List Int) : stepT (entry (E_unipoly_combine_Add) (lk c_unipoly_combine_Add) S 17 (bodyOf Try.f99) noX (fe_unipoly_combine_Add) (fe_unipoly_combine_Add)) (cn_unipoly_combine_Add_17 x0 x1 x2 x19 x20 x7 x8) = S_unipoly_combine_Add_17 (kk_unipoly_combine_Add_17 S) (kk_unipoly_combine_Add_36 S) x0 x1 x2 x19 x20 x7 x8 := by kernel_rfl
theorem seg_unipoly_combine_Add_36 (S : Nat → KT (RT [(tP, false)])) (x0 : List (Bool × List Int)) (x1 : List (Bool × List Int)) (x2 : Unit) (x9 : Int) (x19 : Int) (x20 : Int) (x7 : List (Bool × List Int)) (x8 : Bool × List Int) (x10 : Bool × List Int) (x11 : Bool × List Int) : stepT (entry (E_unipoly_combine_Add) (lk c_unipoly_combine_Add) S 36 (bodyOf Try.f99) noX (fe_unipoly_combine_Add) (fe_unipoly_combine_Add)) (cn_unipoly_combine_Add_36 x0 x1 x2 x9 x19 x20 x7 x8 x10 x11) = S_unipoly_combine_Add_36 (kk_unipoly_combine_Add_17 S) (kk_unipoly_combine_Add_36 S) x0 x1 x2 x9 x19 x20 x7 x8 x10 x11 := by kernel_rfl
noncomputable abbrev tb_unipoly_combine_Add := tab (E_unipoly_combine_Add) (lk c_unipoly_combine_Add) (bodyOf Try.f99) (fe_unipoly_combine_Add)
theorem ok_unipoly_combine_Add : EnvOK Try.prog (E_unipoly_combine_Add) := mkE_ok tys_ok ⟨⟨fs_integer_Add.csound, ⟨Try.f47, by kernel_rfl, by kernel_rfl, by kernel_rfl⟩⟩, trivial⟩ trivial
theorem fs_unipoly_combine_Add : FSound Try.prog 99 [tP, tP, .fn 47] [(tP, false)] (fun τ => F_unipoly_combine_Add τ.1 τ.2.1 τ.2.2.1) :=
  evG_sound (E := (E_unipoly_combine_Add)) (C := (lk c_unipoly_combine_Add)) ok_unipoly_combine_Add mixed_ok (fn := Try.f99) (c := (bodyOf Try.f99)) (by kernel_rfl) (by kernel_rfl) (by kernel_rfl) (by kernel_rfl) (by kernel_rfl) (by kernel_rfl) (fun τ r h => by
    obtain ⟨a0, a1, a2, ⟨⟩⟩ := τ
    obtain ⟨m, hm⟩ := Rn_unipoly_combine_Add (fun m => kk_unipoly_combine_Add_17 (tb_unipoly_combine_Add m)) (fun m => kk_unipoly_combine_Add_36 (tb_unipoly_combine_Add m)) (fun m x0 x1 x2 x19 x20 x7 x8 => (tab_succ (E_unipoly_combine_Add) (lk c_unipoly_combine_Add) (bodyOf Try.f99) (fe_unipoly_combine_Add) m 17 (cn_unipoly_combine_Add_17 x0 x1 x2 x19 x20 x7 x8)).trans (seg_unipoly_combine_Add_17 (tb_unipoly_combine_Add m) x0 x1 x2 x19 x20 x7 x8)) (fun m x0 x1 x2 x9 x19 x20 x7 x8 x10 x11 => (tab_succ (E_unipoly_combine_Add) (lk c_unipoly_combine_Add) (bodyOf Try.f99) (fe_unipoly_combine_Add) m 36 (cn_unipoly_combine_Add_36 x0 x1 x2 x9 x19 x20 x7 x8 x10 x11)).trans (seg_unipoly_combine_Add_36 (tb_unipoly_combine_Add m) x0 x1 x2 x9 x19 x20 x7 x8 x10 x11)) a0 a1 a2 r h
    exact ⟨m, (top_unipoly_combine_Add (tb_unipoly_combine_Add m) a0 a1 a2).trans (hm m (Nat.le_refl m))⟩)

abbrev E_unipoly_Add : Env := mkE tys [(99, callE [tP, tP, .fn 47] [(tP, false)] (fun τ => F_unipoly_combine_Add τ.1 τ.2.1 τ.2.2.1))] [(37, mixO (callO [] false tI .pre (fun τ l => O_unipoly_trim l)) (callI (callE [tP] [(tP, false)] (fun τ => F_unipoly_trim τ.1))))]
def c_unipoly_Add : List (Nat × Live) := []
noncomputable abbrev fe_unipoly_Add := (finE (E_unipoly_Add) [(tP, false)] Try.f100.results.toList)
theorem top_unipoly_Add (S : Nat → KT (RT [(tP, false)])) (a0 : List (Bool × List Int)) (a1 : List (Bool × List Int)) : evA (E_unipoly_Add) (lk c_unipoly_Add) S (bodyOf Try.f100) noX (fe_unipoly_Add) (fe_unipoly_Add) (initSt [tP, tP] (a0, a1, ())) = T_unipoly_Add a0 a1 := by kernel_rfl
noncomputable abbrev tb_unipoly_Add := tab (E_unipoly_Add) (lk c_unipoly_Add) (bodyOf Try.f100) (fe_unipoly_Add)
theorem ok_unipoly_Add : EnvOK Try.prog (E_unipoly_Add) := mkE_ok tys_ok ⟨⟨fs_unipoly_combine_Add.csound, ⟨Try.f99, by kernel_rfl, by kernel_rfl, by kernel_rfl⟩⟩, trivial⟩ ⟨⟨PSound.mix os_unipoly_trim.psound (CSound.psound fs_unipoly_trim.csound), ⟨Try.f37, by kernel_rfl, by kernel_rfl, by kernel_rfl⟩⟩, trivial⟩
theorem fs_unipoly_Add : FSound Try.prog 100 [tP, tP] [(tP, false)] (fun τ => F_unipoly_Add τ.1 τ.2.1) :=
  evG_sound (E := (E_unipoly_Add)) (C := (lk c_unipoly_Add)) ok_unipoly_Add mixed_ok (fn := Try.f100) (c := (bodyOf Try.f100)) (by kernel_rfl) (by kernel_rfl) (by kernel_rfl) (by kernel_rfl) (by kernel_rfl) (by kernel_rfl) (fun τ r h => by
    obtain ⟨a0, a1, ⟨⟩⟩ := τ
    obtain ⟨m, hm⟩ := Rn_unipoly_Add a0 a1 r h
    exact ⟨m, (top_unipoly_Add (tb_unipoly_Add m) a0 a1).trans (hm m (Nat.le_refl m))⟩)

abbrev E_unidiv_Pseudo : Env := mkE tys [(15, callE [.slice (.int .i64)] [(tP, false)] (fun τ => F_unipoly_Of τ.1)), (19, callE [tP] [(.int .i64, false)] (fun τ => F_unipoly_Degree τ.1)), (55, callE [tP] [(tP, true)] (fun τ => F_unipoly_Normal τ.1)), (57, callE [tP] [(tI, false)] (fun τ => F_unipoly_Lead τ.1)), (73, callE [tP] [(.bool, false)] (fun τ => F_unidiv_zero τ.1)), (78, callE [tP, tI] [(tP, false)] (fun τ => F_unipoly_Scale τ.1 τ.2.1)), (88, callE [tP, tP] [(tP, false)] (fun τ => F_unipoly_Sub τ.1 τ.2.1)), (89, callE [tP, tI, .int .i64] [(tP, false)] (fun τ => F_unidiv_shifted τ.1 τ.2.1 τ.2.2.1)), (91, callE [tI, .int .i64] [(tI, false)] (fun τ => F_unidiv_power τ.1 τ.2.1)), (100, callE [tP, tP] [(tP, false)] (fun τ => F_unipoly_Add τ.1 τ.2.1))] []
def c_unidiv_Pseudo : List (Nat × Live) := [(25, ⟨[(1, tP), (4, tP), (5, tP), (7, .int .i64), (9, .int .i64)], [(true, 8, tI)], []⟩)]
noncomputable abbrev fe_unidiv_Pseudo := (finE (E_unidiv_Pseudo) [(tP, false), (tP, false), (.int .i64, false)] Try.f92.results.toList)
noncomputable abbrev cn_unidiv_Pseudo_25 (x1 : List (Bool × List Int)) (x4 : List (Bool × List Int)) (x5 : List (Bool × List Int)) (x7 : Int) (x9 : Int) (x8 : Bool × List Int) : St := ⟨[(8, .one (.ptr 10000 0 [])), (9, .one (.val (.int .i64) x9)), (7, .one (.val (.int .i64) x7)), (5, .one (.val tP x5)), (4, .one (.val tP x4)), (1, .one (.val tP x1))], [(10000, some ⟨tI, [x8], false⟩)]⟩
noncomputable abbrev kk_unidiv_Pseudo_25 (S : Nat → KT (RT [(tP, false), (tP, false), (.int .i64, false)])) := fun (x1 : List (Bool × List Int)) (x4 : List (Bool × List Int)) (x5 : List (Bool × List Int)) (x7 : Int) (x9 : Int) (x8 : Bool × List Int) => S 25 (cn_unidiv_Pseudo_25 x1 x4 x5 x7 x9 x8)
theorem top_unidiv_Pseudo (S : Nat → KT (RT [(tP, false), (tP, false), (.int .i64, false)])) (a0 : List (Bool × List Int)) (a1 : List (Bool × List Int)) : evA (E_unidiv_Pseudo) (lk c_unidiv_Pseudo) S (bodyOf Try.f92) noX (fe_unidiv_Pseudo) (fe_unidiv_Pseudo) (initSt [tP, tP] (a0, a1, ())) = T_unidiv_Pseudo (kk_unidiv_Pseudo_25 S) a0 a1 := by kernel_rfl
theorem seg_unidiv_Pseudo_25 (S : Nat → KT (RT [(tP, false), (tP, false), (.int .i64, false)])) (x1 : List (Bool × List Int)) (x4 : List (Bool × List Int)) (x5 : List (Bool × List Int)) (x7 : Int) (x9 : Int) (x8 : Bool × List Int) : stepT (entry (E_unidiv_Pseudo) (lk c_unidiv_Pseudo) S 25 (bodyOf Try.f92) noX (fe_unidiv_Pseudo) (fe_unidiv_Pseudo)) (cn_unidiv_Pseudo_25 x1 x4 x5 x7 x9 x8) = S_unidiv_Pseudo_25 (kk_unidiv_Pseudo_25 S) x1 x4 x5 x7 x9 x8 := by kernel_rfl
noncomputable abbrev tb_unidiv_Pseudo := tab (E_unidiv_Pseudo) (lk c_unidiv_Pseudo) (bodyOf Try.f92) (fe_unidiv_Pseudo)
theorem ok_unidiv_Pseudo : EnvOK Try.prog (E_unidiv_Pseudo) := mkE_ok tys_ok ⟨⟨fs_unipoly_Of.csound, ⟨Try.f15, by kernel_rfl, by kernel_rfl, by kernel_rfl⟩⟩, ⟨fs_unipoly_Degree.csound, ⟨Try.f19, by kernel_rfl, by kernel_rfl, by kernel_rfl⟩⟩, ⟨fs_unipoly_Normal.csound, ⟨Try.f55, by kernel_rfl, by kernel_rfl, by kernel_rfl⟩⟩, ⟨fs_unipoly_Lead.csound, ⟨Try.f57, by kernel_rfl, by kernel_rfl, by kernel_rfl⟩⟩, ⟨fs_unidiv_zero.csound, ⟨Try.f73, by kernel_rfl, by kernel_rfl, by kernel_rfl⟩⟩, ⟨fs_unipoly_Scale.csound, ⟨Try.f78, by kernel_rfl, by kernel_rfl, by kernel_rfl⟩⟩, ⟨fs_unipoly_Sub.csound, ⟨Try.f88, by kernel_rfl, by kernel_rfl, by kernel_rfl⟩⟩, ⟨fs_unidiv_shifted.csound, ⟨Try.f89, by kernel_rfl, by kernel_rfl, by kernel_rfl⟩⟩, ⟨fs_unidiv_power.csound, ⟨Try.f91, by kernel_rfl, by kernel_rfl, by kernel_rfl⟩⟩, ⟨fs_unipoly_Add.csound, ⟨Try.f100, by kernel_rfl, by kernel_rfl, by kernel_rfl⟩⟩, trivial⟩ trivial
theorem fs_unidiv_Pseudo : FSound Try.prog 92 [tP, tP] [(tP, false), (tP, false), (.int .i64, false)] (fun τ => F_unidiv_Pseudo τ.1 τ.2.1) :=
  evG_sound (E := (E_unidiv_Pseudo)) (C := (lk c_unidiv_Pseudo)) ok_unidiv_Pseudo mixed_ok (fn := Try.f92) (c := (bodyOf Try.f92)) (by kernel_rfl) (by kernel_rfl) (by kernel_rfl) (by kernel_rfl) (by kernel_rfl) (by kernel_rfl) (fun τ r h => by
    obtain ⟨a0, a1, ⟨⟩⟩ := τ
    obtain ⟨m, hm⟩ := Rn_unidiv_Pseudo (fun m => kk_unidiv_Pseudo_25 (tb_unidiv_Pseudo m)) (fun m x1 x4 x5 x7 x9 x8 => (tab_succ (E_unidiv_Pseudo) (lk c_unidiv_Pseudo) (bodyOf Try.f92) (fe_unidiv_Pseudo) m 25 (cn_unidiv_Pseudo_25 x1 x4 x5 x7 x9 x8)).trans (seg_unidiv_Pseudo_25 (tb_unidiv_Pseudo m) x1 x4 x5 x7 x9 x8)) a0 a1 r h
    exact ⟨m, (top_unidiv_Pseudo (tb_unidiv_Pseudo m) a0 a1).trans (hm m (Nat.le_refl m))⟩)
end
end Go.W

set_option linter.unusedVariables false
set_option linter.unusedSimpArgs false
namespace Go.W
open Go

/-! ### From the walk without a fence to the fenced one -/
theorem letsOut_no {Q : Exit → Act → World → Prop} (h : ∀ a w, ¬ Q .outgrown a w) : ¬ LetsOut Q := fun ⟨a, w, hq⟩ => h a w hq

/-- the two fences that are met here -/
inductive FOK : Fence → Prop
  | wide : FOK Fence.wide
  | round (l : Nat) : FOK (Fence.wide.inRound l)

theorem FOK.fn {F : Fence} (h : FOK F) (f : FuncId) : F.fn f := by cases h <;> trivial
theorem FOK.depth {F : Fence} (h : FOK F) : F.depth.isSome = true → 1 ≤ 0 := by cases h <;> (intro h; cases h)
theorem FOK.calls {F : Fence} (h : FOK F) {n : Nat} {P : Program} {f : FuncId} {args : Array Value} {w : World} {R : Ending → World → Prop} (hc : Calls P f args w R) : CallsIn F n P f args w R := by
  cases h with
  | wide => exact callsIn_wide.2 hc
  | round l => exact (callsIn_wide.2 hc).inRound l

theorem FOK.rows {F : Fence} (h : FOK F) {n : Nat} {P : Program} {row : String} {args : Array Value} {w : World} {R : Value → World → Prop} (hc : Rows P row args w R) : RowsIn F n P row args w R := by
  have hw : RowsIn Fence.wide n P row args w R := fun c cs _ => let ⟨v, w', r, s⟩ := hc c cs; ⟨v, w', r, stepsIn_wide.2 s⟩
  cases h with
  | wide => exact hw
  | round l => exact hw
theorem opIn_of_op {F : Fence} (hF : FOK F) {n : Nat} {P : Program} {o : Oper} {a : Act} {w : World} {K : Act → World → Prop} {Q : Exit → Act → World → Prop} (hd : ∀ c, o.op ≠ .defer c)
    (h : o.wp P a w K Q) : o.wpIn F n P a w K Q := by
  refine ⟨fun f _ => hF.fn f, ?_⟩
  have he : o.semAt F.round a.eval = execOp a.eval o := by
    cases hF with
    | wide => exact Oper.semAt_none _ _
    | round l => exact Oper.semAt_some l _ _ hd
  have hdep : ∀ {p : Prop}, F.depth.isSome = true → p := fun hs => absurd hs (by cases hF <;> simp [Fence.wide, Fence.inRound])
  rw [he]
  unfold Oper.wp at h
  generalize hx : (execOp a.eval o).run P w = x at h
  cases x with
  | ok v w' =>
    cases v with
    | value v => exact h
    | skip => exact h
    | defer d => exact h
    | enter f args => exact ⟨fun hs => hdep hs, hF.calls h⟩
    | row row args => exact ⟨fun hs => hdep hs, hF.rows h⟩
    | _ => exact h.elim
  | halt r w' =>
    cases r <;> first | exact h | exact h.elim

/-- the operations of a region, one after the other: from the walk without a fence -/
theorem opsIn_of_ops {F : Fence} (hF : FOK F) {n : Nat} {P : Program} {ops : Array Oper} (hd : ∀ (i : Nat) (o : Oper) c, ops[i]? = some o → o.op ≠ Op.defer c) {Q : Exit → Act → World → Prop} (hQ : ∀ a w, ¬ Q .outgrown a w) :
    ∀ (l : List Nat) (a : Act) (w : World), wpOps P ops Q l a w → wpOpsIn F n P ops Q l a w
  | [], a, w, h => h
  | i :: l, a, w, h => by
    simp only [wpOps] at h
    simp only [wpOpsIn]
    cases ho : ops[i]? with
    | none => rw [ho] at h; exact opsIn_of_ops hF hd hQ l a w h
    | some o =>
      rw [ho] at h
      dsimp only at h ⊢
      split at h
      · rename_i hw
        rw [if_pos hw]
        rcases h with h | ⟨_, h⟩
        · exact Oper.wpIn_mono (fun a w => opsIn_of_ops hF hd hQ l a w) (opIn_of_op hF (fun c => hd i o c ho) h)
        · exact absurd h (letsOut_no hQ)
      · rename_i hw
        rw [if_neg hw]
        exact ⟨fun f _ => hF.fn f, opsIn_of_ops hF hd hQ l _ w h⟩

/-! ### A region, operation by operation -/
section
variable {F : Fence} {m : Nat} {P : Program} {ops : Array Oper} {Q : Exit → Act → World → Prop} {a : Act} {w : World} {k : Nat} {rest : List Nat} {o : Oper}

theorem ops_val (hF : FOK F) (ho : ops[k]? = some o) (hw : Region.wanted o (yielded ops a.tmps) = true) (hd : ∀ c, o.op ≠ Op.defer c) {v : Value} {w' : World} (hv : (execOp a.eval o).run P w = .ok (.value v) w')
    (h : wpOpsIn F m P ops Q rest (a.put o.dst v) w') : wpOpsIn F m P ops Q (k :: rest) a w := by
  simp only [wpOpsIn, ho, if_pos hw]
  exact opIn_of_op hF hd (wp_value hv h)

theorem ops_skip (hF : FOK F) (ho : ops[k]? = some o) (hw : Region.wanted o (yielded ops a.tmps) = false) (h : wpOpsIn F m P ops Q rest (a.put o.dst undef) w) : wpOpsIn F m P ops Q (k :: rest) a w := by
  simp only [wpOpsIn, ho, hw, if_false, Bool.false_eq_true]
  exact ⟨fun f _ => hF.fn f, h⟩

theorem ops_rel {E : Env} (hE : EnvOK P E) (hF : FOK F) {W B : Nat → Prop} {n : NK} {st : St} {μ : Nat → Option Nat} {tv : TV} {ups : Ups} (ho : ops[k]? = some o) (hw : Region.wanted o (yielded ops a.tmps) = true) (hd : ∀ c, o.op ≠ Op.defer c)
    (hdst : ∀ d', o.dst = some d' → d' < n.n ∧ d' ∉ n.ks) (hev : opE E st o (fun tv ups => some (tv, ups)) = some (tv, ups)) (hR : Rel W B n st a w μ) (hWB : ∀ g, w.heap.size ≤ g → W g ∧ B g)
    (hK : ∀ x w' μ', Fr W w w' → Rel W B n (st.set o.dst tv ups) (a.put o.dst x) w' μ' → (∀ g, w'.heap.size ≤ g → W g ∧ B g) → wpOpsIn F m P ops Q rest (a.put o.dst x) w') : wpOpsIn F m P ops Q (k :: rest) a w := by
  simp only [wpOpsIn, ho, if_pos hw]
  obtain ⟨tv', ups', _, hk, _, hsem⟩ := op_sound hE hev
  injection hk with hk
  obtain ⟨rfl, rfl⟩ := Prod.mk.inj hk
  exact opIn_of_op hF hd (hsem W B w μ a hWB hR.hok hR.tm _ _ fun x w' μ' hfr hH hT hx => hK x w' μ' hfr (hR.step hdst hH hT hx) (fun g hg => hWB g (Nat.le_trans hfr.size hg)))

theorem ops_yield {t u L : Nat} {tt : Array TypeId} (ho : ops[k]? = some o) (hw : Region.wanted o (yielded ops a.tmps) = true) (hop : o.op = Op.call { callee := .value (.tmp t), args := #[.tmp u], argTypes := tt })
    (ht : a.tmps.getD t undef = .func (.yield L) #[] #[]) {R : Ending → World → Prop} (hY : YieldAt Fence.wide (m - 1) P L #[a.tmps.getD u undef] w R)
    (hK : ∀ e w', R e w' → ∃ v, e = .returned v ∧ wpOpsIn Fence.wide m P ops Q rest (a.put o.dst v) w') : wpOpsIn Fence.wide m P ops Q (k :: rest) a w := by
  simp only [wpOpsIn, ho, if_pos hw]
  refine ⟨fun f _ => FOK.wide.fn f, ?_⟩
  obtain ⟨fn, tmps, assign, body, hy, hR⟩ := hY
  have he : (o.semAt Fence.wide.round a.eval).run P w = .ok (.round L fn tmps assign body) w := by
    rw [show Fence.wide.round = none from rfl, Oper.semAt_none]
    have e1 : a.eval (.tmp t) = .func (.yield L) #[] #[] := ht
    have e2 : a.eval (.tmp u) = a.tmps.getD u undef := rfl
    simp only [execOp, hop, resolve, e1, e2, Deferred.ofValue]
    rw [← e2] at hy
    simp [invoke]
    exact hy
  rw [he]
  refine ⟨fun hs => absurd hs (by simp [Fence.wide]), hR.mono fun e w' hr => ?_⟩
  obtain ⟨v, rfl, h⟩ := hK e w' hr
  exact h
end

/-! operations told by their parts -/
def opAt (ops : Array Oper) (i : Nat) : Oper := ops[i]?.getD default
section
variable {F : Fence} {m : Nat} {P : Program} {ops : Array Oper} {Q : Exit → Act → World → Prop} {a : Act} {w : World} {k : Nat} {rest : List Nat} {o : Oper} {d : Nat}

theorem wanted_none (hg : o.guard = none) (y : Nat → Option Bool) : Region.wanted o y = true := by unfold Region.wanted; rw [hg]
theorem wanted_some {j g : Nat} {b want : Bool} (hg : o.guard = some (j, want)) (hgt : gtmp ops j = some g) (hs : g < a.tmps.size) (hv : a.tmps.getD g undef = .bool b) : Region.wanted o (yielded ops a.tmps) = (b == want) := by
  have hy : yielded ops a.tmps j = some b := by
    unfold yielded
    have : (ops[j]?).bind (·.dst) = some g := by
      unfold gtmp at hgt
      cases hx : ops[j]? with
      | none => rw [hx] at hgt; cases hgt
      | some q => rw [hx] at hgt; exact hgt
    rw [this]
    have hv' : a.tmps[g] = .bool b := by simpa [Array.getD, hs] using hv
    simp [hs, hv']
  unfold Region.wanted; rw [hg]; simp only [hy]; cases b <;> cases want <;> rfl
theorem ops_mv (hF : FOK F) {y : Operand} (ho : ops[k]? = some o) (hw : Region.wanted o (yielded ops a.tmps) = true) (hop : o.op = .move y ∨ o.op = .assign y) (hd : o.dst = some d)
    (h : wpOpsIn F m P ops Q rest (a.put (some d) (a.eval y)) w) : wpOpsIn F m P ops Q (k :: rest) a w := by
  refine ops_val hF ho hw (fun c => ?_) (v := a.eval y) (w' := w) ?_ (by rw [hd]; exact h)
  · rcases hop with hop | hop <;> rw [hop] <;> intro h <;> cases h
  · rcases hop with hop | hop <;> simp [execOp, hop]
theorem ops_not (hF : FOK F) {t : Nat} {ty : TypeId} {b : Bool} (ho : ops[k]? = some o) (hw : Region.wanted o (yielded ops a.tmps) = true) (hop : o.op = .unOp .not ty (.tmp t)) (hd : o.dst = some d) (hv : a.tmps.getD t undef = .bool b)
    (h : wpOpsIn F m P ops Q rest (a.put (some d) (.bool (!b))) w) : wpOpsIn F m P ops Q (k :: rest) a w := by
  refine ops_val hF ho hw (fun c => by rw [hop]; intro h; cases h) (v := .bool (!b)) (w' := w) ?_ (by rw [hd]; exact h)
  have he : a.eval (.tmp t) = .bool b := hv
  simp only [execOp, hop, he]
  simp [go_sem, Op.unary]
theorem ops_pick (hF : FOK F) {c x y : Operand} {b : Bool} (ho : ops[k]? = some o) (hw : Region.wanted o (yielded ops a.tmps) = true) (hop : o.op = .pick c x y) (hd : o.dst = some d) (hv : a.eval c = .bool b)
    (h : wpOpsIn F m P ops Q rest (a.put (some d) (if b then a.eval x else a.eval y)) w) : wpOpsIn F m P ops Q (k :: rest) a w := by
  refine ops_val hF ho hw (fun c => by rw [hop]; intro h; cases h) (v := if b then a.eval x else a.eval y) (w' := w) ?_ (by rw [hd]; exact h)
  simp only [execOp, hop, hv]
  simp [go_sem]
theorem ops_call (hF : FOK F) {f : FuncId} {fn : Func} {args : Array Operand} {tt : Array TypeId} (ho : ops[k]? = some o) (hw : Region.wanted o (yielded ops a.tmps) = true) (hop : o.op = .call { callee := .value (.func f), args := args, argTypes := tt }) (hd : o.dst = some d)
    (hf : P.funcs[f]? = some fn) (hn : (fn.name == "runtime.NumGoroutine") = false) (hb : fn.body.isNone = false) {R : Ending → World → Prop} (hc : Calls P f (args.map a.eval) w R)
    (hK : ∀ e w', R e w' → ∃ v, e = .returned v ∧ wpOpsIn F m P ops Q rest (a.put (some d) v) w') : wpOpsIn F m P ops Q (k :: rest) a w := by
  simp only [wpOpsIn, ho, if_pos hw]
  have hex : (execOp a.eval o).run P w = .ok (.enter f (args.map a.eval)) w := by
    simp only [execOp, hop, resolve, Act.eval, Deferred.ofValue]
    simp [invoke, callFunc_enter hf hn hb]
  exact opIn_of_op hF (fun c => by rw [hop]; intro h; cases h) (wp_enter hex hc (by rw [hd]; exact hK))
theorem ops_none (hF : FOK F) (ho : ops[k]? = some o) (hw : Region.wanted o (yielded ops a.tmps) = true) (hdf : ∀ c, o.op ≠ Op.defer c) (hd : o.dst = none) {w' : World} (hv : (execOp a.eval o).run P w = .ok .skip w')
    (h : wpOpsIn F m P ops Q rest a w') : wpOpsIn F m P ops Q (k :: rest) a w := by
  simp only [wpOpsIn, ho, if_pos hw]
  exact opIn_of_op hF hdf (wp_skip' hv (by rw [hd]; exact h))
end
theorem getD_put {a : Act} {d t : Nat} {x : Value} (hd : d < a.tmps.size) : (a.put (some d) x).tmps.getD t undef = if d = t then x else a.tmps.getD t undef := put_get a d t x hd
theorem eval_tmp (a : Act) (t : Nat) : a.eval (.tmp t) = a.tmps.getD t undef := rfl

/-! ### The state, when the world turns elsewhere -/
theorem Rel.world {W B : Nat → Prop} {n : NK} {st : St} {a : Act} {w w' : World} {μ : Nat → Option Nat} (hR : Rel W B n st a w μ) (hs : w.heap.size ≤ w'.heap.size) (hb : ∀ g, B g → g < w.heap.size → w'.heap[g]? = w.heap[g]?) : Rel W B n st a w' μ := by
  have hok : ∀ g, okS B w.heap.size μ (lk st.hp) g → w'.heap[g]? = w.heap[g]? := fun g hg => hb g hg.1 hg.2.1
  have ho : ∀ g, okS B w.heap.size μ (lk st.hp) g → okS B w'.heap.size μ (lk st.hp) g := fun g hg => ⟨hg.1, Nat.lt_of_lt_of_le hg.2.1 hs, hg.2.2⟩
  have hown : ∀ b blk g, lk st.hp b = some (some blk) → μ b = some g → w'.heap[g]? = w.heap[g]? := fun b blk g h1 h2 => by
    obtain ⟨k1, k2, _⟩ := hR.hok.lt b blk g h1 h2
    exact hb g k1 k2
  have hH : HOK W B w' μ (lk st.hp) := by
    refine ⟨fun b blk g h1 h2 => ?_, hR.hok.apart, fun b blk h1 => ?_⟩
    · obtain ⟨k1, k2, k3⟩ := hR.hok.lt b blk g h1 h2
      exact ⟨k1, Nat.lt_of_lt_of_le k2 hs, k3⟩
    · exact BRep.mono hok (fun g hg => hown b blk g h1 hg) ho okS_lt (hR.hok.rep b blk h1)
  have hT : Tr B w μ (lk st.hp) w' μ (lk st.hp) := Tr.mk' hok ho (fun b h => h) (fun b blk' _ h => ⟨blk', h, rfl, rfl, rfl⟩) (fun b blk' g c eT fr _ h1 h2 hc => ⟨c, eT, fr, by rw [← hown b blk' g h1 h2]; exact hc, Nat.le_refl _⟩)
  exact ⟨hH, fun t tv ht => hT.tv _ _ (hR.tm t tv ht), hR.defers, hR.size, hR.ntm, hR.keep⟩

theorem Rel.put {W B : Nat → Prop} {n : NK} {st : St} {a : Act} {w : World} {μ : Nat → Option Nat} (hR : Rel W B n st a w μ) {d : Nat} (x : Value) (hd : d < n.n) (hk : d ∉ n.ks) (hn : lk st.tm d = none) : Rel W B n st (a.put (some d) x) w μ := by
  have hsz : d < a.tmps.size := hR.ntm ▸ hd
  refine ⟨hR.hok, fun t tv ht => ?_, by rw [put_defers]; exact hR.defers, fun t tv ht => by rw [put_size]; exact hR.size t tv ht, by rw [put_size]; exact hR.ntm, fun t v hv => ?_⟩
  · rw [put_get a d t x hsz, if_neg (fun e => by rw [e, ht] at hn; cases hn)]
    exact hR.tm t tv ht
  · rw [put_get a d t x hsz, if_neg (fun e => hk (by rw [e]; exact n.hks t (by rw [hv]; simp)))]
    exact hR.keep t v hv

theorem Rel.move {W B : Nat → Prop} {n : NK} {st : St} {a : Act} {w : World} {μ : Nat → Option Nat} (hR : Rel W B n st a w μ) {s d : Nat} {tv : TV} (hs : lk st.tm s = some tv) (hd : d < n.n) (hk : d ∉ n.ks) :
    Rel W B n (st.set (some d) tv []) (a.put (some d) (a.tmps.getD s undef)) w μ :=
  hR.step (fun d' e => by cases e; exact ⟨hd, hk⟩) hR.hok (Tr.refl _ _ _ _) (hR.tm s tv hs)
theorem Rel.rekeep {W B : Nat → Prop} {n n' : NK} {st : St} {a : Act} {w : World} {μ : Nat → Option Nat} (hR : Rel W B n st a w μ) (hn : n'.n = n.n) (hd : n'.df = n.df) (hk : ∀ t v, n'.kp t = some v → a.tmps.getD t undef = v) : Rel W B n' st a w μ :=
  ⟨hR.hok, hR.tm, by rw [hd]; exact hR.defers, hR.size, by rw [hn]; exact hR.ntm, hk⟩
/-- temps that are kept, by a list -/
def kpl : List (Nat × Value) → Nat → Option Value
  | [], _ => none
  | (t, v) :: l, x => if t = x then some v else kpl l x
theorem kpl_mem : ∀ {l : List (Nat × Value)} {t : Nat}, kpl l t ≠ none → t ∈ l.map Prod.fst
  | [], t, h => absurd rfl h
  | (t', v) :: l, t, h => by
    simp only [kpl] at h
    split at h
    · rename_i he; simp [he]
    · rw [List.map_cons]; exact List.mem_cons_of_mem _ (kpl_mem h)
def NKl (n : Nat) (l : List (Nat × Value)) (df : List Deferred) : NK := ⟨n, l.map Prod.fst, kpl l, fun _ => kpl_mem, df⟩
theorem NKl_kp {n : Nat} {l : List (Nat × Value)} {df : List Deferred} {a : Act} (h : ∀ x ∈ l, a.tmps.getD x.1 undef = x.2) : ∀ t v, (NKl n l df).kp t = some v → a.tmps.getD t undef = v := by
  show ∀ t v, kpl l t = some v → a.tmps.getD t undef = v
  induction l with
  | nil => intro t v hv; cases hv
  | cons x l ih =>
    intro t v hv
    simp only [kpl] at hv
    split at hv
    · rename_i he; injection hv with hv; subst hv; subst he; exact h x List.mem_cons_self
    · exact ih (fun y hy => h y (List.mem_cons_of_mem _ hy)) t v hv

/-! ### A piece of code without loops -/
def nC : Nat → Option Live := fun _ => none
def nT {ρ : Type} : Nat → KT ρ := fun _ _ => none
theorem keys_nC : ∀ c : Code, keys nC c = []
  | .seq a b => by simp [keys, one?, isCut, nC, keys_nC a, keys_nC b]
  | .cond _ x y => by simp [keys, keys_nC x, keys_nC y]
  | .block id c => by simp [keys, one?, isCut, nC, keys_nC c]
  | .loop c => by simp [keys, one?, isCut, nC, keys_nC c]
  | .scope c => by simp [keys, keys_nC c]
  | .label l => by simp [keys, one?, isCut, nC]
  | .skip | .region _ _ _ | .exit _ | .ret | .goto _ | .rangeFunc _ _ _ _ | .refuse _ => rfl

/-- both ways out, the state behind each -/
abbrev BS := Bool × St
def kL (L : Live) (b : Bool) : KT BS := fun st => cutE L st fun st' => some (b, st')

theorem kL_ok {n : NK} {W B : Nat → Prop} {w₀ : World} {L : Live} {b : Bool} {r : BS} {Q : Act → World → Prop}
    (h : r.1 = b → ∀ a w μ, Rel W B n r.2 a w μ → (∀ g, w.heap.size ≤ g → W g ∧ B g) → Fr W w₀ w → Q a w) : KOK n W B w₀ (kL L b) r Q :=
  KOK.cut fun st a w μ hk hR hWB hFr => by
    injection hk with hk
    subst hk
    exact h rfl a w μ hR hWB hFr

theorem seg_wp {P : Program} {E : Env} (hE : EnvOK P E) (hm : P.follows .mixedOrders = true) {n : NK} {W B : Nat → Prop} {w₀ w : World} {c : Code} {LR LK : Live} {st : St} {r : BS} {a : Act} {μ : Nat → Option Nat} {Q : Exit → Act → World → Prop}
    (hc : codeOK n.n n.ks c = true) (h : evA E nC nT c noX (kL LR false) (kL LK true) st = some r) (hR : Rel W B n st a w μ) (hWB : ∀ g, w.heap.size ≤ g → W g ∧ B g) (hFr : Fr W w₀ w)
    (hret : r.1 = false → ∀ a w μ, Rel W B n r.2 a w μ → (∀ g, w.heap.size ≤ g → W g ∧ B g) → Fr W w₀ w → Q .ret a w)
    (hnor : r.1 = true → ∀ a w μ, Rel W B n r.2 a w μ → (∀ g, w.heap.size ≤ g → W g ∧ B g) → Fr W w₀ w → Q .normal a w) : c.wp P Q a w := by
  refine evA_sound hE hm (T := fun _ => nT) (C := nC) (fun i st => rfl) c hc (by rw [keys_nC]; exact List.nodup_nil) 0 (fun _ => noX) (kL LR false) (fun _ => kL LK true) Q (fun m hm' i st a w μ h => by cases h)
    (kL_ok hret) (fun m hm' => kL_ok hnor) (fun i m f hf => ?_) 0 (Nat.le_refl _) st a w μ h hR hWB hFr
  have := entry_keys _ _ _ _ _ hf
  rw [keys_nC] at this
  cases this
end Go.W

set_option linter.unusedVariables false
namespace Go.W
open Go.Proofs
noncomputable section
abbrev IT : Ty := .pair .bool (.slice (.int .u32))
abbrev PT : Ty := .slice IT
noncomputable abbrev E_Gc : Env := mkE tys [(19, callE [PT] [(.int .i64, false)] (fun τ => F_unipoly_Degree τ.1)), (55, callE [PT] [(PT, true)] (fun τ => F_unipoly_Normal τ.1)), (18, callE [.int .i64] [(IT, false)] (fun τ => F_integer_Of τ.1)),
  (91, callE [IT, .int .i64] [(IT, false)] (fun τ => F_unidiv_power τ.1 τ.2.1)), (92, callE [PT, PT] [(PT, false), (PT, false), (.int .i64, false)] (fun τ => F_unidiv_Pseudo τ.1 τ.2.1)), (73, callE [PT] [(.bool, false)] (fun τ => F_unidiv_zero τ.1)),
  (75, callE [PT, IT] [(PT, false)] (fun τ => F_unidiv_divided τ.1 τ.2.1)), (57, callE [PT] [(IT, false)] (fun τ => F_unipoly_Lead τ.1)), (39, callE [IT] [(IT, false)] (fun τ => F_integer_Neg τ.1)), (66, callE [IT, IT] [(IT, false), (.int .i64, false)] (fun τ => F_division_Exact τ.1 τ.2.1)),
  (30, callE [IT, IT] [(IT, false)] (fun τ => F_integer_Mul τ.1 τ.2.1)), (78, callE [PT, IT] [(PT, false)] (fun τ => F_unipoly_Scale τ.1 τ.2.1)), (50, callE [PT] [(PT, false)] (fun τ => F_unidiv_Primitive τ.1)), (74, callE [PT] [(IT, false)] (fun τ => F_unidiv_Content τ.1)),
  (65, callE [IT, IT] [(IT, false)] (fun τ => F_division_Gcd τ.1 τ.2.1))] []
theorem ok_Gc : EnvOK Try.prog E_Gc := mkE_ok tys_ok ⟨⟨fs_unipoly_Degree.csound, ⟨Try.f19, by kernel_rfl, by kernel_rfl, by kernel_rfl⟩⟩, ⟨fs_unipoly_Normal.csound, ⟨Try.f55, by kernel_rfl, by kernel_rfl, by kernel_rfl⟩⟩, ⟨fs_integer_Of.csound, ⟨Try.f18, by kernel_rfl, by kernel_rfl, by kernel_rfl⟩⟩,
  ⟨fs_unidiv_power.csound, ⟨Try.f91, by kernel_rfl, by kernel_rfl, by kernel_rfl⟩⟩, ⟨fs_unidiv_Pseudo.csound, ⟨Try.f92, by kernel_rfl, by kernel_rfl, by kernel_rfl⟩⟩, ⟨fs_unidiv_zero.csound, ⟨Try.f73, by kernel_rfl, by kernel_rfl, by kernel_rfl⟩⟩,
  ⟨fs_unidiv_divided.csound, ⟨Try.f75, by kernel_rfl, by kernel_rfl, by kernel_rfl⟩⟩, ⟨fs_unipoly_Lead.csound, ⟨Try.f57, by kernel_rfl, by kernel_rfl, by kernel_rfl⟩⟩, ⟨fs_integer_Neg.csound, ⟨Try.f39, by kernel_rfl, by kernel_rfl, by kernel_rfl⟩⟩, ⟨fs_division_Exact.csound, ⟨Try.f66, by kernel_rfl, by kernel_rfl, by kernel_rfl⟩⟩,
  ⟨fs_integer_Mul.csound, ⟨Try.f30, by kernel_rfl, by kernel_rfl, by kernel_rfl⟩⟩, ⟨fs_unipoly_Scale.csound, ⟨Try.f78, by kernel_rfl, by kernel_rfl, by kernel_rfl⟩⟩, ⟨fs_unidiv_Primitive.csound, ⟨Try.f50, by kernel_rfl, by kernel_rfl, by kernel_rfl⟩⟩, ⟨fs_unidiv_Content.csound, ⟨Try.f74, by kernel_rfl, by kernel_rfl, by kernel_rfl⟩⟩,
  ⟨fs_division_Gcd.csound, ⟨Try.f65, by kernel_rfl, by kernel_rfl, by kernel_rfl⟩⟩, trivial⟩ trivial

/-! the pieces of the code -/
def sL : Code → Code
  | .seq a _ => a
  | c => c
def sR : Code → Code
  | .seq _ b => b
  | c => c
def inB : Code → Code
  | .block _ c => c
  | .loop c => c
  | c => c
noncomputable abbrev k0 : Code := sL (bodyOf Try.f90)
noncomputable abbrev k1 : Code := sL (sR (bodyOf Try.f90))
noncomputable abbrev k2 : Code := sL (sR (sR (bodyOf Try.f90)))
noncomputable abbrev k3 : Code := sL (sR (sR (sR (bodyOf Try.f90))))
noncomputable abbrev kB : Code := inB (inB (inB (sR (sR (sR (sR (bodyOf Try.f90)))))))
noncomputable abbrev k4 : Code := sL kB
noncomputable abbrev k5 : Code := sL (sR kB)
noncomputable abbrev k6 : Code := sL (sR (sR kB))
noncomputable abbrev k7 : Code := sL (sR (sR (sR kB)))
noncomputable abbrev k8 : Code := sL (sR (sR (sR (sR kB))))
noncomputable abbrev k9 : Code := sL (sR (sR (sR (sR (sR kB)))))
noncomputable abbrev k11 : Code := sL (sR (sR (sR (sR (sR (sR kB))))))
noncomputable abbrev k12 : Code := sL (sR (sR (sR (sR (sR (sR (sR kB)))))))
noncomputable abbrev k13 : Code := sR (sR (sR (sR (sR (sR (sR (sR kB)))))))
theorem body90 : bodyOf Try.f90 = .seq k0 (.seq k1 (.seq k2 (.seq k3 (.block 0 (.loop (.block 1 (.seq k4 (.seq k5 (.seq k6 (.seq k7 (.seq k8 (.seq k9 (.seq k11 (.seq k12 k13))))))))))))))  := by kernel_rfl

/-! the states -/
noncomputable abbrev cn4 (x4 x5 : NP) : St := ⟨[(5, .one (.val PT x5)), (4, .one (.val PT x4))], []⟩
noncomputable abbrev cn6 (x4 x5 : NP) (x6 : Int) : St := ⟨[(6, .one (.val (.int .i64) x6)), (5, .one (.val PT x5)), (4, .one (.val PT x4))], []⟩
noncomputable abbrev cnL (x4 x5 : NP) (x6 : Int) (s b : Bool × List Int) : St := ⟨[(8, .one (.ptr 10001 0 [])), (7, .one (.ptr 10000 0 [])), (6, .one (.val (.int .i64) x6)), (5, .one (.val PT x5)), (4, .one (.val PT x4))], [(10001, some ⟨IT, [b], false⟩), (10000, some ⟨IT, [s], false⟩)]⟩
noncomputable abbrev cnM (x4 x5 x10 : NP) (x6 : Int) (s b : Bool × List Int) : St := ⟨[(8, .one (.ptr 10001 0 [])), (7, .one (.ptr 10000 0 [])), (10, .one (.val PT x10)), (6, .one (.val (.int .i64) x6)), (5, .one (.val PT x5)), (4, .one (.val PT x4))], [(10001, some ⟨IT, [b], false⟩), (10000, some ⟨IT, [s], false⟩)]⟩
noncomputable abbrev cn5 (x5 : NP) : St := ⟨[(5, .one (.val PT x5))], []⟩
noncomputable abbrev cnC (x5 x12 : NP) (x6 : Int) (s b : Bool × List Int) : St := ⟨[(8, .one (.ptr 10001 0 [])), (7, .one (.ptr 10000 0 [])), (12, .one (.val PT x12)), (6, .one (.val (.int .i64) x6)), (5, .one (.val PT x5))], [(10001, some ⟨IT, [b], false⟩), (10000, some ⟨IT, [s], false⟩)]⟩
noncomputable abbrev cnD (x5 x12 : NP) (x6 : Int) (s b l : Bool × List Int) : St := ⟨[(13, .one (.ptr 10002 0 [])), (8, .one (.ptr 10001 0 [])), (7, .one (.ptr 10000 0 [])), (12, .one (.val PT x12)), (6, .one (.val (.int .i64) x6)), (5, .one (.val PT x5))], [(10002, some ⟨IT, [l], false⟩), (10001, some ⟨IT, [b], false⟩), (10000, some ⟨IT, [s], false⟩)]⟩
noncomputable abbrev cnE (x4 x5 : NP) (s b l : Bool × List Int) : St := ⟨[(13, .one (.ptr 10002 0 [])), (8, .one (.ptr 10001 0 [])), (7, .one (.ptr 10000 0 [])), (5, .one (.val PT x5)), (4, .one (.val PT x4))], [(10002, some ⟨IT, [l], false⟩), (10001, some ⟨IT, [b], false⟩), (10000, some ⟨IT, [s], false⟩)]⟩
noncomputable abbrev cnF (x4 x5 : NP) (x6 : Int) (s b l : Bool × List Int) : St := ⟨[(13, .one (.ptr 10002 0 [])), (8, .one (.ptr 10001 0 [])), (7, .one (.ptr 10000 0 [])), (6, .one (.val (.int .i64) x6)), (5, .one (.val PT x5)), (4, .one (.val PT x4))], [(10002, some ⟨IT, [l], false⟩), (10001, some ⟨IT, [b], false⟩), (10000, some ⟨IT, [s], false⟩)]⟩
def L4 : Live := ⟨[(4, PT), (5, PT)], [], []⟩
def L6 : Live := ⟨[(4, PT), (5, PT), (6, .int .i64)], [], []⟩
def LL : Live := ⟨[(4, PT), (5, PT), (6, .int .i64)], [(true, 7, IT), (true, 8, IT)], []⟩
def LM : Live := ⟨[(4, PT), (5, PT), (6, .int .i64), (10, PT)], [(true, 7, IT), (true, 8, IT)], []⟩
def L5 : Live := ⟨[(5, PT)], [], []⟩
def LC : Live := ⟨[(5, PT), (6, .int .i64), (12, PT)], [(true, 7, IT), (true, 8, IT)], []⟩
def LD : Live := ⟨[(5, PT), (6, .int .i64), (12, PT)], [(true, 7, IT), (true, 8, IT), (true, 13, IT)], []⟩
def LE : Live := ⟨[(4, PT), (5, PT)], [(true, 7, IT), (true, 8, IT), (true, 13, IT)], []⟩
def LF : Live := ⟨[(4, PT), (5, PT), (6, .int .i64)], [(true, 7, IT), (true, 8, IT), (true, 13, IT)], []⟩
noncomputable abbrev st90 (f g : NP) : St := ⟨[(1, .one (.eptr PT f)), (2, .one (.eptr PT g))], []⟩

theorem g0 (f g : NP) : evA E_Gc nC nT k0 noX (kL L5 false) (kL L4 true) (st90 f g) = (F_unipoly_Normal f).bind fun r1 => (F_unipoly_Normal g).bind fun r2 => some (true, cn4 r1 r2) := by kernel_rfl
theorem g2 (x4 x5 : NP) : evA E_Gc nC nT k2 noX (kL L5 false) (kL L6 true) (cn4 x4 x5) = (F_unipoly_Degree x4).bind fun r1 => (F_unipoly_Degree x5).bind fun r2 => some (true, cn6 x4 x5 (IntKind.wrap .i64 (r1 - r2))) := by kernel_rfl
theorem g3 (x4 x5 : NP) (x6 : Int) : evA E_Gc nC nT k3 noX (kL L5 false) (kL LL true) (cn6 x4 x5 x6) = (F_integer_Of (-1)).bind fun r1 => (F_integer_Of (-1)).bind fun r2 => (F_unidiv_power r2 (IntKind.wrap .i64 (x6 + 1))).bind fun r3 => some (true, cnL x4 x5 x6 r1 r3) := by kernel_rfl
theorem g4 (x4 x5 : NP) (x6 : Int) (s b : Bool × List Int) : evA E_Gc nC nT k4 noX (kL L5 false) (kL LM true) (cnL x4 x5 x6 s b) = (F_unidiv_Pseudo x4 x5).bind fun r1 => some (true, cnM x4 x5 r1.2.1 x6 s b) := by kernel_rfl
theorem g5 (x4 x5 x10 : NP) (x6 : Int) (s b : Bool × List Int) : evA E_Gc nC nT k5 noX (kL L5 false) (kL LM true) (cnM x4 x5 x10 x6 s b) = (F_unidiv_zero x10).bind fun r1 => if r1 = true then some (false, cn5 x5) else some (true, cnM x4 x5 x10 x6 s b) := by kernel_rfl
theorem g6 (x4 x5 x10 : NP) (x6 : Int) (s b : Bool × List Int) : evA E_Gc nC nT k6 noX (kL L5 false) (kL LC true) (cnM x4 x5 x10 x6 s b) = (F_unidiv_divided x10 b).bind fun r1 => some (true, cnC x5 r1 x6 s b) := by kernel_rfl
theorem g8 (x5 x12 : NP) (x6 : Int) (s b : Bool × List Int) : evA E_Gc nC nT k8 noX (kL L5 false) (kL LD true) (cnC x5 x12 x6 s b) = (F_unipoly_Lead x5).bind fun r1 => (F_integer_Neg r1).bind fun r2 => some (true, cnD x5 x12 x6 s b r2) := by kernel_rfl
theorem g9 (x5 x12 : NP) (x6 : Int) (s b l : Bool × List Int) : evA E_Gc nC nT k9 noX (kL L5 false) (kL LD true) (cnD x5 x12 x6 s b l) = if (decide (x6 > 0)) = true then (F_unidiv_power l x6).bind fun r1 => (F_unidiv_power s (IntKind.wrap .i64 (x6 - 1))).bind fun r2 => (F_division_Exact r1 r2).bind fun r3 => some (true, cnD x5 x12 x6 r3.1 b l) else some (true, cnD x5 x12 x6 s b l) := by kernel_rfl
theorem g12 (x4 x5 : NP) (s b l : Bool × List Int) : evA E_Gc nC nT k12 noX (kL L5 false) (kL LF true) (cnE x4 x5 s b l) = (F_unipoly_Degree x4).bind fun r1 => (F_unipoly_Degree x5).bind fun r2 => some (true, cnF x4 x5 (IntKind.wrap .i64 (r1 - r2)) s b l) := by kernel_rfl
theorem g13 (x4 x5 : NP) (x6 : Int) (s b l : Bool × List Int) : evA E_Gc nC nT k13 noX (kL L5 false) (kL LL true) (cnF x4 x5 x6 s b l) = (F_unidiv_power s x6).bind fun r1 => (F_integer_Mul l r1).bind fun r2 => some (true, cnL x4 x5 x6 s r2) := by kernel_rfl
end
end Go.W

set_option linter.unusedVariables false
set_option linter.unusedSimpArgs false
namespace Go.W
open Go Go.Proofs
noncomputable section

/-! ### worlds -/
theorem Fr.back {Bl L : Nat} {w w' : World} (h : Fr (fun g => g = Bl ∨ g = L) w w') (hL : w'.heap[L]? = w.heap[L]?) : Fr (fun g => g = Bl) w w' :=
  ⟨h.os, h.tape, h.output, h.size, fun g hg hn => by
    by_cases he : g = L
    · rw [he]; exact hL
    · exact h.block g hg (fun x => x.elim hn he), h.room⟩

/-- the first cell of a row -/
def BoxO (o : Option Obj) (eT : TypeId) (x : Value) : Prop := ∃ c, o = some (.cells c eT (0, 0)) ∧ c[0]? = some x
/-- what a round says: rd: the record when the loop has been left -/
def YR (Bl L : Nat) (eT : TypeId) (rd : Loop) (d : Int) (x : Value) (W : World) (e : Ending) (W' : World) : Prop :=
  e = .returned (.bool (decide (d ≠ 0))) ∧ BoxO W'.heap[Bl]? eT (x) ∧ (d = 0 → Fr (fun g => g = Bl ∨ g = L) W W' ∧ W'.heap[L]? = some (.loop rd)) ∧ (d ≠ 0 → Fr (fun g => g = Bl) W W')

/-- the iterator's surroundings: Bl: the box of the last element; L: the loop's record; okA: where the arguments lie -/
structure YC (W1 : World) (Bl L : Nat) (eT : TypeId) (rd : Loop) (okA : Nat → Prop) : Prop where
  hA : ∀ g, okA g → g < W1.heap.size ∧ g ≠ Bl ∧ g ≠ L
  bl : Bl < W1.heap.size
  l : L < W1.heap.size
  ne : Bl ≠ L
  box : ∃ x, BoxO W1.heap[Bl]? eT (x)
  y : ∀ (W : World) (p : NP) (x : Value) (d : Int) (n : Nat), Fr (fun g => g = Bl ∨ W1.heap.size ≤ g) W1 W → (∃ x0, BoxO W.heap[Bl]? eT (x0)) →
    RepV W (fun g => (okA g ∨ W1.heap.size ≤ g) ∧ g < W.heap.size) PT p x → F_unipoly_Degree p = some d → YieldAt Fence.wide n Try.prog L #[x] W (YR Bl L eT rd d x W)

/-- what is left behind -/
def IPost (W1 : World) (Bl L : Nat) (eT : TypeId) (rd : Loop) (okA : Nat → Prop) (r : NP) (W' : World) : Prop :=
  ∃ x, RepV W' (fun g => (okA g ∨ W1.heap.size ≤ g) ∧ g < W'.heap.size) PT r x ∧ BoxO W'.heap[Bl]? eT (x) ∧
    (Fr (fun g => g = Bl) W1 W' ∨ (Fr (fun g => g = Bl ∨ g = L) W1 W' ∧ W'.heap[L]? = some (.loop rd)))

section
variable {W1 : World} {Bl L : Nat} {eT : TypeId} {rd : Loop} {okA : Nat → Prop} (hC : YC W1 Bl L eT rd okA)

/-- blocks that may be written; blocks that values lie in -/
noncomputable abbrev Wr (W1 : World) : Nat → Prop := fun g => W1.heap.size ≤ g
noncomputable abbrev Br (W1 : World) (okA : Nat → Prop) : Nat → Prop := fun g => okA g ∨ W1.heap.size ≤ g

/-- between two pieces -/
structure At (W1 : World) (Bl : Nat) (eT : TypeId) (okA : Nat → Prop) (N : NK) (st : St) (a : Act) (w : World) (μ : Nat → Option Nat) : Prop where
  rel : Rel (Wr W1) (Br W1 okA) N st a w μ
  fr : Fr (fun g => g = Bl ∨ W1.heap.size ≤ g) W1 w
  box : ∃ x, BoxO w.heap[Bl]? eT (x)

include hC
theorem At.seg {N : NK} {st : St} {a : Act} {w : World} {μ : Nat → Option Nat} (h : At W1 Bl eT okA N st a w μ) {c : Code} {LR LK : Live} {r : BS} {Q : Exit → Act → World → Prop} (hc : codeOK N.n N.ks c = true) (he : evA E_Gc nC nT c noX (kL LR false) (kL LK true) st = some r)
    (hret : r.1 = false → ∀ a' w' μ', At W1 Bl eT okA N r.2 a' w' μ' → w'.heap[Bl]? = w.heap[Bl]? → Q .ret a' w') (hnor : r.1 = true → ∀ a' w' μ', At W1 Bl eT okA N r.2 a' w' μ' → w'.heap[Bl]? = w.heap[Bl]? → Q .normal a' w') : c.wp Try.prog Q a w := by
  have hb : Bl < w.heap.size := Nat.lt_of_lt_of_le hC.bl h.fr.size
  have mk : ∀ a' w' μ', Rel (Wr W1) (Br W1 okA) N r.2 a' w' μ' → Fr (Wr W1) w w' → At W1 Bl eT okA N r.2 a' w' μ' ∧ w'.heap[Bl]? = w.heap[Bl]? := fun a' w' μ' hR hFr => by
    have e : w'.heap[Bl]? = w.heap[Bl]? := hFr.block Bl hb (fun hx => absurd hC.bl (Nat.not_lt.2 hx))
    exact ⟨⟨hR, h.fr.trans (hFr.mono fun g _ hg => .inr hg), by rw [e]; exact h.box⟩, e⟩
  exact seg_wp ok_Gc mixed_ok hc he h.rel (fun g hg => ⟨Nat.le_trans h.fr.size hg, .inr (Nat.le_trans h.fr.size hg)⟩) (.refl _ _)
    (fun hb a' w' μ' hR _ hFr => let ⟨x, y⟩ := mk a' w' μ' hR hFr; hret hb a' w' μ' x y) (fun hb a' w' μ' hR _ hFr => let ⟨x, y⟩ := mk a' w' μ' hR hFr; hnor hb a' w' μ' x y)

/-- a value in a temp lives on when the world turns elsewhere -/
theorem At.turn {N : NK} {st : St} {a : Act} {w w' : World} {μ : Nat → Option Nat} (h : At W1 Bl eT okA N st a w μ) {S : Nat → Prop} (hS : ∀ g, S g → g = Bl ∨ g = L) (hf : Fr S w w') : Rel (Wr W1) (Br W1 okA) N st a w' μ :=
  h.rel.world hf.size fun g hg hlt => hf.block g hlt fun hs => by
    rcases hg with hg | hg
    · obtain ⟨_, h1, h2⟩ := hC.hA g hg; rcases hS g hs with e | e
      · exact h1 e
      · exact h2 e
    · have h1 := hC.bl; have h2 := hC.l
      rcases hS g hs with e | e
      · rw [e] at hg; omega
      · rw [e] at hg; omega
omit hC in
theorem At.val {N : NK} {st : St} {a : Act} {w : World} {μ : Nat → Option Nat} (h : Rel (Wr W1) (Br W1 okA) N st a w μ) {t : Nat} {ty : Ty} {v : ty.D} (ht : lk st.tm t = some (.one (.val ty v))) : RepV w (fun g => Br W1 okA g ∧ g < w.heap.size) ty v (a.tmps.getD t undef) :=
  RepV.mono (fun _ _ _ => rfl) (fun g hg _ => ⟨hg.1, hg.2.1⟩) okS_lt (h.tm t _ ht)

/-! ### the regions with a call of yield -/
def regOps : Code → Array Oper
  | .region _ ops _ => ops
  | _ => #[]
noncomputable abbrev o7 : Array Oper := regOps (sL k7)
omit hC in
theorem k7_eq : k7 = .seq (.region 7 o7 false) (.cond (.tmp 53) .ret .skip) := by kernel_rfl
noncomputable abbrev o1 : Array Oper := regOps (sL k1)
omit hC in
theorem k1_eq : k1 = .seq (.region 1 o1 false) (.cond (.tmp 27) .ret .skip) := by kernel_rfl
include hC

theorem y7 {N : NK} {x5 x12 : NP} {x6 : Int} {s b : Bool × List Int} {a : Act} {w : World} {μ : Nat → Option Nat} (h : At W1 Bl eT okA N (cnC x5 x12 x6 s b) a w μ) (hN : N.n = 82) (hks : ∀ d ∈ [50, 51, 52, 53], d ∉ N.ks)
    (h0 : a.tmps.getD 0 undef = .func (.yield L) #[] #[]) {d : Int} (hd : F_unipoly_Degree x12 = some d) {Q : Exit → Act → World → Prop}
    (hret : d = 0 → ∀ a' w', a'.defers = N.df → IPost W1 Bl L eT rd okA x12 w' → Q .ret a' w')
    (hnor : d ≠ 0 → ∀ a' w', At W1 Bl eT okA N (cnC x5 x12 x6 s b) a' w' μ → a'.tmps.getD 12 undef = a.tmps.getD 12 undef → a'.tmps.getD 0 undef = .func (.yield L) #[] #[] → BoxO w'.heap[Bl]? eT (a.tmps.getD 12 undef) → Q .normal a' w') :
    k7.wp Try.prog Q a w := by
  have hsz : a.tmps.size = 82 := by rw [← h.rel.ntm, hN]
  rw [k7_eq]
  refine (wpIn_wide (n := 1)).1 (wpIn_seq (wpIn_region ?_))
  refine ops_mv .wide (o := opAt o7 0) (d := 50) (y := .tmp 0) (by kernel_rfl) (wanted_none (by kernel_rfl) _) (.inl (by kernel_rfl)) (by kernel_rfl) ?_
  refine ops_mv .wide (o := opAt o7 1) (d := 51) (y := .tmp 12) (by kernel_rfl) (wanted_none (by kernel_rfl) _) (.inl (by kernel_rfl)) (by kernel_rfl) ?_
  rw [eval_tmp, eval_tmp, getD_put (by omega), if_neg (by decide), h0]
  have hv := At.val h.rel (t := 12) (ty := PT) (v := x12) (by kernel_rfl)
  refine ops_yield (o := opAt o7 2) (t := 50) (u := 51) (tt := #[28]) (L := L) (by kernel_rfl) (wanted_none (by kernel_rfl) _) (by kernel_rfl) ?_ (R := YR Bl L eT rd d (a.tmps.getD 12 undef) w) ?_ ?_
  · rw [getD_put (by rw [put_size]; omega), if_neg (by decide), getD_put (by omega), if_pos rfl]
  · rw [getD_put (by rw [put_size]; omega), if_pos rfl]
    exact hC.y w x12 _ d _ h.fr h.box hv hd
  rintro e w' ⟨rfl, hbox, hz, hnz⟩
  refine ⟨_, rfl, ?_⟩
  rw [show (opAt o7 2).dst = some 52 by kernel_rfl]
  refine ops_not .wide (ty := 4) (o := opAt o7 3) (d := 53) (t := 52) (by kernel_rfl) (wanted_none (by kernel_rfl) _) (by kernel_rfl) (by kernel_rfl) (by rw [getD_put (by rw [put_size, put_size]; omega), if_pos rfl]) ?_
  generalize hx : ((((a.put (some 50) (.func (.yield L) #[] #[])).put (some 51) (a.tmps.getD 12 undef)).put (some 52) (.bool (decide (d ≠ 0)))).put (some 53) (.bool (!decide (d ≠ 0)))) = a'
  have g : ∀ t, t ≠ 50 → t ≠ 51 → t ≠ 52 → t ≠ 53 → a'.tmps.getD t undef = a.tmps.getD t undef := fun t h1 h2 h3 h4 => by
    rw [← hx, getD_put (by rw [put_size, put_size, put_size]; omega), if_neg (Ne.symm h4), getD_put (by rw [put_size, put_size]; omega), if_neg (Ne.symm h3), getD_put (by rw [put_size]; omega), if_neg (Ne.symm h2), getD_put (by omega), if_neg (Ne.symm h1)]
  have g53 : a'.tmps.getD 53 undef = .bool (!decide (d ≠ 0)) := by rw [← hx, getD_put (by rw [put_size, put_size, put_size]; omega), if_pos rfl]
  have hdef : a'.defers = N.df := by rw [← hx, put_defers, put_defers, put_defers, put_defers]; exact h.rel.defers
  have hrel : ∀ w2, Rel (Wr W1) (Br W1 okA) N (cnC x5 x12 x6 s b) a w2 μ → Rel (Wr W1) (Br W1 okA) N (cnC x5 x12 x6 s b) a' w2 μ := fun w2 hR => by
    rw [← hx]
    refine Rel.put (Rel.put (Rel.put (Rel.put hR _ (by omega) (hks _ (by simp)) (by kernel_rfl)) _ (by omega) (hks _ (by simp)) (by kernel_rfl)) _ (by omega) (hks _ (by simp)) (by kernel_rfl)) _ (by omega) (hks _ (by simp)) (by kernel_rfl)
  by_cases hd0 : d = 0
  · have hR := hrel w' (At.turn hC h (fun g hg => hg) (hz hd0).1)
    refine wpIn_cond_true (by rw [eval_tmp, g53]; simp [hd0]) (wpIn_ret (hret hd0 a' w' hdef ⟨a.tmps.getD 12 undef, ?_, hbox, .inr ⟨?_, (hz hd0).2⟩⟩))
    · have := At.val hR (t := 12) (ty := PT) (v := x12) (by kernel_rfl)
      rw [g 12 (by decide) (by decide) (by decide) (by decide)] at this
      exact this
    · exact (h.fr.mono (W' := fun g => g = Bl ∨ g = L) fun g hg hw => hw.elim .inl fun h => absurd hg (Nat.not_lt.2 h)).trans (hz hd0).1
  · have hR := hrel w' (At.turn hC h (fun g hg => .inl hg) (hnz hd0))
    refine wpIn_cond_false (by rw [eval_tmp, g53]; simp [hd0]) (wpIn_skip (hnor hd0 a' w' ⟨hR, h.fr.trans ((hnz hd0).mono fun g _ hg => .inl hg), _, hbox⟩ (g 12 (by decide) (by decide) (by decide) (by decide)) (by rw [g 0 (by decide) (by decide) (by decide) (by decide), h0]) hbox))

theorem y1 {N : NK} {x4 x5 : NP} {a : Act} {w : World} {μ : Nat → Option Nat} (h : At W1 Bl eT okA N (cn4 x4 x5) a w μ) (hN : N.n = 82) (hks : ∀ d ∈ [18, 19, 20, 21, 22, 23, 24, 25, 26, 27], d ∉ N.ks)
    (h0 : a.tmps.getD 0 undef = .func (.yield L) #[] #[]) {d : Int} (hd : F_unipoly_Degree x4 = some d) {Q : Exit → Act → World → Prop}
    (hret : d = 0 → ∀ a' w', a'.defers = N.df → IPost W1 Bl L eT rd okA x4 w' → Q .ret a' w')
    (hgo : d ≠ 0 → ∃ d5, F_unipoly_Degree x5 = some d5 ∧ (d5 = 0 → ∀ a' w', a'.defers = N.df → IPost W1 Bl L eT rd okA x5 w' → Q .ret a' w') ∧
      (d5 ≠ 0 → ∀ a' w', At W1 Bl eT okA N (cn4 x4 x5) a' w' μ → a'.tmps.getD 5 undef = a.tmps.getD 5 undef → a'.tmps.getD 0 undef = .func (.yield L) #[] #[] → BoxO w'.heap[Bl]? eT (a.tmps.getD 5 undef) → Q .normal a' w')) :
    k1.wp Try.prog Q a w := by
  have hsz : a.tmps.size = 82 := by rw [← h.rel.ntm, hN]
  rw [k1_eq]
  refine (wpIn_wide (n := 1)).1 (wpIn_seq (wpIn_region ?_))
  refine ops_mv .wide (o := opAt o1 0) (d := 18) (y := .tmp 0) (by kernel_rfl) (wanted_none (by kernel_rfl) _) (.inl (by kernel_rfl)) (by kernel_rfl) ?_
  refine ops_mv .wide (o := opAt o1 1) (d := 19) (y := .tmp 4) (by kernel_rfl) (wanted_none (by kernel_rfl) _) (.inl (by kernel_rfl)) (by kernel_rfl) ?_
  rw [eval_tmp, eval_tmp, getD_put (by omega), if_neg (by decide), h0]
  have hv := At.val h.rel (t := 4) (ty := PT) (v := x4) (by kernel_rfl)
  refine ops_yield (o := opAt o1 2) (t := 18) (u := 19) (tt := #[28]) (L := L) (by kernel_rfl) (wanted_none (by kernel_rfl) _) (by kernel_rfl) ?_ (R := YR Bl L eT rd d (a.tmps.getD 4 undef) w) ?_ ?_
  · rw [getD_put (by rw [put_size]; omega), if_neg (by decide), getD_put (by omega), if_pos rfl]
  · rw [getD_put (by rw [put_size]; omega), if_pos rfl]
    exact hC.y w x4 _ d _ h.fr h.box hv hd
  rintro e w' ⟨rfl, hbox, hz, hnz⟩
  refine ⟨_, rfl, ?_⟩
  rw [show (opAt o1 2).dst = some 20 by kernel_rfl]
  refine ops_not .wide (ty := 4) (o := opAt o1 3) (d := 21) (t := 20) (by kernel_rfl) (wanted_none (by kernel_rfl) _) (by kernel_rfl) (by kernel_rfl) (by rw [getD_put (by rw [put_size, put_size]; omega), if_pos rfl]) ?_
  refine ops_mv .wide (o := opAt o1 4) (d := 22) (y := .tmp 21) (by kernel_rfl) (wanted_none (by kernel_rfl) _) (.inl (by kernel_rfl)) (by kernel_rfl) ?_
  rw [eval_tmp, getD_put (by rw [put_size, put_size, put_size]; omega), if_pos rfl]
  generalize hx : (((((a.put (some 18) (.func (.yield L) #[] #[])).put (some 19) (a.tmps.getD 4 undef)).put (some 20) (.bool (decide (d ≠ 0)))).put (some 21) (.bool (!decide (d ≠ 0)))).put (some 22) (.bool (!decide (d ≠ 0)))) = a'
  have hsz' : a'.tmps.size = 82 := by rw [← hx, put_size, put_size, put_size, put_size, put_size]; exact hsz
  have g : ∀ t, t < 18 → a'.tmps.getD t undef = a.tmps.getD t undef := fun t ht => by
    rw [← hx, getD_put (by simp only [put_size]; omega), if_neg (by omega), getD_put (by simp only [put_size]; omega), if_neg (by omega), getD_put (by simp only [put_size]; omega), if_neg (by omega), getD_put (by simp only [put_size]; omega), if_neg (by omega), getD_put (by omega), if_neg (by omega)]
  have g22 : a'.tmps.getD 22 undef = .bool (!decide (d ≠ 0)) := by rw [← hx, getD_put (by simp only [put_size]; omega), if_pos rfl]
  have hdef : a'.defers = N.df := by rw [← hx]; simp only [put_defers]; exact h.rel.defers
  have hrel : ∀ w2, Rel (Wr W1) (Br W1 okA) N (cn4 x4 x5) a w2 μ → Rel (Wr W1) (Br W1 okA) N (cn4 x4 x5) a' w2 μ := fun w2 hR => by
    rw [← hx]
    refine Rel.put (Rel.put (Rel.put (Rel.put (Rel.put hR _ (by omega) (hks _ (by simp)) (by kernel_rfl)) _ (by omega) (hks _ (by simp)) (by kernel_rfl)) _ (by omega) (hks _ (by simp)) (by kernel_rfl)) _ (by omega) (hks _ (by simp)) (by kernel_rfl)) _ (by omega) (hks _ (by simp)) (by kernel_rfl)
  clear hx
  have hR' := hrel w' (At.turn hC h (S := fun g => g = Bl ∨ g = L) (fun g hg => hg) (by by_cases e : d = 0; exact (hz e).1; exact (hnz e).mono fun g _ h => .inl h))
  by_cases hd0 : d = 0
  · -- the first element has degree 0
    have hw : ∀ (i : Nat) (a2 : Act), a2.tmps.size = 82 → a2.tmps.getD 22 undef = .bool true → (opAt o1 i).guard = some (4, false) → Region.wanted (opAt o1 i) (yielded o1 a2.tmps) = false := fun i a2 hs h22 hgd => by
      rw [wanted_some hgd (show gtmp o1 4 = some 22 by kernel_rfl) (by omega) h22]; rfl
    have h22 : a'.tmps.getD 22 undef = .bool true := by rw [g22]; simp [hd0]
    refine ops_skip .wide (o := opAt o1 5) (by kernel_rfl) (hw 5 _ hsz' h22 (by kernel_rfl)) ?_
    refine ops_skip .wide (o := opAt o1 6) (by kernel_rfl) (hw 6 _ (by simp only [put_size]; exact hsz') (by rw [show (opAt o1 5).dst = some 23 by kernel_rfl, getD_put (by omega), if_neg (by decide)]; exact h22) (by kernel_rfl)) ?_
    rw [show (opAt o1 5).dst = some 23 by kernel_rfl, show (opAt o1 6).dst = some 24 by kernel_rfl]
    refine ops_skip .wide (o := opAt o1 7) (by kernel_rfl) (hw 7 _ (by simp only [put_size]; exact hsz') (by rw [getD_put (by simp only [put_size]; omega), if_neg (by decide), getD_put (by omega), if_neg (by decide)]; exact h22) (by kernel_rfl)) ?_
    rw [show (opAt o1 7).dst = some 25 by kernel_rfl]
    refine ops_skip .wide (o := opAt o1 8) (by kernel_rfl) (hw 8 _ (by simp only [put_size]; exact hsz') (by rw [getD_put (by simp only [put_size]; omega), if_neg (by decide), getD_put (by simp only [put_size]; omega), if_neg (by decide), getD_put (by omega), if_neg (by decide)]; exact h22) (by kernel_rfl)) ?_
    rw [show (opAt o1 8).dst = some 26 by kernel_rfl]
    refine ops_pick .wide (o := opAt o1 9) (d := 27) (c := .tmp 22) (x := .const (.bool true)) (y := .tmp 26) (b := true) (by kernel_rfl) (wanted_none (by kernel_rfl) _) (by kernel_rfl) (by kernel_rfl) (by
      rw [eval_tmp, getD_put (by simp only [put_size]; omega), if_neg (by decide), getD_put (by simp only [put_size]; omega), if_neg (by decide), getD_put (by simp only [put_size]; omega), if_neg (by decide), getD_put (by omega), if_neg (by decide)]; exact h22) ?_
    refine wpIn_cond_true (by rw [eval_tmp, getD_put (by simp only [put_size]; omega), if_pos rfl, if_pos rfl]; rfl) (wpIn_ret (hret hd0 _ w' (by simp only [put_defers]; exact hdef) ⟨a.tmps.getD 4 undef, ?_, hbox, .inr ⟨?_, (hz hd0).2⟩⟩))
    · have := At.val hR' (t := 4) (ty := PT) (v := x4) (by kernel_rfl)
      rw [g 4 (by decide)] at this
      exact this
    · exact (h.fr.mono (W' := fun g => g = Bl ∨ g = L) fun g hg hw => hw.elim .inl fun h => absurd hg (Nat.not_lt.2 h)).trans (hz hd0).1
  · obtain ⟨d5, hd5, hret5, hnor⟩ := hgo hd0
    have hw : ∀ (i : Nat) (a2 : Act), a2.tmps.size = 82 → a2.tmps.getD 22 undef = .bool false → (opAt o1 i).guard = some (4, false) → Region.wanted (opAt o1 i) (yielded o1 a2.tmps) = true := fun i a2 hs h22 hgd => by
      rw [wanted_some hgd (show gtmp o1 4 = some 22 by kernel_rfl) (by omega) h22]; rfl
    have h22 : a'.tmps.getD 22 undef = .bool false := by rw [g22]; simp [hd0]
    have hA' : At W1 Bl eT okA N (cn4 x4 x5) a' w' μ := ⟨hR', h.fr.trans ((hnz hd0).mono fun g _ hg => .inl hg), _, hbox⟩
    have hv5 := At.val hR' (t := 5) (ty := PT) (v := x5) (by kernel_rfl)
    refine ops_mv .wide (o := opAt o1 5) (d := 23) (y := .tmp 0) (by kernel_rfl) (hw 5 _ hsz' h22 (by kernel_rfl)) (.inl (by kernel_rfl)) (by kernel_rfl) ?_
    rw [eval_tmp, g 0 (by decide), h0]
    refine ops_mv .wide (o := opAt o1 6) (d := 24) (y := .tmp 5) (by kernel_rfl) (hw 6 _ (by simp only [put_size]; exact hsz') (by rw [getD_put (by omega), if_neg (by decide)]; exact h22) (by kernel_rfl)) (.inl (by kernel_rfl)) (by kernel_rfl) ?_
    rw [eval_tmp, getD_put (by omega), if_neg (by decide)]
    refine ops_yield (o := opAt o1 7) (t := 23) (u := 24) (tt := #[28]) (L := L) (by kernel_rfl) (hw 7 _ (by simp only [put_size]; exact hsz') (by rw [getD_put (by simp only [put_size]; omega), if_neg (by decide), getD_put (by omega), if_neg (by decide)]; exact h22) (by kernel_rfl)) (by kernel_rfl) ?_ (R := YR Bl L eT rd d5 (a'.tmps.getD 5 undef) w') ?_ ?_
    · rw [getD_put (by simp only [put_size]; omega), if_neg (by decide), getD_put (by omega), if_pos rfl]
    · rw [getD_put (by simp only [put_size]; omega), if_pos rfl]
      exact hC.y w' x5 _ d5 _ hA'.fr hA'.box hv5 hd5
    rintro e w2 ⟨rfl, hbox2, hz2, hnz2⟩
    refine ⟨_, rfl, ?_⟩
    rw [show (opAt o1 7).dst = some 25 by kernel_rfl]
    refine ops_not .wide (ty := 4) (o := opAt o1 8) (d := 26) (t := 25) (by kernel_rfl) (hw 8 _ (by simp only [put_size]; exact hsz') (by rw [getD_put (by simp only [put_size]; omega), if_neg (by decide), getD_put (by simp only [put_size]; omega), if_neg (by decide), getD_put (by omega), if_neg (by decide)]; exact h22) (by kernel_rfl)) (by kernel_rfl) (by kernel_rfl) (by rw [getD_put (by simp only [put_size]; omega), if_pos rfl]) ?_
    refine ops_pick .wide (o := opAt o1 9) (d := 27) (c := .tmp 22) (x := .const (.bool true)) (y := .tmp 26) (b := false) (by kernel_rfl) (wanted_none (by kernel_rfl) _) (by kernel_rfl) (by kernel_rfl) (by
      rw [eval_tmp, getD_put (by simp only [put_size]; omega), if_neg (by decide), getD_put (by simp only [put_size]; omega), if_neg (by decide), getD_put (by simp only [put_size]; omega), if_neg (by decide), getD_put (by omega), if_neg (by decide)]; exact h22) ?_
    rw [if_neg (by decide), eval_tmp, getD_put (by simp only [put_size]; omega), if_pos rfl]
    generalize hx : (((((a'.put (some 23) (.func (.yield L) #[] #[])).put (some 24) (a'.tmps.getD 5 undef)).put (some 25) (.bool (decide (d5 ≠ 0)))).put (some 26) (.bool (!decide (d5 ≠ 0)))).put (some 27) (.bool (!decide (d5 ≠ 0)))) = a2
    have g2 : ∀ t, t < 18 → a2.tmps.getD t undef = a'.tmps.getD t undef := fun t ht => by
      rw [← hx, getD_put (by simp only [put_size]; omega), if_neg (by omega), getD_put (by simp only [put_size]; omega), if_neg (by omega), getD_put (by simp only [put_size]; omega), if_neg (by omega), getD_put (by simp only [put_size]; omega), if_neg (by omega), getD_put (by omega), if_neg (by omega)]
    have g27 : a2.tmps.getD 27 undef = .bool (!decide (d5 ≠ 0)) := by rw [← hx, getD_put (by simp only [put_size]; omega), if_pos rfl]
    have hdef2 : a2.defers = N.df := by rw [← hx]; simp only [put_defers]; exact hdef
    have hrel2 : ∀ w2, Rel (Wr W1) (Br W1 okA) N (cn4 x4 x5) a' w2 μ → Rel (Wr W1) (Br W1 okA) N (cn4 x4 x5) a2 w2 μ := fun w2 hR => by
      rw [← hx]
      refine Rel.put (Rel.put (Rel.put (Rel.put (Rel.put hR _ (by omega) (hks _ (by simp)) (by kernel_rfl)) _ (by omega) (hks _ (by simp)) (by kernel_rfl)) _ (by omega) (hks _ (by simp)) (by kernel_rfl)) _ (by omega) (hks _ (by simp)) (by kernel_rfl)) _ (by omega) (hks _ (by simp)) (by kernel_rfl)
    clear hx
    by_cases hd50 : d5 = 0
    · have hR := hrel2 w2 (At.turn hC hA' (fun g hg => hg) (hz2 hd50).1)
      refine wpIn_cond_true (by rw [eval_tmp, g27]; simp [hd50]) (wpIn_ret (hret5 hd50 a2 w2 hdef2 ⟨a'.tmps.getD 5 undef, ?_, hbox2, .inr ⟨?_, (hz2 hd50).2⟩⟩))
      · have := At.val hR (t := 5) (ty := PT) (v := x5) (by kernel_rfl)
        rw [g2 5 (by decide)] at this
        exact this
      · exact (hA'.fr.mono (W' := fun g => g = Bl ∨ g = L) fun g hg hw => hw.elim .inl fun h => absurd hg (Nat.not_lt.2 h)).trans (hz2 hd50).1
    · have hR := hrel2 w2 (At.turn hC hA' (fun g hg => .inl hg) (hnz2 hd50))
      refine wpIn_cond_false (by rw [eval_tmp, g27]; simp [hd50]) (wpIn_skip (hnor hd50 a2 w2 ⟨hR, hA'.fr.trans ((hnz2 hd50).mono fun g _ hg => .inl hg), _, hbox2⟩ (by rw [g2 5 (by decide), g 5 (by decide)]) (by rw [g2 0 (by decide), g 0 (by decide), h0]) (by rw [← g 5 (by decide)]; exact hbox2)))
end
end
end Go.W

set_option linter.unusedVariables false
set_option linter.unusedSimpArgs false
namespace Go.W
open Go Go.Proofs
noncomputable section
noncomputable abbrev yv (L : Nat) : Value := .func (.yield L) #[] #[]
noncomputable abbrev o11 : Array Oper := regOps k11
theorem k11_eq : k11 = .region 11 o11 false := by kernel_rfl
theorem bindE {α β : Type} {o : Option α} {k : α → Option β} {r : β} (h : o.bind k = some r) : ∃ y, o = some y ∧ k y = some r := Option.bind_eq_some_iff.1 h

section
variable {W1 : World} {Bl L : Nat} {eT : TypeId} {rd : Loop} {okA : Nat → Prop} (hC : YC W1 Bl L eT rd okA)

theorem At.keep {N N' : NK} {st : St} {a : Act} {w : World} {μ : Nat → Option Nat} (h : At W1 Bl eT okA N st a w μ) (hn : N'.n = N.n) (hd : N'.df = N.df) (hk : ∀ t v, N'.kp t = some v → a.tmps.getD t undef = v) : At W1 Bl eT okA N' st a w μ :=
  ⟨h.rel.rekeep hn hd hk, h.fr, h.box⟩
theorem At.post {N : NK} {st : St} {a : Act} {w : World} {μ : Nat → Option Nat} (h : At W1 Bl eT okA N st a w μ) {t : Nat} {p : NP} (ht : lk st.tm t = some (.one (.val PT p))) (hb : BoxO w.heap[Bl]? eT (a.tmps.getD t undef)) : IPost W1 Bl L eT rd okA p w :=
  ⟨_, At.val h.rel ht, hb, .inl (h.fr.mono fun g hg hw => hw.elim id fun h => absurd hg (Nat.not_lt.2 h))⟩

noncomputable abbrev N0 (L : Nat) : NK := NKl 82 [(0, yv L)] []
noncomputable abbrev NX (L t : Nat) (v : Value) : NK := NKl 82 [(0, yv L), (t, v)] []
theorem k0_of {L t : Nat} {v : Value} {a : Act} (h0 : a.tmps.getD 0 undef = yv L) (ht : a.tmps.getD t undef = v) : ∀ t' v', (NX L t v).kp t' = some v' → a.tmps.getD t' undef = v' :=
  NKl_kp fun x hx => by
    simp only [List.mem_cons, List.not_mem_nil, or_false] at hx
    rcases hx with rfl | rfl
    · exact h0
    · exact ht
theorem k00_of {L : Nat} {a : Act} (h0 : a.tmps.getD 0 undef = yv L) : ∀ t' v', (N0 L).kp t' = some v' → a.tmps.getD t' undef = v' :=
  NKl_kp fun x hx => by
    simp only [List.mem_cons, List.not_mem_nil, or_false] at hx
    subst hx; exact h0
include hC
/-- the end of a round: 'a, b = b, c' and what belongs to it -/
theorem tail90 {k : NP → NP → Int → (Bool × List Int) → (Bool × List Int) → Option NP} {x5 c : NP} {x6 : Int} {s b l : Bool × List Int} {r : NP} (hr : L_tail k x5 c s l = some r) {a : Act} {w : World} {μ : Nat → Option Nat} {v : Value}
    (h : At W1 Bl eT okA (NX L 12 v) (cnD x5 c x6 s b l) a w μ) (hb : BoxO w.heap[Bl]? eT (v)) {Q : Exit → Act → World → Prop}
    (hQ : ∀ x6' b' a' w' μ', k x5 c x6' s b' = some r → At W1 Bl eT okA (N0 L) (cnL x5 c x6' s b') a' w' μ' → a'.tmps.getD 5 undef = v → BoxO w'.heap[Bl]? eT (v) → Q .normal a' w') :
    (Code.seq k11 (.seq k12 k13)).wp Try.prog Q a w := by
  obtain ⟨d1, hd1, hr⟩ := bindE hr
  obtain ⟨d2, hd2, hr⟩ := bindE hr
  obtain ⟨p, hp, hr⟩ := bindE hr
  obtain ⟨b', hb', hr⟩ := bindE hr
  have h0 : a.tmps.getD 0 undef = yv L := h.rel.keep 0 _ rfl
  have h12 : a.tmps.getD 12 undef = v := h.rel.keep 12 _ rfl
  have hsz : a.tmps.size = 82 := h.rel.ntm.symm
  refine wp_seq ?_
  rw [k11_eq]
  refine (wpIn_wide (n := 1)).1 (wpIn_region ?_)
  refine ops_mv .wide (o := opAt o11 0) (d := 70) (y := .tmp 5) (by kernel_rfl) (wanted_none (by kernel_rfl) _) (.inl (by kernel_rfl)) (by kernel_rfl) ?_
  refine ops_mv .wide (o := opAt o11 1) (d := 71) (y := .tmp 12) (by kernel_rfl) (wanted_none (by kernel_rfl) _) (.inl (by kernel_rfl)) (by kernel_rfl) ?_
  refine ops_mv .wide (o := opAt o11 2) (d := 4) (y := .tmp 70) (by kernel_rfl) (wanted_none (by kernel_rfl) _) (.inr (by kernel_rfl)) (by kernel_rfl) ?_
  refine ops_mv .wide (o := opAt o11 3) (d := 5) (y := .tmp 71) (by kernel_rfl) (wanted_none (by kernel_rfl) _) (.inr (by kernel_rfl)) (by kernel_rfl) ?_
  simp only [eval_tmp]
  have hR := h.rel.rekeep (n' := N0 L) rfl rfl (k00_of h0)
  have hn : ∀ d, d < 82 → d < (N0 L).n := fun d h => h
  have hk0 : ∀ d, d ≠ 0 → d ∉ (N0 L).ks := fun d h => by show d ∉ [0]; simpa using h
  have m1 := hR.move (s := 5) (d := 70) (tv := .one (.val PT x5)) (by kernel_rfl) (hn _ (by decide)) (hk0 _ (by decide))
  have m2 := m1.move (s := 12) (d := 71) (tv := .one (.val PT c)) (by kernel_rfl) (hn _ (by decide)) (hk0 _ (by decide))
  have m3 := m2.move (s := 70) (d := 4) (tv := .one (.val PT x5)) (by kernel_rfl) (hn _ (by decide)) (hk0 _ (by decide))
  have m4 := m3.move (s := 71) (d := 5) (tv := .one (.val PT c)) (by kernel_rfl) (hn _ (by decide)) (hk0 _ (by decide))
  generalize hx : Act.put _ (some 5) _ = a' at m4 ⊢
  have g5 : a'.tmps.getD 5 undef = v := by
    rw [← hx, getD_put (by simp only [put_size]; omega), if_pos rfl, getD_put (by simp only [put_size]; omega), if_neg (by decide), getD_put (by simp only [put_size]; omega), if_pos rfl, getD_put (by omega), if_neg (by decide), h12]
  clear hx m1 m2 m3
  obtain ⟨st', μ', hk, hRE⟩ := cutE_sound (L := LE) (K := fun st => some st) (r := cnE x5 c s b l) (by kernel_rfl) m4
  injection hk with hk
  subst hk
  have hA : At W1 Bl eT okA (N0 L) (cnE x5 c s b l) a' w μ' := ⟨hRE, h.fr, _, hb⟩
  have hA5 := hA.keep (N' := NX L 5 v) rfl rfl (k0_of (hRE.keep 0 _ rfl) g5)
  refine wp_seq (At.seg hC hA5 (c := k12) (by kernel_rfl) (LR := L5) (LK := LF) (r := (true, cnF x5 c (IntKind.wrap .i64 (d1 - d2)) s b l)) (by rw [g12, hd1, Option.bind_some, hd2, Option.bind_some]) (fun h => by cases h) fun _ a1 w1 μ1 h1 e1 => ?_)
  refine At.seg hC h1 (c := k13) (by kernel_rfl) (LR := L5) (LK := LL) (r := (true, cnL x5 c (IntKind.wrap .i64 (d1 - d2)) s b')) (by rw [g13, hp, Option.bind_some, hb', Option.bind_some]) (fun h => by cases h) fun _ a2 w2 μ2 h2 e2 => ?_
  exact hQ _ _ a2 w2 μ2 hr (h2.keep rfl rfl (k00_of (h2.rel.keep 0 _ rfl))) (h2.rel.keep 5 _ rfl) (by rw [e2, e1]; exact hb)

noncomputable abbrev kBody : Code := .seq k4 (.seq k5 (.seq k6 (.seq k7 (.seq k8 (.seq k9 (.seq k11 (.seq k12 k13)))))))
theorem loop90 {Q : Exit → Act → World → Prop} : ∀ (m : Nat) (x4 x5 : NP) (x6 : Int) (s b : Bool × List Int) (r : NP), L_seq m x4 x5 x6 s b = some r → (∀ a w, a.defers = [] → IPost W1 Bl L eT rd okA r w → Q .ret a w) →
    ∀ a w μ, At W1 Bl eT okA (N0 L) (cnL x4 x5 x6 s b) a w μ → BoxO w.heap[Bl]? eT (a.tmps.getD 5 undef) → LoopAt Try.prog (.block 1 kBody) Q a w
  | 0, _, _, _, _, _, _, h, _, _, _, _, _, _ => by cases h
  | m + 1, x4, x5, x6, s, b, r, h, hQ, a, w, μ, hA, hb => by
    have h0 : a.tmps.getD 0 undef = yv L := hA.rel.keep 0 _ rfl
    obtain ⟨v, hv⟩ : ∃ v, a.tmps.getD 5 undef = v := ⟨_, rfl⟩
    rw [hv] at hb
    obtain ⟨r1, h1, h⟩ := bindE h
    obtain ⟨r2, h2, h⟩ := bindE h
    have hA5 := hA.keep (N' := NX L 5 v) rfl rfl (k0_of h0 hv)
    refine loopAt_round (wp_block (wp_seq (At.seg hC hA5 (c := k4) (by kernel_rfl) (LR := L5) (LK := LM) (r := (true, cnM x4 x5 r1.2.1 x6 s b)) (by rw [g4, h1, Option.bind_some]) (fun h => by cases h) fun _ a1 w1 μ1 hA1 e1 => ?_)))
    by_cases hz : r2 = true
    · rw [if_pos hz] at h
      injection h with h; subst h
      refine wp_seq (At.seg hC hA1 (c := k5) (by kernel_rfl) (LR := L5) (LK := LM) (r := (false, cn5 x5)) (by rw [g5, h2, Option.bind_some, if_pos hz]) (fun _ a2 w2 μ2 hA2 e2 => ?_) (fun h => by cases h))
      exact hQ a2 w2 hA2.rel.defers (hA2.post (t := 5) (by kernel_rfl) (by rw [hA2.rel.keep 5 _ rfl, e2, e1]; exact hb))
    · rw [if_neg hz] at h
      obtain ⟨c, hc, h⟩ := bindE h
      obtain ⟨dc, hdc, h⟩ := bindE h
      refine wp_seq (At.seg hC hA1 (c := k5) (by kernel_rfl) (LR := L5) (LK := LM) (r := (true, cnM x4 x5 r1.2.1 x6 s b)) (by rw [g5, h2, Option.bind_some, if_neg hz]) (fun h => by cases h) fun _ a2 w2 μ2 hA2 e2 => ?_)
      refine wp_seq (At.seg hC hA2 (c := k6) (by kernel_rfl) (LR := L5) (LK := LC) (r := (true, cnC x5 c x6 s b)) (by rw [g6, hc, Option.bind_some]) (fun h => by cases h) fun _ a3 w3 μ3 hA3 e3 => ?_)
      refine wp_seq (y7 hC hA3 rfl (fun d hd => by
        show d ∉ [0, 5]
        simp only [List.mem_cons, List.not_mem_nil, or_false] at hd ⊢
        omega) (hA3.rel.keep 0 _ rfl) hdc (fun hd a4 w4 hdf hp => ?_) (fun hd a4 w4 hA4 e12 e0 hb4 => ?_))
      · rw [if_pos hd] at h
        injection h with h; subst h
        exact hQ a4 w4 hdf hp
      · rw [if_neg hd] at h
        obtain ⟨r3, h3, h⟩ := bindE h
        obtain ⟨l, hl, h⟩ := bindE h
        obtain ⟨v12, hv12⟩ : ∃ v, a3.tmps.getD 12 undef = v := ⟨_, rfl⟩
        rw [hv12] at e12 hb4
        have hA4' := hA4.keep (N' := NX L 12 v12) rfl rfl (k0_of e0 e12)
        refine wp_seq (At.seg hC hA4' (c := k8) (by kernel_rfl) (LR := L5) (LK := LD) (r := (true, cnD x5 c x6 s b l)) (by rw [g8, h3, Option.bind_some, hl, Option.bind_some]) (fun h => by cases h) fun _ a5 w5 μ5 hA5 e5 => ?_)
        have fin : ∀ s', L_tail (L_seq m) x5 c s' l = some r → ∀ a6 w6 μ6, At W1 Bl eT okA (NX L 12 v12) (cnD x5 c x6 s' b l) a6 w6 μ6 → w6.heap[Bl]? = w5.heap[Bl]? → (Code.seq k11 (.seq k12 k13)).wp Try.prog (Exit.inBlock 1 (Exit.then (LoopAt Try.prog (.block 1 kBody) Q) Q)) a6 w6 := fun s' ht a6 w6 μ6 hA6 e6 => by
          refine tail90 hC ht hA6 (by rw [e6, e5]; exact hb4) fun x6' b' a7 w7 μ7 hk hA7 g5 hb7 => ?_
          exact loop90 m x5 c x6' s' b' r hk hQ a7 w7 μ7 hA7 (by rw [g5]; exact hb7)
        by_cases h6 : (decide (x6 > 0)) = true
        · rw [if_pos h6] at h
          obtain ⟨p, hp, h⟩ := bindE h
          obtain ⟨q, hq, h⟩ := bindE h
          obtain ⟨e, he, h⟩ := bindE h
          refine wp_seq (At.seg hC hA5 (c := k9) (by kernel_rfl) (LR := L5) (LK := LD) (r := (true, cnD x5 c x6 e.1 b l)) (by rw [g9, if_pos h6, hp, Option.bind_some, hq, Option.bind_some, he, Option.bind_some]) (fun h => by cases h) fun _ a6 w6 μ6 hA6 e6 => ?_)
          exact fin e.1 h a6 w6 μ6 hA6 e6
        · rw [if_neg h6] at h
          refine wp_seq (At.seg hC hA5 (c := k9) (by kernel_rfl) (LR := L5) (LK := LD) (r := (true, cnD x5 c x6 s b l)) (by rw [g9, if_neg h6]) (fun h => by cases h) fun _ a6 w6 μ6 hA6 e6 => ?_)
          exact fin s h a6 w6 μ6 hA6 e6

/-- THE ITERATOR -/
theorem it90 {m : Nat} {f g r : NP} (hr : T_seq m f g = some r) {p1 p2 : Value} (h1 : RepPV (Br W1 okA) W1 (fun _ => none) (lk ([] : Ups)) (.eptr PT f) p1) (h2 : RepPV (Br W1 okA) W1 (fun _ => none) (lk ([] : Ups)) (.eptr PT g) p2) :
    Calls Try.prog 90 #[yv L, p1, p2] W1 fun e w' => e = .returned (retV []) ∧ IPost W1 Bl L eT rd okA r w' := by
  obtain ⟨a0, ha0, hr⟩ := bindE hr
  obtain ⟨b0, hb0, hr⟩ := bindE hr
  obtain ⟨da, hda, hr⟩ := bindE hr
  refine calls_of_wp (fn := Try.f90) (c := bodyOf Try.f90) (by kernel_rfl) (by kernel_rfl) ?_
  rw [body90]
  have hnt : Try.f90.ntmps = 82 := by kernel_rfl
  obtain ⟨a, ha⟩ : ∃ a : Act, ({ tmps := #[yv L, p1, p2] ++ Array.replicate (Try.f90.ntmps - #[yv L, p1, p2].size) undef, defers := [] } : Act) = a := ⟨_, rfl⟩
  rw [ha]
  have hsz : a.tmps.size = 82 := by rw [← ha]; simp [hnt]
  have e0 : a.tmps.getD 0 undef = yv L := by rw [← ha]; simp [Array.getD]
  have e1 : a.tmps.getD 1 undef = p1 := by rw [← ha]; simp [Array.getD]
  have e2 : a.tmps.getD 2 undef = p2 := by rw [← ha]; simp [Array.getD]
  have hdf : a.defers = [] := by rw [← ha]
  clear ha
  have hA : At W1 Bl eT okA (N0 L) (st90 f g) a W1 (fun _ => none) := by
    refine ⟨⟨⟨fun b blk g hb => (by cases hb), fun b b' blk blk' g hb => (by cases hb), fun b blk hb => (by cases hb)⟩, fun t tv ht => ?_, hdf, fun t tv ht => ?_, hsz.symm, k00_of e0⟩, .refl _ _, hC.box⟩
    · rw [lk_cons] at ht
      split at ht
      · rename_i he; subst he; injection ht with ht; subst ht; rw [e1]; exact h1
      · rw [lk_cons] at ht
        split at ht
        · rename_i he; subst he; injection ht with ht; subst ht; rw [e2]; exact h2
        · cases ht
    · rw [lk_cons] at ht
      split at ht
      · omega
      · rw [lk_cons] at ht
        split at ht
        · omega
        · cases ht
  have post : ∀ a w, a.defers = [] → IPost W1 Bl L eT rd okA r w → bodyPost Try.prog Try.f90 (fun e w' => e = .returned (retV []) ∧ IPost W1 Bl L eT rd okA r w') .ret a w := fun a w hd hp =>
    ⟨hd, retV [], results_run (xs := []) (by rw [show Try.f90.results.toList = [] by kernel_rfl]; simp), rfl, hp⟩
  refine wp_seq (At.seg hC hA (c := k0) (by kernel_rfl) (LR := L5) (LK := L4) (r := (true, cn4 a0 b0)) (by rw [g0, ha0, Option.bind_some, hb0, Option.bind_some]) (fun h => by cases h) fun _ a1 w1 μ1 hA1 e1 => ?_)
  refine wp_seq (y1 hC hA1 rfl (fun d hd => by
    show d ∉ [0]
    simp only [List.mem_cons, List.not_mem_nil, or_false] at hd ⊢
    omega) (hA1.rel.keep 0 _ rfl) hda (fun hd a2 w2 hdf hp => ?_) fun hd => ?_)
  · rw [if_pos hd] at hr
    injection hr with hr; subst hr
    exact post a2 w2 hdf hp
  · rw [if_neg hd] at hr
    obtain ⟨db, hdb, hr⟩ := bindE hr
    refine ⟨db, hdb, fun hd5 a2 w2 hdf hp => ?_, fun hd5 a2 w2 hA2 e5 e02 hb2 => ?_⟩
    · rw [if_pos hd5] at hr
      injection hr with hr; subst hr
      exact post a2 w2 hdf hp
    · rw [if_neg hd5] at hr
      obtain ⟨s, hs, hr⟩ := bindE hr
      obtain ⟨be, hbe, hr⟩ := bindE hr
      obtain ⟨v, hv⟩ : ∃ v, a1.tmps.getD 5 undef = v := ⟨_, rfl⟩
      rw [hv] at e5 hb2
      have hA2' := hA2.keep (N' := NX L 5 v) rfl rfl (k0_of e02 e5)
      refine wp_seq (At.seg hC hA2' (c := k2) (by kernel_rfl) (LR := L5) (LK := L6) (r := (true, cn6 a0 b0 (IntKind.wrap .i64 (da - db)))) (by rw [g2, hda, Option.bind_some, hdb, Option.bind_some]) (fun h => by cases h) fun _ a3 w3 μ3 hA3 e3 => ?_)
      refine wp_seq (At.seg hC hA3 (c := k3) (by kernel_rfl) (LR := L5) (LK := LL) (r := (true, cnL a0 b0 (IntKind.wrap .i64 (da - db)) s be)) (by rw [g3, hs, Option.bind_some, Option.bind_some, hbe, Option.bind_some]) (fun h => by cases h) fun _ a4 w4 μ4 hA4 e4 => ?_)
      refine wp_block (wp_loop_at (loop90 (Q := Exit.inBlock 0 (bodyPost Try.prog Try.f90 fun e w' => e = .returned (retV []) ∧ IPost W1 Bl L eT rd okA r w')) hC m a0 b0 _ s be r hr (fun a w hd hp => post a w hd hp) a4 w4 μ4 (hA4.keep rfl rfl (k00_of (hA4.rel.keep 0 _ rfl))) (by rw [hA4.rel.keep 5 _ rfl, e4, e3]; exact hb2)))
end
end
end Go.W

set_option linter.unusedVariables false
set_option linter.unusedSimpArgs false
namespace Go.W
open Go Go.Proofs
noncomputable section

/-! ### unidiv.sequence -/
noncomputable abbrev s0 : Array Oper := regOps (sL (bodyOf Try.f77))
noncomputable abbrev s1 : Array Oper := regOps (sL (sR (bodyOf Try.f77)))
theorem body77 : bodyOf Try.f77 = .seq (.region 0 s0 false) (.seq (.region 1 s1 false) .ret) := by kernel_rfl
theorem seq77 (x y : Value) (w : World) : Calls Try.prog 77 #[x, y] w fun e w' => e = .returned (.func (.func 90) #[] #[.pointer (some ⟨w.heap.size, 0, none⟩), .pointer (some ⟨w.heap.size + 1, 0, none⟩)]) ∧ w' = (w.alloc (.cells x.cells 28)).alloc (.cells y.cells 28) := by
  refine calls_of_wp (fn := Try.f77) (c := bodyOf Try.f77) (by kernel_rfl) (by kernel_rfl) ?_
  rw [body77]
  have hnt : Try.f77.ntmps = 6 := by kernel_rfl
  obtain ⟨a, ha⟩ : ∃ a : Act, ({ tmps := #[x, y] ++ Array.replicate (Try.f77.ntmps - #[x, y].size) undef, defers := [] } : Act) = a := ⟨_, rfl⟩
  rw [ha]
  have hsz : a.tmps.size = 6 := by rw [← ha]; simp [hnt]
  have e0 : a.tmps.getD 0 undef = x := by rw [← ha]; simp [Array.getD]
  have e1 : a.tmps.getD 1 undef = y := by rw [← ha]; simp [Array.getD]
  have hdf : a.defers = [] := by rw [← ha]
  clear ha
  refine (wpIn_wide (n := 1)).1 (wpIn_seq (wpIn_region ?_))
  refine ops_val .wide (o := opAt s0 0) (by kernel_rfl) (wanted_none (by kernel_rfl) _) (fun c => by rw [show (opAt s0 0).op = Op.box 28 (.tmp 0) by kernel_rfl]; intro h; cases h) (v := .pointer (some ⟨w.heap.size, 0, none⟩)) (w' := w.alloc (.cells x.cells 28)) (by
    have e : a.eval (.tmp 0) = x := e0
    simp only [execOp, show (opAt s0 0).op = Op.box 28 (.tmp 0) by kernel_rfl, e]
    simp [Instr.box, newVar, newRow]) ?_
  rw [show (opAt s0 0).dst = some 2 by kernel_rfl]
  refine ops_val .wide (o := opAt s0 1) (by kernel_rfl) (wanted_none (by kernel_rfl) _) (fun c => by rw [show (opAt s0 1).op = Op.box 28 (.tmp 1) by kernel_rfl]; intro h; cases h) (v := .pointer (some ⟨w.heap.size + 1, 0, none⟩)) (w' := (w.alloc (.cells x.cells 28)).alloc (.cells y.cells 28)) (by
    have e : (a.put (some 2) (.pointer (some ⟨w.heap.size, 0, none⟩))).eval (.tmp 1) = y := by rw [eval_tmp, getD_put (by omega), if_neg (by decide)]; exact e1
    simp only [execOp, show (opAt s0 1).op = Op.box 28 (.tmp 1) by kernel_rfl, e]
    simp [Instr.box, newVar, newRow]) ?_
  rw [show (opAt s0 1).dst = some 3 by kernel_rfl]
  refine ops_mv .wide (o := opAt s0 2) (d := 4) (y := .const .nilFunc) (by kernel_rfl) (wanted_none (by kernel_rfl) _) (.inr (by kernel_rfl)) (by kernel_rfl) ?_
  refine wpIn_seq (wpIn_region ?_)
  generalize hx : Act.put _ (some 4) _ = a3
  have hs3 : a3.tmps.size = 6 := by rw [← hx]; simp only [put_size]; exact hsz
  have g2 : a3.eval (.tmp 2) = .pointer (some ⟨w.heap.size, 0, none⟩) := by rw [← hx, eval_tmp, getD_put (by simp only [put_size]; omega), if_neg (by decide), getD_put (by simp only [put_size]; omega), if_neg (by decide), getD_put (by omega), if_pos rfl]
  have g3 : a3.eval (.tmp 3) = .pointer (some ⟨w.heap.size + 1, 0, none⟩) := by rw [← hx, eval_tmp, getD_put (by simp only [put_size]; omega), if_neg (by decide), getD_put (by simp only [put_size]; omega), if_pos rfl]
  have hd3 : a3.defers = [] := by rw [← hx]; simp only [put_defers]; exact hdf
  clear hx
  refine ops_val .wide (o := opAt s1 0) (by kernel_rfl) (wanted_none (by kernel_rfl) _) (fun c => by rw [show (opAt s1 0).op = Op.makeFunc (.func 90) #[] #[.tmp 2, .tmp 3] by kernel_rfl]; intro h; cases h)
    (v := .func (.func 90) #[] #[.pointer (some ⟨w.heap.size, 0, none⟩), .pointer (some ⟨w.heap.size + 1, 0, none⟩)]) (w' := (w.alloc (.cells x.cells 28)).alloc (.cells y.cells 28)) (by
    have e : (#[Operand.tmp 2, Operand.tmp 3].map a3.eval) = #[.pointer (some ⟨w.heap.size, 0, none⟩), .pointer (some ⟨w.heap.size + 1, 0, none⟩)] := by rw [← g2, ← g3]; simp
    simp only [execOp, show (opAt s1 0).op = Op.makeFunc (.func 90) #[] #[.tmp 2, .tmp 3] by kernel_rfl, e]
    simp [Instr.makeFunc]) ?_
  rw [show (opAt s1 0).dst = some 5 by kernel_rfl]
  refine ops_mv .wide (o := opAt s1 1) (d := 4) (y := .tmp 5) (by kernel_rfl) (wanted_none (by kernel_rfl) _) (.inr (by kernel_rfl)) (by kernel_rfl) ?_
  rw [eval_tmp, getD_put (by omega), if_pos rfl]
  refine wpIn_ret ⟨by simp only [put_defers]; exact hd3, _, results_run (xs := [_]) (by
    rw [show Try.f77.results.toList = [.tmp 4] by kernel_rfl]
    have e : ∀ v, ((a3.put (some 5) v).put (some 4) v).tmps.getD 4 undef = v := fun v => by rw [getD_put (by simp only [put_size]; omega), if_pos rfl]
    simp only [List.mapM_cons, List.mapM_nil, resRun, e]
    simp), rfl, rfl⟩
end
end Go.W

set_option linter.unusedVariables false
set_option linter.unusedSimpArgs false
namespace Go.W
open Go Go.Proofs
noncomputable section

theorem Fr.putObj {w : World} {l : Nat} {o : Obj} (ho : ∀ c t fr, o ≠ .cells c t fr) : Fr (fun g => g = l) w (w.putObj l o) :=
  ⟨rfl, rfl, rfl, by simp, fun g hg hn => World.putObj_heap_other hn, fun g c eT fr hg h => by
    by_cases he : g = l
    · subst he; rw [World.putObj_heap_same hg] at h; injection h with h; exact absurd h (ho _ _ _)
    · rw [World.putObj_heap_other he] at h; exact ⟨c, eT, fr, h, Nat.le_refl _⟩⟩
theorem Fr.setRow {w : World} {g : Nat} {c c' : Array Value} {eT : TypeId} {fr : Nat × Nat} (hc : w.heap[g]? = some (.cells c eT fr)) (hs : c'.size = c.size) : Fr (fun x => x = g) w (w.setRow g c') :=
  ⟨rfl, rfl, rfl, by simp, fun g' hg hn => setRow_other w g g' c' hn, fun g' c1 eT1 fr1 hg' hc1 => by
    by_cases hgg : g' = g
    · subst hgg
      rw [setRow_heap w g' c c' eT fr hc] at hc1
      injection hc1 with hc1; injection hc1 with hc1 _; subst hc1
      exact ⟨c, eT, fr, hc, by omega⟩
    · rw [setRow_other w g g' c' hgg] at hc1
      exact ⟨c1, eT1, fr1, hc1, Nat.le_refl _⟩⟩
theorem RepV.slice {w : World} {ok : Nat → Prop} {e : Ty} {l : List e.D} {x : Value} (h : RepV w ok (.slice e) l x) : ∃ A c, x = .slice A l.length c := by
  obtain ⟨cs, h, ⟨ha, _⟩ | ⟨_, rfl⟩⟩ := h
  · cases ha
  · obtain ⟨A, c, he, _⟩ := h
    injection he with he; exact ⟨A, c, he⟩

/-! ### the loop's body -/
noncomputable abbrev kRF : Code := inB (sR (match sL (sR (sR (sR (sR (sR (bodyOf Try.f52)))))) with
  | .seq _ (.cond _ x _) => x
  | c => c))
def rfA : Code → Code
  | .rangeFunc _ _ a _ => a
  | c => c
def rfB : Code → Code
  | .rangeFunc _ _ _ b => b
  | c => c
noncomputable abbrev kAs : Code := rfA kRF
noncomputable abbrev kBd : Code := rfB kRF
theorem kRF_eq : kRF = .rangeFunc (.tmp 32) #[33] kAs kBd := by kernel_rfl
noncomputable abbrev r8 : Array Oper := regOps kAs
noncomputable abbrev r9 : Array Oper := regOps (sL (inB kBd))
noncomputable abbrev r10 : Array Oper := regOps (sL (sR (inB kBd)))
theorem kAs_eq : kAs = .region 8 r8 false := by kernel_rfl
theorem kBd_eq : kBd = .block 1 (.seq (.region 9 r9 false) (.seq (.region 10 r10 false) (.cond (.tmp 37) (.exit 0) .skip))) := by kernel_rfl

/-- the loop's record -/
def recG (fn : FuncId) (T : Array Value) (D : Nat) : Loop := { state := .ready, pending := none, fn := fn, tmps := T, params := #[33], assign := kAs, body := kBd, defers := D }
def recD (fn : FuncId) (T : Array Value) (D : Nat) : Loop := { recG fn T D with state := .done, pending := some (.exit 0) }

theorem round52 {fn : FuncId} {T : Array Value} {D L Bl : Nat} {eT : TypeId} (hT : T.size = 42) (h8 : T.getD 8 undef = .pointer (some ⟨Bl, 0, none⟩)) (hne : Bl ≠ L) {W : World} (hl : W.heap[L]? = some (.loop (recG fn T D)))
    {x0 : Value} (hb : BoxO W.heap[Bl]? eT (x0)) {ok : Nat → Prop} {p : NP} {x : Value} (hx : RepV W ok PT p x) (hok : ∀ g, ok g → g < W.heap.size ∧ g ≠ Bl ∧ g ≠ L) {d : Int} (hd : F_unipoly_Degree p = some d) (n : Nat) :
    YieldAt Fence.wide n Try.prog L #[x] W (YR Bl L eT (recD fn T D) d x W) := by
  obtain ⟨c0, hb, hc0⟩ := hb
  have hy := run_yield (P := Try.prog) (args := #[x]) hl rfl
  have hf : ((recG fn T D).params.zip #[x]).foldl (fun tmps (t, a) => tmps.setIfInBounds t a) (recG fn T D).tmps = T.setIfInBounds 33 x := by simp [recG]
  rw [hf] at hy
  refine ⟨_, _, _, _, hy, roundIn_of_wpIn trivial ?_⟩
  show kAs.wpIn _ _ _ _ { tmps := T.setIfInBounds 33 x, defers := [] } W
  obtain ⟨a, ha⟩ : ∃ a : Act, ({ tmps := T.setIfInBounds 33 x, defers := [] } : Act) = a := ⟨_, rfl⟩
  rw [ha]
  have hsz : a.tmps.size = 42 := by rw [← ha]; simpa using hT
  have hdf : a.defers = [] := by rw [← ha]
  have e33 : a.tmps.getD 33 undef = x := by rw [← ha]; simp [hT]
  have e8 : a.tmps.getD 8 undef = .pointer (some ⟨Bl, 0, none⟩) := by
    rw [← h8, ← ha]; simp [Array.getElem?_setIfInBounds_ne]
  clear ha
  rw [kAs_eq]
  refine wpIn_region (ops_mv (.round L) (o := opAt r8 0) (d := 9) (y := .tmp 33) (by kernel_rfl) (wanted_none (by kernel_rfl) _) (.inr (by kernel_rfl)) (by kernel_rfl) ?_)
  rw [eval_tmp, e33]
  refine ⟨_, run_beginRound hl rfl, ?_⟩
  obtain ⟨W2, hW2⟩ : ∃ W2, W.putObj L (.loop { recG fn T D with state := .busy }) = W2 := ⟨_, rfl⟩
  have hLs : L < W.heap.size := (Array.getElem?_eq_some_iff.1 hl).1
  have hBs : Bl < W.heap.size := (Array.getElem?_eq_some_iff.1 hb).1
  have f2 : Fr (fun g => g = L) W W2 := by rw [← hW2]; exact Fr.putObj (fun c t fr h => by cases h)
  have hl2 : W2.heap[L]? = some (.loop { recG fn T D with state := .busy }) := by rw [← hW2]; exact World.putObj_heap_same hLs
  have hb2 : W2.heap[Bl]? = some (.cells c0 eT (0, 0)) := by rw [f2.block Bl hBs hne]; exact hb
  rw [show (W.putObj L (.loop { state := .busy, pending := (recG fn T D).pending, fn := (recG fn T D).fn, tmps := (recG fn T D).tmps, params := (recG fn T D).params, assign := (recG fn T D).assign, body := (recG fn T D).body, defers := (recG fn T D).defers })) = W2 from hW2]
  have hx2 : RepV W2 ok PT p x := RepV.mono (fun g hg _ => f2.block g (hok g hg).1 (hok g hg).2.2) (fun g hg _ => hg) (fun g hg => (hok g hg).1) hx
  show kBd.wpIn _ _ _ _ _ _
  rw [kBd_eq]
  refine wpIn_block (wpIn_seq (wpIn_region ?_))
  refine ops_mv (.round L) (o := opAt r9 0) (d := 34) (y := .tmp 9) (by kernel_rfl) (wanted_none (by kernel_rfl) _) (.inl (by kernel_rfl)) (by kernel_rfl) ?_
  rw [eval_tmp, getD_put (by omega), if_pos rfl]
  have hxc : x.cells = #[x] := by obtain ⟨A, c, he⟩ := hx.slice; rw [he]; rfl
  have hc1 : 1 ≤ c0.size := by have := (Array.getElem?_eq_some_iff.1 hc0).1; omega
  obtain ⟨W3, hW3⟩ : ∃ W3, W2.setRow Bl (splice c0.toList [x] 0).toArray = W3 := ⟨_, rfl⟩
  have f3 : Fr (fun g => g = Bl) W2 W3 := by rw [← hW3]; exact Fr.setRow hb2 (by rw [List.size_toArray, splice_length (by simpa using hc1), Array.length_toList])
  have hb3 : BoxO W3.heap[Bl]? eT (x) := by rw [← hW3]; exact ⟨_, setRow_heap _ _ _ _ _ _ hb2, by simp [splice]⟩
  have hst := run_storeVar_at (P := Try.prog) ok_Gc (t := 28) (i := ⟨PT, 0, 32⟩) (by kernel_rfl) hx2 (g := Bl) (o' := 0) (c := c0) hb2 hc1
  have hst : (storeVar 28 ⟨Bl, 0, none⟩ x).run Try.prog W2 = .ok () W3 := by
    rw [hst, hxc, ← hW3]
  generalize hx9 : ((a.put (some 9) x).put (some 34) x) = a9
  have hsz9 : a9.tmps.size = 42 := by rw [← hx9]; simp only [put_size]; exact hsz
  have hdf9 : a9.defers = [] := by rw [← hx9]; simp only [put_defers]; exact hdf
  have e8' : a9.eval (.tmp 8) = .pointer (some ⟨Bl, 0, none⟩) := by rw [← hx9, eval_tmp, getD_put (by simp only [put_size]; omega), if_neg (by decide), getD_put (by omega), if_neg (by decide)]; exact e8
  have e34 : a9.eval (.tmp 34) = x := by rw [← hx9, eval_tmp, getD_put (by simp only [put_size]; omega), if_pos rfl]
  have e9 : a9.eval (.tmp 9) = x := by rw [← hx9, eval_tmp, getD_put (by simp only [put_size]; omega), if_neg (by decide), getD_put (by omega), if_pos rfl]
  clear hx9
  refine ops_none (.round L) (o := opAt r9 1) (by kernel_rfl) (wanted_none (by kernel_rfl) _) (fun c => by rw [show (opAt r9 1).op = Op.store 28 (.tmp 8) (.tmp 34) by kernel_rfl]; intro h; cases h) (by kernel_rfl) (w' := W3) (by
    simp only [execOp, show (opAt r9 1).op = Op.store 28 (.tmp 8) (.tmp 34) by kernel_rfl, e8', e34]
    simp [Instr.storeAt, Instr.sureAddr, hst]) ?_
  refine wpIn_seq (wpIn_region ?_)
  refine ops_mv (.round L) (o := opAt r10 0) (d := 35) (y := .tmp 9) (by kernel_rfl) (wanted_none (by kernel_rfl) _) (.inl (by kernel_rfl)) (by kernel_rfl) ?_
  rw [e9]
  have hx3 : RepV W3 ok PT p x := RepV.mono (fun g hg _ => f3.block g (by rw [← hW2]; simpa using (hok g hg).1) (hok g hg).2.1) (fun g hg _ => hg) (fun g hg => by rw [← hW2]; simpa using (hok g hg).1) hx2
  have hs3 : W3.heap.size = W.heap.size := by rw [← hW3, ← hW2]; simp
  have hR : Rel (fun g => W3.heap.size ≤ g) (fun g => ok g ∨ W3.heap.size ≤ g) (NKl 42 [] []) ⟨[(35, .one (.val PT p))], []⟩ (a9.put (some 35) x) W3 (fun _ => none) := by
    refine ⟨⟨fun b blk g hb => (by cases hb), fun b b' blk blk' g hb => (by cases hb), fun b blk hb => (by cases hb)⟩, fun t tv ht => ?_, by rw [put_defers]; exact hdf9, fun t tv ht => ?_, by rw [put_size]; exact hsz9.symm, fun t v h => by cases h⟩
    · rw [lk_cons] at ht
      split at ht
      · rename_i he; subst he; injection ht with ht; subst ht
        rw [getD_put (by omega), if_pos rfl]
        exact RepV.mono (fun _ _ _ => rfl) (fun g hg _ => ⟨.inl hg, by rw [hs3]; exact (hok g hg).1, fun b blk hb => by cases hb⟩) (fun g hg => by rw [hs3]; exact (hok g hg).1) hx3
      · cases ht
    · rw [lk_cons] at ht
      split at ht
      · rw [put_size]; omega
      · cases ht
  refine ops_rel ok_Gc (.round L) (o := opAt r10 1) (tv := .one (.val (.int .i64) d)) (ups := []) (by kernel_rfl) (wanted_none (by kernel_rfl) _) (fun c => by rw [show (opAt r10 1).op = Op.call { callee := .value (.func 19), args := #[.tmp 35], argTypes := #[28] } by kernel_rfl]; intro h; cases h) (fun d' h => by
    rw [show (opAt r10 1).dst = some 36 by kernel_rfl] at h; injection h with h; subst h; exact ⟨by show 36 < 42; decide, by show 36 ∉ []; simp⟩)
    ((show opE E_Gc ⟨[(35, .one (.val PT p))], []⟩ (opAt r10 1) (fun tv ups => some (tv, ups)) = (F_unipoly_Degree p).bind fun r => some (.one (.val (.int .i64) r), []) by kernel_rfl).trans (by rw [hd]; rfl)) hR (fun g hg => ⟨hg, .inr hg⟩) fun y W4 μ4 f4 hR4 hWB4 => ?_
  rw [show (opAt r10 1).dst = some 36 by kernel_rfl] at hR4 ⊢
  refine ops_rel ok_Gc (.round L) (o := opAt r10 2) (tv := .one (.val .bool (d == 0))) (ups := []) (by kernel_rfl) (wanted_none (by kernel_rfl) _) (fun c => by rw [show (opAt r10 2).op = Op.binOp .eql 3 (.tmp 36) (.const (.int .i64 0)) 3 by kernel_rfl]; intro h; cases h) (fun d' h => by
    rw [show (opAt r10 2).dst = some 37 by kernel_rfl] at h; injection h with h; subst h; exact ⟨by show 37 < 42; decide, by show 37 ∉ []; simp⟩) (by kernel_rfl) hR4 hWB4 fun y5 W5 μ5 f5 hR5 hWB5 => ?_
  rw [show (opAt r10 2).dst = some 37 by kernel_rfl] at hR5 ⊢
  have h37 := rep_bool (hR5.tm 37 (.one (.val .bool (d == 0))) (by kernel_rfl))
  generalize hx5 : (((a9.put (some 35) x).put (some 36) y).put (some 37) y5) = a5 at h37 hR5 ⊢
  -- the worlds
  have f35 : Fr (fun _ => False) W3 W5 := (f4.trans (f5.mono (W' := fun g => W3.heap.size ≤ g) fun g _ hg => hg)).mono (fun g hg h => absurd hg (Nat.not_lt.2 h))
  have hl5 : W5.heap[L]? = some (.loop { recG fn T D with state := .busy }) := by
    rw [f35.block L (by omega) (fun h => h), f3.block L (by rw [← hW2]; simpa using hLs) (Ne.symm hne)]; exact hl2
  have hb5 : BoxO W5.heap[Bl]? eT (x) := by rw [f35.block Bl (by omega) (fun h => h)]; exact hb3
  have fall : ∀ (o : Loop), Fr (fun g => g = Bl ∨ g = L) W (W5.putObj L (.loop o)) := fun o =>
    (((f2.mono fun g _ h => .inr h).trans (f3.mono fun g _ h => .inl h)).trans (f35.mono fun g _ h => h.elim)).trans ((Fr.putObj (fun c t fr h => by cases h)).mono fun g _ h => .inr h)
  have hL5 : L < W5.heap.size := (Array.getElem?_eq_some_iff.1 hl5).1
  by_cases hd0 : d = 0
  · refine wpIn_cond_true (by rw [eval_tmp, h37, hd0]; rfl) (wpIn_exit ?_)
    refine ⟨_, _, run_endRound (some (.exit 0)) hl5, by simp [hd0], ?_, fun _ => ⟨fall _, ?_⟩, fun h => absurd hd0 h⟩
    · rw [World.putObj_heap_other hne]; exact hb5
    · rw [World.putObj_heap_same hL5]; rfl
  · refine wpIn_cond_false (by rw [eval_tmp, h37]; simp [hd0]) (wpIn_skip ?_)
    refine ⟨_, _, run_endRound none hl5, by simp [hd0], ?_, fun h => absurd h hd0, fun _ => ?_⟩
    · rw [World.putObj_heap_other hne]; exact hb5
    · exact (fall _).back (by rw [World.putObj_heap_same hL5, hl]; rfl)
end
end Go.W

set_option linter.unusedVariables false
set_option linter.unusedSimpArgs false
namespace Go.W
open Go Go.Proofs
noncomputable section

noncomputable abbrev h0 : Code := sL (bodyOf Try.f52)
noncomputable abbrev h1 : Code := sL (sR (bodyOf Try.f52))
noncomputable abbrev h2 : Code := sL (sR (sR (bodyOf Try.f52)))
noncomputable abbrev h3 : Code := sL (sR (sR (sR (bodyOf Try.f52))))
noncomputable abbrev h5 : Code := sL (sR (sR (sR (sR (bodyOf Try.f52)))))
noncomputable abbrev h6 : Code := sL (sL (sR (sR (sR (sR (sR (bodyOf Try.f52)))))))
noncomputable abbrev q7 : Array Oper := regOps (sL (match sL (sR (sR (sR (sR (sR (bodyOf Try.f52)))))) with
  | .seq _ (.cond _ x _) => x
  | c => c))
noncomputable abbrev h11 : Code := sR (sR (sR (sR (sR (sR (bodyOf Try.f52))))))
theorem body52 : bodyOf Try.f52 = .seq h0 (.seq h1 (.seq h2 (.seq h3 (.seq h5 (.seq (.seq h6 (.cond (.tmp 29) (.seq (.region 7 q7 false) (.block 0 kRF)) .skip)) h11))))) := by kernel_rfl

noncomputable abbrev cnA (a0 a1 : NP) : St := ⟨[(1, .one (.val PT a1)), (0, .one (.val PT a0))], []⟩
noncomputable abbrev cnB (a0 a1 : NP) (c : Bool × List Int) : St := ⟨[(5, .one (.ptr 10000 0 [])), (1, .one (.val PT a1)), (0, .one (.val PT a0))], [(10000, some ⟨IT, [c], false⟩)]⟩
noncomputable abbrev cnG (x6 x7 : NP) (c : Bool × List Int) : St := ⟨[(5, .one (.ptr 10000 0 [])), (7, .one (.val PT x7)), (6, .one (.val PT x6))], [(10000, some ⟨IT, [c], false⟩)]⟩
noncomputable abbrev cnH (x6 x7 : NP) (c : Bool × List Int) : St := ⟨[(8, .one (.ptr 10001 0 [])), (5, .one (.ptr 10000 0 [])), (7, .one (.val PT x7)), (6, .one (.val PT x6))], [(10001, some ⟨PT, [x6], false⟩), (10000, some ⟨IT, [c], false⟩)]⟩
noncomputable abbrev cnI (x6 x7 : NP) (z : Bool) (c : Bool × List Int) : St := ⟨[(8, .one (.ptr 10001 0 [])), (5, .one (.ptr 10000 0 [])), (29, .one (.val .bool z)), (7, .one (.val PT x7)), (6, .one (.val PT x6))], [(10001, some ⟨PT, [x6], false⟩), (10000, some ⟨IT, [c], false⟩)]⟩
noncomputable abbrev cnZ (l : NP) (c : Bool × List Int) : St := ⟨[(8, .one (.ptr 10001 0 [])), (5, .one (.ptr 10000 0 []))], [(10001, some ⟨PT, [l], false⟩), (10000, some ⟨IT, [c], false⟩)]⟩
def LA : Live := ⟨[(0, PT), (1, PT)], [], []⟩
def LB : Live := ⟨[(0, PT), (1, PT)], [(true, 5, IT)], []⟩
def LG : Live := ⟨[(6, PT), (7, PT)], [(true, 5, IT)], []⟩
def LH : Live := ⟨[(6, PT), (7, PT)], [(true, 5, IT), (true, 8, PT)], []⟩
def LI : Live := ⟨[(6, PT), (7, PT), (29, .bool)], [(true, 5, IT), (true, 8, PT)], []⟩
def LZ : Live := ⟨[], [(true, 5, IT), (true, 8, PT)], []⟩
noncomputable abbrev feG : KT NP := finE E_Gc [(PT, false)] Try.f52.results.toList
theorem e0 (a0 a1 : NP) : evA E_Gc nC nT h0 noX (kL LA false) (kL LA true) (initSt [PT, PT] (a0, a1, ())) = some (true, cnA a0 a1) := by kernel_rfl
theorem e1 (a0 a1 : NP) : evA E_Gc nC nT h1 noX (kL LA false) (kL LB true) (cnA a0 a1) = (F_unidiv_Content a0).bind fun r1 => (F_unidiv_Content a1).bind fun r2 => (F_division_Gcd r1 r2).bind fun r3 => some (true, cnB a0 a1 r3) := by kernel_rfl
theorem e2 (a0 a1 : NP) (c : Bool × List Int) : evA E_Gc nC nT h2 noX (kL LA false) (kL LG true) (cnB a0 a1 c) = (F_unidiv_Primitive a0).bind fun r1 => (F_unidiv_Primitive a1).bind fun r2 => some (true, cnG r1 r2 c) := by kernel_rfl
theorem e3 (x6 x7 : NP) (c : Bool × List Int) : evA E_Gc nC nT h3 noX (kL LA false) (kL LG true) (cnG x6 x7 c) = (F_unipoly_Degree x6).bind fun r1 => (F_unipoly_Degree x7).bind fun r2 => if (decide (r1 < r2)) = true then some (true, cnG x7 x6 c) else some (true, cnG x6 x7 c) := by kernel_rfl
theorem e5 (x6 x7 : NP) (c : Bool × List Int) : evA E_Gc nC nT h5 noX (kL LA false) (kL LH true) (cnG x6 x7 c) = some (true, cnH x6 x7 c) := by kernel_rfl
theorem e6 (x6 x7 : NP) (c : Bool × List Int) : evA E_Gc nC nT h6 noX (kL LA false) (kL LI true) (cnH x6 x7 c) = (F_unidiv_zero x7).bind fun r1 => some (true, cnI x6 x7 (!r1) c) := by kernel_rfl
theorem e11 (l : NP) (c : Bool × List Int) : evA E_Gc nC nT h11 noX feG feG (cnZ l c) = (F_unidiv_Primitive l).bind fun p => (F_unipoly_Scale p c).bind fun r => some r := by kernel_rfl
end
end Go.W

set_option linter.unusedVariables false
set_option linter.unusedSimpArgs false
namespace Go.W
open Go Go.Proofs
noncomputable section

/-- the last piece: its results -/
theorem seg_fin {P : Program} {E : Env} (hE : EnvOK P E) (hm : P.follows .mixedOrders = true) {n : NK} {W B : Nat → Prop} {w₀ w : World} {c : Code} {ρ : Type} {K : KT ρ} {st : St} {r : ρ} {a : Act} {μ : Nat → Option Nat} {Q : Exit → Act → World → Prop}
    (hc : codeOK n.n n.ks c = true) (h : evA E nC nT c noX K K st = some r) (hR : Rel W B n st a w μ) (hWB : ∀ g, w.heap.size ≤ g → W g ∧ B g) (hFr : Fr W w₀ w)
    (hret : ∀ st a w μ, K st = some r → Rel W B n st a w μ → Fr W w₀ w → Q .ret a w ∧ Q .normal a w) : c.wp P Q a w := by
  refine evA_sound hE hm (T := fun _ => nT) (C := nC) (fun i st => rfl) c hc (by rw [keys_nC]; exact List.nodup_nil) 0 (fun _ => noX) K (fun _ => K) Q (fun m hm' i st a w μ h => by cases h)
    (fun st a w μ hk hR _ hFr => (hret st a w μ hk hR hFr).1) (fun m hm' st a w μ hk hR _ hFr => (hret st a w μ hk hR hFr).2) (fun i m f hf => ?_) 0 (Nat.le_refl _) st a w μ h hR hWB hFr
  have := entry_keys _ _ _ _ _ hf
  rw [keys_nC] at this
  cases this

/-- what is left behind -/
def GPost (w : World) (ok : Nat → Prop) (r : NP) (e : Ending) (w' : World) : Prop :=
  ∃ xs mg, e = .returned (retV xs) ∧ Fr (fun _ => False) w w' ∧ (∀ g, mg = some g → w.heap.size ≤ g) ∧ ResRep w' (fun g => (ok g ∨ w.heap.size ≤ g) ∧ g < w'.heap.size) mg w.heap.size (enc [(PT, false)] r) xs

theorem fin52 {w : World} {ok : Nat → Prop} {W B : Nat → Prop} {n : NK} {st : St} {a : Act} {w' : World} {μ : Nat → Option Nat} {r : NP} (h : feG st = some r) (hR : Rel W B n st a w' μ) (hB : ∀ g, B g → ok g ∨ w.heap.size ≤ g) (hW : ∀ g, W g → w.heap.size ≤ g) (hf : Fr (fun g => w.heap.size ≤ g) w w') :
    ∃ v, (results Try.f52 a.tmps).run Try.prog w' = .ok v w' ∧ GPost w ok r (.returned v) w' := by
  obtain ⟨xs, mg, k1, k2, k3, k4⟩ := finE_sound ok_Gc (lo := w.heap.size) hW [(PT, false)] _ st r B h (by decide) hR.hok hR.tm
  exact ⟨retV xs, results_run k1, xs, mg, rfl, hf.mono (fun g hg h => absurd hg (Nat.not_lt.2 h)), fun g hg => (by rw [k3 rfl] at hg; cases hg), ResRep.mono (fun g hg _ => ⟨hB g hg.1, hg.2⟩) (fun g hg => hg.2) (Nat.le_refl _) _ _ k4⟩

theorem fin_code {c : Bool × List Int} {l p r : NP} (hp : F_unidiv_Primitive l = some p) (hr : F_unipoly_Scale p c = some r) : evA E_Gc nC nT h11 noX feG feG (cnZ l c) = some r := by
  rw [e11, hp, Option.bind_some, hr]; rfl

noncomputable abbrev NG (df : List Deferred) : NK := NKl 42 [] df

/-- THE LOOP: from the state ahead of it to what follows it -/
theorem loop52 {w : World} {W B : Nat → Prop} {x6 x7 l : NP} {z : Bool} {c : Bool × List Int} {a : Act} {w5 : World} {μ : Nat → Option Nat} (hR : Rel W B (NG []) (cnI x6 x7 z c) a w5 μ) (hW : ∀ g, W g → w.heap.size ≤ g) (hB : ∀ g, w5.heap.size ≤ g → B g) (hf : Fr (fun g => w.heap.size ≤ g) w w5)
    {m : Nat} (hl : T_seq m x6 x7 = some l) {Q : Exit → Act → World → Prop}
    (hQ : ∀ (D : Nat) (B3 : Nat → Prop) a' w' μ', (∀ g, B3 g → B g) → w.heap.size ≤ D → ¬ B3 D → w'.heap[D]? = some (.deferred (some [])) → (∀ g, w'.heap.size ≤ g → B3 g) →
      Rel (fun g => w.heap.size ≤ g ∧ g ≠ D) B3 (NG [{ target := .collected D, args := #[] }]) (cnZ l c) a' w' μ' → Fr (fun g => w.heap.size ≤ g) w w' → Q .normal a' w') :
    (Code.seq (.region 7 q7 false) (.block 0 kRF)).wp Try.prog Q a w5 := by
  have hsz : a.tmps.size = 42 := hR.ntm.symm
  obtain ⟨x, hx⟩ : ∃ x, a.tmps.getD 6 undef = x := ⟨_, rfl⟩
  obtain ⟨y, hy⟩ : ∃ y, a.tmps.getD 7 undef = y := ⟨_, rfl⟩
  have rx : RepV w5 (okS B w5.heap.size μ (lk (cnI x6 x7 z c).hp)) PT x6 x := by rw [← hx]; exact hR.tm 6 (.one (.val PT x6)) (by kernel_rfl)
  have ry : RepV w5 (okS B w5.heap.size μ (lk (cnI x6 x7 z c).hp)) PT x7 y := by rw [← hy]; exact hR.tm 7 (.one (.val PT x7)) (by kernel_rfl)
  have hxc : x.cells = #[x] := by obtain ⟨A, c, he⟩ := rx.slice; rw [he]; rfl
  have hyc : y.cells = #[y] := by obtain ⟨A, c, he⟩ := ry.slice; rw [he]; rfl
  have rb := hR.tm 8 (.one (.ptr 10001 0 [])) (by kernel_rfl)
  have rc := hR.tm 5 (.one (.ptr 10000 0 [])) (by kernel_rfl)
  have lb : lk (cnI x6 x7 z c).hp 10001 = some (some ⟨PT, [x6], false⟩) := by kernel_rfl
  have lc' : lk (cnI x6 x7 z c).hp 10000 = some (some ⟨IT, [c], false⟩) := by kernel_rfl
  have gb : ∃ Bl, μ 10001 = some Bl ∧ a.tmps.getD 8 undef = .pointer (some ⟨Bl, 0, none⟩) := by
    obtain ⟨ob, h1, h2⟩ := rb
    rw [lb] at h1; injection h1 with h1
    obtain ⟨_, _, g, o, h3, h4, h5⟩ := h2 _ h1.symm
    injection h4 with h4; subst h4
    exact ⟨g, h3, h5⟩
  have gc : ∃ Cl, μ 10000 = some Cl ∧ a.tmps.getD 5 undef = .pointer (some ⟨Cl, 0, none⟩) := by
    obtain ⟨ob, h1, h2⟩ := rc
    rw [lc'] at h1; injection h1 with h1
    obtain ⟨_, _, g, o, h3, h4, h5⟩ := h2 _ h1.symm
    injection h4 with h4; subst h4
    exact ⟨g, h3, h5⟩
  obtain ⟨Bl, mb, tb⟩ := gb
  obtain ⟨Cl, mc, tc⟩ := gc
  obtain ⟨b1, b2, b3⟩ := hR.hok.lt 10001 _ Bl lb mb
  obtain ⟨c1, c2, c3⟩ := hR.hok.lt 10000 _ Cl lc' mc
  have hbc : Bl ≠ Cl := fun he => hR.hok.apart 10001 10000 _ _ Bl lb lc' rfl (by decide) mb (by rw [mc, he])
  have brb := hR.hok.rep 10001 _ lb
  have brc := hR.hok.rep 10000 _ lc'
  rw [mb] at brb; rw [mc] at brc
  obtain ⟨cb, eT, kb1, kb2, kb3⟩ := brb
  have kb2' : 1 ≤ cb.size := kb2
  have box0 : ∃ x0, BoxO w5.heap[Bl]? eT x0 := ⟨cb[0]'kb2', cb, kb1, by simp⟩
  -- the call of sequence
  refine wp_seq ((wpIn_wide (n := 1)).1 (wpIn_region ?_))
  refine ops_mv .wide (o := opAt q7 0) (d := 30) (y := .tmp 6) (by kernel_rfl) (wanted_none (by kernel_rfl) _) (.inl (by kernel_rfl)) (by kernel_rfl) ?_
  refine ops_mv .wide (o := opAt q7 1) (d := 31) (y := .tmp 7) (by kernel_rfl) (wanted_none (by kernel_rfl) _) (.inl (by kernel_rfl)) (by kernel_rfl) ?_
  rw [eval_tmp, eval_tmp, getD_put (by omega), if_neg (by decide), hx, hy]
  generalize ha2 : ((a.put (some 30) x).put (some 31) y) = a2
  have hs2 : a2.tmps.size = 42 := by rw [← ha2]; simp only [put_size]; exact hsz
  have t30 : a2.eval (.tmp 30) = x := by rw [← ha2, eval_tmp, getD_put (by simp only [put_size]; omega), if_neg (by decide), getD_put (by omega), if_pos rfl]
  have t31 : a2.eval (.tmp 31) = y := by rw [← ha2, eval_tmp, getD_put (by simp only [put_size]; omega), if_pos rfl]
  have t8 : a2.tmps.getD 8 undef = .pointer (some ⟨Bl, 0, none⟩) := by rw [← ha2, getD_put (by simp only [put_size]; omega), if_neg (by decide), getD_put (by omega), if_neg (by decide)]; exact tb
  have t5 : a2.tmps.getD 5 undef = .pointer (some ⟨Cl, 0, none⟩) := by rw [← ha2, getD_put (by simp only [put_size]; omega), if_neg (by decide), getD_put (by omega), if_neg (by decide)]; exact tc
  have hd2 : a2.defers = [] := by rw [← ha2]; simp only [put_defers]; exact hR.defers
  clear ha2
  refine ops_call .wide (o := opAt q7 2) (f := 77) (fn := Try.f77) (args := #[.tmp 30, .tmp 31]) (tt := #[28, 28]) (d := 32) (by kernel_rfl) (wanted_none (by kernel_rfl) _) (by kernel_rfl) (by kernel_rfl) (by kernel_rfl) (by kernel_rfl) (by kernel_rfl)
    (R := fun e w' => e = .returned (.func (.func 90) #[] #[.pointer (some ⟨w5.heap.size, 0, none⟩), .pointer (some ⟨w5.heap.size + 1, 0, none⟩)]) ∧ w' = (w5.alloc (.cells x.cells 28)).alloc (.cells y.cells 28)) (by
    have e : (#[Operand.tmp 30, Operand.tmp 31].map a2.eval) = #[x, y] := by rw [← t30, ← t31]; simp
    rw [e]; exact seq77 x y w5) ?_
  rintro e w6 ⟨rfl, hw6⟩
  refine ⟨_, rfl, ?_⟩
  generalize ha6 : (a2.put (some 32) (.func (.func 90) #[] #[.pointer (some ⟨w5.heap.size, 0, none⟩), .pointer (some ⟨w5.heap.size + 1, 0, none⟩)])) = a6
  have hs6 : a6.tmps.size = 42 := by rw [← ha6, put_size]; exact hs2
  have t32 : a6.eval (.tmp 32) = .func (.func 90) #[] #[.pointer (some ⟨w5.heap.size, 0, none⟩), .pointer (some ⟨w5.heap.size + 1, 0, none⟩)] := by rw [← ha6, eval_tmp, getD_put (by omega), if_pos rfl]
  have t8' : a6.tmps.getD 8 undef = .pointer (some ⟨Bl, 0, none⟩) := by rw [← ha6, getD_put (by omega), if_neg (by decide)]; exact t8
  have t5' : a6.tmps.getD 5 undef = .pointer (some ⟨Cl, 0, none⟩) := by rw [← ha6, getD_put (by omega), if_neg (by decide)]; exact t5
  have hd6 : a6.defers = [] := by rw [← ha6, put_defers]; exact hd2
  clear ha6
  have s6 : w6.heap.size = w5.heap.size + 2 := by rw [hw6]; simp
  have f6 : Fr (fun _ => False) w5 w6 := by rw [hw6]; exact Fr.alloc (Fr.alloc (.refl _ _) _) _
  have n0 : w6.heap[w5.heap.size]? = some (.cells #[x] 28) := by
    rw [hw6, heap_alloc _ _ _ (by simp), heap_alloc_new, hxc]
  have n1 : w6.heap[w5.heap.size + 1]? = some (.cells #[y] 28) := by
    rw [hw6, hyc]; have := heap_alloc_new (w5.alloc (.cells x.cells 28)) (.cells #[y] 28); rwa [World.size_alloc] at this
  clear hw6
  show (Code.block 0 kRF).wp Try.prog Q a6 w6
  refine wp_block ((wpIn_wide (n := 1)).1 ?_)
  rw [kRF_eq]
  refine wpIn_rangeFunc fun fn _ => ?_
  obtain ⟨W1, hW1⟩ : ∃ W1, (w6.alloc (.deferred (some []))).alloc (.loop (recG fn a6.tmps w6.heap.size)) = W1 := ⟨_, rfl⟩
  have s1 : W1.heap.size = w5.heap.size + 4 := by rw [← hW1]; simp; omega
  have f1 : Fr (fun _ => False) w6 W1 := by rw [← hW1]; exact Fr.alloc (Fr.alloc (.refl _ _) _) _
  have hL1 : W1.heap[w6.heap.size + 1]? = some (.loop (recG fn a6.tmps w6.heap.size)) := by
    rw [← hW1]; have := heap_alloc_new (w6.alloc (.deferred (some []))) (.loop (recG fn a6.tmps w6.heap.size)); rwa [World.size_alloc] at this
  have hD1 : W1.heap[w6.heap.size]? = some (.deferred (some [])) := by
    rw [← hW1, heap_alloc _ _ _ (by simp), heap_alloc_new]
  have f51 : Fr (fun _ => False) w5 W1 := f6.trans f1
  let okA : Nat → Prop := fun g => okS B w5.heap.size μ (lk (cnI x6 x7 z c).hp) g ∨ g = w5.heap.size ∨ g = w5.heap.size + 1
  have okB : ∀ g, okA g → g < w5.heap.size + 2 ∧ g ≠ Bl ∧ g ≠ Cl ∧ B g := fun g hg => by
    rcases hg with ⟨h1, h2, h3⟩ | h1 | h1
    · exact ⟨by omega, fun e => h3 10001 _ lb rfl (by rw [mb, e]), fun e => h3 10000 _ lc' rfl (by rw [mc, e]), h1⟩
    · exact ⟨by omega, by omega, by omega, hB g (by omega)⟩
    · exact ⟨by omega, by omega, by omega, hB g (by omega)⟩
  have hY : YC W1 Bl (w6.heap.size + 1) eT (recD fn a6.tmps w6.heap.size) okA := by
    refine ⟨fun g hg => ?_, by omega, by omega, by omega, ?_, fun W p x d n hfr hbox hrep hd => ?_⟩
    · obtain ⟨q1, q2, _, _⟩ := okB g hg
      exact ⟨by omega, q2, by omega⟩
    · rw [f51.block Bl (by omega) (fun h => h)]; exact box0
    · obtain ⟨x0, hbox⟩ := hbox
      refine round52 hs6 t8' (by omega) ?_ hbox hrep (fun g hg => ?_) hd n
      · rw [hfr.block (w6.heap.size + 1) (by omega) (by omega)]; exact hL1
      · obtain ⟨h1 | h1, h2⟩ := hg
        · obtain ⟨q1, q2, _, _⟩ := okB g h1
          exact ⟨h2, q2, by omega⟩
        · exact ⟨h2, by omega, by omega⟩
  have ptr : ∀ (k : Nat) (v : NP) (u : Value), (k = w5.heap.size ∨ k = w5.heap.size + 1) → W1.heap[k]? = some (.cells #[u] 28) → u.cells = #[u] → RepV w5 (okS B w5.heap.size μ (lk (cnI x6 x7 z c).hp)) PT v u → RepPV (Br W1 okA) W1 (fun _ => none) (lk ([] : Ups)) (.eptr PT v) (.pointer (some ⟨k, 0, none⟩)) := fun k v u hk hc hu hr => by
    refine ⟨k, 0, [u], rfl, ⟨.inl (.inr hk), by omega, fun b blk hb => by cases hb⟩, ?_, fun j u' hj => ?_⟩
    · have := hr.cells
      rw [hu] at this
      exact Rep.mono (fun g hg _ => f51.block g hg.2.1 (fun h => h)) (fun g hg _ => ⟨.inl (.inl hg), Nat.lt_of_lt_of_le hg.2.1 f51.size, fun b blk hb => by cases hb⟩) this okS_lt
    · have hj0 : j = 0 := by have := (List.getElem?_eq_some_iff.1 hj).1; simp at this; exact this
      subst hj0
      injection hj with hj; subst hj
      simp [World.cell?, hc]
  have p1 := ptr w5.heap.size x6 x (.inl rfl) (by rw [f1.block _ (by omega) (fun h => h)]; exact n0) hxc rx
  have p2 := ptr (w5.heap.size + 1) x7 y (.inr rfl) (by rw [f1.block _ (by omega) (fun h => h)]; exact n1) hyc ry
  have hit := it90 hY hl p1 p2
  refine ⟨w6.heap.size + 1, [{ target := .collected w6.heap.size, args := #[] }], W1, { target := .fn (.func 90) #[.pointer (some ⟨w5.heap.size, 0, none⟩), .pointer (some ⟨w5.heap.size + 1, 0, none⟩)], args := #[.func (.yield (w6.heap.size + 1)) #[] #[]] }, W1, 90,
    #[.func (.yield (w6.heap.size + 1)) #[] #[], .pointer (some ⟨w5.heap.size, 0, none⟩), .pointer (some ⟨w5.heap.size + 1, 0, none⟩)], W1, ?_, ?_, ?_, ?_, fun _ => Nat.le_refl 1, ?_⟩
  · rw [← hW1]; exact run_enterLoop_outer _ _ _ _ _
  · simp only [resolve, t32]
    simp [go_sem]
  · intro f' _; trivial
  · simp [invoke, callFunc_enter (P := Try.prog) (f := 90) (fn := Try.f90) (by kernel_rfl) (by kernel_rfl) (by kernel_rfl)]
  refine callsIn_wide.2 (hit.mono ?_)
  rintro e W' ⟨rfl, x', hr', ⟨c', hb', hb0⟩, hend⟩
  -- behind the iterator
  have s' : W1.heap.size ≤ W'.heap.size := by rcases hend with h | ⟨h, _⟩ <;> exact h.size
  have fW : Fr (fun g => g = Bl ∨ g = w6.heap.size + 1) W1 W' := by
    rcases hend with h | ⟨h, _⟩
    · exact h.mono fun g _ hg => .inl hg
    · exact h
  have main : ∀ (o : Loop) (w4 : World), W'.putObj (w6.heap.size + 1) (.loop o) = w4 → Q .normal { a6 with defers := [{ target := .collected w6.heap.size, args := #[] }] ++ a6.defers } w4 := fun o w4 hw4 => by
    have f4 : Fr (fun g => g = w6.heap.size + 1) W' w4 := by rw [← hw4]; exact Fr.putObj (fun c t fr h => by cases h)
    have f54 : Fr (fun g => g = Bl ∨ g = w6.heap.size + 1) w5 w4 := ((f51.mono fun g _ h => h.elim).trans fW).trans (f4.mono fun g _ h => .inr h)
    have same : ∀ g, g < w5.heap.size → g ≠ Bl → w4.heap[g]? = w5.heap[g]? := fun g h1 h2 => f54.block g h1 (by omega)
    have hBl4 : w4.heap[Bl]? = some (.cells c' eT (0, 0)) := by rw [f4.block Bl (by omega) (by omega)]; exact hb'
    let B3 : Nat → Prop := fun g => (B g ∧ g < w6.heap.size) ∨ W1.heap.size ≤ g
    let μ3 : Nat → Option Nat := fun b => if b = 10001 then some Bl else if b = 10000 then some Cl else none
    have hp : ∀ b blk, lk (cnZ l c).hp b = some (some blk) → (b = 10001 ∧ blk = ⟨PT, [l], false⟩) ∨ (b = 10000 ∧ blk = ⟨IT, [c], false⟩) := fun b blk h => by
      rw [lk_cons] at h
      split at h
      · rename_i he; injection h with h; injection h with h; exact .inl ⟨he.symm, h.symm⟩
      · rw [lk_cons] at h
        split at h
        · rename_i he; injection h with h; injection h with h; exact .inr ⟨he.symm, h.symm⟩
        · cases h
    have m1 : μ3 10001 = some Bl := by simp [μ3]
    have m0 : μ3 10000 = some Cl := by simp [μ3]
    have okS3 : ∀ g, B3 g → g < w4.heap.size → g ≠ Bl → g ≠ Cl → okS B3 w4.heap.size μ3 (lk (cnZ l c).hp) g := fun g h1 h2 h3 h4 => ⟨h1, h2, fun b blk hb _ => by
      rcases hp b blk hb with ⟨rfl, _⟩ | ⟨rfl, _⟩
      · rw [m1]; intro h; injection h with h; exact h3 h.symm
      · rw [m0]; intro h; injection h with h; exact h4 h.symm⟩
    have s4 : w4.heap.size = W'.heap.size := by rw [← hw4]; simp
    have hH : HOK (fun g => w.heap.size ≤ g ∧ g ≠ w6.heap.size) B3 w4 μ3 (lk (cnZ l c).hp) := by
      refine ⟨fun b blk g hb hg => ?_, fun b b' blk blk' g hb hb' _ hne hg => ?_, fun b blk hb => ?_⟩
      · rcases hp b blk hb with ⟨rfl, _⟩ | ⟨rfl, _⟩
        · rw [m1] at hg; injection hg with hg; subst hg
          exact ⟨.inl ⟨b1, by omega⟩, by omega, fun _ => ⟨hW _ (b3 rfl), by omega⟩⟩
        · rw [m0] at hg; injection hg with hg; subst hg
          exact ⟨.inl ⟨c1, by omega⟩, by omega, fun _ => ⟨hW _ (c3 rfl), by omega⟩⟩
      · rcases hp b blk hb with ⟨rfl, _⟩ | ⟨rfl, _⟩ <;> rcases hp b' blk' hb' with ⟨rfl, _⟩ | ⟨rfl, _⟩
        · exact absurd rfl hne
        · rw [m1] at hg; injection hg with hg; rw [m0, ← hg]; intro h; injection h with h; exact hbc h.symm
        · rw [m0] at hg; injection hg with hg; rw [m1, ← hg]; intro h; injection h with h; exact hbc h
        · exact absurd rfl hne
      · rcases hp b blk hb with ⟨rfl, rfl⟩ | ⟨rfl, rfl⟩
        · rw [m1]
          refine ⟨c', eT, hBl4, by have := (Array.getElem?_eq_some_iff.1 hb0).1; show 1 ≤ c'.size; omega, fun i hi => ?_⟩
          obtain rfl : i = 0 := by simp at hi; exact hi
          have hsl := hr'.slice
          have hxc' : x'.cells = #[x'] := by obtain ⟨A, c, he⟩ := hsl; rw [he]; rfl
          have hc := hr'.cells
          rw [hxc'] at hc
          refine ⟨[x'], Rep.mono (fun g hg _ => ?_) (fun g hg _ => ?_) hc (fun g hg => hg.2), fun j u hj => ?_⟩
          · obtain ⟨h1 | h1, h2⟩ := hg
            · obtain ⟨q1, q2, _, _⟩ := okB g h1
              exact f4.block g h2 (by omega)
            · exact f4.block g h2 (by omega)
          · obtain ⟨h1 | h1, h2⟩ := hg
            · obtain ⟨q1, q2, q3, q4⟩ := okB g h1
              exact okS3 g (.inl ⟨q4, by omega⟩) (by omega) q2 q3
            · exact okS3 g (.inr h1) (by omega) (by omega) (by omega)
          · have hj0 : j = 0 := by have := (List.getElem?_eq_some_iff.1 hj).1; simp at this; exact this
            subst hj0
            injection hj with hj; subst hj
            simpa using hb0
        · rw [m0]
          refine BRep.mono (fun g hg => ?_) (fun g hg => ?_) (fun g hg => ?_) okS_lt brc
          · exact same g hg.2.1 (fun e => hg.2.2 10001 _ lb rfl (by rw [mb, e]))
          · injection hg with hg; subst hg; exact same _ c2 (Ne.symm hbc)
          · exact okS3 g (.inl ⟨hg.1, by have := hg.2.1; omega⟩) (by have := hg.2.1; omega) (fun e => hg.2.2 10001 _ lb rfl (by rw [mb, e])) (fun e => hg.2.2 10000 _ lc' rfl (by rw [mc, e]))
    have hptr : ∀ (b g : Nat) (blk : Blk), lk (cnZ l c).hp b = some (some blk) → blk.l.length = 1 → μ3 b = some g → RepPV B3 w4 μ3 (lk (cnZ l c).hp) (.ptr b 0 []) (.pointer (some ⟨g, 0, none⟩)) := fun b g blk hb h1 hg => by
      refine ⟨some blk, hb, fun blk' he => ?_⟩
      injection he with he; subst he
      exact ⟨by decide, by rw [h1]; decide, g, 0, hg, rfl, by simp⟩
    refine hQ w6.heap.size B3 _ w4 μ3 (fun g hg => ?_) (by have := hf.size; omega) (fun h => ?_) ?_ (fun g hg => .inr (by omega)) ⟨hH, fun t tv ht => ?_, by rw [hd6]; rfl, fun t tv ht => ?_, hs6.symm, fun t v h => by cases h⟩ ?_
    · rcases hg with h | h
      · exact h.1
      · exact hB g (by omega)
    · rcases h with h | h
      · exact absurd h.2 (Nat.lt_irrefl _)
      · omega
    · rw [f4.block _ (by omega) (by omega), fW.block _ (by omega) (by omega)]; exact hD1
    · rw [lk_cons] at ht
      split at ht
      · rename_i he; subst he; injection ht with ht; subst ht
        show RepPV B3 w4 μ3 (lk (cnZ l c).hp) (.ptr 10001 0 []) (a6.tmps.getD 8 undef)
        rw [t8']; exact hptr 10001 Bl ⟨PT, [l], false⟩ (by kernel_rfl) rfl m1
      · rw [lk_cons] at ht
        split at ht
        · rename_i he; subst he; injection ht with ht; subst ht
          show RepPV B3 w4 μ3 (lk (cnZ l c).hp) (.ptr 10000 0 []) (a6.tmps.getD 5 undef)
          rw [t5']; exact hptr 10000 Cl ⟨IT, [c], false⟩ (by kernel_rfl) rfl m0
        · cases ht
    · show t < a6.tmps.size
      rw [lk_cons] at ht
      split at ht
      · omega
      · rw [lk_cons] at ht
        split at ht
        · omega
        · cases ht
    · exact hf.trans (f54.mono fun g hg h => by
        have h1 := hW _ (b3 rfl); have h2 := hf.size
        rcases h with h | h <;> omega)
  rcases hend with h | ⟨h, hl2⟩
  · have hl2 : W'.heap[w6.heap.size + 1]? = some (.loop (recG fn a6.tmps w6.heap.size)) := by rw [h.block _ (by omega) (by omega)]; exact hL1
    exact ⟨none, _, run_endLoop hl2 (by simp [recG]), main _ _ rfl⟩
  · exact ⟨some (.exit 0), _, run_endLoop hl2 (by simp [recD]), wpIn_exit (main _ _ rfl)⟩
end
end Go.W

set_option linter.unusedVariables false
set_option linter.unusedSimpArgs false
namespace Go.W
open Go Go.Proofs
noncomputable section
theorem gcd52 {m : Nat} {a0 a1 r : NP} (hr : T_unidiv_Gcd m a0 a1 = some r) {w : World} {ok : Nat → Prop} {vs : List Value} (hok : ∀ g, ok g → g < w.heap.size) (hargs : ArgsRep w ok [PT, PT] (a0, a1, ()) vs) : Calls Try.prog 52 vs.toArray w (GPost w ok r) := by
  obtain ⟨r1, q1, hr⟩ := bindE hr
  obtain ⟨r2, q2, hr⟩ := bindE hr
  obtain ⟨c, q3, hr⟩ := bindE hr
  obtain ⟨r4, q4, hr⟩ := bindE hr
  obtain ⟨r5, q5, hr⟩ := bindE hr
  obtain ⟨d6, q6, hr⟩ := bindE hr
  obtain ⟨d7, q7', hr⟩ := bindE hr
  obtain ⟨z, qz, hr⟩ := bindE hr
  obtain ⟨l, ql, hr⟩ := bindE hr
  obtain ⟨p, qp, hfin⟩ := bindE hr
  obtain ⟨x6, hx6⟩ : ∃ x, (if d6 < d7 then r5 else r4) = x := ⟨_, rfl⟩
  obtain ⟨x7, hx7⟩ : ∃ x, (if d6 < d7 then r4 else r5) = x := ⟨_, rfl⟩
  rw [hx6, hx7] at ql; rw [hx7] at qz
  have hlen := ArgsRep.length [PT, PT] (a0, a1, ()) vs hargs
  simp only [List.length_cons, List.length_nil] at hlen
  refine (callsIn_wide (n := 1)).1 (callsIn_of_wp_marks (F := Fence.wide) (fn := Try.f52) (c := bodyOf Try.f52) (by kernel_rfl) (by kernel_rfl) trivial (wpIn_wide.2 ?_))
  rw [body52]
  have hnt : Try.f52.ntmps = 42 := by kernel_rfl
  let B : Nat → Prop := fun g => ok g ∨ w.heap.size ≤ g
  let W : Nat → Prop := fun g => w.heap.size ≤ g
  have hR : Rel W B (NG []) (initSt [PT, PT] (a0, a1, ())) { tmps := vs.toArray ++ Array.replicate (Try.f52.ntmps - vs.toArray.size) undef, defers := [] } w (fun _ => none) := by
    refine ⟨⟨fun b blk g hb => (by cases hb), fun b b' blk blk' g hb => (by cases hb), fun b blk hb => (by cases hb)⟩, fun t tv ht => ?_, rfl, fun t tv ht => ?_, ?_, fun t v h => by cases h⟩
    · obtain ⟨_, ty, v, rfl, hr⟩ := initTm_sound (tail := Array.replicate (Try.f52.ntmps - vs.toArray.size) undef) [PT, PT] (a0, a1, ()) vs [] hargs t tv ht
      exact RepV.mono (fun _ _ _ => rfl) (fun g hg _ => ⟨.inl hg, hok g hg, fun b blk hb => by cases hb⟩) hok hr
    · obtain ⟨h1, _⟩ := initTm_sound (tail := Array.replicate (Try.f52.ntmps - vs.toArray.size) undef) [PT, PT] (a0, a1, ()) vs [] hargs t tv ht
      simp only [List.length_nil, Nat.zero_add, List.length_cons] at h1
      simp [hnt]
      omega
    · show 42 = _
      simp [hnt, hlen]
  generalize ha : ({ tmps := vs.toArray ++ Array.replicate (Try.f52.ntmps - vs.toArray.size) undef, defers := [] } : Act) = a at hR ⊢
  clear ha
  have go : ∀ {c : Code} {LR LK : Live} {st s1 : St} {a : Act} {w1 : World} {μ : Nat → Option Nat} {Q : Exit → Act → World → Prop}, codeOK 42 [] c = true → evA E_Gc nC nT c noX (kL LR false) (kL LK true) st = some (true, s1) → Rel W B (NG []) st a w1 μ → Fr W w w1 →
      (∀ a' w' μ', Rel W B (NG []) s1 a' w' μ' → Fr W w w' → Q .normal a' w') → c.wp Try.prog Q a w1 := fun hc he hR hF hQ =>
    seg_wp ok_Gc mixed_ok hc he hR (fun g hg => ⟨Nat.le_trans hF.size hg, .inr (Nat.le_trans hF.size hg)⟩) hF (fun h => by cases h) fun _ a' w' μ' h1 _ h3 => hQ a' w' μ' h1 h3
  refine wp_seq (go (by kernel_rfl) (e0 a0 a1) hR (.refl _ _) fun a0' w0 μ0 hR0 F0 => ?_)
  refine wp_seq (go (c := h1) (s1 := cnB a0 a1 c) (by kernel_rfl) (by rw [e1, q1, Option.bind_some, q2, Option.bind_some, q3, Option.bind_some]) hR0 F0 fun a1' w1 μ1 hR1 F1 => ?_)
  refine wp_seq (go (c := h2) (s1 := cnG r4 r5 c) (by kernel_rfl) (by rw [e2, q4, Option.bind_some, q5, Option.bind_some]) hR1 F1 fun a2' w2 μ2 hR2 F2 => ?_)
  refine wp_seq (go (c := h3) (s1 := cnG x6 x7 c) (by kernel_rfl) (by
    rw [e3, q6, Option.bind_some, q7', Option.bind_some, ← hx6, ← hx7]
    by_cases h : d6 < d7
    · rw [if_pos (decide_eq_true h), if_pos h, if_pos h]
    · rw [if_neg (by simpa using h), if_neg h, if_neg h]) hR2 F2 fun a3' w3 μ3 hR3 F3 => ?_)
  refine wp_seq (go (c := h5) (s1 := cnH x6 x7 c) (by kernel_rfl) (e5 x6 x7 c) hR3 F3 fun a4' w4 μ4 hR4 F4 => ?_)
  refine wp_seq (wp_seq (go (c := h6) (s1 := cnI x6 x7 (!z) c) (by kernel_rfl) (by rw [e6, qz, Option.bind_some]) hR4 F4 fun a5 w5 μ5 hR5 F5 => ?_))
  have hz := rep_bool (hR5.tm 29 (.one (.val .bool (!z))) (by kernel_rfl))
  cases z with
  | true =>
    rw [if_pos rfl] at ql
    injection ql with ql; subst ql
    refine wp_cond_false (by rw [eval_tmp]; exact hz) (wp_skip ?_)
    obtain ⟨st', μ', hk, hRZ⟩ := cutE_sound (L := LZ) (K := fun st => some st) (r := cnZ x6 c) (by kernel_rfl) hR5
    injection hk with hk
    subst hk
    refine seg_fin (K := feG) ok_Gc mixed_ok (by kernel_rfl) (fin_code qp hfin) hRZ (fun g hg => ⟨Nat.le_trans F5.size hg, .inr (Nat.le_trans F5.size hg)⟩) F5 fun st a' w' μ'' hk hR' hF' => ?_
    have := fin52 (w := w) (ok := ok) hk hR' (fun g hg => hg) (fun g hg => hg) hF'
    have hd : a'.defers = [] := hR'.defers
    constructor <;> (show LeavesInM _ _ _ _ _ _ _ _ _; rw [hd]; exact this)
  | false =>
    rw [if_neg (by decide)] at ql
    refine wp_cond_true (by rw [eval_tmp]; exact hz) ?_
    refine loop52 (w := w) hR5 (fun g hg => hg) (fun g hg => .inr (Nat.le_trans F5.size hg)) F5 ql fun D B3 a' w' μ' hB3 hD hnD hK hnew hRZ hF' => ?_
    refine seg_fin (K := feG) ok_Gc mixed_ok (by kernel_rfl) (fin_code qp hfin) hRZ (fun g hg => ⟨⟨Nat.le_trans hF'.size hg, by have := (Array.getElem?_eq_some_iff.1 hK).1; omega⟩, hnew g hg⟩) (.refl _ _) fun st a2 w2 μ2 hk hR' hF2 => ?_
    have hDs : D < w'.heap.size := (Array.getElem?_eq_some_iff.1 hK).1
    have hK2 : w2.heap[D]? = some (.deferred (some [])) := by rw [hF2.block D hDs (fun h => h.2 rfl)]; exact hK
    have hd : a2.defers = [{ target := .collected D, args := #[] }] := hR'.defers
    have hT : Fr (fun g => g = D) w2 (w2.putObj D (.deferred none)) := Fr.putObj (fun c t fr h => by cases h)
    have hR2 := hR'.world (w' := w2.putObj D (.deferred none)) hT.size (fun g hg hlt => hT.block g hlt (fun e => hnD (e ▸ hg)))
    have := fin52 (w := w) (ok := ok) hk hR2 (fun g hg => hB3 g hg) (fun g hg => hg.1) ((hF'.trans (hF2.mono fun g _ h => h.1)).trans (hT.mono fun g _ h => by rw [h]; exact hD))
    constructor <;> (show LeavesInM _ _ _ _ _ _ _ _ _; rw [hd]; exact ⟨by simp, .inl ⟨D, _, rfl, run_takeDeferred hK2, this⟩⟩)
theorem gcd_sound {F : NP → NP → Option NP} (h : ∀ a0 a1 r, F a0 a1 = some r → ∃ m, T_unidiv_Gcd m a0 a1 = some r) : FSound Try.prog 52 [PT, PT] [(PT, false)] (fun τ => F τ.1 τ.2.1) := by
  intro τ r hr w ok vs hok hargs
  obtain ⟨a0, a1, ⟨⟩⟩ := τ
  obtain ⟨m, hm⟩ := h a0 a1 r hr
  exact gcd52 hm hok hargs
theorem fs_unidiv_Gcd : FSound Try.prog 52 [PT, PT] [(PT, false)] (fun τ => F_unidiv_Gcd τ.1 τ.2.1) := gcd_sound Rn_unidiv_Gcd
end
end Go.W

