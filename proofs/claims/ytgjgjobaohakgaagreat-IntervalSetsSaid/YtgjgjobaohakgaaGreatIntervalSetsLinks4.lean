/- A part of the proof: texts LkZ. What is proved in the end stands in the last file. -/
import Derived.Test.YtgjgjobaohakgaaGreatWc4
import Derived.Test.YtgjgjobaohakgaaGreatProg
set_option linter.unusedVariables false
set_option linter.unusedSimpArgs false
set_option linter.unusedSectionVars false
set_option linter.unusedVariables false
namespace Go.W
open Go.Proofs
noncomputable section

def tys : List (Nat × TI) := [(2, ⟨.int .i64, 0, 0⟩), (3, ⟨.int .i64, 0, 0⟩), (4, ⟨.bool, 0, 0⟩), (5, ⟨.int .u8, 0, 0⟩), (6, ⟨.int .u8, 0, 0⟩), (7, ⟨.pair (.int .i64) (.pair (.int .i64) (.pair (.bool) (.int .u8))), 4, 0⟩), (8, ⟨.pair (.int .i64) (.pair (.int .i64) (.pair (.bool) (.int .u8))), 4, 0⟩), (9, ⟨.str, 0, 0⟩), (10, ⟨.str, 0, 0⟩), (11, ⟨.str, 0, 0⟩), (12, ⟨.int .u64, 0, 0⟩), (13, ⟨.pair (.str) (.int .u64), 2, 0⟩), (14, ⟨.pair (.str) (.int .u64), 2, 0⟩), (21, ⟨.int .i32, 0, 0⟩), (22, ⟨.slice (.int .u32), 0, 4⟩), (23, ⟨.slice (.int .u32), 0, 4⟩), (24, ⟨.pair (.bool) (.slice (.int .u32)), 2, 0⟩), (25, ⟨.pair (.bool) (.slice (.int .u32)), 2, 0⟩), (26, ⟨.pair (.pair (.bool) (.slice (.int .u32))) (.slice (.int .u32)), 2, 0⟩), (27, ⟨.pair (.pair (.bool) (.slice (.int .u32))) (.slice (.int .u32)), 2, 0⟩), (28, ⟨.pair (.pair (.pair (.bool) (.slice (.int .u32))) (.slice (.int .u32))) (.pair (.pair (.bool) (.slice (.int .u32))) (.slice (.int .u32))), 2, 0⟩), (29, ⟨.pair (.pair (.pair (.bool) (.slice (.int .u32))) (.slice (.int .u32))) (.pair (.pair (.bool) (.slice (.int .u32))) (.slice (.int .u32))), 2, 0⟩), (33, ⟨.slice (.int .i64), 0, 8⟩), (34, ⟨.pair (.int .i64) (.slice (.int .i64)), 2, 0⟩), (35, ⟨.pair (.int .i64) (.slice (.int .i64)), 2, 0⟩), (36, ⟨.pair (.pair (.int .i64) (.slice (.int .i64))) (.pair (.int .i64) (.slice (.int .i64))), 2, 0⟩), (37, ⟨.pair (.pair (.int .i64) (.slice (.int .i64))) (.pair (.int .i64) (.slice (.int .i64))), 2, 0⟩), (38, ⟨.pair (.pair (.pair (.int .i64) (.slice (.int .i64))) (.pair (.int .i64) (.slice (.int .i64)))) (.pair (.pair (.int .i64) (.slice (.int .i64))) (.pair (.int .i64) (.slice (.int .i64)))), 2, 0⟩), (39, ⟨.pair (.pair (.pair (.int .i64) (.slice (.int .i64))) (.pair (.int .i64) (.slice (.int .i64)))) (.pair (.pair (.int .i64) (.slice (.int .i64))) (.pair (.int .i64) (.slice (.int .i64)))), 2, 0⟩), (50, ⟨.slice (.pair (.pair (.bool) (.slice (.int .u32))) (.slice (.int .u32))), 0, 56⟩), (51, ⟨.slice (.pair (.pair (.int .i64) (.slice (.int .i64))) (.pair (.int .i64) (.slice (.int .i64)))), 0, 64⟩), (75, ⟨.arr 3 (.pair (.pair (.bool) (.slice (.int .u32))) (.slice (.int .u32))), 0, 0⟩), (88, ⟨.slice (.slice (.int .u32)), 0, 24⟩), (107, ⟨.int .u64, 0, 0⟩), (108, ⟨.int .u32, 0, 0⟩), (111, ⟨.int .i64, 0, 0⟩), (126, ⟨.int .u64, 0, 0⟩), (129, ⟨.slice (.int .u8), 0, 1⟩), (156, ⟨.int .u8, 0, 0⟩), (157, ⟨.int .u8, 0, 0⟩), (160, ⟨.int .i32, 0, 0⟩), (161, ⟨.int .i32, 0, 0⟩)]
theorem tys_ok : tysChk Tryz.prog (lk tys) tys = true := by kernel_rfl
theorem mixed_ok : Tryz.prog.follows .mixedOrders = true := by kernel_rfl

abbrev E_integer_made : Env := mkE tys [] []
def c_integer_made : List (Nat × Live) := []
noncomputable abbrev fe_integer_made := (finE (E_integer_made) [(.pair (.bool) (.slice (.int .u32)), false)] Tryz.f84.results.toList)
theorem top_integer_made (S : Nat → KT (RT [(.pair (.bool) (.slice (.int .u32)), false)])) (a0 : Bool) (a1 : List Int) : evA (E_integer_made) (lk c_integer_made) S (bodyOf Tryz.f84) noX (fe_integer_made) (fe_integer_made) (initSt [.bool, .slice (.int .u32)] (a0, a1, ())) = T_integer_made a0 a1 := by kernel_rfl
noncomputable abbrev tb_integer_made := tab (E_integer_made) (lk c_integer_made) (bodyOf Tryz.f84) (fe_integer_made)
theorem ok_integer_made : EnvOK Tryz.prog (E_integer_made) := mkE_ok tys_ok trivial trivial
theorem fs_integer_made : FSound Tryz.prog 84 [.bool, .slice (.int .u32)] [(.pair (.bool) (.slice (.int .u32)), false)] (fun τ => F_integer_made τ.1 τ.2.1) :=
  evG_sound (E := (E_integer_made)) (C := (lk c_integer_made)) ok_integer_made mixed_ok (fn := Tryz.f84) (c := (bodyOf Tryz.f84)) (by kernel_rfl) (by kernel_rfl) (by kernel_rfl) (by kernel_rfl) (by kernel_rfl) (by kernel_rfl) (fun τ r h => by
    obtain ⟨a0, a1, ⟨⟩⟩ := τ
    obtain ⟨m, hm⟩ := Rn_integer_made a0 a1 r h
    exact ⟨m, (top_integer_made (tb_integer_made m) a0 a1).trans (hm m (Nat.le_refl m))⟩)

abbrev E_natural_trim : Env := mkE tys [] []
def c_natural_trim : List (Nat × Live) := [(9, ⟨[(0, .slice (.int .u32)), (3, .int .i64)], [], []⟩)]
noncomputable abbrev fe_natural_trim := (finE (E_natural_trim) [(.slice (.int .u32), false)] Tryz.f95.results.toList)
noncomputable abbrev cn_natural_trim_9 (x0 : List Int) (x3 : Int) : St := ⟨[(3, .one (.val (.int .i64) x3)), (0, .one (.val (.slice (.int .u32)) x0))], []⟩
noncomputable abbrev kk_natural_trim_9 (S : Nat → KT (RT [(.slice (.int .u32), false)])) := fun (x0 : List Int) (x3 : Int) => S 9 (cn_natural_trim_9 x0 x3)
theorem top_natural_trim (S : Nat → KT (RT [(.slice (.int .u32), false)])) (a0 : List Int) : evA (E_natural_trim) (lk c_natural_trim) S (bodyOf Tryz.f95) noX (fe_natural_trim) (fe_natural_trim) (initSt [.slice (.int .u32)] (a0, ())) = T_natural_trim (kk_natural_trim_9 S) a0 := by kernel_rfl
theorem seg_natural_trim_9 (S : Nat → KT (RT [(.slice (.int .u32), false)])) (x0 : List Int) (x3 : Int) : stepT (entry (E_natural_trim) (lk c_natural_trim) S 9 (bodyOf Tryz.f95) noX (fe_natural_trim) (fe_natural_trim)) (cn_natural_trim_9 x0 x3) = S_natural_trim_9 (kk_natural_trim_9 S) x0 x3 := by kernel_rfl
noncomputable abbrev tb_natural_trim := tab (E_natural_trim) (lk c_natural_trim) (bodyOf Tryz.f95) (fe_natural_trim)
theorem ok_natural_trim : EnvOK Tryz.prog (E_natural_trim) := mkE_ok tys_ok trivial trivial
theorem fs_natural_trim : FSound Tryz.prog 95 [.slice (.int .u32)] [(.slice (.int .u32), false)] (fun τ => F_natural_trim τ.1) :=
  evG_sound (E := (E_natural_trim)) (C := (lk c_natural_trim)) ok_natural_trim mixed_ok (fn := Tryz.f95) (c := (bodyOf Tryz.f95)) (by kernel_rfl) (by kernel_rfl) (by kernel_rfl) (by kernel_rfl) (by kernel_rfl) (by kernel_rfl) (fun τ r h => by
    obtain ⟨a0, ⟨⟩⟩ := τ
    obtain ⟨m, hm⟩ := Rn_natural_trim (fun m => kk_natural_trim_9 (tb_natural_trim m)) (fun m x0 x3 => (tab_succ (E_natural_trim) (lk c_natural_trim) (bodyOf Tryz.f95) (fe_natural_trim) m 9 (cn_natural_trim_9 x0 x3)).trans (seg_natural_trim_9 (tb_natural_trim m) x0 x3)) a0 r h
    exact ⟨m, (top_natural_trim (tb_natural_trim m) a0).trans (hm m (Nat.le_refl m))⟩)

abbrev Eo_natural_trim : Env := mkE tys [] []
def co_natural_trim : List (Nat × Live) := [(9, ⟨[(3, .int .i64)], [(false, 0, .int .u32)], []⟩)]
noncomputable abbrev feo_natural_trim := (finO (Eo_natural_trim) 0 false (.int .u32) .pre Tryz.f95.results.toList)
noncomputable abbrev cno_natural_trim_9 (x3 : Int) (x0 : List Int) : St := ⟨[(0, .one (.loc (.int .u32) 10000)), (3, .one (.val (.int .i64) x3))], [(10000, some ⟨.int .u32, x0, false⟩)]⟩
noncomputable abbrev kko_natural_trim_9 (S : Nat → KT (CD false (.int .u32) × RS.D .pre)) := fun (x3 : Int) (x0 : List Int) => S 9 (cno_natural_trim_9 x3 x0)
theorem topo_natural_trim (S : Nat → KT (CD false (.int .u32) × RS.D .pre)) (l : List Int) : evA (Eo_natural_trim) (lk co_natural_trim) S (bodyOf Tryz.f95) noX (feo_natural_trim) (feo_natural_trim) (initO [] () false (.int .u32) l) = To_natural_trim (kko_natural_trim_9 S) l := by kernel_rfl
theorem sego_natural_trim_9 (S : Nat → KT (CD false (.int .u32) × RS.D .pre)) (x3 : Int) (x0 : List Int) : stepT (entry (Eo_natural_trim) (lk co_natural_trim) S 9 (bodyOf Tryz.f95) noX (feo_natural_trim) (feo_natural_trim)) (cno_natural_trim_9 x3 x0) = So_natural_trim_9 (kko_natural_trim_9 S) x3 x0 := by kernel_rfl
noncomputable abbrev tbo_natural_trim := tab (Eo_natural_trim) (lk co_natural_trim) (bodyOf Tryz.f95) (feo_natural_trim)
theorem oko_natural_trim : EnvOK Tryz.prog (Eo_natural_trim) := mkE_ok tys_ok trivial trivial
theorem os_natural_trim : OSound Tryz.prog 95 [] false (.int .u32) .pre (fun τ l => O_natural_trim l) :=
  evO_sound (E := (Eo_natural_trim)) (C := (lk co_natural_trim)) oko_natural_trim mixed_ok (fn := Tryz.f95) (k := (bodyOf Tryz.f95)) (by kernel_rfl) (by kernel_rfl) (by kernel_rfl) (by kernel_rfl) (by kernel_rfl) (fun τ l r h => by
    obtain ⟨⟩ := τ
    obtain ⟨m, hm⟩ := Rno_natural_trim (fun m => kko_natural_trim_9 (tbo_natural_trim m)) (fun m x3 x0 => (tab_succ (Eo_natural_trim) (lk co_natural_trim) (bodyOf Tryz.f95) (feo_natural_trim) m 9 (cno_natural_trim_9 x3 x0)).trans (sego_natural_trim_9 (tbo_natural_trim m) x3 x0)) l r h
    exact ⟨m, (topo_natural_trim (tbo_natural_trim m) l).trans (hm m (Nat.le_refl m))⟩)

abbrev E_natural_Of : Env := mkE tys [] [(95, mixO (callO [] false (.int .u32) .pre (fun τ l => O_natural_trim l)) (callI (callE [.slice (.int .u32)] [(.slice (.int .u32), false)] (fun τ => F_natural_trim τ.1))))]
def c_natural_Of : List (Nat × Live) := []
noncomputable abbrev fe_natural_Of := (finE (E_natural_Of) [(.slice (.int .u32), false)] Tryz.f85.results.toList)
theorem top_natural_Of (S : Nat → KT (RT [(.slice (.int .u32), false)])) (a0 : Int) : evA (E_natural_Of) (lk c_natural_Of) S (bodyOf Tryz.f85) noX (fe_natural_Of) (fe_natural_Of) (initSt [.int .u64] (a0, ())) = T_natural_Of a0 := by kernel_rfl
noncomputable abbrev tb_natural_Of := tab (E_natural_Of) (lk c_natural_Of) (bodyOf Tryz.f85) (fe_natural_Of)
theorem ok_natural_Of : EnvOK Tryz.prog (E_natural_Of) := mkE_ok tys_ok trivial ⟨⟨PSound.mix os_natural_trim.psound (CSound.psound fs_natural_trim.csound), ⟨Tryz.f95, by kernel_rfl, by kernel_rfl, by kernel_rfl⟩⟩, trivial⟩
theorem fs_natural_Of : FSound Tryz.prog 85 [.int .u64] [(.slice (.int .u32), false)] (fun τ => F_natural_Of τ.1) :=
  evG_sound (E := (E_natural_Of)) (C := (lk c_natural_Of)) ok_natural_Of mixed_ok (fn := Tryz.f85) (c := (bodyOf Tryz.f85)) (by kernel_rfl) (by kernel_rfl) (by kernel_rfl) (by kernel_rfl) (by kernel_rfl) (by kernel_rfl) (fun τ r h => by
    obtain ⟨a0, ⟨⟩⟩ := τ
    obtain ⟨m, hm⟩ := Rn_natural_Of a0 r h
    exact ⟨m, (top_natural_Of (tb_natural_Of m) a0).trans (hm m (Nat.le_refl m))⟩)

abbrev E_integer_Of : Env := mkE tys [(84, callE [.bool, .slice (.int .u32)] [(.pair (.bool) (.slice (.int .u32)), false)] (fun τ => F_integer_made τ.1 τ.2.1)), (85, callE [.int .u64] [(.slice (.int .u32), false)] (fun τ => F_natural_Of τ.1))] []
def c_integer_Of : List (Nat × Live) := []
noncomputable abbrev fe_integer_Of := (finE (E_integer_Of) [(.pair (.bool) (.slice (.int .u32)), false)] Tryz.f61.results.toList)
theorem top_integer_Of (S : Nat → KT (RT [(.pair (.bool) (.slice (.int .u32)), false)])) (a0 : Int) : evA (E_integer_Of) (lk c_integer_Of) S (bodyOf Tryz.f61) noX (fe_integer_Of) (fe_integer_Of) (initSt [.int .i64] (a0, ())) = T_integer_Of a0 := by kernel_rfl
noncomputable abbrev tb_integer_Of := tab (E_integer_Of) (lk c_integer_Of) (bodyOf Tryz.f61) (fe_integer_Of)
theorem ok_integer_Of : EnvOK Tryz.prog (E_integer_Of) := mkE_ok tys_ok ⟨⟨fs_integer_made.csound, ⟨Tryz.f84, by kernel_rfl, by kernel_rfl, by kernel_rfl⟩⟩, ⟨fs_natural_Of.csound, ⟨Tryz.f85, by kernel_rfl, by kernel_rfl, by kernel_rfl⟩⟩, trivial⟩ trivial
theorem fs_integer_Of : FSound Tryz.prog 61 [.int .i64] [(.pair (.bool) (.slice (.int .u32)), false)] (fun τ => F_integer_Of τ.1) :=
  evG_sound (E := (E_integer_Of)) (C := (lk c_integer_Of)) ok_integer_Of mixed_ok (fn := Tryz.f61) (c := (bodyOf Tryz.f61)) (by kernel_rfl) (by kernel_rfl) (by kernel_rfl) (by kernel_rfl) (by kernel_rfl) (by kernel_rfl) (fun τ r h => by
    obtain ⟨a0, ⟨⟩⟩ := τ
    obtain ⟨m, hm⟩ := Rn_integer_Of a0 r h
    exact ⟨m, (top_integer_Of (tb_integer_Of m) a0).trans (hm m (Nat.le_refl m))⟩)

abbrev E_natural_IsZero : Env := mkE tys [] [(95, mixO (callO [] false (.int .u32) .pre (fun τ l => O_natural_trim l)) (callI (callE [.slice (.int .u32)] [(.slice (.int .u32), false)] (fun τ => F_natural_trim τ.1))))]
def c_natural_IsZero : List (Nat × Live) := []
noncomputable abbrev fe_natural_IsZero := (finE (E_natural_IsZero) [(.bool, false)] Tryz.f88.results.toList)
theorem top_natural_IsZero (S : Nat → KT (RT [(.bool, false)])) (a0 : List Int) : evA (E_natural_IsZero) (lk c_natural_IsZero) S (bodyOf Tryz.f88) noX (fe_natural_IsZero) (fe_natural_IsZero) (initSt [.slice (.int .u32)] (a0, ())) = T_natural_IsZero a0 := by kernel_rfl
noncomputable abbrev tb_natural_IsZero := tab (E_natural_IsZero) (lk c_natural_IsZero) (bodyOf Tryz.f88) (fe_natural_IsZero)
theorem ok_natural_IsZero : EnvOK Tryz.prog (E_natural_IsZero) := mkE_ok tys_ok trivial ⟨⟨PSound.mix os_natural_trim.psound (CSound.psound fs_natural_trim.csound), ⟨Tryz.f95, by kernel_rfl, by kernel_rfl, by kernel_rfl⟩⟩, trivial⟩
theorem fs_natural_IsZero : FSound Tryz.prog 88 [.slice (.int .u32)] [(.bool, false)] (fun τ => F_natural_IsZero τ.1) :=
  evG_sound (E := (E_natural_IsZero)) (C := (lk c_natural_IsZero)) ok_natural_IsZero mixed_ok (fn := Tryz.f88) (c := (bodyOf Tryz.f88)) (by kernel_rfl) (by kernel_rfl) (by kernel_rfl) (by kernel_rfl) (by kernel_rfl) (by kernel_rfl) (fun τ r h => by
    obtain ⟨a0, ⟨⟩⟩ := τ
    obtain ⟨m, hm⟩ := Rn_natural_IsZero a0 r h
    exact ⟨m, (top_natural_IsZero (tb_natural_IsZero m) a0).trans (hm m (Nat.le_refl m))⟩)

abbrev E_rational_parts : Env := mkE tys [(61, callE [.int .i64] [(.pair (.bool) (.slice (.int .u32)), false)] (fun τ => F_integer_Of τ.1)), (88, callE [.slice (.int .u32)] [(.bool, false)] (fun τ => F_natural_IsZero τ.1))] []
def c_rational_parts : List (Nat × Live) := []
noncomputable abbrev fe_rational_parts := (finE (E_rational_parts) [(.pair (.bool) (.slice (.int .u32)), false), (.pair (.bool) (.slice (.int .u32)), false)] Tryz.f67.results.toList)
theorem top_rational_parts (S : Nat → KT (RT [(.pair (.bool) (.slice (.int .u32)), false), (.pair (.bool) (.slice (.int .u32)), false)])) (a0 : (Bool × List Int) × List Int) : evA (E_rational_parts) (lk c_rational_parts) S (bodyOf Tryz.f67) noX (fe_rational_parts) (fe_rational_parts) (initSt [.pair (.pair (.bool) (.slice (.int .u32))) (.slice (.int .u32))] (a0, ())) = T_rational_parts a0 := by kernel_rfl
noncomputable abbrev tb_rational_parts := tab (E_rational_parts) (lk c_rational_parts) (bodyOf Tryz.f67) (fe_rational_parts)
theorem ok_rational_parts : EnvOK Tryz.prog (E_rational_parts) := mkE_ok tys_ok ⟨⟨fs_integer_Of.csound, ⟨Tryz.f61, by kernel_rfl, by kernel_rfl, by kernel_rfl⟩⟩, ⟨fs_natural_IsZero.csound, ⟨Tryz.f88, by kernel_rfl, by kernel_rfl, by kernel_rfl⟩⟩, trivial⟩ trivial
theorem fs_rational_parts : FSound Tryz.prog 67 [.pair (.pair (.bool) (.slice (.int .u32))) (.slice (.int .u32))] [(.pair (.bool) (.slice (.int .u32)), false), (.pair (.bool) (.slice (.int .u32)), false)] (fun τ => F_rational_parts τ.1) :=
  evG_sound (E := (E_rational_parts)) (C := (lk c_rational_parts)) ok_rational_parts mixed_ok (fn := Tryz.f67) (c := (bodyOf Tryz.f67)) (by kernel_rfl) (by kernel_rfl) (by kernel_rfl) (by kernel_rfl) (by kernel_rfl) (by kernel_rfl) (fun τ r h => by
    obtain ⟨a0, ⟨⟩⟩ := τ
    obtain ⟨m, hm⟩ := Rn_rational_parts a0 r h
    exact ⟨m, (top_rational_parts (tb_rational_parts m) a0).trans (hm m (Nat.le_refl m))⟩)

abbrev E_bits_Mul32 : Env := mkE tys [] []
def c_bits_Mul32 : List (Nat × Live) := []
noncomputable abbrev fe_bits_Mul32 := (finE (E_bits_Mul32) [(.int .u32, false), (.int .u32, false)] Tryz.f96.results.toList)
theorem top_bits_Mul32 (S : Nat → KT (RT [(.int .u32, false), (.int .u32, false)])) (a0 : Int) (a1 : Int) : evA (E_bits_Mul32) (lk c_bits_Mul32) S (bodyOf Tryz.f96) noX (fe_bits_Mul32) (fe_bits_Mul32) (initSt [.int .u32, .int .u32] (a0, a1, ())) = T_bits_Mul32 a0 a1 := by kernel_rfl
noncomputable abbrev tb_bits_Mul32 := tab (E_bits_Mul32) (lk c_bits_Mul32) (bodyOf Tryz.f96) (fe_bits_Mul32)
theorem ok_bits_Mul32 : EnvOK Tryz.prog (E_bits_Mul32) := mkE_ok tys_ok trivial trivial
theorem fs_bits_Mul32 : FSound Tryz.prog 96 [.int .u32, .int .u32] [(.int .u32, false), (.int .u32, false)] (fun τ => F_bits_Mul32 τ.1 τ.2.1) :=
  evG_sound (E := (E_bits_Mul32)) (C := (lk c_bits_Mul32)) ok_bits_Mul32 mixed_ok (fn := Tryz.f96) (c := (bodyOf Tryz.f96)) (by kernel_rfl) (by kernel_rfl) (by kernel_rfl) (by kernel_rfl) (by kernel_rfl) (by kernel_rfl) (fun τ r h => by
    obtain ⟨a0, a1, ⟨⟩⟩ := τ
    obtain ⟨m, hm⟩ := Rn_bits_Mul32 a0 a1 r h
    exact ⟨m, (top_bits_Mul32 (tb_bits_Mul32 m) a0 a1).trans (hm m (Nat.le_refl m))⟩)

abbrev E_bits_Add32 : Env := mkE tys [] []
def c_bits_Add32 : List (Nat × Live) := []
noncomputable abbrev fe_bits_Add32 := (finE (E_bits_Add32) [(.int .u32, false), (.int .u32, false)] Tryz.f97.results.toList)
theorem top_bits_Add32 (S : Nat → KT (RT [(.int .u32, false), (.int .u32, false)])) (a0 : Int) (a1 : Int) (a2 : Int) : evA (E_bits_Add32) (lk c_bits_Add32) S (bodyOf Tryz.f97) noX (fe_bits_Add32) (fe_bits_Add32) (initSt [.int .u32, .int .u32, .int .u32] (a0, a1, a2, ())) = T_bits_Add32 a0 a1 a2 := by kernel_rfl
noncomputable abbrev tb_bits_Add32 := tab (E_bits_Add32) (lk c_bits_Add32) (bodyOf Tryz.f97) (fe_bits_Add32)
theorem ok_bits_Add32 : EnvOK Tryz.prog (E_bits_Add32) := mkE_ok tys_ok trivial trivial
theorem fs_bits_Add32 : FSound Tryz.prog 97 [.int .u32, .int .u32, .int .u32] [(.int .u32, false), (.int .u32, false)] (fun τ => F_bits_Add32 τ.1 τ.2.1 τ.2.2.1) :=
  evG_sound (E := (E_bits_Add32)) (C := (lk c_bits_Add32)) ok_bits_Add32 mixed_ok (fn := Tryz.f97) (c := (bodyOf Tryz.f97)) (by kernel_rfl) (by kernel_rfl) (by kernel_rfl) (by kernel_rfl) (by kernel_rfl) (by kernel_rfl) (fun τ r h => by
    obtain ⟨a0, a1, a2, ⟨⟩⟩ := τ
    obtain ⟨m, hm⟩ := Rn_bits_Add32 a0 a1 a2 r h
    exact ⟨m, (top_bits_Add32 (tb_bits_Add32 m) a0 a1 a2).trans (hm m (Nat.le_refl m))⟩)

abbrev E_natural_Mul : Env := mkE tys [(96, callE [.int .u32, .int .u32] [(.int .u32, false), (.int .u32, false)] (fun τ => F_bits_Mul32 τ.1 τ.2.1)), (97, callE [.int .u32, .int .u32, .int .u32] [(.int .u32, false), (.int .u32, false)] (fun τ => F_bits_Add32 τ.1 τ.2.1 τ.2.2.1))] [(95, mixO (callO [] false (.int .u32) .pre (fun τ l => O_natural_trim l)) (callI (callE [.slice (.int .u32)] [(.slice (.int .u32), false)] (fun τ => F_natural_trim τ.1))))]
def c_natural_Mul : List (Nat × Live) := [(25, ⟨[(1, .slice (.int .u32)), (33, .slice (.int .u32)), (34, .int .i64), (35, .int .i64)], [(false, 5, .int .u32)], []⟩), (49, ⟨[(1, .slice (.int .u32)), (6, .int .i64), (7, .int .u32), (8, .int .u32), (33, .slice (.int .u32)), (34, .int .i64), (35, .int .i64), (49, .slice (.int .u32)), (50, .int .i64), (51, .int .i64)], [(false, 5, .int .u32)], [9]⟩)]
noncomputable abbrev fe_natural_Mul := (finE (E_natural_Mul) [(.slice (.int .u32), false)] Tryz.f70.results.toList)
noncomputable abbrev cn_natural_Mul_25 (x1 : List Int) (x33 : List Int) (x34 : Int) (x35 : Int) (x5 : List Int) : St := ⟨[(5, .one (.loc (.int .u32) 10000)), (35, .one (.val (.int .i64) x35)), (34, .one (.val (.int .i64) x34)), (33, .one (.val (.slice (.int .u32)) x33)), (1, .one (.val (.slice (.int .u32)) x1))], [(10000, some ⟨.int .u32, x5, false⟩)]⟩
noncomputable abbrev kk_natural_Mul_25 (S : Nat → KT (RT [(.slice (.int .u32), false)])) := fun (x1 : List Int) (x33 : List Int) (x34 : Int) (x35 : Int) (x5 : List Int) => S 25 (cn_natural_Mul_25 x1 x33 x34 x35 x5)
noncomputable abbrev cn_natural_Mul_49 (x1 : List Int) (x6 : Int) (x7 : Int) (x8 : Int) (x33 : List Int) (x34 : Int) (x35 : Int) (x49 : List Int) (x50 : Int) (x51 : Int) (x5 : List Int) (o9 : Int) (n9 : Int) : St := ⟨[(9, .one (.sub (.int .u32) 10000 o9 n9)), (5, .one (.loc (.int .u32) 10000)), (51, .one (.val (.int .i64) x51)), (50, .one (.val (.int .i64) x50)), (49, .one (.val (.slice (.int .u32)) x49)), (35, .one (.val (.int .i64) x35)), (34, .one (.val (.int .i64) x34)), (33, .one (.val (.slice (.int .u32)) x33)), (8, .one (.val (.int .u32) x8)), (7, .one (.val (.int .u32) x7)), (6, .one (.val (.int .i64) x6)), (1, .one (.val (.slice (.int .u32)) x1))], [(10000, some ⟨.int .u32, x5, false⟩)]⟩
noncomputable abbrev kk_natural_Mul_49 (S : Nat → KT (RT [(.slice (.int .u32), false)])) := fun (x1 : List Int) (x6 : Int) (x7 : Int) (x8 : Int) (x33 : List Int) (x34 : Int) (x35 : Int) (x49 : List Int) (x50 : Int) (x51 : Int) (x5 : List Int) (o9 : Int) (n9 : Int) => S 49 (cn_natural_Mul_49 x1 x6 x7 x8 x33 x34 x35 x49 x50 x51 x5 o9 n9)
theorem top_natural_Mul (S : Nat → KT (RT [(.slice (.int .u32), false)])) (a0 : List Int) (a1 : List Int) : evA (E_natural_Mul) (lk c_natural_Mul) S (bodyOf Tryz.f70) noX (fe_natural_Mul) (fe_natural_Mul) (initSt [.slice (.int .u32), .slice (.int .u32)] (a0, a1, ())) = T_natural_Mul (kk_natural_Mul_25 S) (kk_natural_Mul_49 S) a0 a1 := by kernel_rfl
theorem seg_natural_Mul_25 (S : Nat → KT (RT [(.slice (.int .u32), false)])) (x1 : List Int) (x33 : List Int) (x34 : Int) (x35 : Int) (x5 : List Int) : stepT (entry (E_natural_Mul) (lk c_natural_Mul) S 25 (bodyOf Tryz.f70) noX (fe_natural_Mul) (fe_natural_Mul)) (cn_natural_Mul_25 x1 x33 x34 x35 x5) = S_natural_Mul_25 (kk_natural_Mul_25 S) (kk_natural_Mul_49 S) x1 x33 x34 x35 x5 := by kernel_rfl
theorem seg_natural_Mul_49 (S : Nat → KT (RT [(.slice (.int .u32), false)])) (x1 : List Int) (x6 : Int) (x7 : Int) (x8 : Int) (x33 : List Int) (x34 : Int) (x35 : Int) (x49 : List Int) (x50 : Int) (x51 : Int) (x5 : List Int) (o9 : Int) (n9 : Int) : stepT (entry (E_natural_Mul) (lk c_natural_Mul) S 49 (bodyOf Tryz.f70) noX (fe_natural_Mul) (fe_natural_Mul)) (cn_natural_Mul_49 x1 x6 x7 x8 x33 x34 x35 x49 x50 x51 x5 o9 n9) = S_natural_Mul_49 (kk_natural_Mul_25 S) (kk_natural_Mul_49 S) x1 x6 x7 x8 x33 x34 x35 x49 x50 x51 x5 o9 n9 := by kernel_rfl
noncomputable abbrev tb_natural_Mul := tab (E_natural_Mul) (lk c_natural_Mul) (bodyOf Tryz.f70) (fe_natural_Mul)
theorem ok_natural_Mul : EnvOK Tryz.prog (E_natural_Mul) := mkE_ok tys_ok ⟨⟨fs_bits_Mul32.csound, ⟨Tryz.f96, by kernel_rfl, by kernel_rfl, by kernel_rfl⟩⟩, ⟨fs_bits_Add32.csound, ⟨Tryz.f97, by kernel_rfl, by kernel_rfl, by kernel_rfl⟩⟩, trivial⟩ ⟨⟨PSound.mix os_natural_trim.psound (CSound.psound fs_natural_trim.csound), ⟨Tryz.f95, by kernel_rfl, by kernel_rfl, by kernel_rfl⟩⟩, trivial⟩
theorem fs_natural_Mul : FSound Tryz.prog 70 [.slice (.int .u32), .slice (.int .u32)] [(.slice (.int .u32), false)] (fun τ => F_natural_Mul τ.1 τ.2.1) :=
  evG_sound (E := (E_natural_Mul)) (C := (lk c_natural_Mul)) ok_natural_Mul mixed_ok (fn := Tryz.f70) (c := (bodyOf Tryz.f70)) (by kernel_rfl) (by kernel_rfl) (by kernel_rfl) (by kernel_rfl) (by kernel_rfl) (by kernel_rfl) (fun τ r h => by
    obtain ⟨a0, a1, ⟨⟩⟩ := τ
    obtain ⟨m, hm⟩ := Rn_natural_Mul (fun m => kk_natural_Mul_25 (tb_natural_Mul m)) (fun m => kk_natural_Mul_49 (tb_natural_Mul m)) (fun m x1 x33 x34 x35 x5 => (tab_succ (E_natural_Mul) (lk c_natural_Mul) (bodyOf Tryz.f70) (fe_natural_Mul) m 25 (cn_natural_Mul_25 x1 x33 x34 x35 x5)).trans (seg_natural_Mul_25 (tb_natural_Mul m) x1 x33 x34 x35 x5)) (fun m x1 x6 x7 x8 x33 x34 x35 x49 x50 x51 x5 o9 n9 => (tab_succ (E_natural_Mul) (lk c_natural_Mul) (bodyOf Tryz.f70) (fe_natural_Mul) m 49 (cn_natural_Mul_49 x1 x6 x7 x8 x33 x34 x35 x49 x50 x51 x5 o9 n9)).trans (seg_natural_Mul_49 (tb_natural_Mul m) x1 x6 x7 x8 x33 x34 x35 x49 x50 x51 x5 o9 n9)) a0 a1 r h
    exact ⟨m, (top_natural_Mul (tb_natural_Mul m) a0 a1).trans (hm m (Nat.le_refl m))⟩)

abbrev E_integer_Mul : Env := mkE tys [(70, callE [.slice (.int .u32), .slice (.int .u32)] [(.slice (.int .u32), false)] (fun τ => F_natural_Mul τ.1 τ.2.1)), (84, callE [.bool, .slice (.int .u32)] [(.pair (.bool) (.slice (.int .u32)), false)] (fun τ => F_integer_made τ.1 τ.2.1))] []
def c_integer_Mul : List (Nat × Live) := []
noncomputable abbrev fe_integer_Mul := (finE (E_integer_Mul) [(.pair (.bool) (.slice (.int .u32)), false)] Tryz.f69.results.toList)
theorem top_integer_Mul (S : Nat → KT (RT [(.pair (.bool) (.slice (.int .u32)), false)])) (a0 : Bool × List Int) (a1 : Bool × List Int) : evA (E_integer_Mul) (lk c_integer_Mul) S (bodyOf Tryz.f69) noX (fe_integer_Mul) (fe_integer_Mul) (initSt [.pair (.bool) (.slice (.int .u32)), .pair (.bool) (.slice (.int .u32))] (a0, a1, ())) = T_integer_Mul a0 a1 := by kernel_rfl
noncomputable abbrev tb_integer_Mul := tab (E_integer_Mul) (lk c_integer_Mul) (bodyOf Tryz.f69) (fe_integer_Mul)
theorem ok_integer_Mul : EnvOK Tryz.prog (E_integer_Mul) := mkE_ok tys_ok ⟨⟨fs_natural_Mul.csound, ⟨Tryz.f70, by kernel_rfl, by kernel_rfl, by kernel_rfl⟩⟩, ⟨fs_integer_made.csound, ⟨Tryz.f84, by kernel_rfl, by kernel_rfl, by kernel_rfl⟩⟩, trivial⟩ trivial
theorem fs_integer_Mul : FSound Tryz.prog 69 [.pair (.bool) (.slice (.int .u32)), .pair (.bool) (.slice (.int .u32))] [(.pair (.bool) (.slice (.int .u32)), false)] (fun τ => F_integer_Mul τ.1 τ.2.1) :=
  evG_sound (E := (E_integer_Mul)) (C := (lk c_integer_Mul)) ok_integer_Mul mixed_ok (fn := Tryz.f69) (c := (bodyOf Tryz.f69)) (by kernel_rfl) (by kernel_rfl) (by kernel_rfl) (by kernel_rfl) (by kernel_rfl) (by kernel_rfl) (fun τ r h => by
    obtain ⟨a0, a1, ⟨⟩⟩ := τ
    obtain ⟨m, hm⟩ := Rn_integer_Mul a0 a1 r h
    exact ⟨m, (top_integer_Mul (tb_integer_Mul m) a0 a1).trans (hm m (Nat.le_refl m))⟩)

abbrev E_integer_Sign : Env := mkE tys [(88, callE [.slice (.int .u32)] [(.bool, false)] (fun τ => F_natural_IsZero τ.1))] []
def c_integer_Sign : List (Nat × Live) := []
noncomputable abbrev fe_integer_Sign := (finE (E_integer_Sign) [(.int .i64, false)] Tryz.f79.results.toList)
theorem top_integer_Sign (S : Nat → KT (RT [(.int .i64, false)])) (a0 : Bool × List Int) : evA (E_integer_Sign) (lk c_integer_Sign) S (bodyOf Tryz.f79) noX (fe_integer_Sign) (fe_integer_Sign) (initSt [.pair (.bool) (.slice (.int .u32))] (a0, ())) = T_integer_Sign a0 := by kernel_rfl
noncomputable abbrev tb_integer_Sign := tab (E_integer_Sign) (lk c_integer_Sign) (bodyOf Tryz.f79) (fe_integer_Sign)
theorem ok_integer_Sign : EnvOK Tryz.prog (E_integer_Sign) := mkE_ok tys_ok ⟨⟨fs_natural_IsZero.csound, ⟨Tryz.f88, by kernel_rfl, by kernel_rfl, by kernel_rfl⟩⟩, trivial⟩ trivial
theorem fs_integer_Sign : FSound Tryz.prog 79 [.pair (.bool) (.slice (.int .u32))] [(.int .i64, false)] (fun τ => F_integer_Sign τ.1) :=
  evG_sound (E := (E_integer_Sign)) (C := (lk c_integer_Sign)) ok_integer_Sign mixed_ok (fn := Tryz.f79) (c := (bodyOf Tryz.f79)) (by kernel_rfl) (by kernel_rfl) (by kernel_rfl) (by kernel_rfl) (by kernel_rfl) (by kernel_rfl) (fun τ r h => by
    obtain ⟨a0, ⟨⟩⟩ := τ
    obtain ⟨m, hm⟩ := Rn_integer_Sign a0 r h
    exact ⟨m, (top_integer_Sign (tb_integer_Sign m) a0).trans (hm m (Nat.le_refl m))⟩)

abbrev E_natural_Cmp : Env := mkE tys [] [(95, mixO (callO [] false (.int .u32) .pre (fun τ l => O_natural_trim l)) (callI (callE [.slice (.int .u32)] [(.slice (.int .u32), false)] (fun τ => F_natural_trim τ.1))))]
def c_natural_Cmp : List (Nat × Live) := [(29, ⟨[(0, .slice (.int .u32)), (1, .slice (.int .u32)), (5, .int .i64)], [], []⟩)]
noncomputable abbrev fe_natural_Cmp := (finE (E_natural_Cmp) [(.int .i64, false)] Tryz.f103.results.toList)
noncomputable abbrev cn_natural_Cmp_29 (x0 : List Int) (x1 : List Int) (x5 : Int) : St := ⟨[(5, .one (.val (.int .i64) x5)), (1, .one (.val (.slice (.int .u32)) x1)), (0, .one (.val (.slice (.int .u32)) x0))], []⟩
noncomputable abbrev kk_natural_Cmp_29 (S : Nat → KT (RT [(.int .i64, false)])) := fun (x0 : List Int) (x1 : List Int) (x5 : Int) => S 29 (cn_natural_Cmp_29 x0 x1 x5)
theorem top_natural_Cmp (S : Nat → KT (RT [(.int .i64, false)])) (a0 : List Int) (a1 : List Int) : evA (E_natural_Cmp) (lk c_natural_Cmp) S (bodyOf Tryz.f103) noX (fe_natural_Cmp) (fe_natural_Cmp) (initSt [.slice (.int .u32), .slice (.int .u32)] (a0, a1, ())) = T_natural_Cmp (kk_natural_Cmp_29 S) a0 a1 := by kernel_rfl
theorem seg_natural_Cmp_29 (S : Nat → KT (RT [(.int .i64, false)])) (x0 : List Int) (x1 : List Int) (x5 : Int) : stepT (entry (E_natural_Cmp) (lk c_natural_Cmp) S 29 (bodyOf Tryz.f103) noX (fe_natural_Cmp) (fe_natural_Cmp)) (cn_natural_Cmp_29 x0 x1 x5) = S_natural_Cmp_29 (kk_natural_Cmp_29 S) x0 x1 x5 := by kernel_rfl
noncomputable abbrev tb_natural_Cmp := tab (E_natural_Cmp) (lk c_natural_Cmp) (bodyOf Tryz.f103) (fe_natural_Cmp)
theorem ok_natural_Cmp : EnvOK Tryz.prog (E_natural_Cmp) := mkE_ok tys_ok trivial ⟨⟨PSound.mix os_natural_trim.psound (CSound.psound fs_natural_trim.csound), ⟨Tryz.f95, by kernel_rfl, by kernel_rfl, by kernel_rfl⟩⟩, trivial⟩
theorem fs_natural_Cmp : FSound Tryz.prog 103 [.slice (.int .u32), .slice (.int .u32)] [(.int .i64, false)] (fun τ => F_natural_Cmp τ.1 τ.2.1) :=
  evG_sound (E := (E_natural_Cmp)) (C := (lk c_natural_Cmp)) ok_natural_Cmp mixed_ok (fn := Tryz.f103) (c := (bodyOf Tryz.f103)) (by kernel_rfl) (by kernel_rfl) (by kernel_rfl) (by kernel_rfl) (by kernel_rfl) (by kernel_rfl) (fun τ r h => by
    obtain ⟨a0, a1, ⟨⟩⟩ := τ
    obtain ⟨m, hm⟩ := Rn_natural_Cmp (fun m => kk_natural_Cmp_29 (tb_natural_Cmp m)) (fun m x0 x1 x5 => (tab_succ (E_natural_Cmp) (lk c_natural_Cmp) (bodyOf Tryz.f103) (fe_natural_Cmp) m 29 (cn_natural_Cmp_29 x0 x1 x5)).trans (seg_natural_Cmp_29 (tb_natural_Cmp m) x0 x1 x5)) a0 a1 r h
    exact ⟨m, (top_natural_Cmp (tb_natural_Cmp m) a0 a1).trans (hm m (Nat.le_refl m))⟩)

abbrev E_integer_Cmp : Env := mkE tys [(79, callE [.pair (.bool) (.slice (.int .u32))] [(.int .i64, false)] (fun τ => F_integer_Sign τ.1)), (103, callE [.slice (.int .u32), .slice (.int .u32)] [(.int .i64, false)] (fun τ => F_natural_Cmp τ.1 τ.2.1))] []
def c_integer_Cmp : List (Nat × Live) := []
noncomputable abbrev fe_integer_Cmp := (finE (E_integer_Cmp) [(.int .i64, false)] Tryz.f80.results.toList)
theorem top_integer_Cmp (S : Nat → KT (RT [(.int .i64, false)])) (a0 : Bool × List Int) (a1 : Bool × List Int) : evA (E_integer_Cmp) (lk c_integer_Cmp) S (bodyOf Tryz.f80) noX (fe_integer_Cmp) (fe_integer_Cmp) (initSt [.pair (.bool) (.slice (.int .u32)), .pair (.bool) (.slice (.int .u32))] (a0, a1, ())) = T_integer_Cmp a0 a1 := by kernel_rfl
noncomputable abbrev tb_integer_Cmp := tab (E_integer_Cmp) (lk c_integer_Cmp) (bodyOf Tryz.f80) (fe_integer_Cmp)
theorem ok_integer_Cmp : EnvOK Tryz.prog (E_integer_Cmp) := mkE_ok tys_ok ⟨⟨fs_integer_Sign.csound, ⟨Tryz.f79, by kernel_rfl, by kernel_rfl, by kernel_rfl⟩⟩, ⟨fs_natural_Cmp.csound, ⟨Tryz.f103, by kernel_rfl, by kernel_rfl, by kernel_rfl⟩⟩, trivial⟩ trivial
theorem fs_integer_Cmp : FSound Tryz.prog 80 [.pair (.bool) (.slice (.int .u32)), .pair (.bool) (.slice (.int .u32))] [(.int .i64, false)] (fun τ => F_integer_Cmp τ.1 τ.2.1) :=
  evG_sound (E := (E_integer_Cmp)) (C := (lk c_integer_Cmp)) ok_integer_Cmp mixed_ok (fn := Tryz.f80) (c := (bodyOf Tryz.f80)) (by kernel_rfl) (by kernel_rfl) (by kernel_rfl) (by kernel_rfl) (by kernel_rfl) (by kernel_rfl) (fun τ r h => by
    obtain ⟨a0, a1, ⟨⟩⟩ := τ
    obtain ⟨m, hm⟩ := Rn_integer_Cmp a0 a1 r h
    exact ⟨m, (top_integer_Cmp (tb_integer_Cmp m) a0 a1).trans (hm m (Nat.le_refl m))⟩)

abbrev E_rational_Cmp : Env := mkE tys [(67, callE [.pair (.pair (.bool) (.slice (.int .u32))) (.slice (.int .u32))] [(.pair (.bool) (.slice (.int .u32)), false), (.pair (.bool) (.slice (.int .u32)), false)] (fun τ => F_rational_parts τ.1)), (69, callE [.pair (.bool) (.slice (.int .u32)), .pair (.bool) (.slice (.int .u32))] [(.pair (.bool) (.slice (.int .u32)), false)] (fun τ => F_integer_Mul τ.1 τ.2.1)), (79, callE [.pair (.bool) (.slice (.int .u32))] [(.int .i64, false)] (fun τ => F_integer_Sign τ.1)), (80, callE [.pair (.bool) (.slice (.int .u32)), .pair (.bool) (.slice (.int .u32))] [(.int .i64, false)] (fun τ => F_integer_Cmp τ.1 τ.2.1))] []
def c_rational_Cmp : List (Nat × Live) := []
noncomputable abbrev fe_rational_Cmp := (finE (E_rational_Cmp) [(.int .i64, false)] Tryz.f56.results.toList)
theorem top_rational_Cmp (S : Nat → KT (RT [(.int .i64, false)])) (a0 : (Bool × List Int) × List Int) (a1 : (Bool × List Int) × List Int) : evA (E_rational_Cmp) (lk c_rational_Cmp) S (bodyOf Tryz.f56) noX (fe_rational_Cmp) (fe_rational_Cmp) (initSt [.pair (.pair (.bool) (.slice (.int .u32))) (.slice (.int .u32)), .pair (.pair (.bool) (.slice (.int .u32))) (.slice (.int .u32))] (a0, a1, ())) = T_rational_Cmp a0 a1 := by kernel_rfl
noncomputable abbrev tb_rational_Cmp := tab (E_rational_Cmp) (lk c_rational_Cmp) (bodyOf Tryz.f56) (fe_rational_Cmp)
theorem ok_rational_Cmp : EnvOK Tryz.prog (E_rational_Cmp) := mkE_ok tys_ok ⟨⟨fs_rational_parts.csound, ⟨Tryz.f67, by kernel_rfl, by kernel_rfl, by kernel_rfl⟩⟩, ⟨fs_integer_Mul.csound, ⟨Tryz.f69, by kernel_rfl, by kernel_rfl, by kernel_rfl⟩⟩, ⟨fs_integer_Sign.csound, ⟨Tryz.f79, by kernel_rfl, by kernel_rfl, by kernel_rfl⟩⟩, ⟨fs_integer_Cmp.csound, ⟨Tryz.f80, by kernel_rfl, by kernel_rfl, by kernel_rfl⟩⟩, trivial⟩ trivial
theorem fs_rational_Cmp : FSound Tryz.prog 56 [.pair (.pair (.bool) (.slice (.int .u32))) (.slice (.int .u32)), .pair (.pair (.bool) (.slice (.int .u32))) (.slice (.int .u32))] [(.int .i64, false)] (fun τ => F_rational_Cmp τ.1 τ.2.1) :=
  evG_sound (E := (E_rational_Cmp)) (C := (lk c_rational_Cmp)) ok_rational_Cmp mixed_ok (fn := Tryz.f56) (c := (bodyOf Tryz.f56)) (by kernel_rfl) (by kernel_rfl) (by kernel_rfl) (by kernel_rfl) (by kernel_rfl) (by kernel_rfl) (fun τ r h => by
    obtain ⟨a0, a1, ⟨⟩⟩ := τ
    obtain ⟨m, hm⟩ := Rn_rational_Cmp a0 a1 r h
    exact ⟨m, (top_rational_Cmp (tb_rational_Cmp m) a0 a1).trans (hm m (Nat.le_refl m))⟩)

abbrev E_interval_least : Env := mkE tys [(56, callE [.pair (.pair (.bool) (.slice (.int .u32))) (.slice (.int .u32)), .pair (.pair (.bool) (.slice (.int .u32))) (.slice (.int .u32))] [(.int .i64, false)] (fun τ => F_rational_Cmp τ.1 τ.2.1))] []
def c_interval_least : List (Nat × Live) := []
noncomputable abbrev fe_interval_least := (finE (E_interval_least) [(.pair (.pair (.bool) (.slice (.int .u32))) (.slice (.int .u32)), false)] Tryz.f45.results.toList)
theorem top_interval_least (S : Nat → KT (RT [(.pair (.pair (.bool) (.slice (.int .u32))) (.slice (.int .u32)), false)])) (a0 : (Bool × List Int) × List Int) (a1 : (Bool × List Int) × List Int) : evA (E_interval_least) (lk c_interval_least) S (bodyOf Tryz.f45) noX (fe_interval_least) (fe_interval_least) (initSt [.pair (.pair (.bool) (.slice (.int .u32))) (.slice (.int .u32)), .pair (.pair (.bool) (.slice (.int .u32))) (.slice (.int .u32))] (a0, a1, ())) = T_interval_least a0 a1 := by kernel_rfl
noncomputable abbrev tb_interval_least := tab (E_interval_least) (lk c_interval_least) (bodyOf Tryz.f45) (fe_interval_least)
theorem ok_interval_least : EnvOK Tryz.prog (E_interval_least) := mkE_ok tys_ok ⟨⟨fs_rational_Cmp.csound, ⟨Tryz.f56, by kernel_rfl, by kernel_rfl, by kernel_rfl⟩⟩, trivial⟩ trivial
theorem fs_interval_least : FSound Tryz.prog 45 [.pair (.pair (.bool) (.slice (.int .u32))) (.slice (.int .u32)), .pair (.pair (.bool) (.slice (.int .u32))) (.slice (.int .u32))] [(.pair (.pair (.bool) (.slice (.int .u32))) (.slice (.int .u32)), false)] (fun τ => F_interval_least τ.1 τ.2.1) :=
  evG_sound (E := (E_interval_least)) (C := (lk c_interval_least)) ok_interval_least mixed_ok (fn := Tryz.f45) (c := (bodyOf Tryz.f45)) (by kernel_rfl) (by kernel_rfl) (by kernel_rfl) (by kernel_rfl) (by kernel_rfl) (by kernel_rfl) (fun τ r h => by
    obtain ⟨a0, a1, ⟨⟩⟩ := τ
    obtain ⟨m, hm⟩ := Rn_interval_least a0 a1 r h
    exact ⟨m, (top_interval_least (tb_interval_least m) a0 a1).trans (hm m (Nat.le_refl m))⟩)

abbrev E_interval_greatest : Env := mkE tys [(56, callE [.pair (.pair (.bool) (.slice (.int .u32))) (.slice (.int .u32)), .pair (.pair (.bool) (.slice (.int .u32))) (.slice (.int .u32))] [(.int .i64, false)] (fun τ => F_rational_Cmp τ.1 τ.2.1))] []
def c_interval_greatest : List (Nat × Live) := []
noncomputable abbrev fe_interval_greatest := (finE (E_interval_greatest) [(.pair (.pair (.bool) (.slice (.int .u32))) (.slice (.int .u32)), false)] Tryz.f46.results.toList)
theorem top_interval_greatest (S : Nat → KT (RT [(.pair (.pair (.bool) (.slice (.int .u32))) (.slice (.int .u32)), false)])) (a0 : (Bool × List Int) × List Int) (a1 : (Bool × List Int) × List Int) : evA (E_interval_greatest) (lk c_interval_greatest) S (bodyOf Tryz.f46) noX (fe_interval_greatest) (fe_interval_greatest) (initSt [.pair (.pair (.bool) (.slice (.int .u32))) (.slice (.int .u32)), .pair (.pair (.bool) (.slice (.int .u32))) (.slice (.int .u32))] (a0, a1, ())) = T_interval_greatest a0 a1 := by kernel_rfl
noncomputable abbrev tb_interval_greatest := tab (E_interval_greatest) (lk c_interval_greatest) (bodyOf Tryz.f46) (fe_interval_greatest)
theorem ok_interval_greatest : EnvOK Tryz.prog (E_interval_greatest) := mkE_ok tys_ok ⟨⟨fs_rational_Cmp.csound, ⟨Tryz.f56, by kernel_rfl, by kernel_rfl, by kernel_rfl⟩⟩, trivial⟩ trivial
theorem fs_interval_greatest : FSound Tryz.prog 46 [.pair (.pair (.bool) (.slice (.int .u32))) (.slice (.int .u32)), .pair (.pair (.bool) (.slice (.int .u32))) (.slice (.int .u32))] [(.pair (.pair (.bool) (.slice (.int .u32))) (.slice (.int .u32)), false)] (fun τ => F_interval_greatest τ.1 τ.2.1) :=
  evG_sound (E := (E_interval_greatest)) (C := (lk c_interval_greatest)) ok_interval_greatest mixed_ok (fn := Tryz.f46) (c := (bodyOf Tryz.f46)) (by kernel_rfl) (by kernel_rfl) (by kernel_rfl) (by kernel_rfl) (by kernel_rfl) (by kernel_rfl) (fun τ r h => by
    obtain ⟨a0, a1, ⟨⟩⟩ := τ
    obtain ⟨m, hm⟩ := Rn_interval_greatest a0 a1 r h
    exact ⟨m, (top_interval_greatest (tb_interval_greatest m) a0 a1).trans (hm m (Nat.le_refl m))⟩)

abbrev E_rational_one : Env := mkE tys [(85, callE [.int .u64] [(.slice (.int .u32), false)] (fun τ => F_natural_Of τ.1))] []
def c_rational_one : List (Nat × Live) := []
noncomputable abbrev fe_rational_one := (finE (E_rational_one) [(.slice (.int .u32), false)] Tryz.f62.results.toList)
theorem top_rational_one (S : Nat → KT (RT [(.slice (.int .u32), false)])) : evA (E_rational_one) (lk c_rational_one) S (bodyOf Tryz.f62) noX (fe_rational_one) (fe_rational_one) (initSt [] ()) = T_rational_one := by kernel_rfl
noncomputable abbrev tb_rational_one := tab (E_rational_one) (lk c_rational_one) (bodyOf Tryz.f62) (fe_rational_one)
theorem ok_rational_one : EnvOK Tryz.prog (E_rational_one) := mkE_ok tys_ok ⟨⟨fs_natural_Of.csound, ⟨Tryz.f85, by kernel_rfl, by kernel_rfl, by kernel_rfl⟩⟩, trivial⟩ trivial
theorem fs_rational_one : FSound Tryz.prog 62 [] [(.slice (.int .u32), false)] (fun τ => F_rational_one) :=
  evG_sound (E := (E_rational_one)) (C := (lk c_rational_one)) ok_rational_one mixed_ok (fn := Tryz.f62) (c := (bodyOf Tryz.f62)) (by kernel_rfl) (by kernel_rfl) (by kernel_rfl) (by kernel_rfl) (by kernel_rfl) (by kernel_rfl) (fun τ r h => by
    obtain ⟨⟩ := τ
    obtain ⟨m, hm⟩ := Rn_rational_one r h
    exact ⟨m, (top_rational_one (tb_rational_one m)).trans (hm m (Nat.le_refl m))⟩)

abbrev E_rational_isOne : Env := mkE tys [] []
def c_rational_isOne : List (Nat × Live) := []
noncomputable abbrev fe_rational_isOne := (finE (E_rational_isOne) [(.bool, false)] Tryz.f63.results.toList)
theorem top_rational_isOne (S : Nat → KT (RT [(.bool, false)])) (a0 : List Int) : evA (E_rational_isOne) (lk c_rational_isOne) S (bodyOf Tryz.f63) noX (fe_rational_isOne) (fe_rational_isOne) (initSt [.slice (.int .u32)] (a0, ())) = T_rational_isOne a0 := by kernel_rfl
noncomputable abbrev tb_rational_isOne := tab (E_rational_isOne) (lk c_rational_isOne) (bodyOf Tryz.f63) (fe_rational_isOne)
theorem ok_rational_isOne : EnvOK Tryz.prog (E_rational_isOne) := mkE_ok tys_ok trivial trivial
theorem fs_rational_isOne : FSound Tryz.prog 63 [.slice (.int .u32)] [(.bool, false)] (fun τ => F_rational_isOne τ.1) :=
  evG_sound (E := (E_rational_isOne)) (C := (lk c_rational_isOne)) ok_rational_isOne mixed_ok (fn := Tryz.f63) (c := (bodyOf Tryz.f63)) (by kernel_rfl) (by kernel_rfl) (by kernel_rfl) (by kernel_rfl) (by kernel_rfl) (by kernel_rfl) (fun τ r h => by
    obtain ⟨a0, ⟨⟩⟩ := τ
    obtain ⟨m, hm⟩ := Rn_rational_isOne a0 r h
    exact ⟨m, (top_rational_isOne (tb_rational_isOne m) a0).trans (hm m (Nat.le_refl m))⟩)

abbrev E_natural_Normal : Env := mkE tys [] [(95, mixO (callO [] false (.int .u32) .pre (fun τ l => O_natural_trim l)) (callI (callE [.slice (.int .u32)] [(.slice (.int .u32), false)] (fun τ => F_natural_trim τ.1))))]
def c_natural_Normal : List (Nat × Live) := []
noncomputable abbrev fe_natural_Normal := (finE (E_natural_Normal) [(.slice (.int .u32), true)] Tryz.f87.results.toList)
theorem top_natural_Normal (S : Nat → KT (RT [(.slice (.int .u32), true)])) (a0 : List Int) : evA (E_natural_Normal) (lk c_natural_Normal) S (bodyOf Tryz.f87) noX (fe_natural_Normal) (fe_natural_Normal) (initSt [.slice (.int .u32)] (a0, ())) = T_natural_Normal a0 := by kernel_rfl
noncomputable abbrev tb_natural_Normal := tab (E_natural_Normal) (lk c_natural_Normal) (bodyOf Tryz.f87) (fe_natural_Normal)
theorem ok_natural_Normal : EnvOK Tryz.prog (E_natural_Normal) := mkE_ok tys_ok trivial ⟨⟨PSound.mix os_natural_trim.psound (CSound.psound fs_natural_trim.csound), ⟨Tryz.f95, by kernel_rfl, by kernel_rfl, by kernel_rfl⟩⟩, trivial⟩
theorem fs_natural_Normal : FSound Tryz.prog 87 [.slice (.int .u32)] [(.slice (.int .u32), true)] (fun τ => F_natural_Normal τ.1) :=
  evG_sound (E := (E_natural_Normal)) (C := (lk c_natural_Normal)) ok_natural_Normal mixed_ok (fn := Tryz.f87) (c := (bodyOf Tryz.f87)) (by kernel_rfl) (by kernel_rfl) (by kernel_rfl) (by kernel_rfl) (by kernel_rfl) (by kernel_rfl) (fun τ r h => by
    obtain ⟨a0, ⟨⟩⟩ := τ
    obtain ⟨m, hm⟩ := Rn_natural_Normal a0 r h
    exact ⟨m, (top_natural_Normal (tb_natural_Normal m) a0).trans (hm m (Nat.le_refl m))⟩)

abbrev E_integer_From : Env := mkE tys [(84, callE [.bool, .slice (.int .u32)] [(.pair (.bool) (.slice (.int .u32)), false)] (fun τ => F_integer_made τ.1 τ.2.1)), (87, callE [.slice (.int .u32)] [(.slice (.int .u32), true)] (fun τ => F_natural_Normal τ.1))] []
def c_integer_From : List (Nat × Live) := []
noncomputable abbrev fe_integer_From := (finE (E_integer_From) [(.pair (.bool) (.slice (.int .u32)), false)] Tryz.f90.results.toList)
theorem top_integer_From (S : Nat → KT (RT [(.pair (.bool) (.slice (.int .u32)), false)])) (a0 : Bool) (a1 : List Int) : evA (E_integer_From) (lk c_integer_From) S (bodyOf Tryz.f90) noX (fe_integer_From) (fe_integer_From) (initSt [.bool, .slice (.int .u32)] (a0, a1, ())) = T_integer_From a0 a1 := by kernel_rfl
noncomputable abbrev tb_integer_From := tab (E_integer_From) (lk c_integer_From) (bodyOf Tryz.f90) (fe_integer_From)
theorem ok_integer_From : EnvOK Tryz.prog (E_integer_From) := mkE_ok tys_ok ⟨⟨fs_integer_made.csound, ⟨Tryz.f84, by kernel_rfl, by kernel_rfl, by kernel_rfl⟩⟩, ⟨fs_natural_Normal.csound, ⟨Tryz.f87, by kernel_rfl, by kernel_rfl, by kernel_rfl⟩⟩, trivial⟩ trivial
theorem fs_integer_From : FSound Tryz.prog 90 [.bool, .slice (.int .u32)] [(.pair (.bool) (.slice (.int .u32)), false)] (fun τ => F_integer_From τ.1 τ.2.1) :=
  evG_sound (E := (E_integer_From)) (C := (lk c_integer_From)) ok_integer_From mixed_ok (fn := Tryz.f90) (c := (bodyOf Tryz.f90)) (by kernel_rfl) (by kernel_rfl) (by kernel_rfl) (by kernel_rfl) (by kernel_rfl) (by kernel_rfl) (fun τ r h => by
    obtain ⟨a0, a1, ⟨⟩⟩ := τ
    obtain ⟨m, hm⟩ := Rn_integer_From a0 a1 r h
    exact ⟨m, (top_integer_From (tb_integer_From m) a0 a1).trans (hm m (Nat.le_refl m))⟩)

abbrev E_integer_Normal : Env := mkE tys [(90, callE [.bool, .slice (.int .u32)] [(.pair (.bool) (.slice (.int .u32)), false)] (fun τ => F_integer_From τ.1 τ.2.1))] []
def c_integer_Normal : List (Nat × Live) := []
noncomputable abbrev fe_integer_Normal := (finE (E_integer_Normal) [(.pair (.bool) (.slice (.int .u32)), false)] Tryz.f89.results.toList)
theorem top_integer_Normal (S : Nat → KT (RT [(.pair (.bool) (.slice (.int .u32)), false)])) (a0 : Bool × List Int) : evA (E_integer_Normal) (lk c_integer_Normal) S (bodyOf Tryz.f89) noX (fe_integer_Normal) (fe_integer_Normal) (initSt [.pair (.bool) (.slice (.int .u32))] (a0, ())) = T_integer_Normal a0 := by kernel_rfl
noncomputable abbrev tb_integer_Normal := tab (E_integer_Normal) (lk c_integer_Normal) (bodyOf Tryz.f89) (fe_integer_Normal)
theorem ok_integer_Normal : EnvOK Tryz.prog (E_integer_Normal) := mkE_ok tys_ok ⟨⟨fs_integer_From.csound, ⟨Tryz.f90, by kernel_rfl, by kernel_rfl, by kernel_rfl⟩⟩, trivial⟩ trivial
theorem fs_integer_Normal : FSound Tryz.prog 89 [.pair (.bool) (.slice (.int .u32))] [(.pair (.bool) (.slice (.int .u32)), false)] (fun τ => F_integer_Normal τ.1) :=
  evG_sound (E := (E_integer_Normal)) (C := (lk c_integer_Normal)) ok_integer_Normal mixed_ok (fn := Tryz.f89) (c := (bodyOf Tryz.f89)) (by kernel_rfl) (by kernel_rfl) (by kernel_rfl) (by kernel_rfl) (by kernel_rfl) (by kernel_rfl) (fun τ r h => by
    obtain ⟨a0, ⟨⟩⟩ := τ
    obtain ⟨m, hm⟩ := Rn_integer_Normal a0 r h
    exact ⟨m, (top_integer_Normal (tb_integer_Normal m) a0).trans (hm m (Nat.le_refl m))⟩)

abbrev E_natural_Uint64 : Env := mkE tys [] [(95, mixO (callO [] false (.int .u32) .pre (fun τ l => O_natural_trim l)) (callI (callE [.slice (.int .u32)] [(.slice (.int .u32), false)] (fun τ => F_natural_trim τ.1))))]
def c_natural_Uint64 : List (Nat × Live) := []
noncomputable abbrev fe_natural_Uint64 := (finE (E_natural_Uint64) [(.int .u64, false), (.bool, false)] Tryz.f110.results.toList)
theorem top_natural_Uint64 (S : Nat → KT (RT [(.int .u64, false), (.bool, false)])) (a0 : List Int) : evA (E_natural_Uint64) (lk c_natural_Uint64) S (bodyOf Tryz.f110) noX (fe_natural_Uint64) (fe_natural_Uint64) (initSt [.slice (.int .u32)] (a0, ())) = T_natural_Uint64 a0 := by kernel_rfl
noncomputable abbrev tb_natural_Uint64 := tab (E_natural_Uint64) (lk c_natural_Uint64) (bodyOf Tryz.f110) (fe_natural_Uint64)
theorem ok_natural_Uint64 : EnvOK Tryz.prog (E_natural_Uint64) := mkE_ok tys_ok trivial ⟨⟨PSound.mix os_natural_trim.psound (CSound.psound fs_natural_trim.csound), ⟨Tryz.f95, by kernel_rfl, by kernel_rfl, by kernel_rfl⟩⟩, trivial⟩
theorem fs_natural_Uint64 : FSound Tryz.prog 110 [.slice (.int .u32)] [(.int .u64, false), (.bool, false)] (fun τ => F_natural_Uint64 τ.1) :=
  evG_sound (E := (E_natural_Uint64)) (C := (lk c_natural_Uint64)) ok_natural_Uint64 mixed_ok (fn := Tryz.f110) (c := (bodyOf Tryz.f110)) (by kernel_rfl) (by kernel_rfl) (by kernel_rfl) (by kernel_rfl) (by kernel_rfl) (by kernel_rfl) (fun τ r h => by
    obtain ⟨a0, ⟨⟩⟩ := τ
    obtain ⟨m, hm⟩ := Rn_natural_Uint64 a0 r h
    exact ⟨m, (top_natural_Uint64 (tb_natural_Uint64 m) a0).trans (hm m (Nat.le_refl m))⟩)

abbrev E_bits_Div32 : Env := mkE tys [] []
def c_bits_Div32 : List (Nat × Live) := [(8, ⟨[(0, .int .u32), (1, .int .u32), (2, .int .u32), (15, .bool)], [], []⟩)]
noncomputable abbrev fe_bits_Div32 := (finE (E_bits_Div32) [(.int .u32, false), (.int .u32, false)] Tryz.f116.results.toList)
noncomputable abbrev cn_bits_Div32_8 (x0 : Int) (x1 : Int) (x2 : Int) (x15 : Bool) : St := ⟨[(15, .one (.val (.bool) x15)), (2, .one (.val (.int .u32) x2)), (1, .one (.val (.int .u32) x1)), (0, .one (.val (.int .u32) x0))], []⟩
noncomputable abbrev kk_bits_Div32_8 (S : Nat → KT (RT [(.int .u32, false), (.int .u32, false)])) := fun (x0 : Int) (x1 : Int) (x2 : Int) (x15 : Bool) => S 8 (cn_bits_Div32_8 x0 x1 x2 x15)
theorem top_bits_Div32 (S : Nat → KT (RT [(.int .u32, false), (.int .u32, false)])) (a0 : Int) (a1 : Int) (a2 : Int) : evA (E_bits_Div32) (lk c_bits_Div32) S (bodyOf Tryz.f116) noX (fe_bits_Div32) (fe_bits_Div32) (initSt [.int .u32, .int .u32, .int .u32] (a0, a1, a2, ())) = T_bits_Div32 (kk_bits_Div32_8 S) a0 a1 a2 := by kernel_rfl
theorem seg_bits_Div32_8 (S : Nat → KT (RT [(.int .u32, false), (.int .u32, false)])) (x0 : Int) (x1 : Int) (x2 : Int) (x15 : Bool) : stepT (entry (E_bits_Div32) (lk c_bits_Div32) S 8 (bodyOf Tryz.f116) noX (fe_bits_Div32) (fe_bits_Div32)) (cn_bits_Div32_8 x0 x1 x2 x15) = S_bits_Div32_8 (kk_bits_Div32_8 S) x0 x1 x2 x15 := by kernel_rfl
noncomputable abbrev tb_bits_Div32 := tab (E_bits_Div32) (lk c_bits_Div32) (bodyOf Tryz.f116) (fe_bits_Div32)
theorem ok_bits_Div32 : EnvOK Tryz.prog (E_bits_Div32) := mkE_ok tys_ok trivial trivial
theorem fs_bits_Div32 : FSound Tryz.prog 116 [.int .u32, .int .u32, .int .u32] [(.int .u32, false), (.int .u32, false)] (fun τ => F_bits_Div32 τ.1 τ.2.1 τ.2.2.1) :=
  evG_sound (E := (E_bits_Div32)) (C := (lk c_bits_Div32)) ok_bits_Div32 mixed_ok (fn := Tryz.f116) (c := (bodyOf Tryz.f116)) (by kernel_rfl) (by kernel_rfl) (by kernel_rfl) (by kernel_rfl) (by kernel_rfl) (by kernel_rfl) (fun τ r h => by
    obtain ⟨a0, a1, a2, ⟨⟩⟩ := τ
    obtain ⟨m, hm⟩ := Rn_bits_Div32 (fun m => kk_bits_Div32_8 (tb_bits_Div32 m)) (fun m x0 x1 x2 x15 => (tab_succ (E_bits_Div32) (lk c_bits_Div32) (bodyOf Tryz.f116) (fe_bits_Div32) m 8 (cn_bits_Div32_8 x0 x1 x2 x15)).trans (seg_bits_Div32_8 (tb_bits_Div32 m) x0 x1 x2 x15)) a0 a1 a2 r h
    exact ⟨m, (top_bits_Div32 (tb_bits_Div32 m) a0 a1 a2).trans (hm m (Nat.le_refl m))⟩)

abbrev E_natural_DivSmall : Env := mkE tys [(116, callE [.int .u32, .int .u32, .int .u32] [(.int .u32, false), (.int .u32, false)] (fun τ => F_bits_Div32 τ.1 τ.2.1 τ.2.2.1))] [(95, mixO (callO [] false (.int .u32) .pre (fun τ l => O_natural_trim l)) (callI (callE [.slice (.int .u32)] [(.slice (.int .u32), false)] (fun τ => F_natural_trim τ.1))))]
def c_natural_DivSmall : List (Nat × Live) := [(29, ⟨[(0, .slice (.int .u32)), (1, .int .u32), (8, .int .u32), (9, .int .i64)], [(false, 7, .int .u32)], []⟩)]
noncomputable abbrev fe_natural_DivSmall := (finE (E_natural_DivSmall) [(.slice (.int .u32), false), (.int .u32, false), (.bool, false)] Tryz.f108.results.toList)
noncomputable abbrev cn_natural_DivSmall_29 (x0 : List Int) (x1 : Int) (x8 : Int) (x9 : Int) (x7 : List Int) : St := ⟨[(7, .one (.loc (.int .u32) 10000)), (9, .one (.val (.int .i64) x9)), (8, .one (.val (.int .u32) x8)), (1, .one (.val (.int .u32) x1)), (0, .one (.val (.slice (.int .u32)) x0))], [(10000, some ⟨.int .u32, x7, false⟩)]⟩
noncomputable abbrev kk_natural_DivSmall_29 (S : Nat → KT (RT [(.slice (.int .u32), false), (.int .u32, false), (.bool, false)])) := fun (x0 : List Int) (x1 : Int) (x8 : Int) (x9 : Int) (x7 : List Int) => S 29 (cn_natural_DivSmall_29 x0 x1 x8 x9 x7)
theorem top_natural_DivSmall (S : Nat → KT (RT [(.slice (.int .u32), false), (.int .u32, false), (.bool, false)])) (a0 : List Int) (a1 : Int) : evA (E_natural_DivSmall) (lk c_natural_DivSmall) S (bodyOf Tryz.f108) noX (fe_natural_DivSmall) (fe_natural_DivSmall) (initSt [.slice (.int .u32), .int .u32] (a0, a1, ())) = T_natural_DivSmall (kk_natural_DivSmall_29 S) a0 a1 := by kernel_rfl
theorem seg_natural_DivSmall_29 (S : Nat → KT (RT [(.slice (.int .u32), false), (.int .u32, false), (.bool, false)])) (x0 : List Int) (x1 : Int) (x8 : Int) (x9 : Int) (x7 : List Int) : stepT (entry (E_natural_DivSmall) (lk c_natural_DivSmall) S 29 (bodyOf Tryz.f108) noX (fe_natural_DivSmall) (fe_natural_DivSmall)) (cn_natural_DivSmall_29 x0 x1 x8 x9 x7) = S_natural_DivSmall_29 (kk_natural_DivSmall_29 S) x0 x1 x8 x9 x7 := by kernel_rfl
noncomputable abbrev tb_natural_DivSmall := tab (E_natural_DivSmall) (lk c_natural_DivSmall) (bodyOf Tryz.f108) (fe_natural_DivSmall)
theorem ok_natural_DivSmall : EnvOK Tryz.prog (E_natural_DivSmall) := mkE_ok tys_ok ⟨⟨fs_bits_Div32.csound, ⟨Tryz.f116, by kernel_rfl, by kernel_rfl, by kernel_rfl⟩⟩, trivial⟩ ⟨⟨PSound.mix os_natural_trim.psound (CSound.psound fs_natural_trim.csound), ⟨Tryz.f95, by kernel_rfl, by kernel_rfl, by kernel_rfl⟩⟩, trivial⟩
theorem fs_natural_DivSmall : FSound Tryz.prog 108 [.slice (.int .u32), .int .u32] [(.slice (.int .u32), false), (.int .u32, false), (.bool, false)] (fun τ => F_natural_DivSmall τ.1 τ.2.1) :=
  evG_sound (E := (E_natural_DivSmall)) (C := (lk c_natural_DivSmall)) ok_natural_DivSmall mixed_ok (fn := Tryz.f108) (c := (bodyOf Tryz.f108)) (by kernel_rfl) (by kernel_rfl) (by kernel_rfl) (by kernel_rfl) (by kernel_rfl) (by kernel_rfl) (fun τ r h => by
    obtain ⟨a0, a1, ⟨⟩⟩ := τ
    obtain ⟨m, hm⟩ := Rn_natural_DivSmall (fun m => kk_natural_DivSmall_29 (tb_natural_DivSmall m)) (fun m x0 x1 x8 x9 x7 => (tab_succ (E_natural_DivSmall) (lk c_natural_DivSmall) (bodyOf Tryz.f108) (fe_natural_DivSmall) m 29 (cn_natural_DivSmall_29 x0 x1 x8 x9 x7)).trans (seg_natural_DivSmall_29 (tb_natural_DivSmall m) x0 x1 x8 x9 x7)) a0 a1 r h
    exact ⟨m, (top_natural_DivSmall (tb_natural_DivSmall m) a0 a1).trans (hm m (Nat.le_refl m))⟩)

abbrev E_bits_Len32 : Env := mkE tys [] []
def c_bits_Len32 : List (Nat × Live) := [(16, ⟨[(0, .int .u32), (2, .int .i64)], [], []⟩), (28, ⟨[(0, .int .u32), (2, .int .i64)], [], []⟩)]
noncomputable abbrev fe_bits_Len32 := (finE (E_bits_Len32) [(.int .i64, false)] Tryz.f121.results.toList)
noncomputable abbrev cn_bits_Len32_16 (x0 : Int) (x2 : Int) : St := ⟨[(2, .one (.val (.int .i64) x2)), (0, .one (.val (.int .u32) x0))], []⟩
noncomputable abbrev kk_bits_Len32_16 (S : Nat → KT (RT [(.int .i64, false)])) := fun (x0 : Int) (x2 : Int) => S 16 (cn_bits_Len32_16 x0 x2)
noncomputable abbrev cn_bits_Len32_28 (x0 : Int) (x2 : Int) : St := ⟨[(2, .one (.val (.int .i64) x2)), (0, .one (.val (.int .u32) x0))], []⟩
noncomputable abbrev kk_bits_Len32_28 (S : Nat → KT (RT [(.int .i64, false)])) := fun (x0 : Int) (x2 : Int) => S 28 (cn_bits_Len32_28 x0 x2)
theorem top_bits_Len32 (S : Nat → KT (RT [(.int .i64, false)])) (a0 : Int) : evA (E_bits_Len32) (lk c_bits_Len32) S (bodyOf Tryz.f121) noX (fe_bits_Len32) (fe_bits_Len32) (initSt [.int .u32] (a0, ())) = T_bits_Len32 (kk_bits_Len32_16 S) (kk_bits_Len32_28 S) a0 := by kernel_rfl
theorem seg_bits_Len32_16 (S : Nat → KT (RT [(.int .i64, false)])) (x0 : Int) (x2 : Int) : stepT (entry (E_bits_Len32) (lk c_bits_Len32) S 16 (bodyOf Tryz.f121) noX (fe_bits_Len32) (fe_bits_Len32)) (cn_bits_Len32_16 x0 x2) = S_bits_Len32_16 (kk_bits_Len32_16 S) (kk_bits_Len32_28 S) x0 x2 := by kernel_rfl
theorem seg_bits_Len32_28 (S : Nat → KT (RT [(.int .i64, false)])) (x0 : Int) (x2 : Int) : stepT (entry (E_bits_Len32) (lk c_bits_Len32) S 28 (bodyOf Tryz.f121) noX (fe_bits_Len32) (fe_bits_Len32)) (cn_bits_Len32_28 x0 x2) = S_bits_Len32_28 (kk_bits_Len32_16 S) (kk_bits_Len32_28 S) x0 x2 := by kernel_rfl
noncomputable abbrev tb_bits_Len32 := tab (E_bits_Len32) (lk c_bits_Len32) (bodyOf Tryz.f121) (fe_bits_Len32)
theorem ok_bits_Len32 : EnvOK Tryz.prog (E_bits_Len32) := mkE_ok tys_ok trivial trivial
theorem fs_bits_Len32 : FSound Tryz.prog 121 [.int .u32] [(.int .i64, false)] (fun τ => F_bits_Len32 τ.1) :=
  evG_sound (E := (E_bits_Len32)) (C := (lk c_bits_Len32)) ok_bits_Len32 mixed_ok (fn := Tryz.f121) (c := (bodyOf Tryz.f121)) (by kernel_rfl) (by kernel_rfl) (by kernel_rfl) (by kernel_rfl) (by kernel_rfl) (by kernel_rfl) (fun τ r h => by
    obtain ⟨a0, ⟨⟩⟩ := τ
    obtain ⟨m, hm⟩ := Rn_bits_Len32 (fun m => kk_bits_Len32_16 (tb_bits_Len32 m)) (fun m => kk_bits_Len32_28 (tb_bits_Len32 m)) (fun m x0 x2 => (tab_succ (E_bits_Len32) (lk c_bits_Len32) (bodyOf Tryz.f121) (fe_bits_Len32) m 16 (cn_bits_Len32_16 x0 x2)).trans (seg_bits_Len32_16 (tb_bits_Len32 m) x0 x2)) (fun m x0 x2 => (tab_succ (E_bits_Len32) (lk c_bits_Len32) (bodyOf Tryz.f121) (fe_bits_Len32) m 28 (cn_bits_Len32_28 x0 x2)).trans (seg_bits_Len32_28 (tb_bits_Len32 m) x0 x2)) a0 r h
    exact ⟨m, (top_bits_Len32 (tb_bits_Len32 m) a0).trans (hm m (Nat.le_refl m))⟩)

abbrev E_bits_LeadingZeros32 : Env := mkE tys [(121, callE [.int .u32] [(.int .i64, false)] (fun τ => F_bits_Len32 τ.1))] []
def c_bits_LeadingZeros32 : List (Nat × Live) := []
noncomputable abbrev fe_bits_LeadingZeros32 := (finE (E_bits_LeadingZeros32) [(.int .i64, false)] Tryz.f117.results.toList)
theorem top_bits_LeadingZeros32 (S : Nat → KT (RT [(.int .i64, false)])) (a0 : Int) : evA (E_bits_LeadingZeros32) (lk c_bits_LeadingZeros32) S (bodyOf Tryz.f117) noX (fe_bits_LeadingZeros32) (fe_bits_LeadingZeros32) (initSt [.int .u32] (a0, ())) = T_bits_LeadingZeros32 a0 := by kernel_rfl
noncomputable abbrev tb_bits_LeadingZeros32 := tab (E_bits_LeadingZeros32) (lk c_bits_LeadingZeros32) (bodyOf Tryz.f117) (fe_bits_LeadingZeros32)
theorem ok_bits_LeadingZeros32 : EnvOK Tryz.prog (E_bits_LeadingZeros32) := mkE_ok tys_ok ⟨⟨fs_bits_Len32.csound, ⟨Tryz.f121, by kernel_rfl, by kernel_rfl, by kernel_rfl⟩⟩, trivial⟩ trivial
theorem fs_bits_LeadingZeros32 : FSound Tryz.prog 117 [.int .u32] [(.int .i64, false)] (fun τ => F_bits_LeadingZeros32 τ.1) :=
  evG_sound (E := (E_bits_LeadingZeros32)) (C := (lk c_bits_LeadingZeros32)) ok_bits_LeadingZeros32 mixed_ok (fn := Tryz.f117) (c := (bodyOf Tryz.f117)) (by kernel_rfl) (by kernel_rfl) (by kernel_rfl) (by kernel_rfl) (by kernel_rfl) (by kernel_rfl) (fun τ r h => by
    obtain ⟨a0, ⟨⟩⟩ := τ
    obtain ⟨m, hm⟩ := Rn_bits_LeadingZeros32 a0 r h
    exact ⟨m, (top_bits_LeadingZeros32 (tb_bits_LeadingZeros32 m) a0).trans (hm m (Nat.le_refl m))⟩)

abbrev E_natural_Shl : Env := mkE tys [] [(95, mixO (callO [] false (.int .u32) .pre (fun τ l => O_natural_trim l)) (callI (callE [.slice (.int .u32)] [(.slice (.int .u32), false)] (fun τ => F_natural_trim τ.1))))]
def c_natural_Shl : List (Nat × Live) := [(45, ⟨[(6, .int .i64), (8, .int .u32), (9, .int .i64)], [(false, 7, .int .u32)], []⟩)]
noncomputable abbrev fe_natural_Shl := (finE (E_natural_Shl) [(.slice (.int .u32), true)] Tryz.f118.results.toList)
noncomputable abbrev cn_natural_Shl_45 (x6 : Int) (x8 : Int) (x9 : Int) (x7 : List Int) : St := ⟨[(7, .one (.loc (.int .u32) 10000)), (9, .one (.val (.int .i64) x9)), (8, .one (.val (.int .u32) x8)), (6, .one (.val (.int .i64) x6))], [(10000, some ⟨.int .u32, x7, false⟩)]⟩
noncomputable abbrev kk_natural_Shl_45 (S : Nat → KT (RT [(.slice (.int .u32), true)])) := fun (x6 : Int) (x8 : Int) (x9 : Int) (x7 : List Int) => S 45 (cn_natural_Shl_45 x6 x8 x9 x7)
theorem top_natural_Shl (S : Nat → KT (RT [(.slice (.int .u32), true)])) (a0 : List Int) (a1 : Int) : evA (E_natural_Shl) (lk c_natural_Shl) S (bodyOf Tryz.f118) noX (fe_natural_Shl) (fe_natural_Shl) (initSt [.slice (.int .u32), .int .i64] (a0, a1, ())) = T_natural_Shl (kk_natural_Shl_45 S) a0 a1 := by kernel_rfl
theorem seg_natural_Shl_45 (S : Nat → KT (RT [(.slice (.int .u32), true)])) (x6 : Int) (x8 : Int) (x9 : Int) (x7 : List Int) : stepT (entry (E_natural_Shl) (lk c_natural_Shl) S 45 (bodyOf Tryz.f118) noX (fe_natural_Shl) (fe_natural_Shl)) (cn_natural_Shl_45 x6 x8 x9 x7) = S_natural_Shl_45 (kk_natural_Shl_45 S) x6 x8 x9 x7 := by kernel_rfl
noncomputable abbrev tb_natural_Shl := tab (E_natural_Shl) (lk c_natural_Shl) (bodyOf Tryz.f118) (fe_natural_Shl)
theorem ok_natural_Shl : EnvOK Tryz.prog (E_natural_Shl) := mkE_ok tys_ok trivial ⟨⟨PSound.mix os_natural_trim.psound (CSound.psound fs_natural_trim.csound), ⟨Tryz.f95, by kernel_rfl, by kernel_rfl, by kernel_rfl⟩⟩, trivial⟩
theorem fs_natural_Shl : FSound Tryz.prog 118 [.slice (.int .u32), .int .i64] [(.slice (.int .u32), true)] (fun τ => F_natural_Shl τ.1 τ.2.1) :=
  evG_sound (E := (E_natural_Shl)) (C := (lk c_natural_Shl)) ok_natural_Shl mixed_ok (fn := Tryz.f118) (c := (bodyOf Tryz.f118)) (by kernel_rfl) (by kernel_rfl) (by kernel_rfl) (by kernel_rfl) (by kernel_rfl) (by kernel_rfl) (fun τ r h => by
    obtain ⟨a0, a1, ⟨⟩⟩ := τ
    obtain ⟨m, hm⟩ := Rn_natural_Shl (fun m => kk_natural_Shl_45 (tb_natural_Shl m)) (fun m x6 x8 x9 x7 => (tab_succ (E_natural_Shl) (lk c_natural_Shl) (bodyOf Tryz.f118) (fe_natural_Shl) m 45 (cn_natural_Shl_45 x6 x8 x9 x7)).trans (seg_natural_Shl_45 (tb_natural_Shl m) x6 x8 x9 x7)) a0 a1 r h
    exact ⟨m, (top_natural_Shl (tb_natural_Shl m) a0 a1).trans (hm m (Nat.le_refl m))⟩)

abbrev E_bits_Len64 : Env := mkE tys [] []
def c_bits_Len64 : List (Nat × Live) := [(16, ⟨[(0, .int .u64), (2, .int .i64)], [], []⟩), (28, ⟨[(0, .int .u64), (2, .int .i64)], [], []⟩), (40, ⟨[(0, .int .u64), (2, .int .i64)], [], []⟩)]
noncomputable abbrev fe_bits_Len64 := (finE (E_bits_Len64) [(.int .i64, false)] Tryz.f123.results.toList)
noncomputable abbrev cn_bits_Len64_16 (x0 : Int) (x2 : Int) : St := ⟨[(2, .one (.val (.int .i64) x2)), (0, .one (.val (.int .u64) x0))], []⟩
noncomputable abbrev kk_bits_Len64_16 (S : Nat → KT (RT [(.int .i64, false)])) := fun (x0 : Int) (x2 : Int) => S 16 (cn_bits_Len64_16 x0 x2)
noncomputable abbrev cn_bits_Len64_28 (x0 : Int) (x2 : Int) : St := ⟨[(2, .one (.val (.int .i64) x2)), (0, .one (.val (.int .u64) x0))], []⟩
noncomputable abbrev kk_bits_Len64_28 (S : Nat → KT (RT [(.int .i64, false)])) := fun (x0 : Int) (x2 : Int) => S 28 (cn_bits_Len64_28 x0 x2)
noncomputable abbrev cn_bits_Len64_40 (x0 : Int) (x2 : Int) : St := ⟨[(2, .one (.val (.int .i64) x2)), (0, .one (.val (.int .u64) x0))], []⟩
noncomputable abbrev kk_bits_Len64_40 (S : Nat → KT (RT [(.int .i64, false)])) := fun (x0 : Int) (x2 : Int) => S 40 (cn_bits_Len64_40 x0 x2)
theorem top_bits_Len64 (S : Nat → KT (RT [(.int .i64, false)])) (a0 : Int) : evA (E_bits_Len64) (lk c_bits_Len64) S (bodyOf Tryz.f123) noX (fe_bits_Len64) (fe_bits_Len64) (initSt [.int .u64] (a0, ())) = T_bits_Len64 (kk_bits_Len64_16 S) (kk_bits_Len64_28 S) (kk_bits_Len64_40 S) a0 := by kernel_rfl
theorem seg_bits_Len64_16 (S : Nat → KT (RT [(.int .i64, false)])) (x0 : Int) (x2 : Int) : stepT (entry (E_bits_Len64) (lk c_bits_Len64) S 16 (bodyOf Tryz.f123) noX (fe_bits_Len64) (fe_bits_Len64)) (cn_bits_Len64_16 x0 x2) = S_bits_Len64_16 (kk_bits_Len64_16 S) (kk_bits_Len64_28 S) (kk_bits_Len64_40 S) x0 x2 := by kernel_rfl
theorem seg_bits_Len64_28 (S : Nat → KT (RT [(.int .i64, false)])) (x0 : Int) (x2 : Int) : stepT (entry (E_bits_Len64) (lk c_bits_Len64) S 28 (bodyOf Tryz.f123) noX (fe_bits_Len64) (fe_bits_Len64)) (cn_bits_Len64_28 x0 x2) = S_bits_Len64_28 (kk_bits_Len64_16 S) (kk_bits_Len64_28 S) (kk_bits_Len64_40 S) x0 x2 := by kernel_rfl
theorem seg_bits_Len64_40 (S : Nat → KT (RT [(.int .i64, false)])) (x0 : Int) (x2 : Int) : stepT (entry (E_bits_Len64) (lk c_bits_Len64) S 40 (bodyOf Tryz.f123) noX (fe_bits_Len64) (fe_bits_Len64)) (cn_bits_Len64_40 x0 x2) = S_bits_Len64_40 (kk_bits_Len64_16 S) (kk_bits_Len64_28 S) (kk_bits_Len64_40 S) x0 x2 := by kernel_rfl
noncomputable abbrev tb_bits_Len64 := tab (E_bits_Len64) (lk c_bits_Len64) (bodyOf Tryz.f123) (fe_bits_Len64)
theorem ok_bits_Len64 : EnvOK Tryz.prog (E_bits_Len64) := mkE_ok tys_ok trivial trivial
theorem fs_bits_Len64 : FSound Tryz.prog 123 [.int .u64] [(.int .i64, false)] (fun τ => F_bits_Len64 τ.1) :=
  evG_sound (E := (E_bits_Len64)) (C := (lk c_bits_Len64)) ok_bits_Len64 mixed_ok (fn := Tryz.f123) (c := (bodyOf Tryz.f123)) (by kernel_rfl) (by kernel_rfl) (by kernel_rfl) (by kernel_rfl) (by kernel_rfl) (by kernel_rfl) (fun τ r h => by
    obtain ⟨a0, ⟨⟩⟩ := τ
    obtain ⟨m, hm⟩ := Rn_bits_Len64 (fun m => kk_bits_Len64_16 (tb_bits_Len64 m)) (fun m => kk_bits_Len64_28 (tb_bits_Len64 m)) (fun m => kk_bits_Len64_40 (tb_bits_Len64 m)) (fun m x0 x2 => (tab_succ (E_bits_Len64) (lk c_bits_Len64) (bodyOf Tryz.f123) (fe_bits_Len64) m 16 (cn_bits_Len64_16 x0 x2)).trans (seg_bits_Len64_16 (tb_bits_Len64 m) x0 x2)) (fun m x0 x2 => (tab_succ (E_bits_Len64) (lk c_bits_Len64) (bodyOf Tryz.f123) (fe_bits_Len64) m 28 (cn_bits_Len64_28 x0 x2)).trans (seg_bits_Len64_28 (tb_bits_Len64 m) x0 x2)) (fun m x0 x2 => (tab_succ (E_bits_Len64) (lk c_bits_Len64) (bodyOf Tryz.f123) (fe_bits_Len64) m 40 (cn_bits_Len64_40 x0 x2)).trans (seg_bits_Len64_40 (tb_bits_Len64 m) x0 x2)) a0 r h
    exact ⟨m, (top_bits_Len64 (tb_bits_Len64 m) a0).trans (hm m (Nat.le_refl m))⟩)

abbrev E_bits_LeadingZeros64 : Env := mkE tys [(123, callE [.int .u64] [(.int .i64, false)] (fun τ => F_bits_Len64 τ.1))] []
def c_bits_LeadingZeros64 : List (Nat × Live) := []
noncomputable abbrev fe_bits_LeadingZeros64 := (finE (E_bits_LeadingZeros64) [(.int .i64, false)] Tryz.f122.results.toList)
theorem top_bits_LeadingZeros64 (S : Nat → KT (RT [(.int .i64, false)])) (a0 : Int) : evA (E_bits_LeadingZeros64) (lk c_bits_LeadingZeros64) S (bodyOf Tryz.f122) noX (fe_bits_LeadingZeros64) (fe_bits_LeadingZeros64) (initSt [.int .u64] (a0, ())) = T_bits_LeadingZeros64 a0 := by kernel_rfl
noncomputable abbrev tb_bits_LeadingZeros64 := tab (E_bits_LeadingZeros64) (lk c_bits_LeadingZeros64) (bodyOf Tryz.f122) (fe_bits_LeadingZeros64)
theorem ok_bits_LeadingZeros64 : EnvOK Tryz.prog (E_bits_LeadingZeros64) := mkE_ok tys_ok ⟨⟨fs_bits_Len64.csound, ⟨Tryz.f123, by kernel_rfl, by kernel_rfl, by kernel_rfl⟩⟩, trivial⟩ trivial
theorem fs_bits_LeadingZeros64 : FSound Tryz.prog 122 [.int .u64] [(.int .i64, false)] (fun τ => F_bits_LeadingZeros64 τ.1) :=
  evG_sound (E := (E_bits_LeadingZeros64)) (C := (lk c_bits_LeadingZeros64)) ok_bits_LeadingZeros64 mixed_ok (fn := Tryz.f122) (c := (bodyOf Tryz.f122)) (by kernel_rfl) (by kernel_rfl) (by kernel_rfl) (by kernel_rfl) (by kernel_rfl) (by kernel_rfl) (fun τ r h => by
    obtain ⟨a0, ⟨⟩⟩ := τ
    obtain ⟨m, hm⟩ := Rn_bits_LeadingZeros64 a0 r h
    exact ⟨m, (top_bits_LeadingZeros64 (tb_bits_LeadingZeros64 m) a0).trans (hm m (Nat.le_refl m))⟩)

abbrev E_bits_Div64 : Env := mkE tys [(122, callE [.int .u64] [(.int .i64, false)] (fun τ => F_bits_LeadingZeros64 τ.1))] []
def c_bits_Div64 : List (Nat × Live) := [(69, ⟨[(2, .int .u64), (8, .int .u64), (9, .int .u64), (10, .int .u64), (11, .int .u64), (13, .int .u64), (14, .int .u64), (15, .int .u64), (16, .int .u64)], [], []⟩), (72, ⟨[(2, .int .u64), (8, .int .u64), (9, .int .u64), (10, .int .u64), (11, .int .u64), (13, .int .u64), (14, .int .u64), (15, .int .u64), (16, .int .u64)], [], []⟩), (97, ⟨[(2, .int .u64), (8, .int .u64), (9, .int .u64), (10, .int .u64), (14, .int .u64), (15, .int .u64), (16, .int .u64), (17, .int .u64), (18, .int .u64)], [], []⟩), (100, ⟨[(2, .int .u64), (8, .int .u64), (9, .int .u64), (10, .int .u64), (14, .int .u64), (15, .int .u64), (16, .int .u64), (17, .int .u64), (18, .int .u64)], [], []⟩)]
noncomputable abbrev fe_bits_Div64 := (finE (E_bits_Div64) [(.int .u64, false), (.int .u64, false)] Tryz.f119.results.toList)
noncomputable abbrev cn_bits_Div64_69 (x2 : Int) (x8 : Int) (x9 : Int) (x10 : Int) (x11 : Int) (x13 : Int) (x14 : Int) (x15 : Int) (x16 : Int) : St := ⟨[(16, .one (.val (.int .u64) x16)), (15, .one (.val (.int .u64) x15)), (14, .one (.val (.int .u64) x14)), (13, .one (.val (.int .u64) x13)), (11, .one (.val (.int .u64) x11)), (10, .one (.val (.int .u64) x10)), (9, .one (.val (.int .u64) x9)), (8, .one (.val (.int .u64) x8)), (2, .one (.val (.int .u64) x2))], []⟩
noncomputable abbrev kk_bits_Div64_69 (S : Nat → KT (RT [(.int .u64, false), (.int .u64, false)])) := fun (x2 : Int) (x8 : Int) (x9 : Int) (x10 : Int) (x11 : Int) (x13 : Int) (x14 : Int) (x15 : Int) (x16 : Int) => S 69 (cn_bits_Div64_69 x2 x8 x9 x10 x11 x13 x14 x15 x16)
noncomputable abbrev cn_bits_Div64_72 (x2 : Int) (x8 : Int) (x9 : Int) (x10 : Int) (x11 : Int) (x13 : Int) (x14 : Int) (x15 : Int) (x16 : Int) : St := ⟨[(16, .one (.val (.int .u64) x16)), (15, .one (.val (.int .u64) x15)), (14, .one (.val (.int .u64) x14)), (13, .one (.val (.int .u64) x13)), (11, .one (.val (.int .u64) x11)), (10, .one (.val (.int .u64) x10)), (9, .one (.val (.int .u64) x9)), (8, .one (.val (.int .u64) x8)), (2, .one (.val (.int .u64) x2))], []⟩
noncomputable abbrev kk_bits_Div64_72 (S : Nat → KT (RT [(.int .u64, false), (.int .u64, false)])) := fun (x2 : Int) (x8 : Int) (x9 : Int) (x10 : Int) (x11 : Int) (x13 : Int) (x14 : Int) (x15 : Int) (x16 : Int) => S 72 (cn_bits_Div64_72 x2 x8 x9 x10 x11 x13 x14 x15 x16)
noncomputable abbrev cn_bits_Div64_97 (x2 : Int) (x8 : Int) (x9 : Int) (x10 : Int) (x14 : Int) (x15 : Int) (x16 : Int) (x17 : Int) (x18 : Int) : St := ⟨[(18, .one (.val (.int .u64) x18)), (17, .one (.val (.int .u64) x17)), (16, .one (.val (.int .u64) x16)), (15, .one (.val (.int .u64) x15)), (14, .one (.val (.int .u64) x14)), (10, .one (.val (.int .u64) x10)), (9, .one (.val (.int .u64) x9)), (8, .one (.val (.int .u64) x8)), (2, .one (.val (.int .u64) x2))], []⟩
noncomputable abbrev kk_bits_Div64_97 (S : Nat → KT (RT [(.int .u64, false), (.int .u64, false)])) := fun (x2 : Int) (x8 : Int) (x9 : Int) (x10 : Int) (x14 : Int) (x15 : Int) (x16 : Int) (x17 : Int) (x18 : Int) => S 97 (cn_bits_Div64_97 x2 x8 x9 x10 x14 x15 x16 x17 x18)
noncomputable abbrev cn_bits_Div64_100 (x2 : Int) (x8 : Int) (x9 : Int) (x10 : Int) (x14 : Int) (x15 : Int) (x16 : Int) (x17 : Int) (x18 : Int) : St := ⟨[(18, .one (.val (.int .u64) x18)), (17, .one (.val (.int .u64) x17)), (16, .one (.val (.int .u64) x16)), (15, .one (.val (.int .u64) x15)), (14, .one (.val (.int .u64) x14)), (10, .one (.val (.int .u64) x10)), (9, .one (.val (.int .u64) x9)), (8, .one (.val (.int .u64) x8)), (2, .one (.val (.int .u64) x2))], []⟩
noncomputable abbrev kk_bits_Div64_100 (S : Nat → KT (RT [(.int .u64, false), (.int .u64, false)])) := fun (x2 : Int) (x8 : Int) (x9 : Int) (x10 : Int) (x14 : Int) (x15 : Int) (x16 : Int) (x17 : Int) (x18 : Int) => S 100 (cn_bits_Div64_100 x2 x8 x9 x10 x14 x15 x16 x17 x18)
theorem top_bits_Div64 (S : Nat → KT (RT [(.int .u64, false), (.int .u64, false)])) (a0 : Int) (a1 : Int) (a2 : Int) : evA (E_bits_Div64) (lk c_bits_Div64) S (bodyOf Tryz.f119) noX (fe_bits_Div64) (fe_bits_Div64) (initSt [.int .u64, .int .u64, .int .u64] (a0, a1, a2, ())) = T_bits_Div64 (kk_bits_Div64_69 S) (kk_bits_Div64_72 S) (kk_bits_Div64_97 S) (kk_bits_Div64_100 S) a0 a1 a2 := by kernel_rfl
theorem seg_bits_Div64_69 (S : Nat → KT (RT [(.int .u64, false), (.int .u64, false)])) (x2 : Int) (x8 : Int) (x9 : Int) (x10 : Int) (x11 : Int) (x13 : Int) (x14 : Int) (x15 : Int) (x16 : Int) : stepT (entry (E_bits_Div64) (lk c_bits_Div64) S 69 (bodyOf Tryz.f119) noX (fe_bits_Div64) (fe_bits_Div64)) (cn_bits_Div64_69 x2 x8 x9 x10 x11 x13 x14 x15 x16) = S_bits_Div64_69 (kk_bits_Div64_69 S) (kk_bits_Div64_72 S) (kk_bits_Div64_97 S) (kk_bits_Div64_100 S) x2 x8 x9 x10 x11 x13 x14 x15 x16 := by kernel_rfl
theorem seg_bits_Div64_72 (S : Nat → KT (RT [(.int .u64, false), (.int .u64, false)])) (x2 : Int) (x8 : Int) (x9 : Int) (x10 : Int) (x11 : Int) (x13 : Int) (x14 : Int) (x15 : Int) (x16 : Int) : stepT (entry (E_bits_Div64) (lk c_bits_Div64) S 72 (bodyOf Tryz.f119) noX (fe_bits_Div64) (fe_bits_Div64)) (cn_bits_Div64_72 x2 x8 x9 x10 x11 x13 x14 x15 x16) = S_bits_Div64_72 (kk_bits_Div64_69 S) (kk_bits_Div64_72 S) (kk_bits_Div64_97 S) (kk_bits_Div64_100 S) x2 x8 x9 x10 x11 x13 x14 x15 x16 := by kernel_rfl
theorem seg_bits_Div64_97 (S : Nat → KT (RT [(.int .u64, false), (.int .u64, false)])) (x2 : Int) (x8 : Int) (x9 : Int) (x10 : Int) (x14 : Int) (x15 : Int) (x16 : Int) (x17 : Int) (x18 : Int) : stepT (entry (E_bits_Div64) (lk c_bits_Div64) S 97 (bodyOf Tryz.f119) noX (fe_bits_Div64) (fe_bits_Div64)) (cn_bits_Div64_97 x2 x8 x9 x10 x14 x15 x16 x17 x18) = S_bits_Div64_97 (kk_bits_Div64_69 S) (kk_bits_Div64_72 S) (kk_bits_Div64_97 S) (kk_bits_Div64_100 S) x2 x8 x9 x10 x14 x15 x16 x17 x18 := by kernel_rfl
theorem seg_bits_Div64_100 (S : Nat → KT (RT [(.int .u64, false), (.int .u64, false)])) (x2 : Int) (x8 : Int) (x9 : Int) (x10 : Int) (x14 : Int) (x15 : Int) (x16 : Int) (x17 : Int) (x18 : Int) : stepT (entry (E_bits_Div64) (lk c_bits_Div64) S 100 (bodyOf Tryz.f119) noX (fe_bits_Div64) (fe_bits_Div64)) (cn_bits_Div64_100 x2 x8 x9 x10 x14 x15 x16 x17 x18) = S_bits_Div64_100 (kk_bits_Div64_69 S) (kk_bits_Div64_72 S) (kk_bits_Div64_97 S) (kk_bits_Div64_100 S) x2 x8 x9 x10 x14 x15 x16 x17 x18 := by kernel_rfl
noncomputable abbrev tb_bits_Div64 := tab (E_bits_Div64) (lk c_bits_Div64) (bodyOf Tryz.f119) (fe_bits_Div64)
theorem ok_bits_Div64 : EnvOK Tryz.prog (E_bits_Div64) := mkE_ok tys_ok ⟨⟨fs_bits_LeadingZeros64.csound, ⟨Tryz.f122, by kernel_rfl, by kernel_rfl, by kernel_rfl⟩⟩, trivial⟩ trivial
theorem fs_bits_Div64 : FSound Tryz.prog 119 [.int .u64, .int .u64, .int .u64] [(.int .u64, false), (.int .u64, false)] (fun τ => F_bits_Div64 τ.1 τ.2.1 τ.2.2.1) :=
  evG_sound (E := (E_bits_Div64)) (C := (lk c_bits_Div64)) ok_bits_Div64 mixed_ok (fn := Tryz.f119) (c := (bodyOf Tryz.f119)) (by kernel_rfl) (by kernel_rfl) (by kernel_rfl) (by kernel_rfl) (by kernel_rfl) (by kernel_rfl) (fun τ r h => by
    obtain ⟨a0, a1, a2, ⟨⟩⟩ := τ
    obtain ⟨m, hm⟩ := Rn_bits_Div64 (fun m => kk_bits_Div64_69 (tb_bits_Div64 m)) (fun m => kk_bits_Div64_72 (tb_bits_Div64 m)) (fun m => kk_bits_Div64_97 (tb_bits_Div64 m)) (fun m => kk_bits_Div64_100 (tb_bits_Div64 m)) (fun m x2 x8 x9 x10 x11 x13 x14 x15 x16 => (tab_succ (E_bits_Div64) (lk c_bits_Div64) (bodyOf Tryz.f119) (fe_bits_Div64) m 69 (cn_bits_Div64_69 x2 x8 x9 x10 x11 x13 x14 x15 x16)).trans (seg_bits_Div64_69 (tb_bits_Div64 m) x2 x8 x9 x10 x11 x13 x14 x15 x16)) (fun m x2 x8 x9 x10 x11 x13 x14 x15 x16 => (tab_succ (E_bits_Div64) (lk c_bits_Div64) (bodyOf Tryz.f119) (fe_bits_Div64) m 72 (cn_bits_Div64_72 x2 x8 x9 x10 x11 x13 x14 x15 x16)).trans (seg_bits_Div64_72 (tb_bits_Div64 m) x2 x8 x9 x10 x11 x13 x14 x15 x16)) (fun m x2 x8 x9 x10 x14 x15 x16 x17 x18 => (tab_succ (E_bits_Div64) (lk c_bits_Div64) (bodyOf Tryz.f119) (fe_bits_Div64) m 97 (cn_bits_Div64_97 x2 x8 x9 x10 x14 x15 x16 x17 x18)).trans (seg_bits_Div64_97 (tb_bits_Div64 m) x2 x8 x9 x10 x14 x15 x16 x17 x18)) (fun m x2 x8 x9 x10 x14 x15 x16 x17 x18 => (tab_succ (E_bits_Div64) (lk c_bits_Div64) (bodyOf Tryz.f119) (fe_bits_Div64) m 100 (cn_bits_Div64_100 x2 x8 x9 x10 x14 x15 x16 x17 x18)).trans (seg_bits_Div64_100 (tb_bits_Div64 m) x2 x8 x9 x10 x14 x15 x16 x17 x18)) a0 a1 a2 r h
    exact ⟨m, (top_bits_Div64 (tb_bits_Div64 m) a0 a1 a2).trans (hm m (Nat.le_refl m))⟩)

abbrev E_natural_Shr : Env := mkE tys [] [(95, mixO (callO [] false (.int .u32) .pre (fun τ l => O_natural_trim l)) (callI (callE [.slice (.int .u32)] [(.slice (.int .u32), false)] (fun τ => F_natural_trim τ.1))))]
def c_natural_Shr : List (Nat × Live) := [(37, ⟨[(6, .int .i64), (29, .int .i64), (30, .int .i64)], [(false, 7, .int .u32)], []⟩), (56, ⟨[(6, .int .i64), (8, .int .i64), (9, .int .u32), (29, .int .i64), (30, .int .i64)], [(false, 7, .int .u32)], []⟩)]
noncomputable abbrev fe_natural_Shr := (finE (E_natural_Shr) [(.slice (.int .u32), false)] Tryz.f120.results.toList)
noncomputable abbrev cn_natural_Shr_37 (x6 : Int) (x29 : Int) (x30 : Int) (x7 : List Int) : St := ⟨[(7, .one (.loc (.int .u32) 10000)), (30, .one (.val (.int .i64) x30)), (29, .one (.val (.int .i64) x29)), (6, .one (.val (.int .i64) x6))], [(10000, some ⟨.int .u32, x7, false⟩)]⟩
noncomputable abbrev kk_natural_Shr_37 (S : Nat → KT (RT [(.slice (.int .u32), false)])) := fun (x6 : Int) (x29 : Int) (x30 : Int) (x7 : List Int) => S 37 (cn_natural_Shr_37 x6 x29 x30 x7)
noncomputable abbrev cn_natural_Shr_56 (x6 : Int) (x8 : Int) (x9 : Int) (x29 : Int) (x30 : Int) (x7 : List Int) : St := ⟨[(7, .one (.loc (.int .u32) 10000)), (30, .one (.val (.int .i64) x30)), (29, .one (.val (.int .i64) x29)), (9, .one (.val (.int .u32) x9)), (8, .one (.val (.int .i64) x8)), (6, .one (.val (.int .i64) x6))], [(10000, some ⟨.int .u32, x7, false⟩)]⟩
noncomputable abbrev kk_natural_Shr_56 (S : Nat → KT (RT [(.slice (.int .u32), false)])) := fun (x6 : Int) (x8 : Int) (x9 : Int) (x29 : Int) (x30 : Int) (x7 : List Int) => S 56 (cn_natural_Shr_56 x6 x8 x9 x29 x30 x7)
theorem top_natural_Shr (S : Nat → KT (RT [(.slice (.int .u32), false)])) (a0 : List Int) (a1 : Int) : evA (E_natural_Shr) (lk c_natural_Shr) S (bodyOf Tryz.f120) noX (fe_natural_Shr) (fe_natural_Shr) (initSt [.slice (.int .u32), .int .i64] (a0, a1, ())) = T_natural_Shr (kk_natural_Shr_37 S) (kk_natural_Shr_56 S) a0 a1 := by kernel_rfl
theorem seg_natural_Shr_37 (S : Nat → KT (RT [(.slice (.int .u32), false)])) (x6 : Int) (x29 : Int) (x30 : Int) (x7 : List Int) : stepT (entry (E_natural_Shr) (lk c_natural_Shr) S 37 (bodyOf Tryz.f120) noX (fe_natural_Shr) (fe_natural_Shr)) (cn_natural_Shr_37 x6 x29 x30 x7) = S_natural_Shr_37 (kk_natural_Shr_37 S) (kk_natural_Shr_56 S) x6 x29 x30 x7 := by kernel_rfl
theorem seg_natural_Shr_56 (S : Nat → KT (RT [(.slice (.int .u32), false)])) (x6 : Int) (x8 : Int) (x9 : Int) (x29 : Int) (x30 : Int) (x7 : List Int) : stepT (entry (E_natural_Shr) (lk c_natural_Shr) S 56 (bodyOf Tryz.f120) noX (fe_natural_Shr) (fe_natural_Shr)) (cn_natural_Shr_56 x6 x8 x9 x29 x30 x7) = S_natural_Shr_56 (kk_natural_Shr_37 S) (kk_natural_Shr_56 S) x6 x8 x9 x29 x30 x7 := by kernel_rfl
noncomputable abbrev tb_natural_Shr := tab (E_natural_Shr) (lk c_natural_Shr) (bodyOf Tryz.f120) (fe_natural_Shr)
theorem ok_natural_Shr : EnvOK Tryz.prog (E_natural_Shr) := mkE_ok tys_ok trivial ⟨⟨PSound.mix os_natural_trim.psound (CSound.psound fs_natural_trim.csound), ⟨Tryz.f95, by kernel_rfl, by kernel_rfl, by kernel_rfl⟩⟩, trivial⟩
theorem fs_natural_Shr : FSound Tryz.prog 120 [.slice (.int .u32), .int .i64] [(.slice (.int .u32), false)] (fun τ => F_natural_Shr τ.1 τ.2.1) :=
  evG_sound (E := (E_natural_Shr)) (C := (lk c_natural_Shr)) ok_natural_Shr mixed_ok (fn := Tryz.f120) (c := (bodyOf Tryz.f120)) (by kernel_rfl) (by kernel_rfl) (by kernel_rfl) (by kernel_rfl) (by kernel_rfl) (by kernel_rfl) (fun τ r h => by
    obtain ⟨a0, a1, ⟨⟩⟩ := τ
    obtain ⟨m, hm⟩ := Rn_natural_Shr (fun m => kk_natural_Shr_37 (tb_natural_Shr m)) (fun m => kk_natural_Shr_56 (tb_natural_Shr m)) (fun m x6 x29 x30 x7 => (tab_succ (E_natural_Shr) (lk c_natural_Shr) (bodyOf Tryz.f120) (fe_natural_Shr) m 37 (cn_natural_Shr_37 x6 x29 x30 x7)).trans (seg_natural_Shr_37 (tb_natural_Shr m) x6 x29 x30 x7)) (fun m x6 x8 x9 x29 x30 x7 => (tab_succ (E_natural_Shr) (lk c_natural_Shr) (bodyOf Tryz.f120) (fe_natural_Shr) m 56 (cn_natural_Shr_56 x6 x8 x9 x29 x30 x7)).trans (seg_natural_Shr_56 (tb_natural_Shr m) x6 x8 x9 x29 x30 x7)) a0 a1 r h
    exact ⟨m, (top_natural_Shr (tb_natural_Shr m) a0 a1).trans (hm m (Nat.le_refl m))⟩)

abbrev E_division_long : Env := mkE tys [(85, callE [.int .u64] [(.slice (.int .u32), false)] (fun τ => F_natural_Of τ.1)), (87, callE [.slice (.int .u32)] [(.slice (.int .u32), true)] (fun τ => F_natural_Normal τ.1)), (97, callE [.int .u32, .int .u32, .int .u32] [(.int .u32, false), (.int .u32, false)] (fun τ => F_bits_Add32 τ.1 τ.2.1 τ.2.2.1)), (103, callE [.slice (.int .u32), .slice (.int .u32)] [(.int .i64, false)] (fun τ => F_natural_Cmp τ.1 τ.2.1)), (108, callE [.slice (.int .u32), .int .u32] [(.slice (.int .u32), false), (.int .u32, false), (.bool, false)] (fun τ => F_natural_DivSmall τ.1 τ.2.1)), (117, callE [.int .u32] [(.int .i64, false)] (fun τ => F_bits_LeadingZeros32 τ.1)), (118, callE [.slice (.int .u32), .int .i64] [(.slice (.int .u32), true)] (fun τ => F_natural_Shl τ.1 τ.2.1)), (119, callE [.int .u64, .int .u64, .int .u64] [(.int .u64, false), (.int .u64, false)] (fun τ => F_bits_Div64 τ.1 τ.2.1 τ.2.2.1)), (120, callE [.slice (.int .u32), .int .i64] [(.slice (.int .u32), false)] (fun τ => F_natural_Shr τ.1 τ.2.1))] []
def c_division_long : List (Nat × Live) := [(57, ⟨[(6, .int .i64), (10, .int .i64), (13, .int .u64), (14, .int .u64), (15, .int .i64)], [(false, 4, .int .u32), (false, 11, .int .u32), (false, 12, .int .u32)], []⟩), (69, ⟨[(6, .int .i64), (10, .int .i64), (13, .int .u64), (14, .int .u64), (15, .int .i64), (16, .int .u64), (17, .int .u64)], [(false, 4, .int .u32), (false, 11, .int .u32), (false, 12, .int .u32)], []⟩), (93, ⟨[(6, .int .i64), (10, .int .i64), (13, .int .u64), (14, .int .u64), (15, .int .i64), (16, .int .u64), (18, .int .u64), (19, .int .u64), (142, .int .i64), (143, .int .i64)], [(false, 4, .int .u32), (false, 11, .int .u32), (false, 12, .int .u32)], [141]⟩), (153, ⟨[(6, .int .i64), (10, .int .i64), (13, .int .u64), (14, .int .u64), (15, .int .i64), (25, .int .u32), (211, .int .i64), (212, .int .i64)], [(false, 4, .int .u32), (false, 11, .int .u32), (false, 12, .int .u32)], [210]⟩)]
noncomputable abbrev fe_division_long := (finE (E_division_long) [(.slice (.int .u32), false), (.slice (.int .u32), false)] Tryz.f111.results.toList)
noncomputable abbrev cn_division_long_57 (x6 : Int) (x10 : Int) (x13 : Int) (x14 : Int) (x15 : Int) (x4 : List Int) (x11 : List Int) (x12 : List Int) : St := ⟨[(12, .one (.loc (.int .u32) 10002)), (11, .one (.loc (.int .u32) 10001)), (4, .one (.loc (.int .u32) 10000)), (15, .one (.val (.int .i64) x15)), (14, .one (.val (.int .u64) x14)), (13, .one (.val (.int .u64) x13)), (10, .one (.val (.int .i64) x10)), (6, .one (.val (.int .i64) x6))], [(10002, some ⟨.int .u32, x12, false⟩), (10001, some ⟨.int .u32, x11, false⟩), (10000, some ⟨.int .u32, x4, false⟩)]⟩
noncomputable abbrev kk_division_long_57 (S : Nat → KT (RT [(.slice (.int .u32), false), (.slice (.int .u32), false)])) := fun (x6 : Int) (x10 : Int) (x13 : Int) (x14 : Int) (x15 : Int) (x4 : List Int) (x11 : List Int) (x12 : List Int) => S 57 (cn_division_long_57 x6 x10 x13 x14 x15 x4 x11 x12)
noncomputable abbrev cn_division_long_69 (x6 : Int) (x10 : Int) (x13 : Int) (x14 : Int) (x15 : Int) (x16 : Int) (x17 : Int) (x4 : List Int) (x11 : List Int) (x12 : List Int) : St := ⟨[(12, .one (.loc (.int .u32) 10002)), (11, .one (.loc (.int .u32) 10001)), (4, .one (.loc (.int .u32) 10000)), (17, .one (.val (.int .u64) x17)), (16, .one (.val (.int .u64) x16)), (15, .one (.val (.int .i64) x15)), (14, .one (.val (.int .u64) x14)), (13, .one (.val (.int .u64) x13)), (10, .one (.val (.int .i64) x10)), (6, .one (.val (.int .i64) x6))], [(10002, some ⟨.int .u32, x12, false⟩), (10001, some ⟨.int .u32, x11, false⟩), (10000, some ⟨.int .u32, x4, false⟩)]⟩
noncomputable abbrev kk_division_long_69 (S : Nat → KT (RT [(.slice (.int .u32), false), (.slice (.int .u32), false)])) := fun (x6 : Int) (x10 : Int) (x13 : Int) (x14 : Int) (x15 : Int) (x16 : Int) (x17 : Int) (x4 : List Int) (x11 : List Int) (x12 : List Int) => S 69 (cn_division_long_69 x6 x10 x13 x14 x15 x16 x17 x4 x11 x12)
noncomputable abbrev cn_division_long_93 (x6 : Int) (x10 : Int) (x13 : Int) (x14 : Int) (x15 : Int) (x16 : Int) (x18 : Int) (x19 : Int) (x142 : Int) (x143 : Int) (x4 : List Int) (x11 : List Int) (x12 : List Int) : St := ⟨[(141, .one (.loc (.int .u32) 10001)), (12, .one (.loc (.int .u32) 10002)), (11, .one (.loc (.int .u32) 10001)), (4, .one (.loc (.int .u32) 10000)), (143, .one (.val (.int .i64) x143)), (142, .one (.val (.int .i64) x142)), (19, .one (.val (.int .u64) x19)), (18, .one (.val (.int .u64) x18)), (16, .one (.val (.int .u64) x16)), (15, .one (.val (.int .i64) x15)), (14, .one (.val (.int .u64) x14)), (13, .one (.val (.int .u64) x13)), (10, .one (.val (.int .i64) x10)), (6, .one (.val (.int .i64) x6))], [(10002, some ⟨.int .u32, x12, false⟩), (10001, some ⟨.int .u32, x11, false⟩), (10000, some ⟨.int .u32, x4, false⟩)]⟩
noncomputable abbrev kk_division_long_93 (S : Nat → KT (RT [(.slice (.int .u32), false), (.slice (.int .u32), false)])) := fun (x6 : Int) (x10 : Int) (x13 : Int) (x14 : Int) (x15 : Int) (x16 : Int) (x18 : Int) (x19 : Int) (x142 : Int) (x143 : Int) (x4 : List Int) (x11 : List Int) (x12 : List Int) => S 93 (cn_division_long_93 x6 x10 x13 x14 x15 x16 x18 x19 x142 x143 x4 x11 x12)
noncomputable abbrev cn_division_long_153 (x6 : Int) (x10 : Int) (x13 : Int) (x14 : Int) (x15 : Int) (x25 : Int) (x211 : Int) (x212 : Int) (x4 : List Int) (x11 : List Int) (x12 : List Int) : St := ⟨[(210, .one (.loc (.int .u32) 10001)), (12, .one (.loc (.int .u32) 10002)), (11, .one (.loc (.int .u32) 10001)), (4, .one (.loc (.int .u32) 10000)), (212, .one (.val (.int .i64) x212)), (211, .one (.val (.int .i64) x211)), (25, .one (.val (.int .u32) x25)), (15, .one (.val (.int .i64) x15)), (14, .one (.val (.int .u64) x14)), (13, .one (.val (.int .u64) x13)), (10, .one (.val (.int .i64) x10)), (6, .one (.val (.int .i64) x6))], [(10002, some ⟨.int .u32, x12, false⟩), (10001, some ⟨.int .u32, x11, false⟩), (10000, some ⟨.int .u32, x4, false⟩)]⟩
noncomputable abbrev kk_division_long_153 (S : Nat → KT (RT [(.slice (.int .u32), false), (.slice (.int .u32), false)])) := fun (x6 : Int) (x10 : Int) (x13 : Int) (x14 : Int) (x15 : Int) (x25 : Int) (x211 : Int) (x212 : Int) (x4 : List Int) (x11 : List Int) (x12 : List Int) => S 153 (cn_division_long_153 x6 x10 x13 x14 x15 x25 x211 x212 x4 x11 x12)
theorem top_division_long (S : Nat → KT (RT [(.slice (.int .u32), false), (.slice (.int .u32), false)])) (a0 : List Int) (a1 : List Int) : evA (E_division_long) (lk c_division_long) S (bodyOf Tryz.f111) noX (fe_division_long) (fe_division_long) (initSt [.slice (.int .u32), .slice (.int .u32)] (a0, a1, ())) = T_division_long (kk_division_long_57 S) (kk_division_long_69 S) (kk_division_long_93 S) (kk_division_long_153 S) a0 a1 := by kernel_rfl
theorem seg_division_long_57 (S : Nat → KT (RT [(.slice (.int .u32), false), (.slice (.int .u32), false)])) (x6 : Int) (x10 : Int) (x13 : Int) (x14 : Int) (x15 : Int) (x4 : List Int) (x11 : List Int) (x12 : List Int) : stepT (entry (E_division_long) (lk c_division_long) S 57 (bodyOf Tryz.f111) noX (fe_division_long) (fe_division_long)) (cn_division_long_57 x6 x10 x13 x14 x15 x4 x11 x12) = S_division_long_57 (kk_division_long_57 S) (kk_division_long_69 S) (kk_division_long_93 S) (kk_division_long_153 S) x6 x10 x13 x14 x15 x4 x11 x12 := by kernel_rfl
theorem seg_division_long_69 (S : Nat → KT (RT [(.slice (.int .u32), false), (.slice (.int .u32), false)])) (x6 : Int) (x10 : Int) (x13 : Int) (x14 : Int) (x15 : Int) (x16 : Int) (x17 : Int) (x4 : List Int) (x11 : List Int) (x12 : List Int) : stepT (entry (E_division_long) (lk c_division_long) S 69 (bodyOf Tryz.f111) noX (fe_division_long) (fe_division_long)) (cn_division_long_69 x6 x10 x13 x14 x15 x16 x17 x4 x11 x12) = S_division_long_69 (kk_division_long_57 S) (kk_division_long_69 S) (kk_division_long_93 S) (kk_division_long_153 S) x6 x10 x13 x14 x15 x16 x17 x4 x11 x12 := by kernel_rfl
theorem seg_division_long_93 (S : Nat → KT (RT [(.slice (.int .u32), false), (.slice (.int .u32), false)])) (x6 : Int) (x10 : Int) (x13 : Int) (x14 : Int) (x15 : Int) (x16 : Int) (x18 : Int) (x19 : Int) (x142 : Int) (x143 : Int) (x4 : List Int) (x11 : List Int) (x12 : List Int) : stepT (entry (E_division_long) (lk c_division_long) S 93 (bodyOf Tryz.f111) noX (fe_division_long) (fe_division_long)) (cn_division_long_93 x6 x10 x13 x14 x15 x16 x18 x19 x142 x143 x4 x11 x12) = S_division_long_93 (kk_division_long_57 S) (kk_division_long_69 S) (kk_division_long_93 S) (kk_division_long_153 S) x6 x10 x13 x14 x15 x16 x18 x19 x142 x143 x4 x11 x12 := by kernel_rfl
theorem seg_division_long_153 (S : Nat → KT (RT [(.slice (.int .u32), false), (.slice (.int .u32), false)])) (x6 : Int) (x10 : Int) (x13 : Int) (x14 : Int) (x15 : Int) (x25 : Int) (x211 : Int) (x212 : Int) (x4 : List Int) (x11 : List Int) (x12 : List Int) : stepT (entry (E_division_long) (lk c_division_long) S 153 (bodyOf Tryz.f111) noX (fe_division_long) (fe_division_long)) (cn_division_long_153 x6 x10 x13 x14 x15 x25 x211 x212 x4 x11 x12) = S_division_long_153 (kk_division_long_57 S) (kk_division_long_69 S) (kk_division_long_93 S) (kk_division_long_153 S) x6 x10 x13 x14 x15 x25 x211 x212 x4 x11 x12 := by kernel_rfl
noncomputable abbrev tb_division_long := tab (E_division_long) (lk c_division_long) (bodyOf Tryz.f111) (fe_division_long)
theorem ok_division_long : EnvOK Tryz.prog (E_division_long) := mkE_ok tys_ok ⟨⟨fs_natural_Of.csound, ⟨Tryz.f85, by kernel_rfl, by kernel_rfl, by kernel_rfl⟩⟩, ⟨fs_natural_Normal.csound, ⟨Tryz.f87, by kernel_rfl, by kernel_rfl, by kernel_rfl⟩⟩, ⟨fs_bits_Add32.csound, ⟨Tryz.f97, by kernel_rfl, by kernel_rfl, by kernel_rfl⟩⟩, ⟨fs_natural_Cmp.csound, ⟨Tryz.f103, by kernel_rfl, by kernel_rfl, by kernel_rfl⟩⟩, ⟨fs_natural_DivSmall.csound, ⟨Tryz.f108, by kernel_rfl, by kernel_rfl, by kernel_rfl⟩⟩, ⟨fs_bits_LeadingZeros32.csound, ⟨Tryz.f117, by kernel_rfl, by kernel_rfl, by kernel_rfl⟩⟩, ⟨fs_natural_Shl.csound, ⟨Tryz.f118, by kernel_rfl, by kernel_rfl, by kernel_rfl⟩⟩, ⟨fs_bits_Div64.csound, ⟨Tryz.f119, by kernel_rfl, by kernel_rfl, by kernel_rfl⟩⟩, ⟨fs_natural_Shr.csound, ⟨Tryz.f120, by kernel_rfl, by kernel_rfl, by kernel_rfl⟩⟩, trivial⟩ trivial
theorem fs_division_long : FSound Tryz.prog 111 [.slice (.int .u32), .slice (.int .u32)] [(.slice (.int .u32), false), (.slice (.int .u32), false)] (fun τ => F_division_long τ.1 τ.2.1) :=
  evG_sound (E := (E_division_long)) (C := (lk c_division_long)) ok_division_long mixed_ok (fn := Tryz.f111) (c := (bodyOf Tryz.f111)) (by kernel_rfl) (by kernel_rfl) (by kernel_rfl) (by kernel_rfl) (by kernel_rfl) (by kernel_rfl) (fun τ r h => by
    obtain ⟨a0, a1, ⟨⟩⟩ := τ
    obtain ⟨m, hm⟩ := Rn_division_long (fun m => kk_division_long_57 (tb_division_long m)) (fun m => kk_division_long_69 (tb_division_long m)) (fun m => kk_division_long_93 (tb_division_long m)) (fun m => kk_division_long_153 (tb_division_long m)) (fun m x6 x10 x13 x14 x15 x4 x11 x12 => (tab_succ (E_division_long) (lk c_division_long) (bodyOf Tryz.f111) (fe_division_long) m 57 (cn_division_long_57 x6 x10 x13 x14 x15 x4 x11 x12)).trans (seg_division_long_57 (tb_division_long m) x6 x10 x13 x14 x15 x4 x11 x12)) (fun m x6 x10 x13 x14 x15 x16 x17 x4 x11 x12 => (tab_succ (E_division_long) (lk c_division_long) (bodyOf Tryz.f111) (fe_division_long) m 69 (cn_division_long_69 x6 x10 x13 x14 x15 x16 x17 x4 x11 x12)).trans (seg_division_long_69 (tb_division_long m) x6 x10 x13 x14 x15 x16 x17 x4 x11 x12)) (fun m x6 x10 x13 x14 x15 x16 x18 x19 x142 x143 x4 x11 x12 => (tab_succ (E_division_long) (lk c_division_long) (bodyOf Tryz.f111) (fe_division_long) m 93 (cn_division_long_93 x6 x10 x13 x14 x15 x16 x18 x19 x142 x143 x4 x11 x12)).trans (seg_division_long_93 (tb_division_long m) x6 x10 x13 x14 x15 x16 x18 x19 x142 x143 x4 x11 x12)) (fun m x6 x10 x13 x14 x15 x25 x211 x212 x4 x11 x12 => (tab_succ (E_division_long) (lk c_division_long) (bodyOf Tryz.f111) (fe_division_long) m 153 (cn_division_long_153 x6 x10 x13 x14 x15 x25 x211 x212 x4 x11 x12)).trans (seg_division_long_153 (tb_division_long m) x6 x10 x13 x14 x15 x25 x211 x212 x4 x11 x12)) a0 a1 r h
    exact ⟨m, (top_division_long (tb_division_long m) a0 a1).trans (hm m (Nat.le_refl m))⟩)

abbrev E_division_Gcd : Env := mkE tys [(85, callE [.int .u64] [(.slice (.int .u32), false)] (fun τ => F_natural_Of τ.1)), (87, callE [.slice (.int .u32)] [(.slice (.int .u32), true)] (fun τ => F_natural_Normal τ.1)), (90, callE [.bool, .slice (.int .u32)] [(.pair (.bool) (.slice (.int .u32)), false)] (fun τ => F_integer_From τ.1 τ.2.1)), (110, callE [.slice (.int .u32)] [(.int .u64, false), (.bool, false)] (fun τ => F_natural_Uint64 τ.1)), (111, callE [.slice (.int .u32), .slice (.int .u32)] [(.slice (.int .u32), false), (.slice (.int .u32), false)] (fun τ => F_division_long τ.1 τ.2.1))] []
def c_division_Gcd : List (Nat × Live) := [(9, ⟨[(5, .slice (.int .u32)), (6, .slice (.int .u32))], [(true, 4, .pair (.bool) (.slice (.int .u32)))], []⟩), (29, ⟨[(7, .int .u64), (9, .int .u64)], [(true, 4, .pair (.bool) (.slice (.int .u32)))], []⟩)]
noncomputable abbrev fe_division_Gcd := (finE (E_division_Gcd) [(.pair (.bool) (.slice (.int .u32)), false)] Tryz.f91.results.toList)
noncomputable abbrev cn_division_Gcd_9 (x5 : List Int) (x6 : List Int) (x4 : Bool × List Int) : St := ⟨[(4, .one (.ptr 10000 0 [])), (6, .one (.val (.slice (.int .u32)) x6)), (5, .one (.val (.slice (.int .u32)) x5))], [(10000, some ⟨.pair (.bool) (.slice (.int .u32)), [x4], false⟩)]⟩
noncomputable abbrev kk_division_Gcd_9 (S : Nat → KT (RT [(.pair (.bool) (.slice (.int .u32)), false)])) := fun (x5 : List Int) (x6 : List Int) (x4 : Bool × List Int) => S 9 (cn_division_Gcd_9 x5 x6 x4)
noncomputable abbrev cn_division_Gcd_29 (x7 : Int) (x9 : Int) (x4 : Bool × List Int) : St := ⟨[(4, .one (.ptr 10000 0 [])), (9, .one (.val (.int .u64) x9)), (7, .one (.val (.int .u64) x7))], [(10000, some ⟨.pair (.bool) (.slice (.int .u32)), [x4], false⟩)]⟩
noncomputable abbrev kk_division_Gcd_29 (S : Nat → KT (RT [(.pair (.bool) (.slice (.int .u32)), false)])) := fun (x7 : Int) (x9 : Int) (x4 : Bool × List Int) => S 29 (cn_division_Gcd_29 x7 x9 x4)
theorem top_division_Gcd (S : Nat → KT (RT [(.pair (.bool) (.slice (.int .u32)), false)])) (a0 : Bool × List Int) (a1 : Bool × List Int) : evA (E_division_Gcd) (lk c_division_Gcd) S (bodyOf Tryz.f91) noX (fe_division_Gcd) (fe_division_Gcd) (initSt [.pair (.bool) (.slice (.int .u32)), .pair (.bool) (.slice (.int .u32))] (a0, a1, ())) = T_division_Gcd (kk_division_Gcd_9 S) (kk_division_Gcd_29 S) a0 a1 := by kernel_rfl
theorem seg_division_Gcd_9 (S : Nat → KT (RT [(.pair (.bool) (.slice (.int .u32)), false)])) (x5 : List Int) (x6 : List Int) (x4 : Bool × List Int) : stepT (entry (E_division_Gcd) (lk c_division_Gcd) S 9 (bodyOf Tryz.f91) noX (fe_division_Gcd) (fe_division_Gcd)) (cn_division_Gcd_9 x5 x6 x4) = S_division_Gcd_9 (kk_division_Gcd_9 S) (kk_division_Gcd_29 S) x5 x6 x4 := by kernel_rfl
theorem seg_division_Gcd_29 (S : Nat → KT (RT [(.pair (.bool) (.slice (.int .u32)), false)])) (x7 : Int) (x9 : Int) (x4 : Bool × List Int) : stepT (entry (E_division_Gcd) (lk c_division_Gcd) S 29 (bodyOf Tryz.f91) noX (fe_division_Gcd) (fe_division_Gcd)) (cn_division_Gcd_29 x7 x9 x4) = S_division_Gcd_29 (kk_division_Gcd_9 S) (kk_division_Gcd_29 S) x7 x9 x4 := by kernel_rfl
noncomputable abbrev tb_division_Gcd := tab (E_division_Gcd) (lk c_division_Gcd) (bodyOf Tryz.f91) (fe_division_Gcd)
theorem ok_division_Gcd : EnvOK Tryz.prog (E_division_Gcd) := mkE_ok tys_ok ⟨⟨fs_natural_Of.csound, ⟨Tryz.f85, by kernel_rfl, by kernel_rfl, by kernel_rfl⟩⟩, ⟨fs_natural_Normal.csound, ⟨Tryz.f87, by kernel_rfl, by kernel_rfl, by kernel_rfl⟩⟩, ⟨fs_integer_From.csound, ⟨Tryz.f90, by kernel_rfl, by kernel_rfl, by kernel_rfl⟩⟩, ⟨fs_natural_Uint64.csound, ⟨Tryz.f110, by kernel_rfl, by kernel_rfl, by kernel_rfl⟩⟩, ⟨fs_division_long.csound, ⟨Tryz.f111, by kernel_rfl, by kernel_rfl, by kernel_rfl⟩⟩, trivial⟩ trivial
theorem fs_division_Gcd : FSound Tryz.prog 91 [.pair (.bool) (.slice (.int .u32)), .pair (.bool) (.slice (.int .u32))] [(.pair (.bool) (.slice (.int .u32)), false)] (fun τ => F_division_Gcd τ.1 τ.2.1) :=
  evG_sound (E := (E_division_Gcd)) (C := (lk c_division_Gcd)) ok_division_Gcd mixed_ok (fn := Tryz.f91) (c := (bodyOf Tryz.f91)) (by kernel_rfl) (by kernel_rfl) (by kernel_rfl) (by kernel_rfl) (by kernel_rfl) (by kernel_rfl) (fun τ r h => by
    obtain ⟨a0, a1, ⟨⟩⟩ := τ
    obtain ⟨m, hm⟩ := Rn_division_Gcd (fun m => kk_division_Gcd_9 (tb_division_Gcd m)) (fun m => kk_division_Gcd_29 (tb_division_Gcd m)) (fun m x5 x6 x4 => (tab_succ (E_division_Gcd) (lk c_division_Gcd) (bodyOf Tryz.f91) (fe_division_Gcd) m 9 (cn_division_Gcd_9 x5 x6 x4)).trans (seg_division_Gcd_9 (tb_division_Gcd m) x5 x6 x4)) (fun m x7 x9 x4 => (tab_succ (E_division_Gcd) (lk c_division_Gcd) (bodyOf Tryz.f91) (fe_division_Gcd) m 29 (cn_division_Gcd_29 x7 x9 x4)).trans (seg_division_Gcd_29 (tb_division_Gcd m) x7 x9 x4)) a0 a1 r h
    exact ⟨m, (top_division_Gcd (tb_division_Gcd m) a0 a1).trans (hm m (Nat.le_refl m))⟩)

abbrev E_division_zero : Env := mkE tys [(88, callE [.slice (.int .u32)] [(.bool, false)] (fun τ => F_natural_IsZero τ.1))] []
def c_division_zero : List (Nat × Live) := []
noncomputable abbrev fe_division_zero := (finE (E_division_zero) [(.bool, false)] Tryz.f113.results.toList)
theorem top_division_zero (S : Nat → KT (RT [(.bool, false)])) (a0 : Bool × List Int) : evA (E_division_zero) (lk c_division_zero) S (bodyOf Tryz.f113) noX (fe_division_zero) (fe_division_zero) (initSt [.pair (.bool) (.slice (.int .u32))] (a0, ())) = T_division_zero a0 := by kernel_rfl
noncomputable abbrev tb_division_zero := tab (E_division_zero) (lk c_division_zero) (bodyOf Tryz.f113) (fe_division_zero)
theorem ok_division_zero : EnvOK Tryz.prog (E_division_zero) := mkE_ok tys_ok ⟨⟨fs_natural_IsZero.csound, ⟨Tryz.f88, by kernel_rfl, by kernel_rfl, by kernel_rfl⟩⟩, trivial⟩ trivial
theorem fs_division_zero : FSound Tryz.prog 113 [.pair (.bool) (.slice (.int .u32))] [(.bool, false)] (fun τ => F_division_zero τ.1) :=
  evG_sound (E := (E_division_zero)) (C := (lk c_division_zero)) ok_division_zero mixed_ok (fn := Tryz.f113) (c := (bodyOf Tryz.f113)) (by kernel_rfl) (by kernel_rfl) (by kernel_rfl) (by kernel_rfl) (by kernel_rfl) (by kernel_rfl) (fun τ r h => by
    obtain ⟨a0, ⟨⟩⟩ := τ
    obtain ⟨m, hm⟩ := Rn_division_zero a0 r h
    exact ⟨m, (top_division_zero (tb_division_zero m) a0).trans (hm m (Nat.le_refl m))⟩)

abbrev E_division_Quo : Env := mkE tys [(90, callE [.bool, .slice (.int .u32)] [(.pair (.bool) (.slice (.int .u32)), false)] (fun τ => F_integer_From τ.1 τ.2.1)), (111, callE [.slice (.int .u32), .slice (.int .u32)] [(.slice (.int .u32), false), (.slice (.int .u32), false)] (fun τ => F_division_long τ.1 τ.2.1)), (113, callE [.pair (.bool) (.slice (.int .u32))] [(.bool, false)] (fun τ => F_division_zero τ.1))] []
def c_division_Quo : List (Nat × Live) := []
noncomputable abbrev fe_division_Quo := (finE (E_division_Quo) [(.pair (.bool) (.slice (.int .u32)), false), (.pair (.bool) (.slice (.int .u32)), false), (.int .i64, false)] Tryz.f112.results.toList)
theorem top_division_Quo (S : Nat → KT (RT [(.pair (.bool) (.slice (.int .u32)), false), (.pair (.bool) (.slice (.int .u32)), false), (.int .i64, false)])) (a0 : Bool × List Int) (a1 : Bool × List Int) : evA (E_division_Quo) (lk c_division_Quo) S (bodyOf Tryz.f112) noX (fe_division_Quo) (fe_division_Quo) (initSt [.pair (.bool) (.slice (.int .u32)), .pair (.bool) (.slice (.int .u32))] (a0, a1, ())) = T_division_Quo a0 a1 := by kernel_rfl
noncomputable abbrev tb_division_Quo := tab (E_division_Quo) (lk c_division_Quo) (bodyOf Tryz.f112) (fe_division_Quo)
theorem ok_division_Quo : EnvOK Tryz.prog (E_division_Quo) := mkE_ok tys_ok ⟨⟨fs_integer_From.csound, ⟨Tryz.f90, by kernel_rfl, by kernel_rfl, by kernel_rfl⟩⟩, ⟨fs_division_long.csound, ⟨Tryz.f111, by kernel_rfl, by kernel_rfl, by kernel_rfl⟩⟩, ⟨fs_division_zero.csound, ⟨Tryz.f113, by kernel_rfl, by kernel_rfl, by kernel_rfl⟩⟩, trivial⟩ trivial
theorem fs_division_Quo : FSound Tryz.prog 112 [.pair (.bool) (.slice (.int .u32)), .pair (.bool) (.slice (.int .u32))] [(.pair (.bool) (.slice (.int .u32)), false), (.pair (.bool) (.slice (.int .u32)), false), (.int .i64, false)] (fun τ => F_division_Quo τ.1 τ.2.1) :=
  evG_sound (E := (E_division_Quo)) (C := (lk c_division_Quo)) ok_division_Quo mixed_ok (fn := Tryz.f112) (c := (bodyOf Tryz.f112)) (by kernel_rfl) (by kernel_rfl) (by kernel_rfl) (by kernel_rfl) (by kernel_rfl) (by kernel_rfl) (fun τ r h => by
    obtain ⟨a0, a1, ⟨⟩⟩ := τ
    obtain ⟨m, hm⟩ := Rn_division_Quo a0 a1 r h
    exact ⟨m, (top_division_Quo (tb_division_Quo m) a0 a1).trans (hm m (Nat.le_refl m))⟩)

abbrev E_division_Exact : Env := mkE tys [(112, callE [.pair (.bool) (.slice (.int .u32)), .pair (.bool) (.slice (.int .u32))] [(.pair (.bool) (.slice (.int .u32)), false), (.pair (.bool) (.slice (.int .u32)), false), (.int .i64, false)] (fun τ => F_division_Quo τ.1 τ.2.1)), (113, callE [.pair (.bool) (.slice (.int .u32))] [(.bool, false)] (fun τ => F_division_zero τ.1))] []
def c_division_Exact : List (Nat × Live) := []
noncomputable abbrev fe_division_Exact := (finE (E_division_Exact) [(.pair (.bool) (.slice (.int .u32)), false), (.int .i64, false)] Tryz.f92.results.toList)
theorem top_division_Exact (S : Nat → KT (RT [(.pair (.bool) (.slice (.int .u32)), false), (.int .i64, false)])) (a0 : Bool × List Int) (a1 : Bool × List Int) : evA (E_division_Exact) (lk c_division_Exact) S (bodyOf Tryz.f92) noX (fe_division_Exact) (fe_division_Exact) (initSt [.pair (.bool) (.slice (.int .u32)), .pair (.bool) (.slice (.int .u32))] (a0, a1, ())) = T_division_Exact a0 a1 := by kernel_rfl
noncomputable abbrev tb_division_Exact := tab (E_division_Exact) (lk c_division_Exact) (bodyOf Tryz.f92) (fe_division_Exact)
theorem ok_division_Exact : EnvOK Tryz.prog (E_division_Exact) := mkE_ok tys_ok ⟨⟨fs_division_Quo.csound, ⟨Tryz.f112, by kernel_rfl, by kernel_rfl, by kernel_rfl⟩⟩, ⟨fs_division_zero.csound, ⟨Tryz.f113, by kernel_rfl, by kernel_rfl, by kernel_rfl⟩⟩, trivial⟩ trivial
theorem fs_division_Exact : FSound Tryz.prog 92 [.pair (.bool) (.slice (.int .u32)), .pair (.bool) (.slice (.int .u32))] [(.pair (.bool) (.slice (.int .u32)), false), (.int .i64, false)] (fun τ => F_division_Exact τ.1 τ.2.1) :=
  evG_sound (E := (E_division_Exact)) (C := (lk c_division_Exact)) ok_division_Exact mixed_ok (fn := Tryz.f92) (c := (bodyOf Tryz.f92)) (by kernel_rfl) (by kernel_rfl) (by kernel_rfl) (by kernel_rfl) (by kernel_rfl) (by kernel_rfl) (fun τ r h => by
    obtain ⟨a0, a1, ⟨⟩⟩ := τ
    obtain ⟨m, hm⟩ := Rn_division_Exact a0 a1 r h
    exact ⟨m, (top_division_Exact (tb_division_Exact m) a0 a1).trans (hm m (Nat.le_refl m))⟩)

abbrev E_rational_made : Env := mkE tys [(62, callE [] [(.slice (.int .u32), false)] (fun τ => F_rational_one)), (63, callE [.slice (.int .u32)] [(.bool, false)] (fun τ => F_rational_isOne τ.1)), (87, callE [.slice (.int .u32)] [(.slice (.int .u32), true)] (fun τ => F_natural_Normal τ.1)), (88, callE [.slice (.int .u32)] [(.bool, false)] (fun τ => F_natural_IsZero τ.1)), (89, callE [.pair (.bool) (.slice (.int .u32))] [(.pair (.bool) (.slice (.int .u32)), false)] (fun τ => F_integer_Normal τ.1)), (90, callE [.bool, .slice (.int .u32)] [(.pair (.bool) (.slice (.int .u32)), false)] (fun τ => F_integer_From τ.1 τ.2.1)), (91, callE [.pair (.bool) (.slice (.int .u32)), .pair (.bool) (.slice (.int .u32))] [(.pair (.bool) (.slice (.int .u32)), false)] (fun τ => F_division_Gcd τ.1 τ.2.1)), (92, callE [.pair (.bool) (.slice (.int .u32)), .pair (.bool) (.slice (.int .u32))] [(.pair (.bool) (.slice (.int .u32)), false), (.int .i64, false)] (fun τ => F_division_Exact τ.1 τ.2.1))] []
def c_rational_made : List (Nat × Live) := [(12, ⟨[(20, .bool)], [(false, 1, .int .u32), (true, 2, .pair (.bool) (.slice (.int .u32))), (true, 4, .pair (.pair (.bool) (.slice (.int .u32))) (.slice (.int .u32)))], []⟩)]
noncomputable abbrev fe_rational_made := (finE (E_rational_made) [(.pair (.pair (.bool) (.slice (.int .u32))) (.slice (.int .u32)), false)] Tryz.f65.results.toList)
noncomputable abbrev cn_rational_made_12 (x20 : Bool) (x1 : List Int) (x2 : Bool × List Int) (x4 : (Bool × List Int) × List Int) : St := ⟨[(4, .one (.ptr 10002 0 [])), (2, .one (.ptr 10001 0 [])), (1, .one (.loc (.int .u32) 10000)), (20, .one (.val (.bool) x20))], [(10002, some ⟨.pair (.pair (.bool) (.slice (.int .u32))) (.slice (.int .u32)), [x4], false⟩), (10001, some ⟨.pair (.bool) (.slice (.int .u32)), [x2], false⟩), (10000, some ⟨.int .u32, x1, false⟩)]⟩
noncomputable abbrev kk_rational_made_12 (S : Nat → KT (RT [(.pair (.pair (.bool) (.slice (.int .u32))) (.slice (.int .u32)), false)])) := fun (x20 : Bool) (x1 : List Int) (x2 : Bool × List Int) (x4 : (Bool × List Int) × List Int) => S 12 (cn_rational_made_12 x20 x1 x2 x4)
theorem top_rational_made (S : Nat → KT (RT [(.pair (.pair (.bool) (.slice (.int .u32))) (.slice (.int .u32)), false)])) (a0 : Bool × List Int) (a1 : List Int) : evA (E_rational_made) (lk c_rational_made) S (bodyOf Tryz.f65) noX (fe_rational_made) (fe_rational_made) (initSt [.pair (.bool) (.slice (.int .u32)), .slice (.int .u32)] (a0, a1, ())) = T_rational_made (kk_rational_made_12 S) a0 a1 := by kernel_rfl
theorem seg_rational_made_12 (S : Nat → KT (RT [(.pair (.pair (.bool) (.slice (.int .u32))) (.slice (.int .u32)), false)])) (x20 : Bool) (x1 : List Int) (x2 : Bool × List Int) (x4 : (Bool × List Int) × List Int) : stepT (entry (E_rational_made) (lk c_rational_made) S 12 (bodyOf Tryz.f65) noX (fe_rational_made) (fe_rational_made)) (cn_rational_made_12 x20 x1 x2 x4) = S_rational_made_12 (kk_rational_made_12 S) x20 x1 x2 x4 := by kernel_rfl
noncomputable abbrev tb_rational_made := tab (E_rational_made) (lk c_rational_made) (bodyOf Tryz.f65) (fe_rational_made)
theorem ok_rational_made : EnvOK Tryz.prog (E_rational_made) := mkE_ok tys_ok ⟨⟨fs_rational_one.csound, ⟨Tryz.f62, by kernel_rfl, by kernel_rfl, by kernel_rfl⟩⟩, ⟨fs_rational_isOne.csound, ⟨Tryz.f63, by kernel_rfl, by kernel_rfl, by kernel_rfl⟩⟩, ⟨fs_natural_Normal.csound, ⟨Tryz.f87, by kernel_rfl, by kernel_rfl, by kernel_rfl⟩⟩, ⟨fs_natural_IsZero.csound, ⟨Tryz.f88, by kernel_rfl, by kernel_rfl, by kernel_rfl⟩⟩, ⟨fs_integer_Normal.csound, ⟨Tryz.f89, by kernel_rfl, by kernel_rfl, by kernel_rfl⟩⟩, ⟨fs_integer_From.csound, ⟨Tryz.f90, by kernel_rfl, by kernel_rfl, by kernel_rfl⟩⟩, ⟨fs_division_Gcd.csound, ⟨Tryz.f91, by kernel_rfl, by kernel_rfl, by kernel_rfl⟩⟩, ⟨fs_division_Exact.csound, ⟨Tryz.f92, by kernel_rfl, by kernel_rfl, by kernel_rfl⟩⟩, trivial⟩ trivial
theorem fs_rational_made : FSound Tryz.prog 65 [.pair (.bool) (.slice (.int .u32)), .slice (.int .u32)] [(.pair (.pair (.bool) (.slice (.int .u32))) (.slice (.int .u32)), false)] (fun τ => F_rational_made τ.1 τ.2.1) :=
  evG_sound (E := (E_rational_made)) (C := (lk c_rational_made)) ok_rational_made mixed_ok (fn := Tryz.f65) (c := (bodyOf Tryz.f65)) (by kernel_rfl) (by kernel_rfl) (by kernel_rfl) (by kernel_rfl) (by kernel_rfl) (by kernel_rfl) (fun τ r h => by
    obtain ⟨a0, a1, ⟨⟩⟩ := τ
    obtain ⟨m, hm⟩ := Rn_rational_made (fun m => kk_rational_made_12 (tb_rational_made m)) (fun m x20 x1 x2 x4 => (tab_succ (E_rational_made) (lk c_rational_made) (bodyOf Tryz.f65) (fe_rational_made) m 12 (cn_rational_made_12 x20 x1 x2 x4)).trans (seg_rational_made_12 (tb_rational_made m) x20 x1 x2 x4)) a0 a1 r h
    exact ⟨m, (top_rational_made (tb_rational_made m) a0 a1).trans (hm m (Nat.le_refl m))⟩)

abbrev E_rational_Normal : Env := mkE tys [(65, callE [.pair (.bool) (.slice (.int .u32)), .slice (.int .u32)] [(.pair (.pair (.bool) (.slice (.int .u32))) (.slice (.int .u32)), false)] (fun τ => F_rational_made τ.1 τ.2.1))] []
def c_rational_Normal : List (Nat × Live) := []
noncomputable abbrev fe_rational_Normal := (finE (E_rational_Normal) [(.pair (.pair (.bool) (.slice (.int .u32))) (.slice (.int .u32)), false)] Tryz.f55.results.toList)
theorem top_rational_Normal (S : Nat → KT (RT [(.pair (.pair (.bool) (.slice (.int .u32))) (.slice (.int .u32)), false)])) (a0 : (Bool × List Int) × List Int) : evA (E_rational_Normal) (lk c_rational_Normal) S (bodyOf Tryz.f55) noX (fe_rational_Normal) (fe_rational_Normal) (initSt [.pair (.pair (.bool) (.slice (.int .u32))) (.slice (.int .u32))] (a0, ())) = T_rational_Normal a0 := by kernel_rfl
noncomputable abbrev tb_rational_Normal := tab (E_rational_Normal) (lk c_rational_Normal) (bodyOf Tryz.f55) (fe_rational_Normal)
theorem ok_rational_Normal : EnvOK Tryz.prog (E_rational_Normal) := mkE_ok tys_ok ⟨⟨fs_rational_made.csound, ⟨Tryz.f65, by kernel_rfl, by kernel_rfl, by kernel_rfl⟩⟩, trivial⟩ trivial
theorem fs_rational_Normal : FSound Tryz.prog 55 [.pair (.pair (.bool) (.slice (.int .u32))) (.slice (.int .u32))] [(.pair (.pair (.bool) (.slice (.int .u32))) (.slice (.int .u32)), false)] (fun τ => F_rational_Normal τ.1) :=
  evG_sound (E := (E_rational_Normal)) (C := (lk c_rational_Normal)) ok_rational_Normal mixed_ok (fn := Tryz.f55) (c := (bodyOf Tryz.f55)) (by kernel_rfl) (by kernel_rfl) (by kernel_rfl) (by kernel_rfl) (by kernel_rfl) (by kernel_rfl) (fun τ r h => by
    obtain ⟨a0, ⟨⟩⟩ := τ
    obtain ⟨m, hm⟩ := Rn_rational_Normal a0 r h
    exact ⟨m, (top_rational_Normal (tb_rational_Normal m) a0).trans (hm m (Nat.le_refl m))⟩)

abbrev E_interval_Normal : Env := mkE tys [(45, callE [.pair (.pair (.bool) (.slice (.int .u32))) (.slice (.int .u32)), .pair (.pair (.bool) (.slice (.int .u32))) (.slice (.int .u32))] [(.pair (.pair (.bool) (.slice (.int .u32))) (.slice (.int .u32)), false)] (fun τ => F_interval_least τ.1 τ.2.1)), (46, callE [.pair (.pair (.bool) (.slice (.int .u32))) (.slice (.int .u32)), .pair (.pair (.bool) (.slice (.int .u32))) (.slice (.int .u32))] [(.pair (.pair (.bool) (.slice (.int .u32))) (.slice (.int .u32)), false)] (fun τ => F_interval_greatest τ.1 τ.2.1)), (55, callE [.pair (.pair (.bool) (.slice (.int .u32))) (.slice (.int .u32))] [(.pair (.pair (.bool) (.slice (.int .u32))) (.slice (.int .u32)), false)] (fun τ => F_rational_Normal τ.1))] []
def c_interval_Normal : List (Nat × Live) := []
noncomputable abbrev fe_interval_Normal := (finE (E_interval_Normal) [(.pair (.pair (.pair (.bool) (.slice (.int .u32))) (.slice (.int .u32))) (.pair (.pair (.bool) (.slice (.int .u32))) (.slice (.int .u32))), false)] Tryz.f28.results.toList)
theorem top_interval_Normal (S : Nat → KT (RT [(.pair (.pair (.pair (.bool) (.slice (.int .u32))) (.slice (.int .u32))) (.pair (.pair (.bool) (.slice (.int .u32))) (.slice (.int .u32))), false)])) (a0 : ((Bool × List Int) × List Int) × (Bool × List Int) × List Int) : evA (E_interval_Normal) (lk c_interval_Normal) S (bodyOf Tryz.f28) noX (fe_interval_Normal) (fe_interval_Normal) (initSt [.pair (.pair (.pair (.bool) (.slice (.int .u32))) (.slice (.int .u32))) (.pair (.pair (.bool) (.slice (.int .u32))) (.slice (.int .u32)))] (a0, ())) = T_interval_Normal a0 := by kernel_rfl
noncomputable abbrev tb_interval_Normal := tab (E_interval_Normal) (lk c_interval_Normal) (bodyOf Tryz.f28) (fe_interval_Normal)
theorem ok_interval_Normal : EnvOK Tryz.prog (E_interval_Normal) := mkE_ok tys_ok ⟨⟨fs_interval_least.csound, ⟨Tryz.f45, by kernel_rfl, by kernel_rfl, by kernel_rfl⟩⟩, ⟨fs_interval_greatest.csound, ⟨Tryz.f46, by kernel_rfl, by kernel_rfl, by kernel_rfl⟩⟩, ⟨fs_rational_Normal.csound, ⟨Tryz.f55, by kernel_rfl, by kernel_rfl, by kernel_rfl⟩⟩, trivial⟩ trivial
theorem fs_interval_Normal : FSound Tryz.prog 28 [.pair (.pair (.pair (.bool) (.slice (.int .u32))) (.slice (.int .u32))) (.pair (.pair (.bool) (.slice (.int .u32))) (.slice (.int .u32)))] [(.pair (.pair (.pair (.bool) (.slice (.int .u32))) (.slice (.int .u32))) (.pair (.pair (.bool) (.slice (.int .u32))) (.slice (.int .u32))), false)] (fun τ => F_interval_Normal τ.1) :=
  evG_sound (E := (E_interval_Normal)) (C := (lk c_interval_Normal)) ok_interval_Normal mixed_ok (fn := Tryz.f28) (c := (bodyOf Tryz.f28)) (by kernel_rfl) (by kernel_rfl) (by kernel_rfl) (by kernel_rfl) (by kernel_rfl) (by kernel_rfl) (fun τ r h => by
    obtain ⟨a0, ⟨⟩⟩ := τ
    obtain ⟨m, hm⟩ := Rn_interval_Normal a0 r h
    exact ⟨m, (top_interval_Normal (tb_interval_Normal m) a0).trans (hm m (Nat.le_refl m))⟩)

abbrev E_rational_Mul : Env := mkE tys [(65, callE [.pair (.bool) (.slice (.int .u32)), .slice (.int .u32)] [(.pair (.pair (.bool) (.slice (.int .u32))) (.slice (.int .u32)), false)] (fun τ => F_rational_made τ.1 τ.2.1)), (67, callE [.pair (.pair (.bool) (.slice (.int .u32))) (.slice (.int .u32))] [(.pair (.bool) (.slice (.int .u32)), false), (.pair (.bool) (.slice (.int .u32)), false)] (fun τ => F_rational_parts τ.1)), (69, callE [.pair (.bool) (.slice (.int .u32)), .pair (.bool) (.slice (.int .u32))] [(.pair (.bool) (.slice (.int .u32)), false)] (fun τ => F_integer_Mul τ.1 τ.2.1)), (70, callE [.slice (.int .u32), .slice (.int .u32)] [(.slice (.int .u32), false)] (fun τ => F_natural_Mul τ.1 τ.2.1))] []
def c_rational_Mul : List (Nat × Live) := []
noncomputable abbrev fe_rational_Mul := (finE (E_rational_Mul) [(.pair (.pair (.bool) (.slice (.int .u32))) (.slice (.int .u32)), false)] Tryz.f44.results.toList)
theorem top_rational_Mul (S : Nat → KT (RT [(.pair (.pair (.bool) (.slice (.int .u32))) (.slice (.int .u32)), false)])) (a0 : (Bool × List Int) × List Int) (a1 : (Bool × List Int) × List Int) : evA (E_rational_Mul) (lk c_rational_Mul) S (bodyOf Tryz.f44) noX (fe_rational_Mul) (fe_rational_Mul) (initSt [.pair (.pair (.bool) (.slice (.int .u32))) (.slice (.int .u32)), .pair (.pair (.bool) (.slice (.int .u32))) (.slice (.int .u32))] (a0, a1, ())) = T_rational_Mul a0 a1 := by kernel_rfl
noncomputable abbrev tb_rational_Mul := tab (E_rational_Mul) (lk c_rational_Mul) (bodyOf Tryz.f44) (fe_rational_Mul)
theorem ok_rational_Mul : EnvOK Tryz.prog (E_rational_Mul) := mkE_ok tys_ok ⟨⟨fs_rational_made.csound, ⟨Tryz.f65, by kernel_rfl, by kernel_rfl, by kernel_rfl⟩⟩, ⟨fs_rational_parts.csound, ⟨Tryz.f67, by kernel_rfl, by kernel_rfl, by kernel_rfl⟩⟩, ⟨fs_integer_Mul.csound, ⟨Tryz.f69, by kernel_rfl, by kernel_rfl, by kernel_rfl⟩⟩, ⟨fs_natural_Mul.csound, ⟨Tryz.f70, by kernel_rfl, by kernel_rfl, by kernel_rfl⟩⟩, trivial⟩ trivial
theorem fs_rational_Mul : FSound Tryz.prog 44 [.pair (.pair (.bool) (.slice (.int .u32))) (.slice (.int .u32)), .pair (.pair (.bool) (.slice (.int .u32))) (.slice (.int .u32))] [(.pair (.pair (.bool) (.slice (.int .u32))) (.slice (.int .u32)), false)] (fun τ => F_rational_Mul τ.1 τ.2.1) :=
  evG_sound (E := (E_rational_Mul)) (C := (lk c_rational_Mul)) ok_rational_Mul mixed_ok (fn := Tryz.f44) (c := (bodyOf Tryz.f44)) (by kernel_rfl) (by kernel_rfl) (by kernel_rfl) (by kernel_rfl) (by kernel_rfl) (by kernel_rfl) (fun τ r h => by
    obtain ⟨a0, a1, ⟨⟩⟩ := τ
    obtain ⟨m, hm⟩ := Rn_rational_Mul a0 a1 r h
    exact ⟨m, (top_rational_Mul (tb_rational_Mul m) a0 a1).trans (hm m (Nat.le_refl m))⟩)

abbrev E_interval_Mul : Env := mkE tys [(28, callE [.pair (.pair (.pair (.bool) (.slice (.int .u32))) (.slice (.int .u32))) (.pair (.pair (.bool) (.slice (.int .u32))) (.slice (.int .u32)))] [(.pair (.pair (.pair (.bool) (.slice (.int .u32))) (.slice (.int .u32))) (.pair (.pair (.bool) (.slice (.int .u32))) (.slice (.int .u32))), false)] (fun τ => F_interval_Normal τ.1)), (44, callE [.pair (.pair (.bool) (.slice (.int .u32))) (.slice (.int .u32)), .pair (.pair (.bool) (.slice (.int .u32))) (.slice (.int .u32))] [(.pair (.pair (.bool) (.slice (.int .u32))) (.slice (.int .u32)), false)] (fun τ => F_rational_Mul τ.1 τ.2.1)), (45, callE [.pair (.pair (.bool) (.slice (.int .u32))) (.slice (.int .u32)), .pair (.pair (.bool) (.slice (.int .u32))) (.slice (.int .u32))] [(.pair (.pair (.bool) (.slice (.int .u32))) (.slice (.int .u32)), false)] (fun τ => F_interval_least τ.1 τ.2.1)), (46, callE [.pair (.pair (.bool) (.slice (.int .u32))) (.slice (.int .u32)), .pair (.pair (.bool) (.slice (.int .u32))) (.slice (.int .u32))] [(.pair (.pair (.bool) (.slice (.int .u32))) (.slice (.int .u32)), false)] (fun τ => F_interval_greatest τ.1 τ.2.1))] []
def c_interval_Mul : List (Nat × Live) := [(17, ⟨[(32, .arr 3 (.pair (.pair (.bool) (.slice (.int .u32))) (.slice (.int .u32)))), (33, .int .i64)], [(true, 4, .pair (.pair (.pair (.bool) (.slice (.int .u32))) (.slice (.int .u32))) (.pair (.pair (.bool) (.slice (.int .u32))) (.slice (.int .u32)))), (true, 6, .pair (.pair (.pair (.bool) (.slice (.int .u32))) (.slice (.int .u32))) (.pair (.pair (.bool) (.slice (.int .u32))) (.slice (.int .u32))))], []⟩)]
noncomputable abbrev fe_interval_Mul := (finE (E_interval_Mul) [(.pair (.pair (.pair (.bool) (.slice (.int .u32))) (.slice (.int .u32))) (.pair (.pair (.bool) (.slice (.int .u32))) (.slice (.int .u32))), false)] Tryz.f16.results.toList)
noncomputable abbrev cn_interval_Mul_17 (x32 : List ((Bool × List Int) × List Int)) (x33 : Int) (x4 : ((Bool × List Int) × List Int) × (Bool × List Int) × List Int) (x6 : ((Bool × List Int) × List Int) × (Bool × List Int) × List Int) : St := ⟨[(6, .one (.ptr 10001 0 [])), (4, .one (.ptr 10000 0 [])), (33, .one (.val (.int .i64) x33)), (32, .one (.val (.arr 3 (.pair (.pair (.bool) (.slice (.int .u32))) (.slice (.int .u32)))) x32))], [(10001, some ⟨.pair (.pair (.pair (.bool) (.slice (.int .u32))) (.slice (.int .u32))) (.pair (.pair (.bool) (.slice (.int .u32))) (.slice (.int .u32))), [x6], false⟩), (10000, some ⟨.pair (.pair (.pair (.bool) (.slice (.int .u32))) (.slice (.int .u32))) (.pair (.pair (.bool) (.slice (.int .u32))) (.slice (.int .u32))), [x4], false⟩)]⟩
noncomputable abbrev kk_interval_Mul_17 (S : Nat → KT (RT [(.pair (.pair (.pair (.bool) (.slice (.int .u32))) (.slice (.int .u32))) (.pair (.pair (.bool) (.slice (.int .u32))) (.slice (.int .u32))), false)])) := fun (x32 : List ((Bool × List Int) × List Int)) (x33 : Int) (x4 : ((Bool × List Int) × List Int) × (Bool × List Int) × List Int) (x6 : ((Bool × List Int) × List Int) × (Bool × List Int) × List Int) => S 17 (cn_interval_Mul_17 x32 x33 x4 x6)
theorem top_interval_Mul (S : Nat → KT (RT [(.pair (.pair (.pair (.bool) (.slice (.int .u32))) (.slice (.int .u32))) (.pair (.pair (.bool) (.slice (.int .u32))) (.slice (.int .u32))), false)])) (a0 : ((Bool × List Int) × List Int) × (Bool × List Int) × List Int) (a1 : ((Bool × List Int) × List Int) × (Bool × List Int) × List Int) : evA (E_interval_Mul) (lk c_interval_Mul) S (bodyOf Tryz.f16) noX (fe_interval_Mul) (fe_interval_Mul) (initSt [.pair (.pair (.pair (.bool) (.slice (.int .u32))) (.slice (.int .u32))) (.pair (.pair (.bool) (.slice (.int .u32))) (.slice (.int .u32))), .pair (.pair (.pair (.bool) (.slice (.int .u32))) (.slice (.int .u32))) (.pair (.pair (.bool) (.slice (.int .u32))) (.slice (.int .u32)))] (a0, a1, ())) = T_interval_Mul (kk_interval_Mul_17 S) a0 a1 := by kernel_rfl
theorem seg_interval_Mul_17 (S : Nat → KT (RT [(.pair (.pair (.pair (.bool) (.slice (.int .u32))) (.slice (.int .u32))) (.pair (.pair (.bool) (.slice (.int .u32))) (.slice (.int .u32))), false)])) (x32 : List ((Bool × List Int) × List Int)) (x33 : Int) (x4 : ((Bool × List Int) × List Int) × (Bool × List Int) × List Int) (x6 : ((Bool × List Int) × List Int) × (Bool × List Int) × List Int) : stepT (entry (E_interval_Mul) (lk c_interval_Mul) S 17 (bodyOf Tryz.f16) noX (fe_interval_Mul) (fe_interval_Mul)) (cn_interval_Mul_17 x32 x33 x4 x6) = S_interval_Mul_17 (kk_interval_Mul_17 S) x32 x33 x4 x6 := by kernel_rfl
noncomputable abbrev tb_interval_Mul := tab (E_interval_Mul) (lk c_interval_Mul) (bodyOf Tryz.f16) (fe_interval_Mul)
theorem ok_interval_Mul : EnvOK Tryz.prog (E_interval_Mul) := mkE_ok tys_ok ⟨⟨fs_interval_Normal.csound, ⟨Tryz.f28, by kernel_rfl, by kernel_rfl, by kernel_rfl⟩⟩, ⟨fs_rational_Mul.csound, ⟨Tryz.f44, by kernel_rfl, by kernel_rfl, by kernel_rfl⟩⟩, ⟨fs_interval_least.csound, ⟨Tryz.f45, by kernel_rfl, by kernel_rfl, by kernel_rfl⟩⟩, ⟨fs_interval_greatest.csound, ⟨Tryz.f46, by kernel_rfl, by kernel_rfl, by kernel_rfl⟩⟩, trivial⟩ trivial
theorem fs_interval_Mul : FSound Tryz.prog 16 [.pair (.pair (.pair (.bool) (.slice (.int .u32))) (.slice (.int .u32))) (.pair (.pair (.bool) (.slice (.int .u32))) (.slice (.int .u32))), .pair (.pair (.pair (.bool) (.slice (.int .u32))) (.slice (.int .u32))) (.pair (.pair (.bool) (.slice (.int .u32))) (.slice (.int .u32)))] [(.pair (.pair (.pair (.bool) (.slice (.int .u32))) (.slice (.int .u32))) (.pair (.pair (.bool) (.slice (.int .u32))) (.slice (.int .u32))), false)] (fun τ => F_interval_Mul τ.1 τ.2.1) :=
  evG_sound (E := (E_interval_Mul)) (C := (lk c_interval_Mul)) ok_interval_Mul mixed_ok (fn := Tryz.f16) (c := (bodyOf Tryz.f16)) (by kernel_rfl) (by kernel_rfl) (by kernel_rfl) (by kernel_rfl) (by kernel_rfl) (by kernel_rfl) (fun τ r h => by
    obtain ⟨a0, a1, ⟨⟩⟩ := τ
    obtain ⟨m, hm⟩ := Rn_interval_Mul (fun m => kk_interval_Mul_17 (tb_interval_Mul m)) (fun m x32 x33 x4 x6 => (tab_succ (E_interval_Mul) (lk c_interval_Mul) (bodyOf Tryz.f16) (fe_interval_Mul) m 17 (cn_interval_Mul_17 x32 x33 x4 x6)).trans (seg_interval_Mul_17 (tb_interval_Mul m) x32 x33 x4 x6)) a0 a1 r h
    exact ⟨m, (top_interval_Mul (tb_interval_Mul m) a0 a1).trans (hm m (Nat.le_refl m))⟩)

abbrev E_rational_Of : Env := mkE tys [(61, callE [.int .i64] [(.pair (.bool) (.slice (.int .u32)), false)] (fun τ => F_integer_Of τ.1)), (62, callE [] [(.slice (.int .u32), false)] (fun τ => F_rational_one))] []
def c_rational_Of : List (Nat × Live) := []
noncomputable abbrev fe_rational_Of := (finE (E_rational_Of) [(.pair (.pair (.bool) (.slice (.int .u32))) (.slice (.int .u32)), false)] Tryz.f38.results.toList)
theorem top_rational_Of (S : Nat → KT (RT [(.pair (.pair (.bool) (.slice (.int .u32))) (.slice (.int .u32)), false)])) (a0 : Int) : evA (E_rational_Of) (lk c_rational_Of) S (bodyOf Tryz.f38) noX (fe_rational_Of) (fe_rational_Of) (initSt [.int .i64] (a0, ())) = T_rational_Of a0 := by kernel_rfl
noncomputable abbrev tb_rational_Of := tab (E_rational_Of) (lk c_rational_Of) (bodyOf Tryz.f38) (fe_rational_Of)
theorem ok_rational_Of : EnvOK Tryz.prog (E_rational_Of) := mkE_ok tys_ok ⟨⟨fs_integer_Of.csound, ⟨Tryz.f61, by kernel_rfl, by kernel_rfl, by kernel_rfl⟩⟩, ⟨fs_rational_one.csound, ⟨Tryz.f62, by kernel_rfl, by kernel_rfl, by kernel_rfl⟩⟩, trivial⟩ trivial
theorem fs_rational_Of : FSound Tryz.prog 38 [.int .i64] [(.pair (.pair (.bool) (.slice (.int .u32))) (.slice (.int .u32)), false)] (fun τ => F_rational_Of τ.1) :=
  evG_sound (E := (E_rational_Of)) (C := (lk c_rational_Of)) ok_rational_Of mixed_ok (fn := Tryz.f38) (c := (bodyOf Tryz.f38)) (by kernel_rfl) (by kernel_rfl) (by kernel_rfl) (by kernel_rfl) (by kernel_rfl) (by kernel_rfl) (fun τ r h => by
    obtain ⟨a0, ⟨⟩⟩ := τ
    obtain ⟨m, hm⟩ := Rn_rational_Of a0 r h
    exact ⟨m, (top_rational_Of (tb_rational_Of m) a0).trans (hm m (Nat.le_refl m))⟩)

abbrev E_decimal_chunk : Env := mkE tys [] []
def c_decimal_chunk : List (Nat × Live) := [(9, ⟨[(0, .int .u32), (4, .int .u32), (5, .int .i64)], [], []⟩)]
noncomputable abbrev fe_decimal_chunk := (finE (E_decimal_chunk) [(.int .u32, false), (.int .i64, false)] Tryz.f107.results.toList)
noncomputable abbrev cn_decimal_chunk_9 (x0 : Int) (x4 : Int) (x5 : Int) : St := ⟨[(5, .one (.val (.int .i64) x5)), (4, .one (.val (.int .u32) x4)), (0, .one (.val (.int .u32) x0))], []⟩
noncomputable abbrev kk_decimal_chunk_9 (S : Nat → KT (RT [(.int .u32, false), (.int .i64, false)])) := fun (x0 : Int) (x4 : Int) (x5 : Int) => S 9 (cn_decimal_chunk_9 x0 x4 x5)
theorem top_decimal_chunk (S : Nat → KT (RT [(.int .u32, false), (.int .i64, false)])) (a0 : Int) : evA (E_decimal_chunk) (lk c_decimal_chunk) S (bodyOf Tryz.f107) noX (fe_decimal_chunk) (fe_decimal_chunk) (initSt [.int .u32] (a0, ())) = T_decimal_chunk (kk_decimal_chunk_9 S) a0 := by kernel_rfl
theorem seg_decimal_chunk_9 (S : Nat → KT (RT [(.int .u32, false), (.int .i64, false)])) (x0 : Int) (x4 : Int) (x5 : Int) : stepT (entry (E_decimal_chunk) (lk c_decimal_chunk) S 9 (bodyOf Tryz.f107) noX (fe_decimal_chunk) (fe_decimal_chunk)) (cn_decimal_chunk_9 x0 x4 x5) = S_decimal_chunk_9 (kk_decimal_chunk_9 S) x0 x4 x5 := by kernel_rfl
noncomputable abbrev tb_decimal_chunk := tab (E_decimal_chunk) (lk c_decimal_chunk) (bodyOf Tryz.f107) (fe_decimal_chunk)
theorem ok_decimal_chunk : EnvOK Tryz.prog (E_decimal_chunk) := mkE_ok tys_ok trivial trivial
theorem fs_decimal_chunk : FSound Tryz.prog 107 [.int .u32] [(.int .u32, false), (.int .i64, false)] (fun τ => F_decimal_chunk τ.1) :=
  evG_sound (E := (E_decimal_chunk)) (C := (lk c_decimal_chunk)) ok_decimal_chunk mixed_ok (fn := Tryz.f107) (c := (bodyOf Tryz.f107)) (by kernel_rfl) (by kernel_rfl) (by kernel_rfl) (by kernel_rfl) (by kernel_rfl) (by kernel_rfl) (fun τ r h => by
    obtain ⟨a0, ⟨⟩⟩ := τ
    obtain ⟨m, hm⟩ := Rn_decimal_chunk (fun m => kk_decimal_chunk_9 (tb_decimal_chunk m)) (fun m x0 x4 x5 => (tab_succ (E_decimal_chunk) (lk c_decimal_chunk) (bodyOf Tryz.f107) (fe_decimal_chunk) m 9 (cn_decimal_chunk_9 x0 x4 x5)).trans (seg_decimal_chunk_9 (tb_decimal_chunk m) x0 x4 x5)) a0 r h
    exact ⟨m, (top_decimal_chunk (tb_decimal_chunk m) a0).trans (hm m (Nat.le_refl m))⟩)

abbrev E_decimal_write : Env := mkE tys [(87, callE [.slice (.int .u32)] [(.slice (.int .u32), true)] (fun τ => F_natural_Normal τ.1)), (107, callE [.int .u32] [(.int .u32, false), (.int .i64, false)] (fun τ => F_decimal_chunk τ.1)), (108, callE [.slice (.int .u32), .int .u32] [(.slice (.int .u32), false), (.int .u32, false), (.bool, false)] (fun τ => F_natural_DivSmall τ.1 τ.2.1))] [(109, callO [] false (.int .u8) .unit (fun τ l => O_slices_Reverse l))]
def c_decimal_write : List (Nat × Live) := [(17, ⟨[(1, .int .u32), (5, .slice (.int .u32)), (6, .int .u32), (7, .int .i64)], [(true, 2, .pair (.bool) (.slice (.int .u32))), (false, 8, .int .u8)], []⟩), (33, ⟨[(1, .int .u32), (5, .slice (.int .u32)), (6, .int .u32), (7, .int .i64), (10, .int .u32), (12, .int .i64)], [(true, 2, .pair (.bool) (.slice (.int .u32))), (false, 8, .int .u8)], []⟩), (40, ⟨[(1, .int .u32), (5, .slice (.int .u32)), (6, .int .u32), (7, .int .i64), (10, .int .u32), (12, .int .i64), (36, .int .u32), (37, .bool), (38, .bool), (42, .bool)], [(true, 2, .pair (.bool) (.slice (.int .u32))), (false, 8, .int .u8)], []⟩)]
noncomputable abbrev fe_decimal_write := (finE (E_decimal_write) [(.str, false)] Tryz.f86.results.toList)
noncomputable abbrev cn_decimal_write_17 (x1 : Int) (x5 : List Int) (x6 : Int) (x7 : Int) (x2 : Bool × List Int) (x8 : List Int) : St := ⟨[(8, .one (.loc (.int .u8) 10001)), (2, .one (.ptr 10000 0 [])), (7, .one (.val (.int .i64) x7)), (6, .one (.val (.int .u32) x6)), (5, .one (.val (.slice (.int .u32)) x5)), (1, .one (.val (.int .u32) x1))], [(10001, some ⟨.int .u8, x8, false⟩), (10000, some ⟨.pair (.bool) (.slice (.int .u32)), [x2], false⟩)]⟩
noncomputable abbrev kk_decimal_write_17 (S : Nat → KT (RT [(.str, false)])) := fun (x1 : Int) (x5 : List Int) (x6 : Int) (x7 : Int) (x2 : Bool × List Int) (x8 : List Int) => S 17 (cn_decimal_write_17 x1 x5 x6 x7 x2 x8)
noncomputable abbrev cn_decimal_write_33 (x1 : Int) (x5 : List Int) (x6 : Int) (x7 : Int) (x10 : Int) (x12 : Int) (x2 : Bool × List Int) (x8 : List Int) : St := ⟨[(8, .one (.loc (.int .u8) 10001)), (2, .one (.ptr 10000 0 [])), (12, .one (.val (.int .i64) x12)), (10, .one (.val (.int .u32) x10)), (7, .one (.val (.int .i64) x7)), (6, .one (.val (.int .u32) x6)), (5, .one (.val (.slice (.int .u32)) x5)), (1, .one (.val (.int .u32) x1))], [(10001, some ⟨.int .u8, x8, false⟩), (10000, some ⟨.pair (.bool) (.slice (.int .u32)), [x2], false⟩)]⟩
noncomputable abbrev kk_decimal_write_33 (S : Nat → KT (RT [(.str, false)])) := fun (x1 : Int) (x5 : List Int) (x6 : Int) (x7 : Int) (x10 : Int) (x12 : Int) (x2 : Bool × List Int) (x8 : List Int) => S 33 (cn_decimal_write_33 x1 x5 x6 x7 x10 x12 x2 x8)
noncomputable abbrev cn_decimal_write_40 (x1 : Int) (x5 : List Int) (x6 : Int) (x7 : Int) (x10 : Int) (x12 : Int) (x36 : Int) (x37 : Bool) (x38 : Bool) (x42 : Bool) (x2 : Bool × List Int) (x8 : List Int) : St := ⟨[(8, .one (.loc (.int .u8) 10001)), (2, .one (.ptr 10000 0 [])), (42, .one (.val (.bool) x42)), (38, .one (.val (.bool) x38)), (37, .one (.val (.bool) x37)), (36, .one (.val (.int .u32) x36)), (12, .one (.val (.int .i64) x12)), (10, .one (.val (.int .u32) x10)), (7, .one (.val (.int .i64) x7)), (6, .one (.val (.int .u32) x6)), (5, .one (.val (.slice (.int .u32)) x5)), (1, .one (.val (.int .u32) x1))], [(10001, some ⟨.int .u8, x8, false⟩), (10000, some ⟨.pair (.bool) (.slice (.int .u32)), [x2], false⟩)]⟩
noncomputable abbrev kk_decimal_write_40 (S : Nat → KT (RT [(.str, false)])) := fun (x1 : Int) (x5 : List Int) (x6 : Int) (x7 : Int) (x10 : Int) (x12 : Int) (x36 : Int) (x37 : Bool) (x38 : Bool) (x42 : Bool) (x2 : Bool × List Int) (x8 : List Int) => S 40 (cn_decimal_write_40 x1 x5 x6 x7 x10 x12 x36 x37 x38 x42 x2 x8)
theorem top_decimal_write (S : Nat → KT (RT [(.str, false)])) (a0 : Bool × List Int) (a1 : Int) : evA (E_decimal_write) (lk c_decimal_write) S (bodyOf Tryz.f86) noX (fe_decimal_write) (fe_decimal_write) (initSt [.pair (.bool) (.slice (.int .u32)), .int .u32] (a0, a1, ())) = T_decimal_write (kk_decimal_write_17 S) (kk_decimal_write_33 S) (kk_decimal_write_40 S) a0 a1 := by kernel_rfl
theorem seg_decimal_write_17 (S : Nat → KT (RT [(.str, false)])) (x1 : Int) (x5 : List Int) (x6 : Int) (x7 : Int) (x2 : Bool × List Int) (x8 : List Int) : stepT (entry (E_decimal_write) (lk c_decimal_write) S 17 (bodyOf Tryz.f86) noX (fe_decimal_write) (fe_decimal_write)) (cn_decimal_write_17 x1 x5 x6 x7 x2 x8) = S_decimal_write_17 (kk_decimal_write_17 S) (kk_decimal_write_33 S) (kk_decimal_write_40 S) x1 x5 x6 x7 x2 x8 := by kernel_rfl
theorem seg_decimal_write_33 (S : Nat → KT (RT [(.str, false)])) (x1 : Int) (x5 : List Int) (x6 : Int) (x7 : Int) (x10 : Int) (x12 : Int) (x2 : Bool × List Int) (x8 : List Int) : stepT (entry (E_decimal_write) (lk c_decimal_write) S 33 (bodyOf Tryz.f86) noX (fe_decimal_write) (fe_decimal_write)) (cn_decimal_write_33 x1 x5 x6 x7 x10 x12 x2 x8) = S_decimal_write_33 (kk_decimal_write_17 S) (kk_decimal_write_33 S) (kk_decimal_write_40 S) x1 x5 x6 x7 x10 x12 x2 x8 := by kernel_rfl
theorem seg_decimal_write_40 (S : Nat → KT (RT [(.str, false)])) (x1 : Int) (x5 : List Int) (x6 : Int) (x7 : Int) (x10 : Int) (x12 : Int) (x36 : Int) (x37 : Bool) (x38 : Bool) (x42 : Bool) (x2 : Bool × List Int) (x8 : List Int) : stepT (entry (E_decimal_write) (lk c_decimal_write) S 40 (bodyOf Tryz.f86) noX (fe_decimal_write) (fe_decimal_write)) (cn_decimal_write_40 x1 x5 x6 x7 x10 x12 x36 x37 x38 x42 x2 x8) = S_decimal_write_40 (kk_decimal_write_17 S) (kk_decimal_write_33 S) (kk_decimal_write_40 S) x1 x5 x6 x7 x10 x12 x36 x37 x38 x42 x2 x8 := by kernel_rfl
noncomputable abbrev tb_decimal_write := tab (E_decimal_write) (lk c_decimal_write) (bodyOf Tryz.f86) (fe_decimal_write)
theorem ok_decimal_write : EnvOK Tryz.prog (E_decimal_write) := mkE_ok tys_ok ⟨⟨fs_natural_Normal.csound, ⟨Tryz.f87, by kernel_rfl, by kernel_rfl, by kernel_rfl⟩⟩, ⟨fs_decimal_chunk.csound, ⟨Tryz.f107, by kernel_rfl, by kernel_rfl, by kernel_rfl⟩⟩, ⟨fs_natural_DivSmall.csound, ⟨Tryz.f108, by kernel_rfl, by kernel_rfl, by kernel_rfl⟩⟩, trivial⟩ ⟨⟨os_slices_Reverse.psound, ⟨Tryz.f109, by kernel_rfl, by kernel_rfl, by kernel_rfl⟩⟩, trivial⟩
theorem fs_decimal_write : FSound Tryz.prog 86 [.pair (.bool) (.slice (.int .u32)), .int .u32] [(.str, false)] (fun τ => F_decimal_write τ.1 τ.2.1) :=
  evG_sound (E := (E_decimal_write)) (C := (lk c_decimal_write)) ok_decimal_write mixed_ok (fn := Tryz.f86) (c := (bodyOf Tryz.f86)) (by kernel_rfl) (by kernel_rfl) (by kernel_rfl) (by kernel_rfl) (by kernel_rfl) (by kernel_rfl) (fun τ r h => by
    obtain ⟨a0, a1, ⟨⟩⟩ := τ
    obtain ⟨m, hm⟩ := Rn_decimal_write (fun m => kk_decimal_write_17 (tb_decimal_write m)) (fun m => kk_decimal_write_33 (tb_decimal_write m)) (fun m => kk_decimal_write_40 (tb_decimal_write m)) (fun m x1 x5 x6 x7 x2 x8 => (tab_succ (E_decimal_write) (lk c_decimal_write) (bodyOf Tryz.f86) (fe_decimal_write) m 17 (cn_decimal_write_17 x1 x5 x6 x7 x2 x8)).trans (seg_decimal_write_17 (tb_decimal_write m) x1 x5 x6 x7 x2 x8)) (fun m x1 x5 x6 x7 x10 x12 x2 x8 => (tab_succ (E_decimal_write) (lk c_decimal_write) (bodyOf Tryz.f86) (fe_decimal_write) m 33 (cn_decimal_write_33 x1 x5 x6 x7 x10 x12 x2 x8)).trans (seg_decimal_write_33 (tb_decimal_write m) x1 x5 x6 x7 x10 x12 x2 x8)) (fun m x1 x5 x6 x7 x10 x12 x36 x37 x38 x42 x2 x8 => (tab_succ (E_decimal_write) (lk c_decimal_write) (bodyOf Tryz.f86) (fe_decimal_write) m 40 (cn_decimal_write_40 x1 x5 x6 x7 x10 x12 x36 x37 x38 x42 x2 x8)).trans (seg_decimal_write_40 (tb_decimal_write m) x1 x5 x6 x7 x10 x12 x36 x37 x38 x42 x2 x8)) a0 a1 r h
    exact ⟨m, (top_decimal_write (tb_decimal_write m) a0 a1).trans (hm m (Nat.le_refl m))⟩)

abbrev E_decimal_Format : Env := mkE tys [(86, callE [.pair (.bool) (.slice (.int .u32)), .int .u32] [(.str, false)] (fun τ => F_decimal_write τ.1 τ.2.1))] []
def c_decimal_Format : List (Nat × Live) := []
noncomputable abbrev fe_decimal_Format := (finE (E_decimal_Format) [(.str, false)] Tryz.f64.results.toList)
theorem top_decimal_Format (S : Nat → KT (RT [(.str, false)])) (a0 : Bool × List Int) : evA (E_decimal_Format) (lk c_decimal_Format) S (bodyOf Tryz.f64) noX (fe_decimal_Format) (fe_decimal_Format) (initSt [.pair (.bool) (.slice (.int .u32))] (a0, ())) = T_decimal_Format a0 := by kernel_rfl
noncomputable abbrev tb_decimal_Format := tab (E_decimal_Format) (lk c_decimal_Format) (bodyOf Tryz.f64) (fe_decimal_Format)
theorem ok_decimal_Format : EnvOK Tryz.prog (E_decimal_Format) := mkE_ok tys_ok ⟨⟨fs_decimal_write.csound, ⟨Tryz.f86, by kernel_rfl, by kernel_rfl, by kernel_rfl⟩⟩, trivial⟩ trivial
theorem fs_decimal_Format : FSound Tryz.prog 64 [.pair (.bool) (.slice (.int .u32))] [(.str, false)] (fun τ => F_decimal_Format τ.1) :=
  evG_sound (E := (E_decimal_Format)) (C := (lk c_decimal_Format)) ok_decimal_Format mixed_ok (fn := Tryz.f64) (c := (bodyOf Tryz.f64)) (by kernel_rfl) (by kernel_rfl) (by kernel_rfl) (by kernel_rfl) (by kernel_rfl) (by kernel_rfl) (fun τ r h => by
    obtain ⟨a0, ⟨⟩⟩ := τ
    obtain ⟨m, hm⟩ := Rn_decimal_Format a0 r h
    exact ⟨m, (top_decimal_Format (tb_decimal_Format m) a0).trans (hm m (Nat.le_refl m))⟩)

abbrev E_rational_Format : Env := mkE tys [(55, callE [.pair (.pair (.bool) (.slice (.int .u32))) (.slice (.int .u32))] [(.pair (.pair (.bool) (.slice (.int .u32))) (.slice (.int .u32)), false)] (fun τ => F_rational_Normal τ.1)), (63, callE [.slice (.int .u32)] [(.bool, false)] (fun τ => F_rational_isOne τ.1)), (64, callE [.pair (.bool) (.slice (.int .u32))] [(.str, false)] (fun τ => F_decimal_Format τ.1))] []
def c_rational_Format : List (Nat × Live) := []
noncomputable abbrev fe_rational_Format := (finE (E_rational_Format) [(.str, false)] Tryz.f39.results.toList)
theorem top_rational_Format (S : Nat → KT (RT [(.str, false)])) (a0 : (Bool × List Int) × List Int) : evA (E_rational_Format) (lk c_rational_Format) S (bodyOf Tryz.f39) noX (fe_rational_Format) (fe_rational_Format) (initSt [.pair (.pair (.bool) (.slice (.int .u32))) (.slice (.int .u32))] (a0, ())) = T_rational_Format a0 := by kernel_rfl
noncomputable abbrev tb_rational_Format := tab (E_rational_Format) (lk c_rational_Format) (bodyOf Tryz.f39) (fe_rational_Format)
theorem ok_rational_Format : EnvOK Tryz.prog (E_rational_Format) := mkE_ok tys_ok ⟨⟨fs_rational_Normal.csound, ⟨Tryz.f55, by kernel_rfl, by kernel_rfl, by kernel_rfl⟩⟩, ⟨fs_rational_isOne.csound, ⟨Tryz.f63, by kernel_rfl, by kernel_rfl, by kernel_rfl⟩⟩, ⟨fs_decimal_Format.csound, ⟨Tryz.f64, by kernel_rfl, by kernel_rfl, by kernel_rfl⟩⟩, trivial⟩ trivial
theorem fs_rational_Format : FSound Tryz.prog 39 [.pair (.pair (.bool) (.slice (.int .u32))) (.slice (.int .u32))] [(.str, false)] (fun τ => F_rational_Format τ.1) :=
  evG_sound (E := (E_rational_Format)) (C := (lk c_rational_Format)) ok_rational_Format mixed_ok (fn := Tryz.f39) (c := (bodyOf Tryz.f39)) (by kernel_rfl) (by kernel_rfl) (by kernel_rfl) (by kernel_rfl) (by kernel_rfl) (by kernel_rfl) (fun τ r h => by
    obtain ⟨a0, ⟨⟩⟩ := τ
    obtain ⟨m, hm⟩ := Rn_rational_Format a0 r h
    exact ⟨m, (top_rational_Format (tb_rational_Format m) a0).trans (hm m (Nat.le_refl m))⟩)

abbrev E_law06_awake : Env := mkE tys [(16, callE [.pair (.pair (.pair (.bool) (.slice (.int .u32))) (.slice (.int .u32))) (.pair (.pair (.bool) (.slice (.int .u32))) (.slice (.int .u32))), .pair (.pair (.pair (.bool) (.slice (.int .u32))) (.slice (.int .u32))) (.pair (.pair (.bool) (.slice (.int .u32))) (.slice (.int .u32)))] [(.pair (.pair (.pair (.bool) (.slice (.int .u32))) (.slice (.int .u32))) (.pair (.pair (.bool) (.slice (.int .u32))) (.slice (.int .u32))), false)] (fun τ => F_interval_Mul τ.1 τ.2.1)), (38, callE [.int .i64] [(.pair (.pair (.bool) (.slice (.int .u32))) (.slice (.int .u32)), false)] (fun τ => F_rational_Of τ.1)), (39, callE [.pair (.pair (.bool) (.slice (.int .u32))) (.slice (.int .u32))] [(.str, false)] (fun τ => F_rational_Format τ.1))] []
def c_law06_awake : List (Nat × Live) := []
noncomputable abbrev fe_law06_awake := (finE (E_law06_awake) [(.bool, false)] Tryz.f6.results.toList)
theorem top_law06_awake (S : Nat → KT (RT [(.bool, false)])) : evA (E_law06_awake) (lk c_law06_awake) S (bodyOf Tryz.f6) noX (fe_law06_awake) (fe_law06_awake) (initSt [] ()) = T_law06_awake := by kernel_rfl
noncomputable abbrev tb_law06_awake := tab (E_law06_awake) (lk c_law06_awake) (bodyOf Tryz.f6) (fe_law06_awake)
theorem ok_law06_awake : EnvOK Tryz.prog (E_law06_awake) := mkE_ok tys_ok ⟨⟨fs_interval_Mul.csound, ⟨Tryz.f16, by kernel_rfl, by kernel_rfl, by kernel_rfl⟩⟩, ⟨fs_rational_Of.csound, ⟨Tryz.f38, by kernel_rfl, by kernel_rfl, by kernel_rfl⟩⟩, ⟨fs_rational_Format.csound, ⟨Tryz.f39, by kernel_rfl, by kernel_rfl, by kernel_rfl⟩⟩, trivial⟩ trivial
theorem fs_law06_awake : FSound Tryz.prog 6 [] [(.bool, false)] (fun τ => F_law06_awake) :=
  evG_sound (E := (E_law06_awake)) (C := (lk c_law06_awake)) ok_law06_awake mixed_ok (fn := Tryz.f6) (c := (bodyOf Tryz.f6)) (by kernel_rfl) (by kernel_rfl) (by kernel_rfl) (by kernel_rfl) (by kernel_rfl) (by kernel_rfl) (fun τ r h => by
    obtain ⟨⟩ := τ
    obtain ⟨m, hm⟩ := Rn_law06_awake r h
    exact ⟨m, (top_law06_awake (tb_law06_awake m)).trans (hm m (Nat.le_refl m))⟩)

abbrev E_ref01_Few : Env := mkE tys [] []
def c_ref01_Few : List (Nat × Live) := [(9, ⟨[(0, .int .i64), (1, .slice (.slice (.int .u32))), (5, .int .i64)], [], []⟩)]
noncomputable abbrev fe_ref01_Few := (finE (E_ref01_Few) [(.bool, false)] Tryz.f40.results.toList)
noncomputable abbrev cn_ref01_Few_9 (x0 : Int) (x1 : List (List Int)) (x5 : Int) : St := ⟨[(5, .one (.val (.int .i64) x5)), (1, .one (.val (.slice (.slice (.int .u32))) x1)), (0, .one (.val (.int .i64) x0))], []⟩
noncomputable abbrev kk_ref01_Few_9 (S : Nat → KT (RT [(.bool, false)])) := fun (x0 : Int) (x1 : List (List Int)) (x5 : Int) => S 9 (cn_ref01_Few_9 x0 x1 x5)
theorem top_ref01_Few (S : Nat → KT (RT [(.bool, false)])) (a0 : Int) (a1 : List (List Int)) : evA (E_ref01_Few) (lk c_ref01_Few) S (bodyOf Tryz.f40) noX (fe_ref01_Few) (fe_ref01_Few) (initSt [.int .i64, .slice (.slice (.int .u32))] (a0, a1, ())) = T_ref01_Few (kk_ref01_Few_9 S) a0 a1 := by kernel_rfl
theorem seg_ref01_Few_9 (S : Nat → KT (RT [(.bool, false)])) (x0 : Int) (x1 : List (List Int)) (x5 : Int) : stepT (entry (E_ref01_Few) (lk c_ref01_Few) S 9 (bodyOf Tryz.f40) noX (fe_ref01_Few) (fe_ref01_Few)) (cn_ref01_Few_9 x0 x1 x5) = S_ref01_Few_9 (kk_ref01_Few_9 S) x0 x1 x5 := by kernel_rfl
noncomputable abbrev tb_ref01_Few := tab (E_ref01_Few) (lk c_ref01_Few) (bodyOf Tryz.f40) (fe_ref01_Few)
theorem ok_ref01_Few : EnvOK Tryz.prog (E_ref01_Few) := mkE_ok tys_ok trivial trivial
theorem fs_ref01_Few : FSound Tryz.prog 40 [.int .i64, .slice (.slice (.int .u32))] [(.bool, false)] (fun τ => F_ref01_Few τ.1 τ.2.1) :=
  evG_sound (E := (E_ref01_Few)) (C := (lk c_ref01_Few)) ok_ref01_Few mixed_ok (fn := Tryz.f40) (c := (bodyOf Tryz.f40)) (by kernel_rfl) (by kernel_rfl) (by kernel_rfl) (by kernel_rfl) (by kernel_rfl) (by kernel_rfl) (fun τ r h => by
    obtain ⟨a0, a1, ⟨⟩⟩ := τ
    obtain ⟨m, hm⟩ := Rn_ref01_Few (fun m => kk_ref01_Few_9 (tb_ref01_Few m)) (fun m x0 x1 x5 => (tab_succ (E_ref01_Few) (lk c_ref01_Few) (bodyOf Tryz.f40) (fe_ref01_Few) m 9 (cn_ref01_Few_9 x0 x1 x5)).trans (seg_ref01_Few_9 (tb_ref01_Few m) x0 x1 x5)) a0 a1 r h
    exact ⟨m, (top_ref01_Few (tb_ref01_Few m) a0 a1).trans (hm m (Nat.le_refl m))⟩)

abbrev E_law06_small : Env := mkE tys [(40, callE [.int .i64, .slice (.slice (.int .u32))] [(.bool, false)] (fun τ => F_ref01_Few τ.1 τ.2.1))] []
def c_law06_small : List (Nat × Live) := []
noncomputable abbrev fe_law06_small := (finE (E_law06_small) [(.bool, false)] Tryz.f8.results.toList)
theorem top_law06_small (S : Nat → KT (RT [(.bool, false)])) (a0 : Int) (a1 : (Bool × List Int) × List Int) : evA (E_law06_small) (lk c_law06_small) S (bodyOf Tryz.f8) noX (fe_law06_small) (fe_law06_small) (initSt [.int .i64, .pair (.pair (.bool) (.slice (.int .u32))) (.slice (.int .u32))] (a0, a1, ())) = T_law06_small a0 a1 := by kernel_rfl
noncomputable abbrev tb_law06_small := tab (E_law06_small) (lk c_law06_small) (bodyOf Tryz.f8) (fe_law06_small)
theorem ok_law06_small : EnvOK Tryz.prog (E_law06_small) := mkE_ok tys_ok ⟨⟨fs_ref01_Few.csound, ⟨Tryz.f40, by kernel_rfl, by kernel_rfl, by kernel_rfl⟩⟩, trivial⟩ trivial
theorem fs_law06_small : FSound Tryz.prog 8 [.int .i64, .pair (.pair (.bool) (.slice (.int .u32))) (.slice (.int .u32))] [(.bool, false)] (fun τ => F_law06_small τ.1 τ.2.1) :=
  evG_sound (E := (E_law06_small)) (C := (lk c_law06_small)) ok_law06_small mixed_ok (fn := Tryz.f8) (c := (bodyOf Tryz.f8)) (by kernel_rfl) (by kernel_rfl) (by kernel_rfl) (by kernel_rfl) (by kernel_rfl) (by kernel_rfl) (fun τ r h => by
    obtain ⟨a0, a1, ⟨⟩⟩ := τ
    obtain ⟨m, hm⟩ := Rn_law06_small a0 a1 r h
    exact ⟨m, (top_law06_small (tb_law06_small m) a0 a1).trans (hm m (Nat.le_refl m))⟩)

abbrev E_law06_few : Env := mkE tys [(8, callE [.int .i64, .pair (.pair (.bool) (.slice (.int .u32))) (.slice (.int .u32))] [(.bool, false)] (fun τ => F_law06_small τ.1 τ.2.1))] []
def c_law06_few : List (Nat × Live) := []
noncomputable abbrev fe_law06_few := (finE (E_law06_few) [(.bool, false)] Tryz.f7.results.toList)
theorem top_law06_few (S : Nat → KT (RT [(.bool, false)])) (a0 : Int) (a1 : ((Bool × List Int) × List Int) × (Bool × List Int) × List Int) (a2 : ((Bool × List Int) × List Int) × (Bool × List Int) × List Int) : evA (E_law06_few) (lk c_law06_few) S (bodyOf Tryz.f7) noX (fe_law06_few) (fe_law06_few) (initSt [.int .i64, .pair (.pair (.pair (.bool) (.slice (.int .u32))) (.slice (.int .u32))) (.pair (.pair (.bool) (.slice (.int .u32))) (.slice (.int .u32))), .pair (.pair (.pair (.bool) (.slice (.int .u32))) (.slice (.int .u32))) (.pair (.pair (.bool) (.slice (.int .u32))) (.slice (.int .u32)))] (a0, a1, a2, ())) = T_law06_few a0 a1 a2 := by kernel_rfl
noncomputable abbrev tb_law06_few := tab (E_law06_few) (lk c_law06_few) (bodyOf Tryz.f7) (fe_law06_few)
theorem ok_law06_few : EnvOK Tryz.prog (E_law06_few) := mkE_ok tys_ok ⟨⟨fs_law06_small.csound, ⟨Tryz.f8, by kernel_rfl, by kernel_rfl, by kernel_rfl⟩⟩, trivial⟩ trivial
theorem fs_law06_few : FSound Tryz.prog 7 [.int .i64, .pair (.pair (.pair (.bool) (.slice (.int .u32))) (.slice (.int .u32))) (.pair (.pair (.bool) (.slice (.int .u32))) (.slice (.int .u32))), .pair (.pair (.pair (.bool) (.slice (.int .u32))) (.slice (.int .u32))) (.pair (.pair (.bool) (.slice (.int .u32))) (.slice (.int .u32)))] [(.bool, false)] (fun τ => F_law06_few τ.1 τ.2.1 τ.2.2.1) :=
  evG_sound (E := (E_law06_few)) (C := (lk c_law06_few)) ok_law06_few mixed_ok (fn := Tryz.f7) (c := (bodyOf Tryz.f7)) (by kernel_rfl) (by kernel_rfl) (by kernel_rfl) (by kernel_rfl) (by kernel_rfl) (by kernel_rfl) (fun τ r h => by
    obtain ⟨a0, a1, a2, ⟨⟩⟩ := τ
    obtain ⟨m, hm⟩ := Rn_law06_few a0 a1 a2 r h
    exact ⟨m, (top_law06_few (tb_law06_few m) a0 a1 a2).trans (hm m (Nat.le_refl m))⟩)

abbrev E_ref01_Trim : Env := mkE tys [] []
def c_ref01_Trim : List (Nat × Live) := [(9, ⟨[(0, .slice (.int .i64)), (3, .int .i64)], [], []⟩)]
noncomputable abbrev fe_ref01_Trim := (finE (E_ref01_Trim) [(.slice (.int .i64), false)] Tryz.f99.results.toList)
noncomputable abbrev cn_ref01_Trim_9 (x0 : List Int) (x3 : Int) : St := ⟨[(3, .one (.val (.int .i64) x3)), (0, .one (.val (.slice (.int .i64)) x0))], []⟩
noncomputable abbrev kk_ref01_Trim_9 (S : Nat → KT (RT [(.slice (.int .i64), false)])) := fun (x0 : List Int) (x3 : Int) => S 9 (cn_ref01_Trim_9 x0 x3)
theorem top_ref01_Trim (S : Nat → KT (RT [(.slice (.int .i64), false)])) (a0 : List Int) : evA (E_ref01_Trim) (lk c_ref01_Trim) S (bodyOf Tryz.f99) noX (fe_ref01_Trim) (fe_ref01_Trim) (initSt [.slice (.int .i64)] (a0, ())) = T_ref01_Trim (kk_ref01_Trim_9 S) a0 := by kernel_rfl
theorem seg_ref01_Trim_9 (S : Nat → KT (RT [(.slice (.int .i64), false)])) (x0 : List Int) (x3 : Int) : stepT (entry (E_ref01_Trim) (lk c_ref01_Trim) S 9 (bodyOf Tryz.f99) noX (fe_ref01_Trim) (fe_ref01_Trim)) (cn_ref01_Trim_9 x0 x3) = S_ref01_Trim_9 (kk_ref01_Trim_9 S) x0 x3 := by kernel_rfl
noncomputable abbrev tb_ref01_Trim := tab (E_ref01_Trim) (lk c_ref01_Trim) (bodyOf Tryz.f99) (fe_ref01_Trim)
theorem ok_ref01_Trim : EnvOK Tryz.prog (E_ref01_Trim) := mkE_ok tys_ok trivial trivial
theorem fs_ref01_Trim : FSound Tryz.prog 99 [.slice (.int .i64)] [(.slice (.int .i64), false)] (fun τ => F_ref01_Trim τ.1) :=
  evG_sound (E := (E_ref01_Trim)) (C := (lk c_ref01_Trim)) ok_ref01_Trim mixed_ok (fn := Tryz.f99) (c := (bodyOf Tryz.f99)) (by kernel_rfl) (by kernel_rfl) (by kernel_rfl) (by kernel_rfl) (by kernel_rfl) (by kernel_rfl) (fun τ r h => by
    obtain ⟨a0, ⟨⟩⟩ := τ
    obtain ⟨m, hm⟩ := Rn_ref01_Trim (fun m => kk_ref01_Trim_9 (tb_ref01_Trim m)) (fun m x0 x3 => (tab_succ (E_ref01_Trim) (lk c_ref01_Trim) (bodyOf Tryz.f99) (fe_ref01_Trim) m 9 (cn_ref01_Trim_9 x0 x3)).trans (seg_ref01_Trim_9 (tb_ref01_Trim m) x0 x3)) a0 r h
    exact ⟨m, (top_ref01_Trim (tb_ref01_Trim m) a0).trans (hm m (Nat.le_refl m))⟩)

abbrev Eo_ref01_Trim : Env := mkE tys [] []
def co_ref01_Trim : List (Nat × Live) := [(9, ⟨[(3, .int .i64)], [(false, 0, .int .i64)], []⟩)]
noncomputable abbrev feo_ref01_Trim := (finO (Eo_ref01_Trim) 0 false (.int .i64) .pre Tryz.f99.results.toList)
noncomputable abbrev cno_ref01_Trim_9 (x3 : Int) (x0 : List Int) : St := ⟨[(0, .one (.loc (.int .i64) 10000)), (3, .one (.val (.int .i64) x3))], [(10000, some ⟨.int .i64, x0, false⟩)]⟩
noncomputable abbrev kko_ref01_Trim_9 (S : Nat → KT (CD false (.int .i64) × RS.D .pre)) := fun (x3 : Int) (x0 : List Int) => S 9 (cno_ref01_Trim_9 x3 x0)
theorem topo_ref01_Trim (S : Nat → KT (CD false (.int .i64) × RS.D .pre)) (l : List Int) : evA (Eo_ref01_Trim) (lk co_ref01_Trim) S (bodyOf Tryz.f99) noX (feo_ref01_Trim) (feo_ref01_Trim) (initO [] () false (.int .i64) l) = To_ref01_Trim (kko_ref01_Trim_9 S) l := by kernel_rfl
theorem sego_ref01_Trim_9 (S : Nat → KT (CD false (.int .i64) × RS.D .pre)) (x3 : Int) (x0 : List Int) : stepT (entry (Eo_ref01_Trim) (lk co_ref01_Trim) S 9 (bodyOf Tryz.f99) noX (feo_ref01_Trim) (feo_ref01_Trim)) (cno_ref01_Trim_9 x3 x0) = So_ref01_Trim_9 (kko_ref01_Trim_9 S) x3 x0 := by kernel_rfl
noncomputable abbrev tbo_ref01_Trim := tab (Eo_ref01_Trim) (lk co_ref01_Trim) (bodyOf Tryz.f99) (feo_ref01_Trim)
theorem oko_ref01_Trim : EnvOK Tryz.prog (Eo_ref01_Trim) := mkE_ok tys_ok trivial trivial
theorem os_ref01_Trim : OSound Tryz.prog 99 [] false (.int .i64) .pre (fun τ l => O_ref01_Trim l) :=
  evO_sound (E := (Eo_ref01_Trim)) (C := (lk co_ref01_Trim)) oko_ref01_Trim mixed_ok (fn := Tryz.f99) (k := (bodyOf Tryz.f99)) (by kernel_rfl) (by kernel_rfl) (by kernel_rfl) (by kernel_rfl) (by kernel_rfl) (fun τ l r h => by
    obtain ⟨⟩ := τ
    obtain ⟨m, hm⟩ := Rno_ref01_Trim (fun m => kko_ref01_Trim_9 (tbo_ref01_Trim m)) (fun m x3 x0 => (tab_succ (Eo_ref01_Trim) (lk co_ref01_Trim) (bodyOf Tryz.f99) (feo_ref01_Trim) m 9 (cno_ref01_Trim_9 x3 x0)).trans (sego_ref01_Trim_9 (tbo_ref01_Trim m) x3 x0)) l r h
    exact ⟨m, (topo_ref01_Trim (tbo_ref01_Trim m) l).trans (hm m (Nat.le_refl m))⟩)

abbrev E_ref02_Make : Env := mkE tys [] [(99, mixO (callO [] false (.int .i64) .pre (fun τ l => O_ref01_Trim l)) (callI (callE [.slice (.int .i64)] [(.slice (.int .i64), false)] (fun τ => F_ref01_Trim τ.1))))]
def c_ref02_Make : List (Nat × Live) := []
noncomputable abbrev fe_ref02_Make := (finE (E_ref02_Make) [(.pair (.int .i64) (.slice (.int .i64)), false)] Tryz.f74.results.toList)
theorem top_ref02_Make (S : Nat → KT (RT [(.pair (.int .i64) (.slice (.int .i64)), false)])) (a0 : Bool) (a1 : List Int) : evA (E_ref02_Make) (lk c_ref02_Make) S (bodyOf Tryz.f74) noX (fe_ref02_Make) (fe_ref02_Make) (initSt [.bool, .slice (.int .i64)] (a0, a1, ())) = T_ref02_Make a0 a1 := by kernel_rfl
noncomputable abbrev tb_ref02_Make := tab (E_ref02_Make) (lk c_ref02_Make) (bodyOf Tryz.f74) (fe_ref02_Make)
theorem ok_ref02_Make : EnvOK Tryz.prog (E_ref02_Make) := mkE_ok tys_ok trivial ⟨⟨PSound.mix os_ref01_Trim.psound (CSound.psound fs_ref01_Trim.csound), ⟨Tryz.f99, by kernel_rfl, by kernel_rfl, by kernel_rfl⟩⟩, trivial⟩
theorem fs_ref02_Make : FSound Tryz.prog 74 [.bool, .slice (.int .i64)] [(.pair (.int .i64) (.slice (.int .i64)), false)] (fun τ => F_ref02_Make τ.1 τ.2.1) :=
  evG_sound (E := (E_ref02_Make)) (C := (lk c_ref02_Make)) ok_ref02_Make mixed_ok (fn := Tryz.f74) (c := (bodyOf Tryz.f74)) (by kernel_rfl) (by kernel_rfl) (by kernel_rfl) (by kernel_rfl) (by kernel_rfl) (by kernel_rfl) (fun τ r h => by
    obtain ⟨a0, a1, ⟨⟩⟩ := τ
    obtain ⟨m, hm⟩ := Rn_ref02_Make a0 a1 r h
    exact ⟨m, (top_ref02_Make (tb_ref02_Make m) a0 a1).trans (hm m (Nat.le_refl m))⟩)

abbrev E_ref01_Of : Env := mkE tys [] [(99, mixO (callO [] false (.int .i64) .pre (fun τ l => O_ref01_Trim l)) (callI (callE [.slice (.int .i64)] [(.slice (.int .i64), false)] (fun τ => F_ref01_Trim τ.1))))]
def c_ref01_Of : List (Nat × Live) := [(13, ⟨[(0, .slice (.int .u32)), (4, .int .i64)], [(false, 3, .int .i64)], []⟩)]
noncomputable abbrev fe_ref01_Of := (finE (E_ref01_Of) [(.slice (.int .i64), false)] Tryz.f98.results.toList)
noncomputable abbrev cn_ref01_Of_13 (x0 : List Int) (x4 : Int) (x3 : List Int) : St := ⟨[(3, .one (.loc (.int .i64) 10000)), (4, .one (.val (.int .i64) x4)), (0, .one (.val (.slice (.int .u32)) x0))], [(10000, some ⟨.int .i64, x3, false⟩)]⟩
noncomputable abbrev kk_ref01_Of_13 (S : Nat → KT (RT [(.slice (.int .i64), false)])) := fun (x0 : List Int) (x4 : Int) (x3 : List Int) => S 13 (cn_ref01_Of_13 x0 x4 x3)
theorem top_ref01_Of (S : Nat → KT (RT [(.slice (.int .i64), false)])) (a0 : List Int) : evA (E_ref01_Of) (lk c_ref01_Of) S (bodyOf Tryz.f98) noX (fe_ref01_Of) (fe_ref01_Of) (initSt [.slice (.int .u32)] (a0, ())) = T_ref01_Of (kk_ref01_Of_13 S) a0 := by kernel_rfl
theorem seg_ref01_Of_13 (S : Nat → KT (RT [(.slice (.int .i64), false)])) (x0 : List Int) (x4 : Int) (x3 : List Int) : stepT (entry (E_ref01_Of) (lk c_ref01_Of) S 13 (bodyOf Tryz.f98) noX (fe_ref01_Of) (fe_ref01_Of)) (cn_ref01_Of_13 x0 x4 x3) = S_ref01_Of_13 (kk_ref01_Of_13 S) x0 x4 x3 := by kernel_rfl
noncomputable abbrev tb_ref01_Of := tab (E_ref01_Of) (lk c_ref01_Of) (bodyOf Tryz.f98) (fe_ref01_Of)
theorem ok_ref01_Of : EnvOK Tryz.prog (E_ref01_Of) := mkE_ok tys_ok trivial ⟨⟨PSound.mix os_ref01_Trim.psound (CSound.psound fs_ref01_Trim.csound), ⟨Tryz.f99, by kernel_rfl, by kernel_rfl, by kernel_rfl⟩⟩, trivial⟩
theorem fs_ref01_Of : FSound Tryz.prog 98 [.slice (.int .u32)] [(.slice (.int .i64), false)] (fun τ => F_ref01_Of τ.1) :=
  evG_sound (E := (E_ref01_Of)) (C := (lk c_ref01_Of)) ok_ref01_Of mixed_ok (fn := Tryz.f98) (c := (bodyOf Tryz.f98)) (by kernel_rfl) (by kernel_rfl) (by kernel_rfl) (by kernel_rfl) (by kernel_rfl) (by kernel_rfl) (fun τ r h => by
    obtain ⟨a0, ⟨⟩⟩ := τ
    obtain ⟨m, hm⟩ := Rn_ref01_Of (fun m => kk_ref01_Of_13 (tb_ref01_Of m)) (fun m x0 x4 x3 => (tab_succ (E_ref01_Of) (lk c_ref01_Of) (bodyOf Tryz.f98) (fe_ref01_Of) m 13 (cn_ref01_Of_13 x0 x4 x3)).trans (seg_ref01_Of_13 (tb_ref01_Of m) x0 x4 x3)) a0 r h
    exact ⟨m, (top_ref01_Of (tb_ref01_Of m) a0).trans (hm m (Nat.le_refl m))⟩)

abbrev E_ref02_Of : Env := mkE tys [(74, callE [.bool, .slice (.int .i64)] [(.pair (.int .i64) (.slice (.int .i64)), false)] (fun τ => F_ref02_Make τ.1 τ.2.1)), (98, callE [.slice (.int .u32)] [(.slice (.int .i64), false)] (fun τ => F_ref01_Of τ.1))] []
def c_ref02_Of : List (Nat × Live) := []
noncomputable abbrev fe_ref02_Of := (finE (E_ref02_Of) [(.pair (.int .i64) (.slice (.int .i64)), false)] Tryz.f71.results.toList)
theorem top_ref02_Of (S : Nat → KT (RT [(.pair (.int .i64) (.slice (.int .i64)), false)])) (a0 : Bool) (a1 : List Int) : evA (E_ref02_Of) (lk c_ref02_Of) S (bodyOf Tryz.f71) noX (fe_ref02_Of) (fe_ref02_Of) (initSt [.bool, .slice (.int .u32)] (a0, a1, ())) = T_ref02_Of a0 a1 := by kernel_rfl
noncomputable abbrev tb_ref02_Of := tab (E_ref02_Of) (lk c_ref02_Of) (bodyOf Tryz.f71) (fe_ref02_Of)
theorem ok_ref02_Of : EnvOK Tryz.prog (E_ref02_Of) := mkE_ok tys_ok ⟨⟨fs_ref02_Make.csound, ⟨Tryz.f74, by kernel_rfl, by kernel_rfl, by kernel_rfl⟩⟩, ⟨fs_ref01_Of.csound, ⟨Tryz.f98, by kernel_rfl, by kernel_rfl, by kernel_rfl⟩⟩, trivial⟩ trivial
theorem fs_ref02_Of : FSound Tryz.prog 71 [.bool, .slice (.int .u32)] [(.pair (.int .i64) (.slice (.int .i64)), false)] (fun τ => F_ref02_Of τ.1 τ.2.1) :=
  evG_sound (E := (E_ref02_Of)) (C := (lk c_ref02_Of)) ok_ref02_Of mixed_ok (fn := Tryz.f71) (c := (bodyOf Tryz.f71)) (by kernel_rfl) (by kernel_rfl) (by kernel_rfl) (by kernel_rfl) (by kernel_rfl) (by kernel_rfl) (fun τ r h => by
    obtain ⟨a0, a1, ⟨⟩⟩ := τ
    obtain ⟨m, hm⟩ := Rn_ref02_Of a0 a1 r h
    exact ⟨m, (top_ref02_Of (tb_ref02_Of m) a0 a1).trans (hm m (Nat.le_refl m))⟩)

abbrev E_ref02_Small : Env := mkE tys [(74, callE [.bool, .slice (.int .i64)] [(.pair (.int .i64) (.slice (.int .i64)), false)] (fun τ => F_ref02_Make τ.1 τ.2.1))] []
def c_ref02_Small : List (Nat × Live) := [(21, ⟨[(0, .int .i64), (3, .bool)], [(true, 2, .pair (.int .i64) (.slice (.int .i64))), (false, 4, .int .i64)], []⟩)]
noncomputable abbrev fe_ref02_Small := (finE (E_ref02_Small) [(.pair (.int .i64) (.slice (.int .i64)), false)] Tryz.f72.results.toList)
noncomputable abbrev cn_ref02_Small_21 (x0 : Int) (x3 : Bool) (x2 : Int × List Int) (x4 : List Int) : St := ⟨[(4, .one (.loc (.int .i64) 10001)), (2, .one (.ptr 10000 0 [])), (3, .one (.val (.bool) x3)), (0, .one (.val (.int .i64) x0))], [(10001, some ⟨.int .i64, x4, false⟩), (10000, some ⟨.pair (.int .i64) (.slice (.int .i64)), [x2], false⟩)]⟩
noncomputable abbrev kk_ref02_Small_21 (S : Nat → KT (RT [(.pair (.int .i64) (.slice (.int .i64)), false)])) := fun (x0 : Int) (x3 : Bool) (x2 : Int × List Int) (x4 : List Int) => S 21 (cn_ref02_Small_21 x0 x3 x2 x4)
theorem top_ref02_Small (S : Nat → KT (RT [(.pair (.int .i64) (.slice (.int .i64)), false)])) (a0 : Int) : evA (E_ref02_Small) (lk c_ref02_Small) S (bodyOf Tryz.f72) noX (fe_ref02_Small) (fe_ref02_Small) (initSt [.int .i64] (a0, ())) = T_ref02_Small (kk_ref02_Small_21 S) a0 := by kernel_rfl
theorem seg_ref02_Small_21 (S : Nat → KT (RT [(.pair (.int .i64) (.slice (.int .i64)), false)])) (x0 : Int) (x3 : Bool) (x2 : Int × List Int) (x4 : List Int) : stepT (entry (E_ref02_Small) (lk c_ref02_Small) S 21 (bodyOf Tryz.f72) noX (fe_ref02_Small) (fe_ref02_Small)) (cn_ref02_Small_21 x0 x3 x2 x4) = S_ref02_Small_21 (kk_ref02_Small_21 S) x0 x3 x2 x4 := by kernel_rfl
noncomputable abbrev tb_ref02_Small := tab (E_ref02_Small) (lk c_ref02_Small) (bodyOf Tryz.f72) (fe_ref02_Small)
theorem ok_ref02_Small : EnvOK Tryz.prog (E_ref02_Small) := mkE_ok tys_ok ⟨⟨fs_ref02_Make.csound, ⟨Tryz.f74, by kernel_rfl, by kernel_rfl, by kernel_rfl⟩⟩, trivial⟩ trivial
theorem fs_ref02_Small : FSound Tryz.prog 72 [.int .i64] [(.pair (.int .i64) (.slice (.int .i64)), false)] (fun τ => F_ref02_Small τ.1) :=
  evG_sound (E := (E_ref02_Small)) (C := (lk c_ref02_Small)) ok_ref02_Small mixed_ok (fn := Tryz.f72) (c := (bodyOf Tryz.f72)) (by kernel_rfl) (by kernel_rfl) (by kernel_rfl) (by kernel_rfl) (by kernel_rfl) (by kernel_rfl) (fun τ r h => by
    obtain ⟨a0, ⟨⟩⟩ := τ
    obtain ⟨m, hm⟩ := Rn_ref02_Small (fun m => kk_ref02_Small_21 (tb_ref02_Small m)) (fun m x0 x3 x2 x4 => (tab_succ (E_ref02_Small) (lk c_ref02_Small) (bodyOf Tryz.f72) (fe_ref02_Small) m 21 (cn_ref02_Small_21 x0 x3 x2 x4)).trans (seg_ref02_Small_21 (tb_ref02_Small m) x0 x3 x2 x4)) a0 r h
    exact ⟨m, (top_ref02_Small (tb_ref02_Small m) a0).trans (hm m (Nat.le_refl m))⟩)

abbrev E_ref05_Of : Env := mkE tys [(71, callE [.bool, .slice (.int .u32)] [(.pair (.int .i64) (.slice (.int .i64)), false)] (fun τ => F_ref02_Of τ.1 τ.2.1)), (72, callE [.int .i64] [(.pair (.int .i64) (.slice (.int .i64)), false)] (fun τ => F_ref02_Small τ.1))] []
def c_ref05_Of : List (Nat × Live) := []
noncomputable abbrev fe_ref05_Of := (finE (E_ref05_Of) [(.pair (.pair (.int .i64) (.slice (.int .i64))) (.pair (.int .i64) (.slice (.int .i64))), false)] Tryz.f48.results.toList)
theorem top_ref05_Of (S : Nat → KT (RT [(.pair (.pair (.int .i64) (.slice (.int .i64))) (.pair (.int .i64) (.slice (.int .i64))), false)])) (a0 : Bool) (a1 : List Int) (a2 : List Int) : evA (E_ref05_Of) (lk c_ref05_Of) S (bodyOf Tryz.f48) noX (fe_ref05_Of) (fe_ref05_Of) (initSt [.bool, .slice (.int .u32), .slice (.int .u32)] (a0, a1, a2, ())) = T_ref05_Of a0 a1 a2 := by kernel_rfl
noncomputable abbrev tb_ref05_Of := tab (E_ref05_Of) (lk c_ref05_Of) (bodyOf Tryz.f48) (fe_ref05_Of)
theorem ok_ref05_Of : EnvOK Tryz.prog (E_ref05_Of) := mkE_ok tys_ok ⟨⟨fs_ref02_Of.csound, ⟨Tryz.f71, by kernel_rfl, by kernel_rfl, by kernel_rfl⟩⟩, ⟨fs_ref02_Small.csound, ⟨Tryz.f72, by kernel_rfl, by kernel_rfl, by kernel_rfl⟩⟩, trivial⟩ trivial
theorem fs_ref05_Of : FSound Tryz.prog 48 [.bool, .slice (.int .u32), .slice (.int .u32)] [(.pair (.pair (.int .i64) (.slice (.int .i64))) (.pair (.int .i64) (.slice (.int .i64))), false)] (fun τ => F_ref05_Of τ.1 τ.2.1 τ.2.2.1) :=
  evG_sound (E := (E_ref05_Of)) (C := (lk c_ref05_Of)) ok_ref05_Of mixed_ok (fn := Tryz.f48) (c := (bodyOf Tryz.f48)) (by kernel_rfl) (by kernel_rfl) (by kernel_rfl) (by kernel_rfl) (by kernel_rfl) (by kernel_rfl) (fun τ r h => by
    obtain ⟨a0, a1, a2, ⟨⟩⟩ := τ
    obtain ⟨m, hm⟩ := Rn_ref05_Of a0 a1 a2 r h
    exact ⟨m, (top_ref05_Of (tb_ref05_Of m) a0 a1 a2).trans (hm m (Nat.le_refl m))⟩)

end
end Go.W

