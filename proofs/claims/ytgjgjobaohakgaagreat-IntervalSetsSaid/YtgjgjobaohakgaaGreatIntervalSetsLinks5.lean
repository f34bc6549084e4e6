/- A part of the proof: texts LkZb, Row, RowTZ, RowR. What is proved in the end stands in the last file. -/
import Derived.Test.YtgjgjobaohakgaaGreatIntervalSetsLinks4
import Derived.WalkKit
import Derived.ProofKit
import Derived.OpenShut
import Derived.ChangeOld
import Derived.Below
import Derived.ChangeArms
import Derived.Test.YtgjgjobaohakgaaGreatRows
import Derived.JoinedOf
import Derived.KernelRfl
set_option linter.unusedVariables false
set_option linter.unusedSimpArgs false
set_option linter.unusedSectionVars false
set_option linter.unusedVariables false
namespace Go.W
open Go.Proofs
noncomputable section
abbrev E_law06_q : Env := mkE tys [(48, callE [.bool, .slice (.int .u32), .slice (.int .u32)] [(.pair (.pair (.int .i64) (.slice (.int .i64))) (.pair (.int .i64) (.slice (.int .i64))), false)] (fun τ => F_ref05_Of τ.1 τ.2.1 τ.2.2.1))] []
def c_law06_q : List (Nat × Live) := []
noncomputable abbrev fe_law06_q := (finE (E_law06_q) [(.pair (.pair (.int .i64) (.slice (.int .i64))) (.pair (.int .i64) (.slice (.int .i64))), false)] Tryz.f20.results.toList)
theorem top_law06_q (S : Nat → KT (RT [(.pair (.pair (.int .i64) (.slice (.int .i64))) (.pair (.int .i64) (.slice (.int .i64))), false)])) (a0 : (Bool × List Int) × List Int) : evA (E_law06_q) (lk c_law06_q) S (bodyOf Tryz.f20) noX (fe_law06_q) (fe_law06_q) (initSt [.pair (.pair (.bool) (.slice (.int .u32))) (.slice (.int .u32))] (a0, ())) = T_law06_q a0 := by kernel_rfl
noncomputable abbrev tb_law06_q := tab (E_law06_q) (lk c_law06_q) (bodyOf Tryz.f20) (fe_law06_q)
theorem ok_law06_q : EnvOK Tryz.prog (E_law06_q) := mkE_ok tys_ok ⟨⟨fs_ref05_Of.csound, ⟨Tryz.f48, by kernel_rfl, by kernel_rfl, by kernel_rfl⟩⟩, trivial⟩ trivial
theorem fs_law06_q : FSound Tryz.prog 20 [.pair (.pair (.bool) (.slice (.int .u32))) (.slice (.int .u32))] [(.pair (.pair (.int .i64) (.slice (.int .i64))) (.pair (.int .i64) (.slice (.int .i64))), false)] (fun τ => F_law06_q τ.1) :=
  evG_sound (E := (E_law06_q)) (C := (lk c_law06_q)) ok_law06_q mixed_ok (fn := Tryz.f20) (c := (bodyOf Tryz.f20)) (by kernel_rfl) (by kernel_rfl) (by kernel_rfl) (by kernel_rfl) (by kernel_rfl) (by kernel_rfl) (fun τ r h => by
    obtain ⟨a0, ⟨⟩⟩ := τ
    obtain ⟨m, hm⟩ := Rn_law06_q a0 r h
    exact ⟨m, (top_law06_q (tb_law06_q m) a0).trans (hm m (Nat.le_refl m))⟩)

abbrev E_ref01_words : Env := mkE tys [] []
def c_ref01_words : List (Nat × Live) := [(13, ⟨[(0, .slice (.int .i64)), (4, .int .i64)], [(false, 3, .int .i64)], []⟩)]
noncomputable abbrev fe_ref01_words := (finE (E_ref01_words) [(.slice (.int .i64), true)] Tryz.f101.results.toList)
noncomputable abbrev cn_ref01_words_13 (x0 : List Int) (x4 : Int) (x3 : List Int) : St := ⟨[(3, .one (.loc (.int .i64) 10000)), (4, .one (.val (.int .i64) x4)), (0, .one (.val (.slice (.int .i64)) x0))], [(10000, some ⟨.int .i64, x3, false⟩)]⟩
noncomputable abbrev kk_ref01_words_13 (S : Nat → KT (RT [(.slice (.int .i64), true)])) := fun (x0 : List Int) (x4 : Int) (x3 : List Int) => S 13 (cn_ref01_words_13 x0 x4 x3)
theorem top_ref01_words (S : Nat → KT (RT [(.slice (.int .i64), true)])) (a0 : List Int) : evA (E_ref01_words) (lk c_ref01_words) S (bodyOf Tryz.f101) noX (fe_ref01_words) (fe_ref01_words) (initSt [.slice (.int .i64)] (a0, ())) = T_ref01_words (kk_ref01_words_13 S) a0 := by kernel_rfl
theorem seg_ref01_words_13 (S : Nat → KT (RT [(.slice (.int .i64), true)])) (x0 : List Int) (x4 : Int) (x3 : List Int) : stepT (entry (E_ref01_words) (lk c_ref01_words) S 13 (bodyOf Tryz.f101) noX (fe_ref01_words) (fe_ref01_words)) (cn_ref01_words_13 x0 x4 x3) = S_ref01_words_13 (kk_ref01_words_13 S) x0 x4 x3 := by kernel_rfl
noncomputable abbrev tb_ref01_words := tab (E_ref01_words) (lk c_ref01_words) (bodyOf Tryz.f101) (fe_ref01_words)
theorem ok_ref01_words : EnvOK Tryz.prog (E_ref01_words) := mkE_ok tys_ok trivial trivial
theorem fs_ref01_words : FSound Tryz.prog 101 [.slice (.int .i64)] [(.slice (.int .i64), true)] (fun τ => F_ref01_words τ.1) :=
  evG_sound (E := (E_ref01_words)) (C := (lk c_ref01_words)) ok_ref01_words mixed_ok (fn := Tryz.f101) (c := (bodyOf Tryz.f101)) (by kernel_rfl) (by kernel_rfl) (by kernel_rfl) (by kernel_rfl) (by kernel_rfl) (by kernel_rfl) (fun τ r h => by
    obtain ⟨a0, ⟨⟩⟩ := τ
    obtain ⟨m, hm⟩ := Rn_ref01_words (fun m => kk_ref01_words_13 (tb_ref01_words m)) (fun m x0 x4 x3 => (tab_succ (E_ref01_words) (lk c_ref01_words) (bodyOf Tryz.f101) (fe_ref01_words) m 13 (cn_ref01_words_13 x0 x4 x3)).trans (seg_ref01_words_13 (tb_ref01_words m) x0 x4 x3)) a0 r h
    exact ⟨m, (top_ref01_words (tb_ref01_words m) a0).trans (hm m (Nat.le_refl m))⟩)

abbrev E_ref01_bits : Env := mkE tys [] [(99, mixO (callO [] false (.int .i64) .pre (fun τ l => O_ref01_Trim l)) (callI (callE [.slice (.int .i64)] [(.slice (.int .i64), false)] (fun τ => F_ref01_Trim τ.1))))]
def c_ref01_bits : List (Nat × Live) := [(13, ⟨[(0, .slice (.int .i64)), (4, .int .i64)], [(false, 3, .int .i64)], []⟩)]
noncomputable abbrev fe_ref01_bits := (finE (E_ref01_bits) [(.slice (.int .i64), false)] Tryz.f102.results.toList)
noncomputable abbrev cn_ref01_bits_13 (x0 : List Int) (x4 : Int) (x3 : List Int) : St := ⟨[(3, .one (.loc (.int .i64) 10000)), (4, .one (.val (.int .i64) x4)), (0, .one (.val (.slice (.int .i64)) x0))], [(10000, some ⟨.int .i64, x3, false⟩)]⟩
noncomputable abbrev kk_ref01_bits_13 (S : Nat → KT (RT [(.slice (.int .i64), false)])) := fun (x0 : List Int) (x4 : Int) (x3 : List Int) => S 13 (cn_ref01_bits_13 x0 x4 x3)
theorem top_ref01_bits (S : Nat → KT (RT [(.slice (.int .i64), false)])) (a0 : List Int) : evA (E_ref01_bits) (lk c_ref01_bits) S (bodyOf Tryz.f102) noX (fe_ref01_bits) (fe_ref01_bits) (initSt [.slice (.int .i64)] (a0, ())) = T_ref01_bits (kk_ref01_bits_13 S) a0 := by kernel_rfl
theorem seg_ref01_bits_13 (S : Nat → KT (RT [(.slice (.int .i64), false)])) (x0 : List Int) (x4 : Int) (x3 : List Int) : stepT (entry (E_ref01_bits) (lk c_ref01_bits) S 13 (bodyOf Tryz.f102) noX (fe_ref01_bits) (fe_ref01_bits)) (cn_ref01_bits_13 x0 x4 x3) = S_ref01_bits_13 (kk_ref01_bits_13 S) x0 x4 x3 := by kernel_rfl
noncomputable abbrev tb_ref01_bits := tab (E_ref01_bits) (lk c_ref01_bits) (bodyOf Tryz.f102) (fe_ref01_bits)
theorem ok_ref01_bits : EnvOK Tryz.prog (E_ref01_bits) := mkE_ok tys_ok trivial ⟨⟨PSound.mix os_ref01_Trim.psound (CSound.psound fs_ref01_Trim.csound), ⟨Tryz.f99, by kernel_rfl, by kernel_rfl, by kernel_rfl⟩⟩, trivial⟩
theorem fs_ref01_bits : FSound Tryz.prog 102 [.slice (.int .i64)] [(.slice (.int .i64), false)] (fun τ => F_ref01_bits τ.1) :=
  evG_sound (E := (E_ref01_bits)) (C := (lk c_ref01_bits)) ok_ref01_bits mixed_ok (fn := Tryz.f102) (c := (bodyOf Tryz.f102)) (by kernel_rfl) (by kernel_rfl) (by kernel_rfl) (by kernel_rfl) (by kernel_rfl) (by kernel_rfl) (fun τ r h => by
    obtain ⟨a0, ⟨⟩⟩ := τ
    obtain ⟨m, hm⟩ := Rn_ref01_bits (fun m => kk_ref01_bits_13 (tb_ref01_bits m)) (fun m x0 x4 x3 => (tab_succ (E_ref01_bits) (lk c_ref01_bits) (bodyOf Tryz.f102) (fe_ref01_bits) m 13 (cn_ref01_bits_13 x0 x4 x3)).trans (seg_ref01_bits_13 (tb_ref01_bits m) x0 x4 x3)) a0 r h
    exact ⟨m, (top_ref01_bits (tb_ref01_bits m) a0).trans (hm m (Nat.le_refl m))⟩)

abbrev E_ref01_Mul : Env := mkE tys [(101, callE [.slice (.int .i64)] [(.slice (.int .i64), true)] (fun τ => F_ref01_words τ.1)), (102, callE [.slice (.int .i64)] [(.slice (.int .i64), false)] (fun τ => F_ref01_bits τ.1))] []
def c_ref01_Mul : List (Nat × Live) := [(17, ⟨[(8, .int .i64)], [(false, 5, .int .i64), (false, 6, .int .i64), (false, 7, .int .i64)], []⟩), (33, ⟨[(8, .int .i64), (9, .int .i64), (10, .int .i64)], [(false, 5, .int .i64), (false, 6, .int .i64), (false, 7, .int .i64)], []⟩)]
noncomputable abbrev fe_ref01_Mul := (finE (E_ref01_Mul) [(.slice (.int .i64), false)] Tryz.f78.results.toList)
noncomputable abbrev cn_ref01_Mul_17 (x8 : Int) (x5 : List Int) (x6 : List Int) (x7 : List Int) : St := ⟨[(7, .one (.loc (.int .i64) 10002)), (6, .one (.loc (.int .i64) 10001)), (5, .one (.loc (.int .i64) 10000)), (8, .one (.val (.int .i64) x8))], [(10002, some ⟨.int .i64, x7, false⟩), (10001, some ⟨.int .i64, x6, false⟩), (10000, some ⟨.int .i64, x5, false⟩)]⟩
noncomputable abbrev kk_ref01_Mul_17 (S : Nat → KT (RT [(.slice (.int .i64), false)])) := fun (x8 : Int) (x5 : List Int) (x6 : List Int) (x7 : List Int) => S 17 (cn_ref01_Mul_17 x8 x5 x6 x7)
noncomputable abbrev cn_ref01_Mul_33 (x8 : Int) (x9 : Int) (x10 : Int) (x5 : List Int) (x6 : List Int) (x7 : List Int) : St := ⟨[(7, .one (.loc (.int .i64) 10002)), (6, .one (.loc (.int .i64) 10001)), (5, .one (.loc (.int .i64) 10000)), (10, .one (.val (.int .i64) x10)), (9, .one (.val (.int .i64) x9)), (8, .one (.val (.int .i64) x8))], [(10002, some ⟨.int .i64, x7, false⟩), (10001, some ⟨.int .i64, x6, false⟩), (10000, some ⟨.int .i64, x5, false⟩)]⟩
noncomputable abbrev kk_ref01_Mul_33 (S : Nat → KT (RT [(.slice (.int .i64), false)])) := fun (x8 : Int) (x9 : Int) (x10 : Int) (x5 : List Int) (x6 : List Int) (x7 : List Int) => S 33 (cn_ref01_Mul_33 x8 x9 x10 x5 x6 x7)
theorem top_ref01_Mul (S : Nat → KT (RT [(.slice (.int .i64), false)])) (a0 : List Int) (a1 : List Int) : evA (E_ref01_Mul) (lk c_ref01_Mul) S (bodyOf Tryz.f78) noX (fe_ref01_Mul) (fe_ref01_Mul) (initSt [.slice (.int .i64), .slice (.int .i64)] (a0, a1, ())) = T_ref01_Mul (kk_ref01_Mul_17 S) (kk_ref01_Mul_33 S) a0 a1 := by kernel_rfl
theorem seg_ref01_Mul_17 (S : Nat → KT (RT [(.slice (.int .i64), false)])) (x8 : Int) (x5 : List Int) (x6 : List Int) (x7 : List Int) : stepT (entry (E_ref01_Mul) (lk c_ref01_Mul) S 17 (bodyOf Tryz.f78) noX (fe_ref01_Mul) (fe_ref01_Mul)) (cn_ref01_Mul_17 x8 x5 x6 x7) = S_ref01_Mul_17 (kk_ref01_Mul_17 S) (kk_ref01_Mul_33 S) x8 x5 x6 x7 := by kernel_rfl
theorem seg_ref01_Mul_33 (S : Nat → KT (RT [(.slice (.int .i64), false)])) (x8 : Int) (x9 : Int) (x10 : Int) (x5 : List Int) (x6 : List Int) (x7 : List Int) : stepT (entry (E_ref01_Mul) (lk c_ref01_Mul) S 33 (bodyOf Tryz.f78) noX (fe_ref01_Mul) (fe_ref01_Mul)) (cn_ref01_Mul_33 x8 x9 x10 x5 x6 x7) = S_ref01_Mul_33 (kk_ref01_Mul_17 S) (kk_ref01_Mul_33 S) x8 x9 x10 x5 x6 x7 := by kernel_rfl
noncomputable abbrev tb_ref01_Mul := tab (E_ref01_Mul) (lk c_ref01_Mul) (bodyOf Tryz.f78) (fe_ref01_Mul)
theorem ok_ref01_Mul : EnvOK Tryz.prog (E_ref01_Mul) := mkE_ok tys_ok ⟨⟨fs_ref01_words.csound, ⟨Tryz.f101, by kernel_rfl, by kernel_rfl, by kernel_rfl⟩⟩, ⟨fs_ref01_bits.csound, ⟨Tryz.f102, by kernel_rfl, by kernel_rfl, by kernel_rfl⟩⟩, trivial⟩ trivial
theorem fs_ref01_Mul : FSound Tryz.prog 78 [.slice (.int .i64), .slice (.int .i64)] [(.slice (.int .i64), false)] (fun τ => F_ref01_Mul τ.1 τ.2.1) :=
  evG_sound (E := (E_ref01_Mul)) (C := (lk c_ref01_Mul)) ok_ref01_Mul mixed_ok (fn := Tryz.f78) (c := (bodyOf Tryz.f78)) (by kernel_rfl) (by kernel_rfl) (by kernel_rfl) (by kernel_rfl) (by kernel_rfl) (by kernel_rfl) (fun τ r h => by
    obtain ⟨a0, a1, ⟨⟩⟩ := τ
    obtain ⟨m, hm⟩ := Rn_ref01_Mul (fun m => kk_ref01_Mul_17 (tb_ref01_Mul m)) (fun m => kk_ref01_Mul_33 (tb_ref01_Mul m)) (fun m x8 x5 x6 x7 => (tab_succ (E_ref01_Mul) (lk c_ref01_Mul) (bodyOf Tryz.f78) (fe_ref01_Mul) m 17 (cn_ref01_Mul_17 x8 x5 x6 x7)).trans (seg_ref01_Mul_17 (tb_ref01_Mul m) x8 x5 x6 x7)) (fun m x8 x9 x10 x5 x6 x7 => (tab_succ (E_ref01_Mul) (lk c_ref01_Mul) (bodyOf Tryz.f78) (fe_ref01_Mul) m 33 (cn_ref01_Mul_33 x8 x9 x10 x5 x6 x7)).trans (seg_ref01_Mul_33 (tb_ref01_Mul m) x8 x9 x10 x5 x6 x7)) a0 a1 r h
    exact ⟨m, (top_ref01_Mul (tb_ref01_Mul m) a0 a1).trans (hm m (Nat.le_refl m))⟩)

abbrev E_ref02_Mul : Env := mkE tys [(74, callE [.bool, .slice (.int .i64)] [(.pair (.int .i64) (.slice (.int .i64)), false)] (fun τ => F_ref02_Make τ.1 τ.2.1)), (78, callE [.slice (.int .i64), .slice (.int .i64)] [(.slice (.int .i64), false)] (fun τ => F_ref01_Mul τ.1 τ.2.1))] []
def c_ref02_Mul : List (Nat × Live) := []
noncomputable abbrev fe_ref02_Mul := (finE (E_ref02_Mul) [(.pair (.int .i64) (.slice (.int .i64)), false)] Tryz.f53.results.toList)
theorem top_ref02_Mul (S : Nat → KT (RT [(.pair (.int .i64) (.slice (.int .i64)), false)])) (a0 : Int × List Int) (a1 : Int × List Int) : evA (E_ref02_Mul) (lk c_ref02_Mul) S (bodyOf Tryz.f53) noX (fe_ref02_Mul) (fe_ref02_Mul) (initSt [.pair (.int .i64) (.slice (.int .i64)), .pair (.int .i64) (.slice (.int .i64))] (a0, a1, ())) = T_ref02_Mul a0 a1 := by kernel_rfl
noncomputable abbrev tb_ref02_Mul := tab (E_ref02_Mul) (lk c_ref02_Mul) (bodyOf Tryz.f53) (fe_ref02_Mul)
theorem ok_ref02_Mul : EnvOK Tryz.prog (E_ref02_Mul) := mkE_ok tys_ok ⟨⟨fs_ref02_Make.csound, ⟨Tryz.f74, by kernel_rfl, by kernel_rfl, by kernel_rfl⟩⟩, ⟨fs_ref01_Mul.csound, ⟨Tryz.f78, by kernel_rfl, by kernel_rfl, by kernel_rfl⟩⟩, trivial⟩ trivial
theorem fs_ref02_Mul : FSound Tryz.prog 53 [.pair (.int .i64) (.slice (.int .i64)), .pair (.int .i64) (.slice (.int .i64))] [(.pair (.int .i64) (.slice (.int .i64)), false)] (fun τ => F_ref02_Mul τ.1 τ.2.1) :=
  evG_sound (E := (E_ref02_Mul)) (C := (lk c_ref02_Mul)) ok_ref02_Mul mixed_ok (fn := Tryz.f53) (c := (bodyOf Tryz.f53)) (by kernel_rfl) (by kernel_rfl) (by kernel_rfl) (by kernel_rfl) (by kernel_rfl) (by kernel_rfl) (fun τ r h => by
    obtain ⟨a0, a1, ⟨⟩⟩ := τ
    obtain ⟨m, hm⟩ := Rn_ref02_Mul a0 a1 r h
    exact ⟨m, (top_ref02_Mul (tb_ref02_Mul m) a0 a1).trans (hm m (Nat.le_refl m))⟩)

abbrev E_ref01_bit : Env := mkE tys [] []
def c_ref01_bit : List (Nat × Live) := []
noncomputable abbrev fe_ref01_bit := (finE (E_ref01_bit) [(.int .i64, false)] Tryz.f100.results.toList)
theorem top_ref01_bit (S : Nat → KT (RT [(.int .i64, false)])) (a0 : List Int) (a1 : Int) : evA (E_ref01_bit) (lk c_ref01_bit) S (bodyOf Tryz.f100) noX (fe_ref01_bit) (fe_ref01_bit) (initSt [.slice (.int .i64), .int .i64] (a0, a1, ())) = T_ref01_bit a0 a1 := by kernel_rfl
noncomputable abbrev tb_ref01_bit := tab (E_ref01_bit) (lk c_ref01_bit) (bodyOf Tryz.f100) (fe_ref01_bit)
theorem ok_ref01_bit : EnvOK Tryz.prog (E_ref01_bit) := mkE_ok tys_ok trivial trivial
theorem fs_ref01_bit : FSound Tryz.prog 100 [.slice (.int .i64), .int .i64] [(.int .i64, false)] (fun τ => F_ref01_bit τ.1 τ.2.1) :=
  evG_sound (E := (E_ref01_bit)) (C := (lk c_ref01_bit)) ok_ref01_bit mixed_ok (fn := Tryz.f100) (c := (bodyOf Tryz.f100)) (by kernel_rfl) (by kernel_rfl) (by kernel_rfl) (by kernel_rfl) (by kernel_rfl) (by kernel_rfl) (fun τ r h => by
    obtain ⟨a0, a1, ⟨⟩⟩ := τ
    obtain ⟨m, hm⟩ := Rn_ref01_bit a0 a1 r h
    exact ⟨m, (top_ref01_bit (tb_ref01_bit m) a0 a1).trans (hm m (Nat.le_refl m))⟩)

abbrev E_ref01_Cmp : Env := mkE tys [(100, callE [.slice (.int .i64), .int .i64] [(.int .i64, false)] (fun τ => F_ref01_bit τ.1 τ.2.1))] []
def c_ref01_Cmp : List (Nat × Live) := [(9, ⟨[(0, .slice (.int .i64)), (1, .slice (.int .i64)), (5, .int .i64)], [], []⟩)]
noncomputable abbrev fe_ref01_Cmp := (finE (E_ref01_Cmp) [(.int .i64, false)] Tryz.f76.results.toList)
noncomputable abbrev cn_ref01_Cmp_9 (x0 : List Int) (x1 : List Int) (x5 : Int) : St := ⟨[(5, .one (.val (.int .i64) x5)), (1, .one (.val (.slice (.int .i64)) x1)), (0, .one (.val (.slice (.int .i64)) x0))], []⟩
noncomputable abbrev kk_ref01_Cmp_9 (S : Nat → KT (RT [(.int .i64, false)])) := fun (x0 : List Int) (x1 : List Int) (x5 : Int) => S 9 (cn_ref01_Cmp_9 x0 x1 x5)
theorem top_ref01_Cmp (S : Nat → KT (RT [(.int .i64, false)])) (a0 : List Int) (a1 : List Int) : evA (E_ref01_Cmp) (lk c_ref01_Cmp) S (bodyOf Tryz.f76) noX (fe_ref01_Cmp) (fe_ref01_Cmp) (initSt [.slice (.int .i64), .slice (.int .i64)] (a0, a1, ())) = T_ref01_Cmp (kk_ref01_Cmp_9 S) a0 a1 := by kernel_rfl
theorem seg_ref01_Cmp_9 (S : Nat → KT (RT [(.int .i64, false)])) (x0 : List Int) (x1 : List Int) (x5 : Int) : stepT (entry (E_ref01_Cmp) (lk c_ref01_Cmp) S 9 (bodyOf Tryz.f76) noX (fe_ref01_Cmp) (fe_ref01_Cmp)) (cn_ref01_Cmp_9 x0 x1 x5) = S_ref01_Cmp_9 (kk_ref01_Cmp_9 S) x0 x1 x5 := by kernel_rfl
noncomputable abbrev tb_ref01_Cmp := tab (E_ref01_Cmp) (lk c_ref01_Cmp) (bodyOf Tryz.f76) (fe_ref01_Cmp)
theorem ok_ref01_Cmp : EnvOK Tryz.prog (E_ref01_Cmp) := mkE_ok tys_ok ⟨⟨fs_ref01_bit.csound, ⟨Tryz.f100, by kernel_rfl, by kernel_rfl, by kernel_rfl⟩⟩, trivial⟩ trivial
theorem fs_ref01_Cmp : FSound Tryz.prog 76 [.slice (.int .i64), .slice (.int .i64)] [(.int .i64, false)] (fun τ => F_ref01_Cmp τ.1 τ.2.1) :=
  evG_sound (E := (E_ref01_Cmp)) (C := (lk c_ref01_Cmp)) ok_ref01_Cmp mixed_ok (fn := Tryz.f76) (c := (bodyOf Tryz.f76)) (by kernel_rfl) (by kernel_rfl) (by kernel_rfl) (by kernel_rfl) (by kernel_rfl) (by kernel_rfl) (fun τ r h => by
    obtain ⟨a0, a1, ⟨⟩⟩ := τ
    obtain ⟨m, hm⟩ := Rn_ref01_Cmp (fun m => kk_ref01_Cmp_9 (tb_ref01_Cmp m)) (fun m x0 x1 x5 => (tab_succ (E_ref01_Cmp) (lk c_ref01_Cmp) (bodyOf Tryz.f76) (fe_ref01_Cmp) m 9 (cn_ref01_Cmp_9 x0 x1 x5)).trans (seg_ref01_Cmp_9 (tb_ref01_Cmp m) x0 x1 x5)) a0 a1 r h
    exact ⟨m, (top_ref01_Cmp (tb_ref01_Cmp m) a0 a1).trans (hm m (Nat.le_refl m))⟩)

abbrev E_ref02_Cmp : Env := mkE tys [(76, callE [.slice (.int .i64), .slice (.int .i64)] [(.int .i64, false)] (fun τ => F_ref01_Cmp τ.1 τ.2.1))] []
def c_ref02_Cmp : List (Nat × Live) := []
noncomputable abbrev fe_ref02_Cmp := (finE (E_ref02_Cmp) [(.int .i64, false)] Tryz.f59.results.toList)
theorem top_ref02_Cmp (S : Nat → KT (RT [(.int .i64, false)])) (a0 : Int × List Int) (a1 : Int × List Int) : evA (E_ref02_Cmp) (lk c_ref02_Cmp) S (bodyOf Tryz.f59) noX (fe_ref02_Cmp) (fe_ref02_Cmp) (initSt [.pair (.int .i64) (.slice (.int .i64)), .pair (.int .i64) (.slice (.int .i64))] (a0, a1, ())) = T_ref02_Cmp a0 a1 := by kernel_rfl
noncomputable abbrev tb_ref02_Cmp := tab (E_ref02_Cmp) (lk c_ref02_Cmp) (bodyOf Tryz.f59) (fe_ref02_Cmp)
theorem ok_ref02_Cmp : EnvOK Tryz.prog (E_ref02_Cmp) := mkE_ok tys_ok ⟨⟨fs_ref01_Cmp.csound, ⟨Tryz.f76, by kernel_rfl, by kernel_rfl, by kernel_rfl⟩⟩, trivial⟩ trivial
theorem fs_ref02_Cmp : FSound Tryz.prog 59 [.pair (.int .i64) (.slice (.int .i64)), .pair (.int .i64) (.slice (.int .i64))] [(.int .i64, false)] (fun τ => F_ref02_Cmp τ.1 τ.2.1) :=
  evG_sound (E := (E_ref02_Cmp)) (C := (lk c_ref02_Cmp)) ok_ref02_Cmp mixed_ok (fn := Tryz.f59) (c := (bodyOf Tryz.f59)) (by kernel_rfl) (by kernel_rfl) (by kernel_rfl) (by kernel_rfl) (by kernel_rfl) (by kernel_rfl) (fun τ r h => by
    obtain ⟨a0, a1, ⟨⟩⟩ := τ
    obtain ⟨m, hm⟩ := Rn_ref02_Cmp a0 a1 r h
    exact ⟨m, (top_ref02_Cmp (tb_ref02_Cmp m) a0 a1).trans (hm m (Nat.le_refl m))⟩)

abbrev E_ref05_Cmp : Env := mkE tys [(53, callE [.pair (.int .i64) (.slice (.int .i64)), .pair (.int .i64) (.slice (.int .i64))] [(.pair (.int .i64) (.slice (.int .i64)), false)] (fun τ => F_ref02_Mul τ.1 τ.2.1)), (59, callE [.pair (.int .i64) (.slice (.int .i64)), .pair (.int .i64) (.slice (.int .i64))] [(.int .i64, false)] (fun τ => F_ref02_Cmp τ.1 τ.2.1))] []
def c_ref05_Cmp : List (Nat × Live) := []
noncomputable abbrev fe_ref05_Cmp := (finE (E_ref05_Cmp) [(.int .i64, false)] Tryz.f36.results.toList)
theorem top_ref05_Cmp (S : Nat → KT (RT [(.int .i64, false)])) (a0 : (Int × List Int) × Int × List Int) (a1 : (Int × List Int) × Int × List Int) : evA (E_ref05_Cmp) (lk c_ref05_Cmp) S (bodyOf Tryz.f36) noX (fe_ref05_Cmp) (fe_ref05_Cmp) (initSt [.pair (.pair (.int .i64) (.slice (.int .i64))) (.pair (.int .i64) (.slice (.int .i64))), .pair (.pair (.int .i64) (.slice (.int .i64))) (.pair (.int .i64) (.slice (.int .i64)))] (a0, a1, ())) = T_ref05_Cmp a0 a1 := by kernel_rfl
noncomputable abbrev tb_ref05_Cmp := tab (E_ref05_Cmp) (lk c_ref05_Cmp) (bodyOf Tryz.f36) (fe_ref05_Cmp)
theorem ok_ref05_Cmp : EnvOK Tryz.prog (E_ref05_Cmp) := mkE_ok tys_ok ⟨⟨fs_ref02_Mul.csound, ⟨Tryz.f53, by kernel_rfl, by kernel_rfl, by kernel_rfl⟩⟩, ⟨fs_ref02_Cmp.csound, ⟨Tryz.f59, by kernel_rfl, by kernel_rfl, by kernel_rfl⟩⟩, trivial⟩ trivial
theorem fs_ref05_Cmp : FSound Tryz.prog 36 [.pair (.pair (.int .i64) (.slice (.int .i64))) (.pair (.int .i64) (.slice (.int .i64))), .pair (.pair (.int .i64) (.slice (.int .i64))) (.pair (.int .i64) (.slice (.int .i64)))] [(.int .i64, false)] (fun τ => F_ref05_Cmp τ.1 τ.2.1) :=
  evG_sound (E := (E_ref05_Cmp)) (C := (lk c_ref05_Cmp)) ok_ref05_Cmp mixed_ok (fn := Tryz.f36) (c := (bodyOf Tryz.f36)) (by kernel_rfl) (by kernel_rfl) (by kernel_rfl) (by kernel_rfl) (by kernel_rfl) (by kernel_rfl) (fun τ r h => by
    obtain ⟨a0, a1, ⟨⟩⟩ := τ
    obtain ⟨m, hm⟩ := Rn_ref05_Cmp a0 a1 r h
    exact ⟨m, (top_ref05_Cmp (tb_ref05_Cmp m) a0 a1).trans (hm m (Nat.le_refl m))⟩)

abbrev E_ref06_Make : Env := mkE tys [(36, callE [.pair (.pair (.int .i64) (.slice (.int .i64))) (.pair (.int .i64) (.slice (.int .i64))), .pair (.pair (.int .i64) (.slice (.int .i64))) (.pair (.int .i64) (.slice (.int .i64)))] [(.int .i64, false)] (fun τ => F_ref05_Cmp τ.1 τ.2.1))] []
def c_ref06_Make : List (Nat × Live) := []
noncomputable abbrev fe_ref06_Make := (finE (E_ref06_Make) [(.pair (.pair (.pair (.int .i64) (.slice (.int .i64))) (.pair (.int .i64) (.slice (.int .i64)))) (.pair (.pair (.int .i64) (.slice (.int .i64))) (.pair (.int .i64) (.slice (.int .i64)))), false)] Tryz.f41.results.toList)
theorem top_ref06_Make (S : Nat → KT (RT [(.pair (.pair (.pair (.int .i64) (.slice (.int .i64))) (.pair (.int .i64) (.slice (.int .i64)))) (.pair (.pair (.int .i64) (.slice (.int .i64))) (.pair (.int .i64) (.slice (.int .i64)))), false)])) (a0 : (Int × List Int) × Int × List Int) (a1 : (Int × List Int) × Int × List Int) : evA (E_ref06_Make) (lk c_ref06_Make) S (bodyOf Tryz.f41) noX (fe_ref06_Make) (fe_ref06_Make) (initSt [.pair (.pair (.int .i64) (.slice (.int .i64))) (.pair (.int .i64) (.slice (.int .i64))), .pair (.pair (.int .i64) (.slice (.int .i64))) (.pair (.int .i64) (.slice (.int .i64)))] (a0, a1, ())) = T_ref06_Make a0 a1 := by kernel_rfl
noncomputable abbrev tb_ref06_Make := tab (E_ref06_Make) (lk c_ref06_Make) (bodyOf Tryz.f41) (fe_ref06_Make)
theorem ok_ref06_Make : EnvOK Tryz.prog (E_ref06_Make) := mkE_ok tys_ok ⟨⟨fs_ref05_Cmp.csound, ⟨Tryz.f36, by kernel_rfl, by kernel_rfl, by kernel_rfl⟩⟩, trivial⟩ trivial
theorem fs_ref06_Make : FSound Tryz.prog 41 [.pair (.pair (.int .i64) (.slice (.int .i64))) (.pair (.int .i64) (.slice (.int .i64))), .pair (.pair (.int .i64) (.slice (.int .i64))) (.pair (.int .i64) (.slice (.int .i64)))] [(.pair (.pair (.pair (.int .i64) (.slice (.int .i64))) (.pair (.int .i64) (.slice (.int .i64)))) (.pair (.pair (.int .i64) (.slice (.int .i64))) (.pair (.int .i64) (.slice (.int .i64)))), false)] (fun τ => F_ref06_Make τ.1 τ.2.1) :=
  evG_sound (E := (E_ref06_Make)) (C := (lk c_ref06_Make)) ok_ref06_Make mixed_ok (fn := Tryz.f41) (c := (bodyOf Tryz.f41)) (by kernel_rfl) (by kernel_rfl) (by kernel_rfl) (by kernel_rfl) (by kernel_rfl) (by kernel_rfl) (fun τ r h => by
    obtain ⟨a0, a1, ⟨⟩⟩ := τ
    obtain ⟨m, hm⟩ := Rn_ref06_Make a0 a1 r h
    exact ⟨m, (top_ref06_Make (tb_ref06_Make m) a0 a1).trans (hm m (Nat.le_refl m))⟩)

abbrev E_law06_of : Env := mkE tys [(20, callE [.pair (.pair (.bool) (.slice (.int .u32))) (.slice (.int .u32))] [(.pair (.pair (.int .i64) (.slice (.int .i64))) (.pair (.int .i64) (.slice (.int .i64))), false)] (fun τ => F_law06_q τ.1)), (41, callE [.pair (.pair (.int .i64) (.slice (.int .i64))) (.pair (.int .i64) (.slice (.int .i64))), .pair (.pair (.int .i64) (.slice (.int .i64))) (.pair (.int .i64) (.slice (.int .i64)))] [(.pair (.pair (.pair (.int .i64) (.slice (.int .i64))) (.pair (.int .i64) (.slice (.int .i64)))) (.pair (.pair (.int .i64) (.slice (.int .i64))) (.pair (.int .i64) (.slice (.int .i64)))), false)] (fun τ => F_ref06_Make τ.1 τ.2.1))] []
def c_law06_of : List (Nat × Live) := []
noncomputable abbrev fe_law06_of := (finE (E_law06_of) [(.pair (.pair (.pair (.int .i64) (.slice (.int .i64))) (.pair (.int .i64) (.slice (.int .i64)))) (.pair (.pair (.int .i64) (.slice (.int .i64))) (.pair (.int .i64) (.slice (.int .i64)))), false)] Tryz.f9.results.toList)
theorem top_law06_of (S : Nat → KT (RT [(.pair (.pair (.pair (.int .i64) (.slice (.int .i64))) (.pair (.int .i64) (.slice (.int .i64)))) (.pair (.pair (.int .i64) (.slice (.int .i64))) (.pair (.int .i64) (.slice (.int .i64)))), false)])) (a0 : ((Bool × List Int) × List Int) × (Bool × List Int) × List Int) : evA (E_law06_of) (lk c_law06_of) S (bodyOf Tryz.f9) noX (fe_law06_of) (fe_law06_of) (initSt [.pair (.pair (.pair (.bool) (.slice (.int .u32))) (.slice (.int .u32))) (.pair (.pair (.bool) (.slice (.int .u32))) (.slice (.int .u32)))] (a0, ())) = T_law06_of a0 := by kernel_rfl
noncomputable abbrev tb_law06_of := tab (E_law06_of) (lk c_law06_of) (bodyOf Tryz.f9) (fe_law06_of)
theorem ok_law06_of : EnvOK Tryz.prog (E_law06_of) := mkE_ok tys_ok ⟨⟨fs_law06_q.csound, ⟨Tryz.f20, by kernel_rfl, by kernel_rfl, by kernel_rfl⟩⟩, ⟨fs_ref06_Make.csound, ⟨Tryz.f41, by kernel_rfl, by kernel_rfl, by kernel_rfl⟩⟩, trivial⟩ trivial
theorem fs_law06_of : FSound Tryz.prog 9 [.pair (.pair (.pair (.bool) (.slice (.int .u32))) (.slice (.int .u32))) (.pair (.pair (.bool) (.slice (.int .u32))) (.slice (.int .u32)))] [(.pair (.pair (.pair (.int .i64) (.slice (.int .i64))) (.pair (.int .i64) (.slice (.int .i64)))) (.pair (.pair (.int .i64) (.slice (.int .i64))) (.pair (.int .i64) (.slice (.int .i64)))), false)] (fun τ => F_law06_of τ.1) :=
  evG_sound (E := (E_law06_of)) (C := (lk c_law06_of)) ok_law06_of mixed_ok (fn := Tryz.f9) (c := (bodyOf Tryz.f9)) (by kernel_rfl) (by kernel_rfl) (by kernel_rfl) (by kernel_rfl) (by kernel_rfl) (by kernel_rfl) (fun τ r h => by
    obtain ⟨a0, ⟨⟩⟩ := τ
    obtain ⟨m, hm⟩ := Rn_law06_of a0 r h
    exact ⟨m, (top_law06_of (tb_law06_of m) a0).trans (hm m (Nat.le_refl m))⟩)

abbrev E_ref01_DivMod : Env := mkE tys [(101, callE [.slice (.int .i64)] [(.slice (.int .i64), true)] (fun τ => F_ref01_words τ.1)), (102, callE [.slice (.int .i64)] [(.slice (.int .i64), false)] (fun τ => F_ref01_bits τ.1))] [(99, mixO (callO [] false (.int .i64) .pre (fun τ l => O_ref01_Trim l)) (callI (callE [.slice (.int .i64)] [(.slice (.int .i64), false)] (fun τ => F_ref01_Trim τ.1))))]
def c_ref01_DivMod : List (Nat × Live) := [(29, ⟨[(0, .slice (.int .i64)), (8, .int .i64), (10, .int .i64)], [(false, 6, .int .i64), (false, 7, .int .i64), (false, 9, .int .i64)], []⟩), (45, ⟨[(0, .slice (.int .i64)), (8, .int .i64), (10, .int .i64), (11, .int .i64), (12, .int .i64)], [(false, 6, .int .i64), (false, 7, .int .i64), (false, 9, .int .i64)], []⟩), (69, ⟨[(0, .slice (.int .i64)), (8, .int .i64), (10, .int .i64), (14, .int .i64)], [(false, 6, .int .i64), (false, 7, .int .i64), (false, 9, .int .i64)], []⟩), (93, ⟨[(0, .slice (.int .i64)), (8, .int .i64), (10, .int .i64), (15, .int .i64), (16, .int .i64)], [(false, 6, .int .i64), (false, 7, .int .i64), (false, 9, .int .i64)], []⟩)]
noncomputable abbrev fe_ref01_DivMod := (finE (E_ref01_DivMod) [(.slice (.int .i64), false), (.slice (.int .i64), false)] Tryz.f105.results.toList)
noncomputable abbrev cn_ref01_DivMod_29 (x0 : List Int) (x8 : Int) (x10 : Int) (x6 : List Int) (x7 : List Int) (x9 : List Int) : St := ⟨[(9, .one (.loc (.int .i64) 10002)), (7, .one (.loc (.int .i64) 10001)), (6, .one (.loc (.int .i64) 10000)), (10, .one (.val (.int .i64) x10)), (8, .one (.val (.int .i64) x8)), (0, .one (.val (.slice (.int .i64)) x0))], [(10002, some ⟨.int .i64, x9, false⟩), (10001, some ⟨.int .i64, x7, false⟩), (10000, some ⟨.int .i64, x6, false⟩)]⟩
noncomputable abbrev kk_ref01_DivMod_29 (S : Nat → KT (RT [(.slice (.int .i64), false), (.slice (.int .i64), false)])) := fun (x0 : List Int) (x8 : Int) (x10 : Int) (x6 : List Int) (x7 : List Int) (x9 : List Int) => S 29 (cn_ref01_DivMod_29 x0 x8 x10 x6 x7 x9)
noncomputable abbrev cn_ref01_DivMod_45 (x0 : List Int) (x8 : Int) (x10 : Int) (x11 : Int) (x12 : Int) (x6 : List Int) (x7 : List Int) (x9 : List Int) : St := ⟨[(9, .one (.loc (.int .i64) 10002)), (7, .one (.loc (.int .i64) 10001)), (6, .one (.loc (.int .i64) 10000)), (12, .one (.val (.int .i64) x12)), (11, .one (.val (.int .i64) x11)), (10, .one (.val (.int .i64) x10)), (8, .one (.val (.int .i64) x8)), (0, .one (.val (.slice (.int .i64)) x0))], [(10002, some ⟨.int .i64, x9, false⟩), (10001, some ⟨.int .i64, x7, false⟩), (10000, some ⟨.int .i64, x6, false⟩)]⟩
noncomputable abbrev kk_ref01_DivMod_45 (S : Nat → KT (RT [(.slice (.int .i64), false), (.slice (.int .i64), false)])) := fun (x0 : List Int) (x8 : Int) (x10 : Int) (x11 : Int) (x12 : Int) (x6 : List Int) (x7 : List Int) (x9 : List Int) => S 45 (cn_ref01_DivMod_45 x0 x8 x10 x11 x12 x6 x7 x9)
noncomputable abbrev cn_ref01_DivMod_69 (x0 : List Int) (x8 : Int) (x10 : Int) (x14 : Int) (x6 : List Int) (x7 : List Int) (x9 : List Int) : St := ⟨[(9, .one (.loc (.int .i64) 10002)), (7, .one (.loc (.int .i64) 10001)), (6, .one (.loc (.int .i64) 10000)), (14, .one (.val (.int .i64) x14)), (10, .one (.val (.int .i64) x10)), (8, .one (.val (.int .i64) x8)), (0, .one (.val (.slice (.int .i64)) x0))], [(10002, some ⟨.int .i64, x9, false⟩), (10001, some ⟨.int .i64, x7, false⟩), (10000, some ⟨.int .i64, x6, false⟩)]⟩
noncomputable abbrev kk_ref01_DivMod_69 (S : Nat → KT (RT [(.slice (.int .i64), false), (.slice (.int .i64), false)])) := fun (x0 : List Int) (x8 : Int) (x10 : Int) (x14 : Int) (x6 : List Int) (x7 : List Int) (x9 : List Int) => S 69 (cn_ref01_DivMod_69 x0 x8 x10 x14 x6 x7 x9)
noncomputable abbrev cn_ref01_DivMod_93 (x0 : List Int) (x8 : Int) (x10 : Int) (x15 : Int) (x16 : Int) (x6 : List Int) (x7 : List Int) (x9 : List Int) : St := ⟨[(9, .one (.loc (.int .i64) 10002)), (7, .one (.loc (.int .i64) 10001)), (6, .one (.loc (.int .i64) 10000)), (16, .one (.val (.int .i64) x16)), (15, .one (.val (.int .i64) x15)), (10, .one (.val (.int .i64) x10)), (8, .one (.val (.int .i64) x8)), (0, .one (.val (.slice (.int .i64)) x0))], [(10002, some ⟨.int .i64, x9, false⟩), (10001, some ⟨.int .i64, x7, false⟩), (10000, some ⟨.int .i64, x6, false⟩)]⟩
noncomputable abbrev kk_ref01_DivMod_93 (S : Nat → KT (RT [(.slice (.int .i64), false), (.slice (.int .i64), false)])) := fun (x0 : List Int) (x8 : Int) (x10 : Int) (x15 : Int) (x16 : Int) (x6 : List Int) (x7 : List Int) (x9 : List Int) => S 93 (cn_ref01_DivMod_93 x0 x8 x10 x15 x16 x6 x7 x9)
theorem top_ref01_DivMod (S : Nat → KT (RT [(.slice (.int .i64), false), (.slice (.int .i64), false)])) (a0 : List Int) (a1 : List Int) : evA (E_ref01_DivMod) (lk c_ref01_DivMod) S (bodyOf Tryz.f105) noX (fe_ref01_DivMod) (fe_ref01_DivMod) (initSt [.slice (.int .i64), .slice (.int .i64)] (a0, a1, ())) = T_ref01_DivMod (kk_ref01_DivMod_29 S) (kk_ref01_DivMod_45 S) (kk_ref01_DivMod_69 S) (kk_ref01_DivMod_93 S) a0 a1 := by kernel_rfl
theorem seg_ref01_DivMod_29 (S : Nat → KT (RT [(.slice (.int .i64), false), (.slice (.int .i64), false)])) (x0 : List Int) (x8 : Int) (x10 : Int) (x6 : List Int) (x7 : List Int) (x9 : List Int) : stepT (entry (E_ref01_DivMod) (lk c_ref01_DivMod) S 29 (bodyOf Tryz.f105) noX (fe_ref01_DivMod) (fe_ref01_DivMod)) (cn_ref01_DivMod_29 x0 x8 x10 x6 x7 x9) = S_ref01_DivMod_29 (kk_ref01_DivMod_29 S) (kk_ref01_DivMod_45 S) (kk_ref01_DivMod_69 S) (kk_ref01_DivMod_93 S) x0 x8 x10 x6 x7 x9 := by kernel_rfl
theorem seg_ref01_DivMod_45 (S : Nat → KT (RT [(.slice (.int .i64), false), (.slice (.int .i64), false)])) (x0 : List Int) (x8 : Int) (x10 : Int) (x11 : Int) (x12 : Int) (x6 : List Int) (x7 : List Int) (x9 : List Int) : stepT (entry (E_ref01_DivMod) (lk c_ref01_DivMod) S 45 (bodyOf Tryz.f105) noX (fe_ref01_DivMod) (fe_ref01_DivMod)) (cn_ref01_DivMod_45 x0 x8 x10 x11 x12 x6 x7 x9) = S_ref01_DivMod_45 (kk_ref01_DivMod_29 S) (kk_ref01_DivMod_45 S) (kk_ref01_DivMod_69 S) (kk_ref01_DivMod_93 S) x0 x8 x10 x11 x12 x6 x7 x9 := by kernel_rfl
theorem seg_ref01_DivMod_69 (S : Nat → KT (RT [(.slice (.int .i64), false), (.slice (.int .i64), false)])) (x0 : List Int) (x8 : Int) (x10 : Int) (x14 : Int) (x6 : List Int) (x7 : List Int) (x9 : List Int) : stepT (entry (E_ref01_DivMod) (lk c_ref01_DivMod) S 69 (bodyOf Tryz.f105) noX (fe_ref01_DivMod) (fe_ref01_DivMod)) (cn_ref01_DivMod_69 x0 x8 x10 x14 x6 x7 x9) = S_ref01_DivMod_69 (kk_ref01_DivMod_29 S) (kk_ref01_DivMod_45 S) (kk_ref01_DivMod_69 S) (kk_ref01_DivMod_93 S) x0 x8 x10 x14 x6 x7 x9 := by kernel_rfl
theorem seg_ref01_DivMod_93 (S : Nat → KT (RT [(.slice (.int .i64), false), (.slice (.int .i64), false)])) (x0 : List Int) (x8 : Int) (x10 : Int) (x15 : Int) (x16 : Int) (x6 : List Int) (x7 : List Int) (x9 : List Int) : stepT (entry (E_ref01_DivMod) (lk c_ref01_DivMod) S 93 (bodyOf Tryz.f105) noX (fe_ref01_DivMod) (fe_ref01_DivMod)) (cn_ref01_DivMod_93 x0 x8 x10 x15 x16 x6 x7 x9) = S_ref01_DivMod_93 (kk_ref01_DivMod_29 S) (kk_ref01_DivMod_45 S) (kk_ref01_DivMod_69 S) (kk_ref01_DivMod_93 S) x0 x8 x10 x15 x16 x6 x7 x9 := by kernel_rfl
noncomputable abbrev tb_ref01_DivMod := tab (E_ref01_DivMod) (lk c_ref01_DivMod) (bodyOf Tryz.f105) (fe_ref01_DivMod)
theorem ok_ref01_DivMod : EnvOK Tryz.prog (E_ref01_DivMod) := mkE_ok tys_ok ⟨⟨fs_ref01_words.csound, ⟨Tryz.f101, by kernel_rfl, by kernel_rfl, by kernel_rfl⟩⟩, ⟨fs_ref01_bits.csound, ⟨Tryz.f102, by kernel_rfl, by kernel_rfl, by kernel_rfl⟩⟩, trivial⟩ ⟨⟨PSound.mix os_ref01_Trim.psound (CSound.psound fs_ref01_Trim.csound), ⟨Tryz.f99, by kernel_rfl, by kernel_rfl, by kernel_rfl⟩⟩, trivial⟩
theorem fs_ref01_DivMod : FSound Tryz.prog 105 [.slice (.int .i64), .slice (.int .i64)] [(.slice (.int .i64), false), (.slice (.int .i64), false)] (fun τ => F_ref01_DivMod τ.1 τ.2.1) :=
  evG_sound (E := (E_ref01_DivMod)) (C := (lk c_ref01_DivMod)) ok_ref01_DivMod mixed_ok (fn := Tryz.f105) (c := (bodyOf Tryz.f105)) (by kernel_rfl) (by kernel_rfl) (by kernel_rfl) (by kernel_rfl) (by kernel_rfl) (by kernel_rfl) (fun τ r h => by
    obtain ⟨a0, a1, ⟨⟩⟩ := τ
    obtain ⟨m, hm⟩ := Rn_ref01_DivMod (fun m => kk_ref01_DivMod_29 (tb_ref01_DivMod m)) (fun m => kk_ref01_DivMod_45 (tb_ref01_DivMod m)) (fun m => kk_ref01_DivMod_69 (tb_ref01_DivMod m)) (fun m => kk_ref01_DivMod_93 (tb_ref01_DivMod m)) (fun m x0 x8 x10 x6 x7 x9 => (tab_succ (E_ref01_DivMod) (lk c_ref01_DivMod) (bodyOf Tryz.f105) (fe_ref01_DivMod) m 29 (cn_ref01_DivMod_29 x0 x8 x10 x6 x7 x9)).trans (seg_ref01_DivMod_29 (tb_ref01_DivMod m) x0 x8 x10 x6 x7 x9)) (fun m x0 x8 x10 x11 x12 x6 x7 x9 => (tab_succ (E_ref01_DivMod) (lk c_ref01_DivMod) (bodyOf Tryz.f105) (fe_ref01_DivMod) m 45 (cn_ref01_DivMod_45 x0 x8 x10 x11 x12 x6 x7 x9)).trans (seg_ref01_DivMod_45 (tb_ref01_DivMod m) x0 x8 x10 x11 x12 x6 x7 x9)) (fun m x0 x8 x10 x14 x6 x7 x9 => (tab_succ (E_ref01_DivMod) (lk c_ref01_DivMod) (bodyOf Tryz.f105) (fe_ref01_DivMod) m 69 (cn_ref01_DivMod_69 x0 x8 x10 x14 x6 x7 x9)).trans (seg_ref01_DivMod_69 (tb_ref01_DivMod m) x0 x8 x10 x14 x6 x7 x9)) (fun m x0 x8 x10 x15 x16 x6 x7 x9 => (tab_succ (E_ref01_DivMod) (lk c_ref01_DivMod) (bodyOf Tryz.f105) (fe_ref01_DivMod) m 93 (cn_ref01_DivMod_93 x0 x8 x10 x15 x16 x6 x7 x9)).trans (seg_ref01_DivMod_93 (tb_ref01_DivMod m) x0 x8 x10 x15 x16 x6 x7 x9)) a0 a1 r h
    exact ⟨m, (top_ref01_DivMod (tb_ref01_DivMod m) a0 a1).trans (hm m (Nat.le_refl m))⟩)

abbrev E_ref03_Quo : Env := mkE tys [(74, callE [.bool, .slice (.int .i64)] [(.pair (.int .i64) (.slice (.int .i64)), false)] (fun τ => F_ref02_Make τ.1 τ.2.1)), (105, callE [.slice (.int .i64), .slice (.int .i64)] [(.slice (.int .i64), false), (.slice (.int .i64), false)] (fun τ => F_ref01_DivMod τ.1 τ.2.1))] []
def c_ref03_Quo : List (Nat × Live) := []
noncomputable abbrev fe_ref03_Quo := (finE (E_ref03_Quo) [(.pair (.int .i64) (.slice (.int .i64)), false), (.pair (.int .i64) (.slice (.int .i64)), false)] Tryz.f82.results.toList)
theorem top_ref03_Quo (S : Nat → KT (RT [(.pair (.int .i64) (.slice (.int .i64)), false), (.pair (.int .i64) (.slice (.int .i64)), false)])) (a0 : Int × List Int) (a1 : Int × List Int) : evA (E_ref03_Quo) (lk c_ref03_Quo) S (bodyOf Tryz.f82) noX (fe_ref03_Quo) (fe_ref03_Quo) (initSt [.pair (.int .i64) (.slice (.int .i64)), .pair (.int .i64) (.slice (.int .i64))] (a0, a1, ())) = T_ref03_Quo a0 a1 := by kernel_rfl
noncomputable abbrev tb_ref03_Quo := tab (E_ref03_Quo) (lk c_ref03_Quo) (bodyOf Tryz.f82) (fe_ref03_Quo)
theorem ok_ref03_Quo : EnvOK Tryz.prog (E_ref03_Quo) := mkE_ok tys_ok ⟨⟨fs_ref02_Make.csound, ⟨Tryz.f74, by kernel_rfl, by kernel_rfl, by kernel_rfl⟩⟩, ⟨fs_ref01_DivMod.csound, ⟨Tryz.f105, by kernel_rfl, by kernel_rfl, by kernel_rfl⟩⟩, trivial⟩ trivial
theorem fs_ref03_Quo : FSound Tryz.prog 82 [.pair (.int .i64) (.slice (.int .i64)), .pair (.int .i64) (.slice (.int .i64))] [(.pair (.int .i64) (.slice (.int .i64)), false), (.pair (.int .i64) (.slice (.int .i64)), false)] (fun τ => F_ref03_Quo τ.1 τ.2.1) :=
  evG_sound (E := (E_ref03_Quo)) (C := (lk c_ref03_Quo)) ok_ref03_Quo mixed_ok (fn := Tryz.f82) (c := (bodyOf Tryz.f82)) (by kernel_rfl) (by kernel_rfl) (by kernel_rfl) (by kernel_rfl) (by kernel_rfl) (by kernel_rfl) (fun τ r h => by
    obtain ⟨a0, a1, ⟨⟩⟩ := τ
    obtain ⟨m, hm⟩ := Rn_ref03_Quo a0 a1 r h
    exact ⟨m, (top_ref03_Quo (tb_ref03_Quo m) a0 a1).trans (hm m (Nat.le_refl m))⟩)

abbrev E_ref03_Abs : Env := mkE tys [(74, callE [.bool, .slice (.int .i64)] [(.pair (.int .i64) (.slice (.int .i64)), false)] (fun τ => F_ref02_Make τ.1 τ.2.1))] []
def c_ref03_Abs : List (Nat × Live) := []
noncomputable abbrev fe_ref03_Abs := (finE (E_ref03_Abs) [(.pair (.int .i64) (.slice (.int .i64)), false)] Tryz.f104.results.toList)
theorem top_ref03_Abs (S : Nat → KT (RT [(.pair (.int .i64) (.slice (.int .i64)), false)])) (a0 : Int × List Int) : evA (E_ref03_Abs) (lk c_ref03_Abs) S (bodyOf Tryz.f104) noX (fe_ref03_Abs) (fe_ref03_Abs) (initSt [.pair (.int .i64) (.slice (.int .i64))] (a0, ())) = T_ref03_Abs a0 := by kernel_rfl
noncomputable abbrev tb_ref03_Abs := tab (E_ref03_Abs) (lk c_ref03_Abs) (bodyOf Tryz.f104) (fe_ref03_Abs)
theorem ok_ref03_Abs : EnvOK Tryz.prog (E_ref03_Abs) := mkE_ok tys_ok ⟨⟨fs_ref02_Make.csound, ⟨Tryz.f74, by kernel_rfl, by kernel_rfl, by kernel_rfl⟩⟩, trivial⟩ trivial
theorem fs_ref03_Abs : FSound Tryz.prog 104 [.pair (.int .i64) (.slice (.int .i64))] [(.pair (.int .i64) (.slice (.int .i64)), false)] (fun τ => F_ref03_Abs τ.1) :=
  evG_sound (E := (E_ref03_Abs)) (C := (lk c_ref03_Abs)) ok_ref03_Abs mixed_ok (fn := Tryz.f104) (c := (bodyOf Tryz.f104)) (by kernel_rfl) (by kernel_rfl) (by kernel_rfl) (by kernel_rfl) (by kernel_rfl) (by kernel_rfl) (fun τ r h => by
    obtain ⟨a0, ⟨⟩⟩ := τ
    obtain ⟨m, hm⟩ := Rn_ref03_Abs a0 r h
    exact ⟨m, (top_ref03_Abs (tb_ref03_Abs m) a0).trans (hm m (Nat.le_refl m))⟩)

abbrev E_ref03_Gcd : Env := mkE tys [(82, callE [.pair (.int .i64) (.slice (.int .i64)), .pair (.int .i64) (.slice (.int .i64))] [(.pair (.int .i64) (.slice (.int .i64)), false), (.pair (.int .i64) (.slice (.int .i64)), false)] (fun τ => F_ref03_Quo τ.1 τ.2.1)), (104, callE [.pair (.int .i64) (.slice (.int .i64))] [(.pair (.int .i64) (.slice (.int .i64)), false)] (fun τ => F_ref03_Abs τ.1))] []
def c_ref03_Gcd : List (Nat × Live) := [(9, ⟨[], [(true, 4, .pair (.int .i64) (.slice (.int .i64))), (true, 5, .pair (.int .i64) (.slice (.int .i64))), (true, 6, .pair (.int .i64) (.slice (.int .i64)))], []⟩)]
noncomputable abbrev fe_ref03_Gcd := (finE (E_ref03_Gcd) [(.pair (.int .i64) (.slice (.int .i64)), false)] Tryz.f81.results.toList)
noncomputable abbrev cn_ref03_Gcd_9 (x4 : Int × List Int) (x5 : Int × List Int) (x6 : Int × List Int) : St := ⟨[(6, .one (.ptr 10002 0 [])), (5, .one (.ptr 10001 0 [])), (4, .one (.ptr 10000 0 []))], [(10002, some ⟨.pair (.int .i64) (.slice (.int .i64)), [x6], false⟩), (10001, some ⟨.pair (.int .i64) (.slice (.int .i64)), [x5], false⟩), (10000, some ⟨.pair (.int .i64) (.slice (.int .i64)), [x4], false⟩)]⟩
noncomputable abbrev kk_ref03_Gcd_9 (S : Nat → KT (RT [(.pair (.int .i64) (.slice (.int .i64)), false)])) := fun (x4 : Int × List Int) (x5 : Int × List Int) (x6 : Int × List Int) => S 9 (cn_ref03_Gcd_9 x4 x5 x6)
theorem top_ref03_Gcd (S : Nat → KT (RT [(.pair (.int .i64) (.slice (.int .i64)), false)])) (a0 : Int × List Int) (a1 : Int × List Int) : evA (E_ref03_Gcd) (lk c_ref03_Gcd) S (bodyOf Tryz.f81) noX (fe_ref03_Gcd) (fe_ref03_Gcd) (initSt [.pair (.int .i64) (.slice (.int .i64)), .pair (.int .i64) (.slice (.int .i64))] (a0, a1, ())) = T_ref03_Gcd (kk_ref03_Gcd_9 S) a0 a1 := by kernel_rfl
theorem seg_ref03_Gcd_9 (S : Nat → KT (RT [(.pair (.int .i64) (.slice (.int .i64)), false)])) (x4 : Int × List Int) (x5 : Int × List Int) (x6 : Int × List Int) : stepT (entry (E_ref03_Gcd) (lk c_ref03_Gcd) S 9 (bodyOf Tryz.f81) noX (fe_ref03_Gcd) (fe_ref03_Gcd)) (cn_ref03_Gcd_9 x4 x5 x6) = S_ref03_Gcd_9 (kk_ref03_Gcd_9 S) x4 x5 x6 := by kernel_rfl
noncomputable abbrev tb_ref03_Gcd := tab (E_ref03_Gcd) (lk c_ref03_Gcd) (bodyOf Tryz.f81) (fe_ref03_Gcd)
theorem ok_ref03_Gcd : EnvOK Tryz.prog (E_ref03_Gcd) := mkE_ok tys_ok ⟨⟨fs_ref03_Quo.csound, ⟨Tryz.f82, by kernel_rfl, by kernel_rfl, by kernel_rfl⟩⟩, ⟨fs_ref03_Abs.csound, ⟨Tryz.f104, by kernel_rfl, by kernel_rfl, by kernel_rfl⟩⟩, trivial⟩ trivial
theorem fs_ref03_Gcd : FSound Tryz.prog 81 [.pair (.int .i64) (.slice (.int .i64)), .pair (.int .i64) (.slice (.int .i64))] [(.pair (.int .i64) (.slice (.int .i64)), false)] (fun τ => F_ref03_Gcd τ.1 τ.2.1) :=
  evG_sound (E := (E_ref03_Gcd)) (C := (lk c_ref03_Gcd)) ok_ref03_Gcd mixed_ok (fn := Tryz.f81) (c := (bodyOf Tryz.f81)) (by kernel_rfl) (by kernel_rfl) (by kernel_rfl) (by kernel_rfl) (by kernel_rfl) (by kernel_rfl) (fun τ r h => by
    obtain ⟨a0, a1, ⟨⟩⟩ := τ
    obtain ⟨m, hm⟩ := Rn_ref03_Gcd (fun m => kk_ref03_Gcd_9 (tb_ref03_Gcd m)) (fun m x4 x5 x6 => (tab_succ (E_ref03_Gcd) (lk c_ref03_Gcd) (bodyOf Tryz.f81) (fe_ref03_Gcd) m 9 (cn_ref03_Gcd_9 x4 x5 x6)).trans (seg_ref03_Gcd_9 (tb_ref03_Gcd m) x4 x5 x6)) a0 a1 r h
    exact ⟨m, (top_ref03_Gcd (tb_ref03_Gcd m) a0 a1).trans (hm m (Nat.le_refl m))⟩)

abbrev E_ref05_Reduced : Env := mkE tys [(81, callE [.pair (.int .i64) (.slice (.int .i64)), .pair (.int .i64) (.slice (.int .i64))] [(.pair (.int .i64) (.slice (.int .i64)), false)] (fun τ => F_ref03_Gcd τ.1 τ.2.1)), (82, callE [.pair (.int .i64) (.slice (.int .i64)), .pair (.int .i64) (.slice (.int .i64))] [(.pair (.int .i64) (.slice (.int .i64)), false), (.pair (.int .i64) (.slice (.int .i64)), false)] (fun τ => F_ref03_Quo τ.1 τ.2.1))] []
def c_ref05_Reduced : List (Nat × Live) := []
noncomputable abbrev fe_ref05_Reduced := (finE (E_ref05_Reduced) [(.pair (.pair (.int .i64) (.slice (.int .i64))) (.pair (.int .i64) (.slice (.int .i64))), false)] Tryz.f57.results.toList)
theorem top_ref05_Reduced (S : Nat → KT (RT [(.pair (.pair (.int .i64) (.slice (.int .i64))) (.pair (.int .i64) (.slice (.int .i64))), false)])) (a0 : (Int × List Int) × Int × List Int) : evA (E_ref05_Reduced) (lk c_ref05_Reduced) S (bodyOf Tryz.f57) noX (fe_ref05_Reduced) (fe_ref05_Reduced) (initSt [.pair (.pair (.int .i64) (.slice (.int .i64))) (.pair (.int .i64) (.slice (.int .i64)))] (a0, ())) = T_ref05_Reduced a0 := by kernel_rfl
noncomputable abbrev tb_ref05_Reduced := tab (E_ref05_Reduced) (lk c_ref05_Reduced) (bodyOf Tryz.f57) (fe_ref05_Reduced)
theorem ok_ref05_Reduced : EnvOK Tryz.prog (E_ref05_Reduced) := mkE_ok tys_ok ⟨⟨fs_ref03_Gcd.csound, ⟨Tryz.f81, by kernel_rfl, by kernel_rfl, by kernel_rfl⟩⟩, ⟨fs_ref03_Quo.csound, ⟨Tryz.f82, by kernel_rfl, by kernel_rfl, by kernel_rfl⟩⟩, trivial⟩ trivial
theorem fs_ref05_Reduced : FSound Tryz.prog 57 [.pair (.pair (.int .i64) (.slice (.int .i64))) (.pair (.int .i64) (.slice (.int .i64)))] [(.pair (.pair (.int .i64) (.slice (.int .i64))) (.pair (.int .i64) (.slice (.int .i64))), false)] (fun τ => F_ref05_Reduced τ.1) :=
  evG_sound (E := (E_ref05_Reduced)) (C := (lk c_ref05_Reduced)) ok_ref05_Reduced mixed_ok (fn := Tryz.f57) (c := (bodyOf Tryz.f57)) (by kernel_rfl) (by kernel_rfl) (by kernel_rfl) (by kernel_rfl) (by kernel_rfl) (by kernel_rfl) (fun τ r h => by
    obtain ⟨a0, ⟨⟩⟩ := τ
    obtain ⟨m, hm⟩ := Rn_ref05_Reduced a0 r h
    exact ⟨m, (top_ref05_Reduced (tb_ref05_Reduced m) a0).trans (hm m (Nat.le_refl m))⟩)

abbrev E_ref01_To : Env := mkE tys [] [(99, mixO (callO [] false (.int .i64) .pre (fun τ l => O_ref01_Trim l)) (callI (callE [.slice (.int .i64)] [(.slice (.int .i64), false)] (fun τ => F_ref01_Trim τ.1))))]
def c_ref01_To : List (Nat × Live) := [(17, ⟨[(0, .slice (.int .i64)), (4, .int .i64)], [(false, 3, .int .u32)], []⟩), (32, ⟨[(0, .slice (.int .i64)), (4, .int .i64)], [(false, 3, .int .u32)], []⟩)]
noncomputable abbrev fe_ref01_To := (finE (E_ref01_To) [(.slice (.int .u32), false)] Tryz.f106.results.toList)
noncomputable abbrev cn_ref01_To_17 (x0 : List Int) (x4 : Int) (x3 : List Int) : St := ⟨[(3, .one (.loc (.int .u32) 10000)), (4, .one (.val (.int .i64) x4)), (0, .one (.val (.slice (.int .i64)) x0))], [(10000, some ⟨.int .u32, x3, false⟩)]⟩
noncomputable abbrev kk_ref01_To_17 (S : Nat → KT (RT [(.slice (.int .u32), false)])) := fun (x0 : List Int) (x4 : Int) (x3 : List Int) => S 17 (cn_ref01_To_17 x0 x4 x3)
noncomputable abbrev cn_ref01_To_32 (x0 : List Int) (x4 : Int) (x3 : List Int) : St := ⟨[(3, .one (.loc (.int .u32) 10000)), (4, .one (.val (.int .i64) x4)), (0, .one (.val (.slice (.int .i64)) x0))], [(10000, some ⟨.int .u32, x3, false⟩)]⟩
noncomputable abbrev kk_ref01_To_32 (S : Nat → KT (RT [(.slice (.int .u32), false)])) := fun (x0 : List Int) (x4 : Int) (x3 : List Int) => S 32 (cn_ref01_To_32 x0 x4 x3)
theorem top_ref01_To (S : Nat → KT (RT [(.slice (.int .u32), false)])) (a0 : List Int) : evA (E_ref01_To) (lk c_ref01_To) S (bodyOf Tryz.f106) noX (fe_ref01_To) (fe_ref01_To) (initSt [.slice (.int .i64)] (a0, ())) = T_ref01_To (kk_ref01_To_17 S) (kk_ref01_To_32 S) a0 := by kernel_rfl
theorem seg_ref01_To_17 (S : Nat → KT (RT [(.slice (.int .u32), false)])) (x0 : List Int) (x4 : Int) (x3 : List Int) : stepT (entry (E_ref01_To) (lk c_ref01_To) S 17 (bodyOf Tryz.f106) noX (fe_ref01_To) (fe_ref01_To)) (cn_ref01_To_17 x0 x4 x3) = S_ref01_To_17 (kk_ref01_To_17 S) (kk_ref01_To_32 S) x0 x4 x3 := by kernel_rfl
theorem seg_ref01_To_32 (S : Nat → KT (RT [(.slice (.int .u32), false)])) (x0 : List Int) (x4 : Int) (x3 : List Int) : stepT (entry (E_ref01_To) (lk c_ref01_To) S 32 (bodyOf Tryz.f106) noX (fe_ref01_To) (fe_ref01_To)) (cn_ref01_To_32 x0 x4 x3) = S_ref01_To_32 (kk_ref01_To_17 S) (kk_ref01_To_32 S) x0 x4 x3 := by kernel_rfl
noncomputable abbrev tb_ref01_To := tab (E_ref01_To) (lk c_ref01_To) (bodyOf Tryz.f106) (fe_ref01_To)
theorem ok_ref01_To : EnvOK Tryz.prog (E_ref01_To) := mkE_ok tys_ok trivial ⟨⟨PSound.mix os_ref01_Trim.psound (CSound.psound fs_ref01_Trim.csound), ⟨Tryz.f99, by kernel_rfl, by kernel_rfl, by kernel_rfl⟩⟩, trivial⟩
theorem fs_ref01_To : FSound Tryz.prog 106 [.slice (.int .i64)] [(.slice (.int .u32), false)] (fun τ => F_ref01_To τ.1) :=
  evG_sound (E := (E_ref01_To)) (C := (lk c_ref01_To)) ok_ref01_To mixed_ok (fn := Tryz.f106) (c := (bodyOf Tryz.f106)) (by kernel_rfl) (by kernel_rfl) (by kernel_rfl) (by kernel_rfl) (by kernel_rfl) (by kernel_rfl) (fun τ r h => by
    obtain ⟨a0, ⟨⟩⟩ := τ
    obtain ⟨m, hm⟩ := Rn_ref01_To (fun m => kk_ref01_To_17 (tb_ref01_To m)) (fun m => kk_ref01_To_32 (tb_ref01_To m)) (fun m x0 x4 x3 => (tab_succ (E_ref01_To) (lk c_ref01_To) (bodyOf Tryz.f106) (fe_ref01_To) m 17 (cn_ref01_To_17 x0 x4 x3)).trans (seg_ref01_To_17 (tb_ref01_To m) x0 x4 x3)) (fun m x0 x4 x3 => (tab_succ (E_ref01_To) (lk c_ref01_To) (bodyOf Tryz.f106) (fe_ref01_To) m 32 (cn_ref01_To_32 x0 x4 x3)).trans (seg_ref01_To_32 (tb_ref01_To m) x0 x4 x3)) a0 r h
    exact ⟨m, (top_ref01_To (tb_ref01_To m) a0).trans (hm m (Nat.le_refl m))⟩)

abbrev E_ref01_Is : Env := mkE tys [(106, callE [.slice (.int .i64)] [(.slice (.int .u32), false)] (fun τ => F_ref01_To τ.1))] []
def c_ref01_Is : List (Nat × Live) := [(21, ⟨[(0, .slice (.int .u32)), (5, .slice (.int .u32)), (6, .int .i64)], [], []⟩)]
noncomputable abbrev fe_ref01_Is := (finE (E_ref01_Is) [(.bool, false)] Tryz.f83.results.toList)
noncomputable abbrev cn_ref01_Is_21 (x0 : List Int) (x5 : List Int) (x6 : Int) : St := ⟨[(6, .one (.val (.int .i64) x6)), (5, .one (.val (.slice (.int .u32)) x5)), (0, .one (.val (.slice (.int .u32)) x0))], []⟩
noncomputable abbrev kk_ref01_Is_21 (S : Nat → KT (RT [(.bool, false)])) := fun (x0 : List Int) (x5 : List Int) (x6 : Int) => S 21 (cn_ref01_Is_21 x0 x5 x6)
theorem top_ref01_Is (S : Nat → KT (RT [(.bool, false)])) (a0 : List Int) (a1 : List Int) : evA (E_ref01_Is) (lk c_ref01_Is) S (bodyOf Tryz.f83) noX (fe_ref01_Is) (fe_ref01_Is) (initSt [.slice (.int .u32), .slice (.int .i64)] (a0, a1, ())) = T_ref01_Is (kk_ref01_Is_21 S) a0 a1 := by kernel_rfl
theorem seg_ref01_Is_21 (S : Nat → KT (RT [(.bool, false)])) (x0 : List Int) (x5 : List Int) (x6 : Int) : stepT (entry (E_ref01_Is) (lk c_ref01_Is) S 21 (bodyOf Tryz.f83) noX (fe_ref01_Is) (fe_ref01_Is)) (cn_ref01_Is_21 x0 x5 x6) = S_ref01_Is_21 (kk_ref01_Is_21 S) x0 x5 x6 := by kernel_rfl
noncomputable abbrev tb_ref01_Is := tab (E_ref01_Is) (lk c_ref01_Is) (bodyOf Tryz.f83) (fe_ref01_Is)
theorem ok_ref01_Is : EnvOK Tryz.prog (E_ref01_Is) := mkE_ok tys_ok ⟨⟨fs_ref01_To.csound, ⟨Tryz.f106, by kernel_rfl, by kernel_rfl, by kernel_rfl⟩⟩, trivial⟩ trivial
theorem fs_ref01_Is : FSound Tryz.prog 83 [.slice (.int .u32), .slice (.int .i64)] [(.bool, false)] (fun τ => F_ref01_Is τ.1 τ.2.1) :=
  evG_sound (E := (E_ref01_Is)) (C := (lk c_ref01_Is)) ok_ref01_Is mixed_ok (fn := Tryz.f83) (c := (bodyOf Tryz.f83)) (by kernel_rfl) (by kernel_rfl) (by kernel_rfl) (by kernel_rfl) (by kernel_rfl) (by kernel_rfl) (fun τ r h => by
    obtain ⟨a0, a1, ⟨⟩⟩ := τ
    obtain ⟨m, hm⟩ := Rn_ref01_Is (fun m => kk_ref01_Is_21 (tb_ref01_Is m)) (fun m x0 x5 x6 => (tab_succ (E_ref01_Is) (lk c_ref01_Is) (bodyOf Tryz.f83) (fe_ref01_Is) m 21 (cn_ref01_Is_21 x0 x5 x6)).trans (seg_ref01_Is_21 (tb_ref01_Is m) x0 x5 x6)) a0 a1 r h
    exact ⟨m, (top_ref01_Is (tb_ref01_Is m) a0 a1).trans (hm m (Nat.le_refl m))⟩)

abbrev E_ref02_Is : Env := mkE tys [(83, callE [.slice (.int .u32), .slice (.int .i64)] [(.bool, false)] (fun τ => F_ref01_Is τ.1 τ.2.1))] []
def c_ref02_Is : List (Nat × Live) := []
noncomputable abbrev fe_ref02_Is := (finE (E_ref02_Is) [(.bool, false)] Tryz.f58.results.toList)
theorem top_ref02_Is (S : Nat → KT (RT [(.bool, false)])) (a0 : Bool) (a1 : List Int) (a2 : Int × List Int) : evA (E_ref02_Is) (lk c_ref02_Is) S (bodyOf Tryz.f58) noX (fe_ref02_Is) (fe_ref02_Is) (initSt [.bool, .slice (.int .u32), .pair (.int .i64) (.slice (.int .i64))] (a0, a1, a2, ())) = T_ref02_Is a0 a1 a2 := by kernel_rfl
noncomputable abbrev tb_ref02_Is := tab (E_ref02_Is) (lk c_ref02_Is) (bodyOf Tryz.f58) (fe_ref02_Is)
theorem ok_ref02_Is : EnvOK Tryz.prog (E_ref02_Is) := mkE_ok tys_ok ⟨⟨fs_ref01_Is.csound, ⟨Tryz.f83, by kernel_rfl, by kernel_rfl, by kernel_rfl⟩⟩, trivial⟩ trivial
theorem fs_ref02_Is : FSound Tryz.prog 58 [.bool, .slice (.int .u32), .pair (.int .i64) (.slice (.int .i64))] [(.bool, false)] (fun τ => F_ref02_Is τ.1 τ.2.1 τ.2.2.1) :=
  evG_sound (E := (E_ref02_Is)) (C := (lk c_ref02_Is)) ok_ref02_Is mixed_ok (fn := Tryz.f58) (c := (bodyOf Tryz.f58)) (by kernel_rfl) (by kernel_rfl) (by kernel_rfl) (by kernel_rfl) (by kernel_rfl) (by kernel_rfl) (fun τ r h => by
    obtain ⟨a0, a1, a2, ⟨⟩⟩ := τ
    obtain ⟨m, hm⟩ := Rn_ref02_Is a0 a1 a2 r h
    exact ⟨m, (top_ref02_Is (tb_ref02_Is m) a0 a1 a2).trans (hm m (Nat.le_refl m))⟩)

abbrev E_ref05_Is : Env := mkE tys [(57, callE [.pair (.pair (.int .i64) (.slice (.int .i64))) (.pair (.int .i64) (.slice (.int .i64)))] [(.pair (.pair (.int .i64) (.slice (.int .i64))) (.pair (.int .i64) (.slice (.int .i64))), false)] (fun τ => F_ref05_Reduced τ.1)), (58, callE [.bool, .slice (.int .u32), .pair (.int .i64) (.slice (.int .i64))] [(.bool, false)] (fun τ => F_ref02_Is τ.1 τ.2.1 τ.2.2.1))] []
def c_ref05_Is : List (Nat × Live) := []
noncomputable abbrev fe_ref05_Is := (finE (E_ref05_Is) [(.bool, false)] Tryz.f31.results.toList)
theorem top_ref05_Is (S : Nat → KT (RT [(.bool, false)])) (a0 : Bool) (a1 : List Int) (a2 : List Int) (a3 : (Int × List Int) × Int × List Int) : evA (E_ref05_Is) (lk c_ref05_Is) S (bodyOf Tryz.f31) noX (fe_ref05_Is) (fe_ref05_Is) (initSt [.bool, .slice (.int .u32), .slice (.int .u32), .pair (.pair (.int .i64) (.slice (.int .i64))) (.pair (.int .i64) (.slice (.int .i64)))] (a0, a1, a2, a3, ())) = T_ref05_Is a0 a1 a2 a3 := by kernel_rfl
noncomputable abbrev tb_ref05_Is := tab (E_ref05_Is) (lk c_ref05_Is) (bodyOf Tryz.f31) (fe_ref05_Is)
theorem ok_ref05_Is : EnvOK Tryz.prog (E_ref05_Is) := mkE_ok tys_ok ⟨⟨fs_ref05_Reduced.csound, ⟨Tryz.f57, by kernel_rfl, by kernel_rfl, by kernel_rfl⟩⟩, ⟨fs_ref02_Is.csound, ⟨Tryz.f58, by kernel_rfl, by kernel_rfl, by kernel_rfl⟩⟩, trivial⟩ trivial
theorem fs_ref05_Is : FSound Tryz.prog 31 [.bool, .slice (.int .u32), .slice (.int .u32), .pair (.pair (.int .i64) (.slice (.int .i64))) (.pair (.int .i64) (.slice (.int .i64)))] [(.bool, false)] (fun τ => F_ref05_Is τ.1 τ.2.1 τ.2.2.1 τ.2.2.2.1) :=
  evG_sound (E := (E_ref05_Is)) (C := (lk c_ref05_Is)) ok_ref05_Is mixed_ok (fn := Tryz.f31) (c := (bodyOf Tryz.f31)) (by kernel_rfl) (by kernel_rfl) (by kernel_rfl) (by kernel_rfl) (by kernel_rfl) (by kernel_rfl) (fun τ r h => by
    obtain ⟨a0, a1, a2, a3, ⟨⟩⟩ := τ
    obtain ⟨m, hm⟩ := Rn_ref05_Is a0 a1 a2 a3 r h
    exact ⟨m, (top_ref05_Is (tb_ref05_Is m) a0 a1 a2 a3).trans (hm m (Nat.le_refl m))⟩)

abbrev E_law06_is : Env := mkE tys [(31, callE [.bool, .slice (.int .u32), .slice (.int .u32), .pair (.pair (.int .i64) (.slice (.int .i64))) (.pair (.int .i64) (.slice (.int .i64)))] [(.bool, false)] (fun τ => F_ref05_Is τ.1 τ.2.1 τ.2.2.1 τ.2.2.2.1))] []
def c_law06_is : List (Nat × Live) := []
noncomputable abbrev fe_law06_is := (finE (E_law06_is) [(.bool, false)] Tryz.f10.results.toList)
theorem top_law06_is (S : Nat → KT (RT [(.bool, false)])) (a0 : ((Bool × List Int) × List Int) × (Bool × List Int) × List Int) (a1 : ((Int × List Int) × Int × List Int) × (Int × List Int) × Int × List Int) : evA (E_law06_is) (lk c_law06_is) S (bodyOf Tryz.f10) noX (fe_law06_is) (fe_law06_is) (initSt [.pair (.pair (.pair (.bool) (.slice (.int .u32))) (.slice (.int .u32))) (.pair (.pair (.bool) (.slice (.int .u32))) (.slice (.int .u32))), .pair (.pair (.pair (.int .i64) (.slice (.int .i64))) (.pair (.int .i64) (.slice (.int .i64)))) (.pair (.pair (.int .i64) (.slice (.int .i64))) (.pair (.int .i64) (.slice (.int .i64))))] (a0, a1, ())) = T_law06_is a0 a1 := by kernel_rfl
noncomputable abbrev tb_law06_is := tab (E_law06_is) (lk c_law06_is) (bodyOf Tryz.f10) (fe_law06_is)
theorem ok_law06_is : EnvOK Tryz.prog (E_law06_is) := mkE_ok tys_ok ⟨⟨fs_ref05_Is.csound, ⟨Tryz.f31, by kernel_rfl, by kernel_rfl, by kernel_rfl⟩⟩, trivial⟩ trivial
theorem fs_law06_is : FSound Tryz.prog 10 [.pair (.pair (.pair (.bool) (.slice (.int .u32))) (.slice (.int .u32))) (.pair (.pair (.bool) (.slice (.int .u32))) (.slice (.int .u32))), .pair (.pair (.pair (.int .i64) (.slice (.int .i64))) (.pair (.int .i64) (.slice (.int .i64)))) (.pair (.pair (.int .i64) (.slice (.int .i64))) (.pair (.int .i64) (.slice (.int .i64))))] [(.bool, false)] (fun τ => F_law06_is τ.1 τ.2.1) :=
  evG_sound (E := (E_law06_is)) (C := (lk c_law06_is)) ok_law06_is mixed_ok (fn := Tryz.f10) (c := (bodyOf Tryz.f10)) (by kernel_rfl) (by kernel_rfl) (by kernel_rfl) (by kernel_rfl) (by kernel_rfl) (by kernel_rfl) (fun τ r h => by
    obtain ⟨a0, a1, ⟨⟩⟩ := τ
    obtain ⟨m, hm⟩ := Rn_law06_is a0 a1 r h
    exact ⟨m, (top_law06_is (tb_law06_is m) a0 a1).trans (hm m (Nat.le_refl m))⟩)

abbrev E_integer_Neg : Env := mkE tys [(90, callE [.bool, .slice (.int .u32)] [(.pair (.bool) (.slice (.int .u32)), false)] (fun τ => F_integer_From τ.1 τ.2.1))] []
def c_integer_Neg : List (Nat × Live) := []
noncomputable abbrev fe_integer_Neg := (finE (E_integer_Neg) [(.pair (.bool) (.slice (.int .u32)), false)] Tryz.f66.results.toList)
theorem top_integer_Neg (S : Nat → KT (RT [(.pair (.bool) (.slice (.int .u32)), false)])) (a0 : Bool × List Int) : evA (E_integer_Neg) (lk c_integer_Neg) S (bodyOf Tryz.f66) noX (fe_integer_Neg) (fe_integer_Neg) (initSt [.pair (.bool) (.slice (.int .u32))] (a0, ())) = T_integer_Neg a0 := by kernel_rfl
noncomputable abbrev tb_integer_Neg := tab (E_integer_Neg) (lk c_integer_Neg) (bodyOf Tryz.f66) (fe_integer_Neg)
theorem ok_integer_Neg : EnvOK Tryz.prog (E_integer_Neg) := mkE_ok tys_ok ⟨⟨fs_integer_From.csound, ⟨Tryz.f90, by kernel_rfl, by kernel_rfl, by kernel_rfl⟩⟩, trivial⟩ trivial
theorem fs_integer_Neg : FSound Tryz.prog 66 [.pair (.bool) (.slice (.int .u32))] [(.pair (.bool) (.slice (.int .u32)), false)] (fun τ => F_integer_Neg τ.1) :=
  evG_sound (E := (E_integer_Neg)) (C := (lk c_integer_Neg)) ok_integer_Neg mixed_ok (fn := Tryz.f66) (c := (bodyOf Tryz.f66)) (by kernel_rfl) (by kernel_rfl) (by kernel_rfl) (by kernel_rfl) (by kernel_rfl) (by kernel_rfl) (fun τ r h => by
    obtain ⟨a0, ⟨⟩⟩ := τ
    obtain ⟨m, hm⟩ := Rn_integer_Neg a0 r h
    exact ⟨m, (top_integer_Neg (tb_integer_Neg m) a0).trans (hm m (Nat.le_refl m))⟩)

abbrev E_ref02_Neg : Env := mkE tys [] []
def c_ref02_Neg : List (Nat × Live) := []
noncomputable abbrev fe_ref02_Neg := (finE (E_ref02_Neg) [(.pair (.int .i64) (.slice (.int .i64)), false)] Tryz.f54.results.toList)
theorem top_ref02_Neg (S : Nat → KT (RT [(.pair (.int .i64) (.slice (.int .i64)), false)])) (a0 : Int × List Int) : evA (E_ref02_Neg) (lk c_ref02_Neg) S (bodyOf Tryz.f54) noX (fe_ref02_Neg) (fe_ref02_Neg) (initSt [.pair (.int .i64) (.slice (.int .i64))] (a0, ())) = T_ref02_Neg a0 := by kernel_rfl
noncomputable abbrev tb_ref02_Neg := tab (E_ref02_Neg) (lk c_ref02_Neg) (bodyOf Tryz.f54) (fe_ref02_Neg)
theorem ok_ref02_Neg : EnvOK Tryz.prog (E_ref02_Neg) := mkE_ok tys_ok trivial trivial
theorem fs_ref02_Neg : FSound Tryz.prog 54 [.pair (.int .i64) (.slice (.int .i64))] [(.pair (.int .i64) (.slice (.int .i64)), false)] (fun τ => F_ref02_Neg τ.1) :=
  evG_sound (E := (E_ref02_Neg)) (C := (lk c_ref02_Neg)) ok_ref02_Neg mixed_ok (fn := Tryz.f54) (c := (bodyOf Tryz.f54)) (by kernel_rfl) (by kernel_rfl) (by kernel_rfl) (by kernel_rfl) (by kernel_rfl) (by kernel_rfl) (fun τ r h => by
    obtain ⟨a0, ⟨⟩⟩ := τ
    obtain ⟨m, hm⟩ := Rn_ref02_Neg a0 r h
    exact ⟨m, (top_ref02_Neg (tb_ref02_Neg m) a0).trans (hm m (Nat.le_refl m))⟩)

abbrev E_ref05_Neg : Env := mkE tys [(54, callE [.pair (.int .i64) (.slice (.int .i64))] [(.pair (.int .i64) (.slice (.int .i64)), false)] (fun τ => F_ref02_Neg τ.1))] []
def c_ref05_Neg : List (Nat × Live) := []
noncomputable abbrev fe_ref05_Neg := (finE (E_ref05_Neg) [(.pair (.pair (.int .i64) (.slice (.int .i64))) (.pair (.int .i64) (.slice (.int .i64))), false)] Tryz.f27.results.toList)
theorem top_ref05_Neg (S : Nat → KT (RT [(.pair (.pair (.int .i64) (.slice (.int .i64))) (.pair (.int .i64) (.slice (.int .i64))), false)])) (a0 : (Int × List Int) × Int × List Int) : evA (E_ref05_Neg) (lk c_ref05_Neg) S (bodyOf Tryz.f27) noX (fe_ref05_Neg) (fe_ref05_Neg) (initSt [.pair (.pair (.int .i64) (.slice (.int .i64))) (.pair (.int .i64) (.slice (.int .i64)))] (a0, ())) = T_ref05_Neg a0 := by kernel_rfl
noncomputable abbrev tb_ref05_Neg := tab (E_ref05_Neg) (lk c_ref05_Neg) (bodyOf Tryz.f27) (fe_ref05_Neg)
theorem ok_ref05_Neg : EnvOK Tryz.prog (E_ref05_Neg) := mkE_ok tys_ok ⟨⟨fs_ref02_Neg.csound, ⟨Tryz.f54, by kernel_rfl, by kernel_rfl, by kernel_rfl⟩⟩, trivial⟩ trivial
theorem fs_ref05_Neg : FSound Tryz.prog 27 [.pair (.pair (.int .i64) (.slice (.int .i64))) (.pair (.int .i64) (.slice (.int .i64)))] [(.pair (.pair (.int .i64) (.slice (.int .i64))) (.pair (.int .i64) (.slice (.int .i64))), false)] (fun τ => F_ref05_Neg τ.1) :=
  evG_sound (E := (E_ref05_Neg)) (C := (lk c_ref05_Neg)) ok_ref05_Neg mixed_ok (fn := Tryz.f27) (c := (bodyOf Tryz.f27)) (by kernel_rfl) (by kernel_rfl) (by kernel_rfl) (by kernel_rfl) (by kernel_rfl) (by kernel_rfl) (fun τ r h => by
    obtain ⟨a0, ⟨⟩⟩ := τ
    obtain ⟨m, hm⟩ := Rn_ref05_Neg a0 r h
    exact ⟨m, (top_ref05_Neg (tb_ref05_Neg m) a0).trans (hm m (Nat.le_refl m))⟩)

abbrev Eo_natural_Add_1 : Env := mkE tys [(97, callE [.int .u32, .int .u32, .int .u32] [(.int .u32, false), (.int .u32, false)] (fun τ => F_bits_Add32 τ.1 τ.2.1 τ.2.2.1))] []
def co_natural_Add_1 : List (Nat × Live) := []
noncomputable abbrev feo_natural_Add_1 := (finO (Eo_natural_Add_1) 2 true (.int .u32) (.one (.int .u32)) Tryz.f114.results.toList)
theorem topo_natural_Add_1 (S : Nat → KT (CD true (.int .u32) × RS.D (.one (.int .u32)))) (a0 : Int) (a1 : Int) (l : Int) : evA (Eo_natural_Add_1) (lk co_natural_Add_1) S (bodyOf Tryz.f114) noX (feo_natural_Add_1) (feo_natural_Add_1) (initO [.int .u32, .int .u32] (a0, a1, ()) true (.int .u32) l) = To_natural_Add_1 a0 a1 l := by kernel_rfl
noncomputable abbrev tbo_natural_Add_1 := tab (Eo_natural_Add_1) (lk co_natural_Add_1) (bodyOf Tryz.f114) (feo_natural_Add_1)
theorem oko_natural_Add_1 : EnvOK Tryz.prog (Eo_natural_Add_1) := mkE_ok tys_ok ⟨⟨fs_bits_Add32.csound, ⟨Tryz.f97, by kernel_rfl, by kernel_rfl, by kernel_rfl⟩⟩, trivial⟩ trivial
theorem os_natural_Add_1 : OSound Tryz.prog 114 [.int .u32, .int .u32] true (.int .u32) (.one (.int .u32)) (fun τ l => O_natural_Add_1 τ.1 τ.2.1 l) :=
  evO_sound (E := (Eo_natural_Add_1)) (C := (lk co_natural_Add_1)) oko_natural_Add_1 mixed_ok (fn := Tryz.f114) (k := (bodyOf Tryz.f114)) (by kernel_rfl) (by kernel_rfl) (by kernel_rfl) (by kernel_rfl) (by kernel_rfl) (fun τ l r h => by
    obtain ⟨a0, a1, ⟨⟩⟩ := τ
    obtain ⟨m, hm⟩ := Rno_natural_Add_1 a0 a1 l r h
    exact ⟨m, (topo_natural_Add_1 (tbo_natural_Add_1 m) a0 a1 l).trans (hm m (Nat.le_refl m))⟩)

abbrev E_natural_Add : Env := mkE tys [] [(95, mixO (callO [] false (.int .u32) .pre (fun τ l => O_natural_trim l)) (callI (callE [.slice (.int .u32)] [(.slice (.int .u32), false)] (fun τ => F_natural_trim τ.1)))), (114, callO [.int .u32, .int .u32] true (.int .u32) (.one (.int .u32)) (fun τ l => O_natural_Add_1 τ.1 τ.2.1 l))]
def c_natural_Add : List (Nat × Live) := [(33, ⟨[(0, .slice (.int .u32)), (1, .slice (.int .u32)), (27, .slice (.int .u32)), (28, .int .i64), (29, .int .i64)], [(false, 5, .int .u32), (true, 6, .int .u32)], [7]⟩), (53, ⟨[(0, .slice (.int .u32)), (10, .int .i64)], [(false, 5, .int .u32), (true, 6, .int .u32)], [7]⟩)]
noncomputable abbrev fe_natural_Add := (finE (E_natural_Add) [(.slice (.int .u32), false)] Tryz.f93.results.toList)
noncomputable abbrev cn_natural_Add_33 (x0 : List Int) (x1 : List Int) (x27 : List Int) (x28 : Int) (x29 : Int) (x5 : List Int) (x6 : Int) : St := ⟨[(7, .one (.fn 114 [10001])), (6, .one (.ptr 10001 0 [])), (5, .one (.loc (.int .u32) 10000)), (29, .one (.val (.int .i64) x29)), (28, .one (.val (.int .i64) x28)), (27, .one (.val (.slice (.int .u32)) x27)), (1, .one (.val (.slice (.int .u32)) x1)), (0, .one (.val (.slice (.int .u32)) x0))], [(10001, some ⟨.int .u32, [x6], false⟩), (10000, some ⟨.int .u32, x5, false⟩)]⟩
noncomputable abbrev kk_natural_Add_33 (S : Nat → KT (RT [(.slice (.int .u32), false)])) := fun (x0 : List Int) (x1 : List Int) (x27 : List Int) (x28 : Int) (x29 : Int) (x5 : List Int) (x6 : Int) => S 33 (cn_natural_Add_33 x0 x1 x27 x28 x29 x5 x6)
noncomputable abbrev cn_natural_Add_53 (x0 : List Int) (x10 : Int) (x5 : List Int) (x6 : Int) : St := ⟨[(7, .one (.fn 114 [10001])), (6, .one (.ptr 10001 0 [])), (5, .one (.loc (.int .u32) 10000)), (10, .one (.val (.int .i64) x10)), (0, .one (.val (.slice (.int .u32)) x0))], [(10001, some ⟨.int .u32, [x6], false⟩), (10000, some ⟨.int .u32, x5, false⟩)]⟩
noncomputable abbrev kk_natural_Add_53 (S : Nat → KT (RT [(.slice (.int .u32), false)])) := fun (x0 : List Int) (x10 : Int) (x5 : List Int) (x6 : Int) => S 53 (cn_natural_Add_53 x0 x10 x5 x6)
theorem top_natural_Add (S : Nat → KT (RT [(.slice (.int .u32), false)])) (a0 : List Int) (a1 : List Int) : evA (E_natural_Add) (lk c_natural_Add) S (bodyOf Tryz.f93) noX (fe_natural_Add) (fe_natural_Add) (initSt [.slice (.int .u32), .slice (.int .u32)] (a0, a1, ())) = T_natural_Add (kk_natural_Add_33 S) (kk_natural_Add_53 S) a0 a1 := by kernel_rfl
theorem seg_natural_Add_33 (S : Nat → KT (RT [(.slice (.int .u32), false)])) (x0 : List Int) (x1 : List Int) (x27 : List Int) (x28 : Int) (x29 : Int) (x5 : List Int) (x6 : Int) : stepT (entry (E_natural_Add) (lk c_natural_Add) S 33 (bodyOf Tryz.f93) noX (fe_natural_Add) (fe_natural_Add)) (cn_natural_Add_33 x0 x1 x27 x28 x29 x5 x6) = S_natural_Add_33 (kk_natural_Add_33 S) (kk_natural_Add_53 S) x0 x1 x27 x28 x29 x5 x6 := by kernel_rfl
theorem seg_natural_Add_53 (S : Nat → KT (RT [(.slice (.int .u32), false)])) (x0 : List Int) (x10 : Int) (x5 : List Int) (x6 : Int) : stepT (entry (E_natural_Add) (lk c_natural_Add) S 53 (bodyOf Tryz.f93) noX (fe_natural_Add) (fe_natural_Add)) (cn_natural_Add_53 x0 x10 x5 x6) = S_natural_Add_53 (kk_natural_Add_33 S) (kk_natural_Add_53 S) x0 x10 x5 x6 := by kernel_rfl
noncomputable abbrev tb_natural_Add := tab (E_natural_Add) (lk c_natural_Add) (bodyOf Tryz.f93) (fe_natural_Add)
theorem ok_natural_Add : EnvOK Tryz.prog (E_natural_Add) := mkE_ok tys_ok trivial ⟨⟨PSound.mix os_natural_trim.psound (CSound.psound fs_natural_trim.csound), ⟨Tryz.f95, by kernel_rfl, by kernel_rfl, by kernel_rfl⟩⟩, ⟨os_natural_Add_1.psound, ⟨Tryz.f114, by kernel_rfl, by kernel_rfl, by kernel_rfl⟩⟩, trivial⟩
theorem fs_natural_Add : FSound Tryz.prog 93 [.slice (.int .u32), .slice (.int .u32)] [(.slice (.int .u32), false)] (fun τ => F_natural_Add τ.1 τ.2.1) :=
  evG_sound (E := (E_natural_Add)) (C := (lk c_natural_Add)) ok_natural_Add mixed_ok (fn := Tryz.f93) (c := (bodyOf Tryz.f93)) (by kernel_rfl) (by kernel_rfl) (by kernel_rfl) (by kernel_rfl) (by kernel_rfl) (by kernel_rfl) (fun τ r h => by
    obtain ⟨a0, a1, ⟨⟩⟩ := τ
    obtain ⟨m, hm⟩ := Rn_natural_Add (fun m => kk_natural_Add_33 (tb_natural_Add m)) (fun m => kk_natural_Add_53 (tb_natural_Add m)) (fun m x0 x1 x27 x28 x29 x5 x6 => (tab_succ (E_natural_Add) (lk c_natural_Add) (bodyOf Tryz.f93) (fe_natural_Add) m 33 (cn_natural_Add_33 x0 x1 x27 x28 x29 x5 x6)).trans (seg_natural_Add_33 (tb_natural_Add m) x0 x1 x27 x28 x29 x5 x6)) (fun m x0 x10 x5 x6 => (tab_succ (E_natural_Add) (lk c_natural_Add) (bodyOf Tryz.f93) (fe_natural_Add) m 53 (cn_natural_Add_53 x0 x10 x5 x6)).trans (seg_natural_Add_53 (tb_natural_Add m) x0 x10 x5 x6)) a0 a1 r h
    exact ⟨m, (top_natural_Add (tb_natural_Add m) a0 a1).trans (hm m (Nat.le_refl m))⟩)

abbrev E_bits_Sub32 : Env := mkE tys [] []
def c_bits_Sub32 : List (Nat × Live) := []
noncomputable abbrev fe_bits_Sub32 := (finE (E_bits_Sub32) [(.int .u32, false), (.int .u32, false)] Tryz.f115.results.toList)
theorem top_bits_Sub32 (S : Nat → KT (RT [(.int .u32, false), (.int .u32, false)])) (a0 : Int) (a1 : Int) (a2 : Int) : evA (E_bits_Sub32) (lk c_bits_Sub32) S (bodyOf Tryz.f115) noX (fe_bits_Sub32) (fe_bits_Sub32) (initSt [.int .u32, .int .u32, .int .u32] (a0, a1, a2, ())) = T_bits_Sub32 a0 a1 a2 := by kernel_rfl
noncomputable abbrev tb_bits_Sub32 := tab (E_bits_Sub32) (lk c_bits_Sub32) (bodyOf Tryz.f115) (fe_bits_Sub32)
theorem ok_bits_Sub32 : EnvOK Tryz.prog (E_bits_Sub32) := mkE_ok tys_ok trivial trivial
theorem fs_bits_Sub32 : FSound Tryz.prog 115 [.int .u32, .int .u32, .int .u32] [(.int .u32, false), (.int .u32, false)] (fun τ => F_bits_Sub32 τ.1 τ.2.1 τ.2.2.1) :=
  evG_sound (E := (E_bits_Sub32)) (C := (lk c_bits_Sub32)) ok_bits_Sub32 mixed_ok (fn := Tryz.f115) (c := (bodyOf Tryz.f115)) (by kernel_rfl) (by kernel_rfl) (by kernel_rfl) (by kernel_rfl) (by kernel_rfl) (by kernel_rfl) (fun τ r h => by
    obtain ⟨a0, a1, a2, ⟨⟩⟩ := τ
    obtain ⟨m, hm⟩ := Rn_bits_Sub32 a0 a1 a2 r h
    exact ⟨m, (top_bits_Sub32 (tb_bits_Sub32 m) a0 a1 a2).trans (hm m (Nat.le_refl m))⟩)

abbrev E_natural_Sub : Env := mkE tys [(103, callE [.slice (.int .u32), .slice (.int .u32)] [(.int .i64, false)] (fun τ => F_natural_Cmp τ.1 τ.2.1)), (115, callE [.int .u32, .int .u32, .int .u32] [(.int .u32, false), (.int .u32, false)] (fun τ => F_bits_Sub32 τ.1 τ.2.1 τ.2.2.1))] [(95, mixO (callO [] false (.int .u32) .pre (fun τ l => O_natural_trim l)) (callI (callE [.slice (.int .u32)] [(.slice (.int .u32), false)] (fun τ => F_natural_trim τ.1))))]
def c_natural_Sub : List (Nat × Live) := [(29, ⟨[(1, .slice (.int .u32)), (7, .int .u32), (22, .slice (.int .u32)), (23, .int .i64), (24, .int .i64)], [(false, 6, .int .u32)], []⟩)]
noncomputable abbrev fe_natural_Sub := (finE (E_natural_Sub) [(.slice (.int .u32), false), (.bool, false)] Tryz.f94.results.toList)
noncomputable abbrev cn_natural_Sub_29 (x1 : List Int) (x7 : Int) (x22 : List Int) (x23 : Int) (x24 : Int) (x6 : List Int) : St := ⟨[(6, .one (.loc (.int .u32) 10000)), (24, .one (.val (.int .i64) x24)), (23, .one (.val (.int .i64) x23)), (22, .one (.val (.slice (.int .u32)) x22)), (7, .one (.val (.int .u32) x7)), (1, .one (.val (.slice (.int .u32)) x1))], [(10000, some ⟨.int .u32, x6, false⟩)]⟩
noncomputable abbrev kk_natural_Sub_29 (S : Nat → KT (RT [(.slice (.int .u32), false), (.bool, false)])) := fun (x1 : List Int) (x7 : Int) (x22 : List Int) (x23 : Int) (x24 : Int) (x6 : List Int) => S 29 (cn_natural_Sub_29 x1 x7 x22 x23 x24 x6)
theorem top_natural_Sub (S : Nat → KT (RT [(.slice (.int .u32), false), (.bool, false)])) (a0 : List Int) (a1 : List Int) : evA (E_natural_Sub) (lk c_natural_Sub) S (bodyOf Tryz.f94) noX (fe_natural_Sub) (fe_natural_Sub) (initSt [.slice (.int .u32), .slice (.int .u32)] (a0, a1, ())) = T_natural_Sub (kk_natural_Sub_29 S) a0 a1 := by kernel_rfl
theorem seg_natural_Sub_29 (S : Nat → KT (RT [(.slice (.int .u32), false), (.bool, false)])) (x1 : List Int) (x7 : Int) (x22 : List Int) (x23 : Int) (x24 : Int) (x6 : List Int) : stepT (entry (E_natural_Sub) (lk c_natural_Sub) S 29 (bodyOf Tryz.f94) noX (fe_natural_Sub) (fe_natural_Sub)) (cn_natural_Sub_29 x1 x7 x22 x23 x24 x6) = S_natural_Sub_29 (kk_natural_Sub_29 S) x1 x7 x22 x23 x24 x6 := by kernel_rfl
noncomputable abbrev tb_natural_Sub := tab (E_natural_Sub) (lk c_natural_Sub) (bodyOf Tryz.f94) (fe_natural_Sub)
theorem ok_natural_Sub : EnvOK Tryz.prog (E_natural_Sub) := mkE_ok tys_ok ⟨⟨fs_natural_Cmp.csound, ⟨Tryz.f103, by kernel_rfl, by kernel_rfl, by kernel_rfl⟩⟩, ⟨fs_bits_Sub32.csound, ⟨Tryz.f115, by kernel_rfl, by kernel_rfl, by kernel_rfl⟩⟩, trivial⟩ ⟨⟨PSound.mix os_natural_trim.psound (CSound.psound fs_natural_trim.csound), ⟨Tryz.f95, by kernel_rfl, by kernel_rfl, by kernel_rfl⟩⟩, trivial⟩
theorem fs_natural_Sub : FSound Tryz.prog 94 [.slice (.int .u32), .slice (.int .u32)] [(.slice (.int .u32), false), (.bool, false)] (fun τ => F_natural_Sub τ.1 τ.2.1) :=
  evG_sound (E := (E_natural_Sub)) (C := (lk c_natural_Sub)) ok_natural_Sub mixed_ok (fn := Tryz.f94) (c := (bodyOf Tryz.f94)) (by kernel_rfl) (by kernel_rfl) (by kernel_rfl) (by kernel_rfl) (by kernel_rfl) (by kernel_rfl) (fun τ r h => by
    obtain ⟨a0, a1, ⟨⟩⟩ := τ
    obtain ⟨m, hm⟩ := Rn_natural_Sub (fun m => kk_natural_Sub_29 (tb_natural_Sub m)) (fun m x1 x7 x22 x23 x24 x6 => (tab_succ (E_natural_Sub) (lk c_natural_Sub) (bodyOf Tryz.f94) (fe_natural_Sub) m 29 (cn_natural_Sub_29 x1 x7 x22 x23 x24 x6)).trans (seg_natural_Sub_29 (tb_natural_Sub m) x1 x7 x22 x23 x24 x6)) a0 a1 r h
    exact ⟨m, (top_natural_Sub (tb_natural_Sub m) a0 a1).trans (hm m (Nat.le_refl m))⟩)

abbrev E_integer_Add : Env := mkE tys [(84, callE [.bool, .slice (.int .u32)] [(.pair (.bool) (.slice (.int .u32)), false)] (fun τ => F_integer_made τ.1 τ.2.1)), (93, callE [.slice (.int .u32), .slice (.int .u32)] [(.slice (.int .u32), false)] (fun τ => F_natural_Add τ.1 τ.2.1)), (94, callE [.slice (.int .u32), .slice (.int .u32)] [(.slice (.int .u32), false), (.bool, false)] (fun τ => F_natural_Sub τ.1 τ.2.1))] []
def c_integer_Add : List (Nat × Live) := []
noncomputable abbrev fe_integer_Add := (finE (E_integer_Add) [(.pair (.bool) (.slice (.int .u32)), false)] Tryz.f68.results.toList)
theorem top_integer_Add (S : Nat → KT (RT [(.pair (.bool) (.slice (.int .u32)), false)])) (a0 : Bool × List Int) (a1 : Bool × List Int) : evA (E_integer_Add) (lk c_integer_Add) S (bodyOf Tryz.f68) noX (fe_integer_Add) (fe_integer_Add) (initSt [.pair (.bool) (.slice (.int .u32)), .pair (.bool) (.slice (.int .u32))] (a0, a1, ())) = T_integer_Add a0 a1 := by kernel_rfl
noncomputable abbrev tb_integer_Add := tab (E_integer_Add) (lk c_integer_Add) (bodyOf Tryz.f68) (fe_integer_Add)
theorem ok_integer_Add : EnvOK Tryz.prog (E_integer_Add) := mkE_ok tys_ok ⟨⟨fs_integer_made.csound, ⟨Tryz.f84, by kernel_rfl, by kernel_rfl, by kernel_rfl⟩⟩, ⟨fs_natural_Add.csound, ⟨Tryz.f93, by kernel_rfl, by kernel_rfl, by kernel_rfl⟩⟩, ⟨fs_natural_Sub.csound, ⟨Tryz.f94, by kernel_rfl, by kernel_rfl, by kernel_rfl⟩⟩, trivial⟩ trivial
theorem fs_integer_Add : FSound Tryz.prog 68 [.pair (.bool) (.slice (.int .u32)), .pair (.bool) (.slice (.int .u32))] [(.pair (.bool) (.slice (.int .u32)), false)] (fun τ => F_integer_Add τ.1 τ.2.1) :=
  evG_sound (E := (E_integer_Add)) (C := (lk c_integer_Add)) ok_integer_Add mixed_ok (fn := Tryz.f68) (c := (bodyOf Tryz.f68)) (by kernel_rfl) (by kernel_rfl) (by kernel_rfl) (by kernel_rfl) (by kernel_rfl) (by kernel_rfl) (fun τ r h => by
    obtain ⟨a0, a1, ⟨⟩⟩ := τ
    obtain ⟨m, hm⟩ := Rn_integer_Add a0 a1 r h
    exact ⟨m, (top_integer_Add (tb_integer_Add m) a0 a1).trans (hm m (Nat.le_refl m))⟩)

abbrev E_rational_Add : Env := mkE tys [(65, callE [.pair (.bool) (.slice (.int .u32)), .slice (.int .u32)] [(.pair (.pair (.bool) (.slice (.int .u32))) (.slice (.int .u32)), false)] (fun τ => F_rational_made τ.1 τ.2.1)), (67, callE [.pair (.pair (.bool) (.slice (.int .u32))) (.slice (.int .u32))] [(.pair (.bool) (.slice (.int .u32)), false), (.pair (.bool) (.slice (.int .u32)), false)] (fun τ => F_rational_parts τ.1)), (68, callE [.pair (.bool) (.slice (.int .u32)), .pair (.bool) (.slice (.int .u32))] [(.pair (.bool) (.slice (.int .u32)), false)] (fun τ => F_integer_Add τ.1 τ.2.1)), (69, callE [.pair (.bool) (.slice (.int .u32)), .pair (.bool) (.slice (.int .u32))] [(.pair (.bool) (.slice (.int .u32)), false)] (fun τ => F_integer_Mul τ.1 τ.2.1)), (70, callE [.slice (.int .u32), .slice (.int .u32)] [(.slice (.int .u32), false)] (fun τ => F_natural_Mul τ.1 τ.2.1))] []
def c_rational_Add : List (Nat × Live) := []
noncomputable abbrev fe_rational_Add := (finE (E_rational_Add) [(.pair (.pair (.bool) (.slice (.int .u32))) (.slice (.int .u32)), false)] Tryz.f43.results.toList)
theorem top_rational_Add (S : Nat → KT (RT [(.pair (.pair (.bool) (.slice (.int .u32))) (.slice (.int .u32)), false)])) (a0 : (Bool × List Int) × List Int) (a1 : (Bool × List Int) × List Int) : evA (E_rational_Add) (lk c_rational_Add) S (bodyOf Tryz.f43) noX (fe_rational_Add) (fe_rational_Add) (initSt [.pair (.pair (.bool) (.slice (.int .u32))) (.slice (.int .u32)), .pair (.pair (.bool) (.slice (.int .u32))) (.slice (.int .u32))] (a0, a1, ())) = T_rational_Add a0 a1 := by kernel_rfl
noncomputable abbrev tb_rational_Add := tab (E_rational_Add) (lk c_rational_Add) (bodyOf Tryz.f43) (fe_rational_Add)
theorem ok_rational_Add : EnvOK Tryz.prog (E_rational_Add) := mkE_ok tys_ok ⟨⟨fs_rational_made.csound, ⟨Tryz.f65, by kernel_rfl, by kernel_rfl, by kernel_rfl⟩⟩, ⟨fs_rational_parts.csound, ⟨Tryz.f67, by kernel_rfl, by kernel_rfl, by kernel_rfl⟩⟩, ⟨fs_integer_Add.csound, ⟨Tryz.f68, by kernel_rfl, by kernel_rfl, by kernel_rfl⟩⟩, ⟨fs_integer_Mul.csound, ⟨Tryz.f69, by kernel_rfl, by kernel_rfl, by kernel_rfl⟩⟩, ⟨fs_natural_Mul.csound, ⟨Tryz.f70, by kernel_rfl, by kernel_rfl, by kernel_rfl⟩⟩, trivial⟩ trivial
theorem fs_rational_Add : FSound Tryz.prog 43 [.pair (.pair (.bool) (.slice (.int .u32))) (.slice (.int .u32)), .pair (.pair (.bool) (.slice (.int .u32))) (.slice (.int .u32))] [(.pair (.pair (.bool) (.slice (.int .u32))) (.slice (.int .u32)), false)] (fun τ => F_rational_Add τ.1 τ.2.1) :=
  evG_sound (E := (E_rational_Add)) (C := (lk c_rational_Add)) ok_rational_Add mixed_ok (fn := Tryz.f43) (c := (bodyOf Tryz.f43)) (by kernel_rfl) (by kernel_rfl) (by kernel_rfl) (by kernel_rfl) (by kernel_rfl) (by kernel_rfl) (fun τ r h => by
    obtain ⟨a0, a1, ⟨⟩⟩ := τ
    obtain ⟨m, hm⟩ := Rn_rational_Add a0 a1 r h
    exact ⟨m, (top_rational_Add (tb_rational_Add m) a0 a1).trans (hm m (Nat.le_refl m))⟩)

abbrev E_ref01_Add : Env := mkE tys [(100, callE [.slice (.int .i64), .int .i64] [(.int .i64, false)] (fun τ => F_ref01_bit τ.1 τ.2.1))] [(99, mixO (callO [] false (.int .i64) .pre (fun τ l => O_ref01_Trim l)) (callI (callE [.slice (.int .i64)] [(.slice (.int .i64), false)] (fun τ => F_ref01_Trim τ.1))))]
def c_ref01_Add : List (Nat × Live) := [(17, ⟨[(0, .slice (.int .i64)), (1, .slice (.int .i64)), (6, .int .i64), (7, .int .i64)], [(false, 5, .int .i64)], []⟩), (24, ⟨[(0, .slice (.int .i64)), (1, .slice (.int .i64)), (6, .int .i64), (7, .int .i64)], [(false, 5, .int .i64)], []⟩)]
noncomputable abbrev fe_ref01_Add := (finE (E_ref01_Add) [(.slice (.int .i64), false)] Tryz.f75.results.toList)
noncomputable abbrev cn_ref01_Add_17 (x0 : List Int) (x1 : List Int) (x6 : Int) (x7 : Int) (x5 : List Int) : St := ⟨[(5, .one (.loc (.int .i64) 10000)), (7, .one (.val (.int .i64) x7)), (6, .one (.val (.int .i64) x6)), (1, .one (.val (.slice (.int .i64)) x1)), (0, .one (.val (.slice (.int .i64)) x0))], [(10000, some ⟨.int .i64, x5, false⟩)]⟩
noncomputable abbrev kk_ref01_Add_17 (S : Nat → KT (RT [(.slice (.int .i64), false)])) := fun (x0 : List Int) (x1 : List Int) (x6 : Int) (x7 : Int) (x5 : List Int) => S 17 (cn_ref01_Add_17 x0 x1 x6 x7 x5)
noncomputable abbrev cn_ref01_Add_24 (x0 : List Int) (x1 : List Int) (x6 : Int) (x7 : Int) (x5 : List Int) : St := ⟨[(5, .one (.loc (.int .i64) 10000)), (7, .one (.val (.int .i64) x7)), (6, .one (.val (.int .i64) x6)), (1, .one (.val (.slice (.int .i64)) x1)), (0, .one (.val (.slice (.int .i64)) x0))], [(10000, some ⟨.int .i64, x5, false⟩)]⟩
noncomputable abbrev kk_ref01_Add_24 (S : Nat → KT (RT [(.slice (.int .i64), false)])) := fun (x0 : List Int) (x1 : List Int) (x6 : Int) (x7 : Int) (x5 : List Int) => S 24 (cn_ref01_Add_24 x0 x1 x6 x7 x5)
theorem top_ref01_Add (S : Nat → KT (RT [(.slice (.int .i64), false)])) (a0 : List Int) (a1 : List Int) : evA (E_ref01_Add) (lk c_ref01_Add) S (bodyOf Tryz.f75) noX (fe_ref01_Add) (fe_ref01_Add) (initSt [.slice (.int .i64), .slice (.int .i64)] (a0, a1, ())) = T_ref01_Add (kk_ref01_Add_17 S) (kk_ref01_Add_24 S) a0 a1 := by kernel_rfl
theorem seg_ref01_Add_17 (S : Nat → KT (RT [(.slice (.int .i64), false)])) (x0 : List Int) (x1 : List Int) (x6 : Int) (x7 : Int) (x5 : List Int) : stepT (entry (E_ref01_Add) (lk c_ref01_Add) S 17 (bodyOf Tryz.f75) noX (fe_ref01_Add) (fe_ref01_Add)) (cn_ref01_Add_17 x0 x1 x6 x7 x5) = S_ref01_Add_17 (kk_ref01_Add_17 S) (kk_ref01_Add_24 S) x0 x1 x6 x7 x5 := by kernel_rfl
theorem seg_ref01_Add_24 (S : Nat → KT (RT [(.slice (.int .i64), false)])) (x0 : List Int) (x1 : List Int) (x6 : Int) (x7 : Int) (x5 : List Int) : stepT (entry (E_ref01_Add) (lk c_ref01_Add) S 24 (bodyOf Tryz.f75) noX (fe_ref01_Add) (fe_ref01_Add)) (cn_ref01_Add_24 x0 x1 x6 x7 x5) = S_ref01_Add_24 (kk_ref01_Add_17 S) (kk_ref01_Add_24 S) x0 x1 x6 x7 x5 := by kernel_rfl
noncomputable abbrev tb_ref01_Add := tab (E_ref01_Add) (lk c_ref01_Add) (bodyOf Tryz.f75) (fe_ref01_Add)
theorem ok_ref01_Add : EnvOK Tryz.prog (E_ref01_Add) := mkE_ok tys_ok ⟨⟨fs_ref01_bit.csound, ⟨Tryz.f100, by kernel_rfl, by kernel_rfl, by kernel_rfl⟩⟩, trivial⟩ ⟨⟨PSound.mix os_ref01_Trim.psound (CSound.psound fs_ref01_Trim.csound), ⟨Tryz.f99, by kernel_rfl, by kernel_rfl, by kernel_rfl⟩⟩, trivial⟩
theorem fs_ref01_Add : FSound Tryz.prog 75 [.slice (.int .i64), .slice (.int .i64)] [(.slice (.int .i64), false)] (fun τ => F_ref01_Add τ.1 τ.2.1) :=
  evG_sound (E := (E_ref01_Add)) (C := (lk c_ref01_Add)) ok_ref01_Add mixed_ok (fn := Tryz.f75) (c := (bodyOf Tryz.f75)) (by kernel_rfl) (by kernel_rfl) (by kernel_rfl) (by kernel_rfl) (by kernel_rfl) (by kernel_rfl) (fun τ r h => by
    obtain ⟨a0, a1, ⟨⟩⟩ := τ
    obtain ⟨m, hm⟩ := Rn_ref01_Add (fun m => kk_ref01_Add_17 (tb_ref01_Add m)) (fun m => kk_ref01_Add_24 (tb_ref01_Add m)) (fun m x0 x1 x6 x7 x5 => (tab_succ (E_ref01_Add) (lk c_ref01_Add) (bodyOf Tryz.f75) (fe_ref01_Add) m 17 (cn_ref01_Add_17 x0 x1 x6 x7 x5)).trans (seg_ref01_Add_17 (tb_ref01_Add m) x0 x1 x6 x7 x5)) (fun m x0 x1 x6 x7 x5 => (tab_succ (E_ref01_Add) (lk c_ref01_Add) (bodyOf Tryz.f75) (fe_ref01_Add) m 24 (cn_ref01_Add_24 x0 x1 x6 x7 x5)).trans (seg_ref01_Add_24 (tb_ref01_Add m) x0 x1 x6 x7 x5)) a0 a1 r h
    exact ⟨m, (top_ref01_Add (tb_ref01_Add m) a0 a1).trans (hm m (Nat.le_refl m))⟩)

abbrev E_ref01_Sub : Env := mkE tys [(100, callE [.slice (.int .i64), .int .i64] [(.int .i64, false)] (fun τ => F_ref01_bit τ.1 τ.2.1))] [(99, mixO (callO [] false (.int .i64) .pre (fun τ l => O_ref01_Trim l)) (callI (callE [.slice (.int .i64)] [(.slice (.int .i64), false)] (fun τ => F_ref01_Trim τ.1))))]
def c_ref01_Sub : List (Nat × Live) := [(17, ⟨[(0, .slice (.int .i64)), (1, .slice (.int .i64)), (6, .int .i64), (7, .int .i64)], [(false, 5, .int .i64)], []⟩)]
noncomputable abbrev fe_ref01_Sub := (finE (E_ref01_Sub) [(.slice (.int .i64), false)] Tryz.f77.results.toList)
noncomputable abbrev cn_ref01_Sub_17 (x0 : List Int) (x1 : List Int) (x6 : Int) (x7 : Int) (x5 : List Int) : St := ⟨[(5, .one (.loc (.int .i64) 10000)), (7, .one (.val (.int .i64) x7)), (6, .one (.val (.int .i64) x6)), (1, .one (.val (.slice (.int .i64)) x1)), (0, .one (.val (.slice (.int .i64)) x0))], [(10000, some ⟨.int .i64, x5, false⟩)]⟩
noncomputable abbrev kk_ref01_Sub_17 (S : Nat → KT (RT [(.slice (.int .i64), false)])) := fun (x0 : List Int) (x1 : List Int) (x6 : Int) (x7 : Int) (x5 : List Int) => S 17 (cn_ref01_Sub_17 x0 x1 x6 x7 x5)
theorem top_ref01_Sub (S : Nat → KT (RT [(.slice (.int .i64), false)])) (a0 : List Int) (a1 : List Int) : evA (E_ref01_Sub) (lk c_ref01_Sub) S (bodyOf Tryz.f77) noX (fe_ref01_Sub) (fe_ref01_Sub) (initSt [.slice (.int .i64), .slice (.int .i64)] (a0, a1, ())) = T_ref01_Sub (kk_ref01_Sub_17 S) a0 a1 := by kernel_rfl
theorem seg_ref01_Sub_17 (S : Nat → KT (RT [(.slice (.int .i64), false)])) (x0 : List Int) (x1 : List Int) (x6 : Int) (x7 : Int) (x5 : List Int) : stepT (entry (E_ref01_Sub) (lk c_ref01_Sub) S 17 (bodyOf Tryz.f77) noX (fe_ref01_Sub) (fe_ref01_Sub)) (cn_ref01_Sub_17 x0 x1 x6 x7 x5) = S_ref01_Sub_17 (kk_ref01_Sub_17 S) x0 x1 x6 x7 x5 := by kernel_rfl
noncomputable abbrev tb_ref01_Sub := tab (E_ref01_Sub) (lk c_ref01_Sub) (bodyOf Tryz.f77) (fe_ref01_Sub)
theorem ok_ref01_Sub : EnvOK Tryz.prog (E_ref01_Sub) := mkE_ok tys_ok ⟨⟨fs_ref01_bit.csound, ⟨Tryz.f100, by kernel_rfl, by kernel_rfl, by kernel_rfl⟩⟩, trivial⟩ ⟨⟨PSound.mix os_ref01_Trim.psound (CSound.psound fs_ref01_Trim.csound), ⟨Tryz.f99, by kernel_rfl, by kernel_rfl, by kernel_rfl⟩⟩, trivial⟩
theorem fs_ref01_Sub : FSound Tryz.prog 77 [.slice (.int .i64), .slice (.int .i64)] [(.slice (.int .i64), false)] (fun τ => F_ref01_Sub τ.1 τ.2.1) :=
  evG_sound (E := (E_ref01_Sub)) (C := (lk c_ref01_Sub)) ok_ref01_Sub mixed_ok (fn := Tryz.f77) (c := (bodyOf Tryz.f77)) (by kernel_rfl) (by kernel_rfl) (by kernel_rfl) (by kernel_rfl) (by kernel_rfl) (by kernel_rfl) (fun τ r h => by
    obtain ⟨a0, a1, ⟨⟩⟩ := τ
    obtain ⟨m, hm⟩ := Rn_ref01_Sub (fun m => kk_ref01_Sub_17 (tb_ref01_Sub m)) (fun m x0 x1 x6 x7 x5 => (tab_succ (E_ref01_Sub) (lk c_ref01_Sub) (bodyOf Tryz.f77) (fe_ref01_Sub) m 17 (cn_ref01_Sub_17 x0 x1 x6 x7 x5)).trans (seg_ref01_Sub_17 (tb_ref01_Sub m) x0 x1 x6 x7 x5)) a0 a1 r h
    exact ⟨m, (top_ref01_Sub (tb_ref01_Sub m) a0 a1).trans (hm m (Nat.le_refl m))⟩)

abbrev E_ref02_Add : Env := mkE tys [(74, callE [.bool, .slice (.int .i64)] [(.pair (.int .i64) (.slice (.int .i64)), false)] (fun τ => F_ref02_Make τ.1 τ.2.1)), (75, callE [.slice (.int .i64), .slice (.int .i64)] [(.slice (.int .i64), false)] (fun τ => F_ref01_Add τ.1 τ.2.1)), (76, callE [.slice (.int .i64), .slice (.int .i64)] [(.int .i64, false)] (fun τ => F_ref01_Cmp τ.1 τ.2.1)), (77, callE [.slice (.int .i64), .slice (.int .i64)] [(.slice (.int .i64), false)] (fun τ => F_ref01_Sub τ.1 τ.2.1))] []
def c_ref02_Add : List (Nat × Live) := []
noncomputable abbrev fe_ref02_Add := (finE (E_ref02_Add) [(.pair (.int .i64) (.slice (.int .i64)), false)] Tryz.f52.results.toList)
theorem top_ref02_Add (S : Nat → KT (RT [(.pair (.int .i64) (.slice (.int .i64)), false)])) (a0 : Int × List Int) (a1 : Int × List Int) : evA (E_ref02_Add) (lk c_ref02_Add) S (bodyOf Tryz.f52) noX (fe_ref02_Add) (fe_ref02_Add) (initSt [.pair (.int .i64) (.slice (.int .i64)), .pair (.int .i64) (.slice (.int .i64))] (a0, a1, ())) = T_ref02_Add a0 a1 := by kernel_rfl
noncomputable abbrev tb_ref02_Add := tab (E_ref02_Add) (lk c_ref02_Add) (bodyOf Tryz.f52) (fe_ref02_Add)
theorem ok_ref02_Add : EnvOK Tryz.prog (E_ref02_Add) := mkE_ok tys_ok ⟨⟨fs_ref02_Make.csound, ⟨Tryz.f74, by kernel_rfl, by kernel_rfl, by kernel_rfl⟩⟩, ⟨fs_ref01_Add.csound, ⟨Tryz.f75, by kernel_rfl, by kernel_rfl, by kernel_rfl⟩⟩, ⟨fs_ref01_Cmp.csound, ⟨Tryz.f76, by kernel_rfl, by kernel_rfl, by kernel_rfl⟩⟩, ⟨fs_ref01_Sub.csound, ⟨Tryz.f77, by kernel_rfl, by kernel_rfl, by kernel_rfl⟩⟩, trivial⟩ trivial
theorem fs_ref02_Add : FSound Tryz.prog 52 [.pair (.int .i64) (.slice (.int .i64)), .pair (.int .i64) (.slice (.int .i64))] [(.pair (.int .i64) (.slice (.int .i64)), false)] (fun τ => F_ref02_Add τ.1 τ.2.1) :=
  evG_sound (E := (E_ref02_Add)) (C := (lk c_ref02_Add)) ok_ref02_Add mixed_ok (fn := Tryz.f52) (c := (bodyOf Tryz.f52)) (by kernel_rfl) (by kernel_rfl) (by kernel_rfl) (by kernel_rfl) (by kernel_rfl) (by kernel_rfl) (fun τ r h => by
    obtain ⟨a0, a1, ⟨⟩⟩ := τ
    obtain ⟨m, hm⟩ := Rn_ref02_Add a0 a1 r h
    exact ⟨m, (top_ref02_Add (tb_ref02_Add m) a0 a1).trans (hm m (Nat.le_refl m))⟩)

abbrev E_ref05_Add : Env := mkE tys [(52, callE [.pair (.int .i64) (.slice (.int .i64)), .pair (.int .i64) (.slice (.int .i64))] [(.pair (.int .i64) (.slice (.int .i64)), false)] (fun τ => F_ref02_Add τ.1 τ.2.1)), (53, callE [.pair (.int .i64) (.slice (.int .i64)), .pair (.int .i64) (.slice (.int .i64))] [(.pair (.int .i64) (.slice (.int .i64)), false)] (fun τ => F_ref02_Mul τ.1 τ.2.1))] []
def c_ref05_Add : List (Nat × Live) := []
noncomputable abbrev fe_ref05_Add := (finE (E_ref05_Add) [(.pair (.pair (.int .i64) (.slice (.int .i64))) (.pair (.int .i64) (.slice (.int .i64))), false)] Tryz.f26.results.toList)
theorem top_ref05_Add (S : Nat → KT (RT [(.pair (.pair (.int .i64) (.slice (.int .i64))) (.pair (.int .i64) (.slice (.int .i64))), false)])) (a0 : (Int × List Int) × Int × List Int) (a1 : (Int × List Int) × Int × List Int) : evA (E_ref05_Add) (lk c_ref05_Add) S (bodyOf Tryz.f26) noX (fe_ref05_Add) (fe_ref05_Add) (initSt [.pair (.pair (.int .i64) (.slice (.int .i64))) (.pair (.int .i64) (.slice (.int .i64))), .pair (.pair (.int .i64) (.slice (.int .i64))) (.pair (.int .i64) (.slice (.int .i64)))] (a0, a1, ())) = T_ref05_Add a0 a1 := by kernel_rfl
noncomputable abbrev tb_ref05_Add := tab (E_ref05_Add) (lk c_ref05_Add) (bodyOf Tryz.f26) (fe_ref05_Add)
theorem ok_ref05_Add : EnvOK Tryz.prog (E_ref05_Add) := mkE_ok tys_ok ⟨⟨fs_ref02_Add.csound, ⟨Tryz.f52, by kernel_rfl, by kernel_rfl, by kernel_rfl⟩⟩, ⟨fs_ref02_Mul.csound, ⟨Tryz.f53, by kernel_rfl, by kernel_rfl, by kernel_rfl⟩⟩, trivial⟩ trivial
theorem fs_ref05_Add : FSound Tryz.prog 26 [.pair (.pair (.int .i64) (.slice (.int .i64))) (.pair (.int .i64) (.slice (.int .i64))), .pair (.pair (.int .i64) (.slice (.int .i64))) (.pair (.int .i64) (.slice (.int .i64)))] [(.pair (.pair (.int .i64) (.slice (.int .i64))) (.pair (.int .i64) (.slice (.int .i64))), false)] (fun τ => F_ref05_Add τ.1 τ.2.1) :=
  evG_sound (E := (E_ref05_Add)) (C := (lk c_ref05_Add)) ok_ref05_Add mixed_ok (fn := Tryz.f26) (c := (bodyOf Tryz.f26)) (by kernel_rfl) (by kernel_rfl) (by kernel_rfl) (by kernel_rfl) (by kernel_rfl) (by kernel_rfl) (fun τ r h => by
    obtain ⟨a0, a1, ⟨⟩⟩ := τ
    obtain ⟨m, hm⟩ := Rn_ref05_Add a0 a1 r h
    exact ⟨m, (top_ref05_Add (tb_ref05_Add m) a0 a1).trans (hm m (Nat.le_refl m))⟩)

abbrev E_ref06_Point : Env := mkE tys [] []
def c_ref06_Point : List (Nat × Live) := []
noncomputable abbrev fe_ref06_Point := (finE (E_ref06_Point) [(.pair (.pair (.pair (.int .i64) (.slice (.int .i64))) (.pair (.int .i64) (.slice (.int .i64)))) (.pair (.pair (.int .i64) (.slice (.int .i64))) (.pair (.int .i64) (.slice (.int .i64)))), false)] Tryz.f19.results.toList)
theorem top_ref06_Point (S : Nat → KT (RT [(.pair (.pair (.pair (.int .i64) (.slice (.int .i64))) (.pair (.int .i64) (.slice (.int .i64)))) (.pair (.pair (.int .i64) (.slice (.int .i64))) (.pair (.int .i64) (.slice (.int .i64)))), false)])) (a0 : (Int × List Int) × Int × List Int) : evA (E_ref06_Point) (lk c_ref06_Point) S (bodyOf Tryz.f19) noX (fe_ref06_Point) (fe_ref06_Point) (initSt [.pair (.pair (.int .i64) (.slice (.int .i64))) (.pair (.int .i64) (.slice (.int .i64)))] (a0, ())) = T_ref06_Point a0 := by kernel_rfl
noncomputable abbrev tb_ref06_Point := tab (E_ref06_Point) (lk c_ref06_Point) (bodyOf Tryz.f19) (fe_ref06_Point)
theorem ok_ref06_Point : EnvOK Tryz.prog (E_ref06_Point) := mkE_ok tys_ok trivial trivial
theorem fs_ref06_Point : FSound Tryz.prog 19 [.pair (.pair (.int .i64) (.slice (.int .i64))) (.pair (.int .i64) (.slice (.int .i64)))] [(.pair (.pair (.pair (.int .i64) (.slice (.int .i64))) (.pair (.int .i64) (.slice (.int .i64)))) (.pair (.pair (.int .i64) (.slice (.int .i64))) (.pair (.int .i64) (.slice (.int .i64)))), false)] (fun τ => F_ref06_Point τ.1) :=
  evG_sound (E := (E_ref06_Point)) (C := (lk c_ref06_Point)) ok_ref06_Point mixed_ok (fn := Tryz.f19) (c := (bodyOf Tryz.f19)) (by kernel_rfl) (by kernel_rfl) (by kernel_rfl) (by kernel_rfl) (by kernel_rfl) (by kernel_rfl) (fun τ r h => by
    obtain ⟨a0, ⟨⟩⟩ := τ
    obtain ⟨m, hm⟩ := Rn_ref06_Point a0 r h
    exact ⟨m, (top_ref06_Point (tb_ref06_Point m) a0).trans (hm m (Nat.le_refl m))⟩)

abbrev E_ref06_Hull : Env := mkE tys [(19, callE [.pair (.pair (.int .i64) (.slice (.int .i64))) (.pair (.int .i64) (.slice (.int .i64)))] [(.pair (.pair (.pair (.int .i64) (.slice (.int .i64))) (.pair (.int .i64) (.slice (.int .i64)))) (.pair (.pair (.int .i64) (.slice (.int .i64))) (.pair (.int .i64) (.slice (.int .i64)))), false)] (fun τ => F_ref06_Point τ.1)), (36, callE [.pair (.pair (.int .i64) (.slice (.int .i64))) (.pair (.int .i64) (.slice (.int .i64))), .pair (.pair (.int .i64) (.slice (.int .i64))) (.pair (.int .i64) (.slice (.int .i64)))] [(.int .i64, false)] (fun τ => F_ref05_Cmp τ.1 τ.2.1))] []
def c_ref06_Hull : List (Nat × Live) := [(13, ⟨[(0, .slice (.pair (.pair (.int .i64) (.slice (.int .i64))) (.pair (.int .i64) (.slice (.int .i64))))), (4, .int .i64)], [(true, 2, .pair (.pair (.pair (.int .i64) (.slice (.int .i64))) (.pair (.int .i64) (.slice (.int .i64)))) (.pair (.pair (.int .i64) (.slice (.int .i64))) (.pair (.int .i64) (.slice (.int .i64))))), (true, 3, .pair (.pair (.pair (.int .i64) (.slice (.int .i64))) (.pair (.int .i64) (.slice (.int .i64)))) (.pair (.pair (.int .i64) (.slice (.int .i64))) (.pair (.int .i64) (.slice (.int .i64)))))], []⟩), (28, ⟨[(0, .slice (.pair (.pair (.int .i64) (.slice (.int .i64))) (.pair (.int .i64) (.slice (.int .i64))))), (4, .int .i64)], [(true, 2, .pair (.pair (.pair (.int .i64) (.slice (.int .i64))) (.pair (.int .i64) (.slice (.int .i64)))) (.pair (.pair (.int .i64) (.slice (.int .i64))) (.pair (.int .i64) (.slice (.int .i64))))), (true, 3, .pair (.pair (.pair (.int .i64) (.slice (.int .i64))) (.pair (.int .i64) (.slice (.int .i64)))) (.pair (.pair (.int .i64) (.slice (.int .i64))) (.pair (.int .i64) (.slice (.int .i64)))))], []⟩)]
noncomputable abbrev fe_ref06_Hull := (finE (E_ref06_Hull) [(.pair (.pair (.pair (.int .i64) (.slice (.int .i64))) (.pair (.int .i64) (.slice (.int .i64)))) (.pair (.pair (.int .i64) (.slice (.int .i64))) (.pair (.int .i64) (.slice (.int .i64)))), false)] Tryz.f34.results.toList)
noncomputable abbrev cn_ref06_Hull_13 (x0 : List ((Int × List Int) × Int × List Int)) (x4 : Int) (x2 : ((Int × List Int) × Int × List Int) × (Int × List Int) × Int × List Int) (x3 : ((Int × List Int) × Int × List Int) × (Int × List Int) × Int × List Int) : St := ⟨[(3, .one (.ptr 10001 0 [])), (2, .one (.ptr 10000 0 [])), (4, .one (.val (.int .i64) x4)), (0, .one (.val (.slice (.pair (.pair (.int .i64) (.slice (.int .i64))) (.pair (.int .i64) (.slice (.int .i64))))) x0))], [(10001, some ⟨.pair (.pair (.pair (.int .i64) (.slice (.int .i64))) (.pair (.int .i64) (.slice (.int .i64)))) (.pair (.pair (.int .i64) (.slice (.int .i64))) (.pair (.int .i64) (.slice (.int .i64)))), [x3], false⟩), (10000, some ⟨.pair (.pair (.pair (.int .i64) (.slice (.int .i64))) (.pair (.int .i64) (.slice (.int .i64)))) (.pair (.pair (.int .i64) (.slice (.int .i64))) (.pair (.int .i64) (.slice (.int .i64)))), [x2], false⟩)]⟩
noncomputable abbrev kk_ref06_Hull_13 (S : Nat → KT (RT [(.pair (.pair (.pair (.int .i64) (.slice (.int .i64))) (.pair (.int .i64) (.slice (.int .i64)))) (.pair (.pair (.int .i64) (.slice (.int .i64))) (.pair (.int .i64) (.slice (.int .i64)))), false)])) := fun (x0 : List ((Int × List Int) × Int × List Int)) (x4 : Int) (x2 : ((Int × List Int) × Int × List Int) × (Int × List Int) × Int × List Int) (x3 : ((Int × List Int) × Int × List Int) × (Int × List Int) × Int × List Int) => S 13 (cn_ref06_Hull_13 x0 x4 x2 x3)
noncomputable abbrev cn_ref06_Hull_28 (x0 : List ((Int × List Int) × Int × List Int)) (x4 : Int) (x2 : ((Int × List Int) × Int × List Int) × (Int × List Int) × Int × List Int) (x3 : ((Int × List Int) × Int × List Int) × (Int × List Int) × Int × List Int) : St := ⟨[(3, .one (.ptr 10001 0 [])), (2, .one (.ptr 10000 0 [])), (4, .one (.val (.int .i64) x4)), (0, .one (.val (.slice (.pair (.pair (.int .i64) (.slice (.int .i64))) (.pair (.int .i64) (.slice (.int .i64))))) x0))], [(10001, some ⟨.pair (.pair (.pair (.int .i64) (.slice (.int .i64))) (.pair (.int .i64) (.slice (.int .i64)))) (.pair (.pair (.int .i64) (.slice (.int .i64))) (.pair (.int .i64) (.slice (.int .i64)))), [x3], false⟩), (10000, some ⟨.pair (.pair (.pair (.int .i64) (.slice (.int .i64))) (.pair (.int .i64) (.slice (.int .i64)))) (.pair (.pair (.int .i64) (.slice (.int .i64))) (.pair (.int .i64) (.slice (.int .i64)))), [x2], false⟩)]⟩
noncomputable abbrev kk_ref06_Hull_28 (S : Nat → KT (RT [(.pair (.pair (.pair (.int .i64) (.slice (.int .i64))) (.pair (.int .i64) (.slice (.int .i64)))) (.pair (.pair (.int .i64) (.slice (.int .i64))) (.pair (.int .i64) (.slice (.int .i64)))), false)])) := fun (x0 : List ((Int × List Int) × Int × List Int)) (x4 : Int) (x2 : ((Int × List Int) × Int × List Int) × (Int × List Int) × Int × List Int) (x3 : ((Int × List Int) × Int × List Int) × (Int × List Int) × Int × List Int) => S 28 (cn_ref06_Hull_28 x0 x4 x2 x3)
theorem top_ref06_Hull (S : Nat → KT (RT [(.pair (.pair (.pair (.int .i64) (.slice (.int .i64))) (.pair (.int .i64) (.slice (.int .i64)))) (.pair (.pair (.int .i64) (.slice (.int .i64))) (.pair (.int .i64) (.slice (.int .i64)))), false)])) (a0 : List ((Int × List Int) × Int × List Int)) : evA (E_ref06_Hull) (lk c_ref06_Hull) S (bodyOf Tryz.f34) noX (fe_ref06_Hull) (fe_ref06_Hull) (initSt [.slice (.pair (.pair (.int .i64) (.slice (.int .i64))) (.pair (.int .i64) (.slice (.int .i64))))] (a0, ())) = T_ref06_Hull (kk_ref06_Hull_13 S) (kk_ref06_Hull_28 S) a0 := by kernel_rfl
theorem seg_ref06_Hull_13 (S : Nat → KT (RT [(.pair (.pair (.pair (.int .i64) (.slice (.int .i64))) (.pair (.int .i64) (.slice (.int .i64)))) (.pair (.pair (.int .i64) (.slice (.int .i64))) (.pair (.int .i64) (.slice (.int .i64)))), false)])) (x0 : List ((Int × List Int) × Int × List Int)) (x4 : Int) (x2 : ((Int × List Int) × Int × List Int) × (Int × List Int) × Int × List Int) (x3 : ((Int × List Int) × Int × List Int) × (Int × List Int) × Int × List Int) : stepT (entry (E_ref06_Hull) (lk c_ref06_Hull) S 13 (bodyOf Tryz.f34) noX (fe_ref06_Hull) (fe_ref06_Hull)) (cn_ref06_Hull_13 x0 x4 x2 x3) = S_ref06_Hull_13 (kk_ref06_Hull_13 S) (kk_ref06_Hull_28 S) x0 x4 x2 x3 := by kernel_rfl
theorem seg_ref06_Hull_28 (S : Nat → KT (RT [(.pair (.pair (.pair (.int .i64) (.slice (.int .i64))) (.pair (.int .i64) (.slice (.int .i64)))) (.pair (.pair (.int .i64) (.slice (.int .i64))) (.pair (.int .i64) (.slice (.int .i64)))), false)])) (x0 : List ((Int × List Int) × Int × List Int)) (x4 : Int) (x2 : ((Int × List Int) × Int × List Int) × (Int × List Int) × Int × List Int) (x3 : ((Int × List Int) × Int × List Int) × (Int × List Int) × Int × List Int) : stepT (entry (E_ref06_Hull) (lk c_ref06_Hull) S 28 (bodyOf Tryz.f34) noX (fe_ref06_Hull) (fe_ref06_Hull)) (cn_ref06_Hull_28 x0 x4 x2 x3) = S_ref06_Hull_28 (kk_ref06_Hull_13 S) (kk_ref06_Hull_28 S) x0 x4 x2 x3 := by kernel_rfl
noncomputable abbrev tb_ref06_Hull := tab (E_ref06_Hull) (lk c_ref06_Hull) (bodyOf Tryz.f34) (fe_ref06_Hull)
theorem ok_ref06_Hull : EnvOK Tryz.prog (E_ref06_Hull) := mkE_ok tys_ok ⟨⟨fs_ref06_Point.csound, ⟨Tryz.f19, by kernel_rfl, by kernel_rfl, by kernel_rfl⟩⟩, ⟨fs_ref05_Cmp.csound, ⟨Tryz.f36, by kernel_rfl, by kernel_rfl, by kernel_rfl⟩⟩, trivial⟩ trivial
theorem fs_ref06_Hull : FSound Tryz.prog 34 [.slice (.pair (.pair (.int .i64) (.slice (.int .i64))) (.pair (.int .i64) (.slice (.int .i64))))] [(.pair (.pair (.pair (.int .i64) (.slice (.int .i64))) (.pair (.int .i64) (.slice (.int .i64)))) (.pair (.pair (.int .i64) (.slice (.int .i64))) (.pair (.int .i64) (.slice (.int .i64)))), false)] (fun τ => F_ref06_Hull τ.1) :=
  evG_sound (E := (E_ref06_Hull)) (C := (lk c_ref06_Hull)) ok_ref06_Hull mixed_ok (fn := Tryz.f34) (c := (bodyOf Tryz.f34)) (by kernel_rfl) (by kernel_rfl) (by kernel_rfl) (by kernel_rfl) (by kernel_rfl) (by kernel_rfl) (fun τ r h => by
    obtain ⟨a0, ⟨⟩⟩ := τ
    obtain ⟨m, hm⟩ := Rn_ref06_Hull (fun m => kk_ref06_Hull_13 (tb_ref06_Hull m)) (fun m => kk_ref06_Hull_28 (tb_ref06_Hull m)) (fun m x0 x4 x2 x3 => (tab_succ (E_ref06_Hull) (lk c_ref06_Hull) (bodyOf Tryz.f34) (fe_ref06_Hull) m 13 (cn_ref06_Hull_13 x0 x4 x2 x3)).trans (seg_ref06_Hull_13 (tb_ref06_Hull m) x0 x4 x2 x3)) (fun m x0 x4 x2 x3 => (tab_succ (E_ref06_Hull) (lk c_ref06_Hull) (bodyOf Tryz.f34) (fe_ref06_Hull) m 28 (cn_ref06_Hull_28 x0 x4 x2 x3)).trans (seg_ref06_Hull_28 (tb_ref06_Hull m) x0 x4 x2 x3)) a0 r h
    exact ⟨m, (top_ref06_Hull (tb_ref06_Hull m) a0).trans (hm m (Nat.le_refl m))⟩)

abbrev E_interval_Point : Env := mkE tys [(55, callE [.pair (.pair (.bool) (.slice (.int .u32))) (.slice (.int .u32))] [(.pair (.pair (.bool) (.slice (.int .u32))) (.slice (.int .u32)), false)] (fun τ => F_rational_Normal τ.1))] []
def c_interval_Point : List (Nat × Live) := []
noncomputable abbrev fe_interval_Point := (finE (E_interval_Point) [(.pair (.pair (.pair (.bool) (.slice (.int .u32))) (.slice (.int .u32))) (.pair (.pair (.bool) (.slice (.int .u32))) (.slice (.int .u32))), false)] Tryz.f29.results.toList)
theorem top_interval_Point (S : Nat → KT (RT [(.pair (.pair (.pair (.bool) (.slice (.int .u32))) (.slice (.int .u32))) (.pair (.pair (.bool) (.slice (.int .u32))) (.slice (.int .u32))), false)])) (a0 : (Bool × List Int) × List Int) : evA (E_interval_Point) (lk c_interval_Point) S (bodyOf Tryz.f29) noX (fe_interval_Point) (fe_interval_Point) (initSt [.pair (.pair (.bool) (.slice (.int .u32))) (.slice (.int .u32))] (a0, ())) = T_interval_Point a0 := by kernel_rfl
noncomputable abbrev tb_interval_Point := tab (E_interval_Point) (lk c_interval_Point) (bodyOf Tryz.f29) (fe_interval_Point)
theorem ok_interval_Point : EnvOK Tryz.prog (E_interval_Point) := mkE_ok tys_ok ⟨⟨fs_rational_Normal.csound, ⟨Tryz.f55, by kernel_rfl, by kernel_rfl, by kernel_rfl⟩⟩, trivial⟩ trivial
theorem fs_interval_Point : FSound Tryz.prog 29 [.pair (.pair (.bool) (.slice (.int .u32))) (.slice (.int .u32))] [(.pair (.pair (.pair (.bool) (.slice (.int .u32))) (.slice (.int .u32))) (.pair (.pair (.bool) (.slice (.int .u32))) (.slice (.int .u32))), false)] (fun τ => F_interval_Point τ.1) :=
  evG_sound (E := (E_interval_Point)) (C := (lk c_interval_Point)) ok_interval_Point mixed_ok (fn := Tryz.f29) (c := (bodyOf Tryz.f29)) (by kernel_rfl) (by kernel_rfl) (by kernel_rfl) (by kernel_rfl) (by kernel_rfl) (by kernel_rfl) (fun τ r h => by
    obtain ⟨a0, ⟨⟩⟩ := τ
    obtain ⟨m, hm⟩ := Rn_interval_Point a0 r h
    exact ⟨m, (top_interval_Point (tb_interval_Point m) a0).trans (hm m (Nat.le_refl m))⟩)

abbrev E_ref06_Contains : Env := mkE tys [(36, callE [.pair (.pair (.int .i64) (.slice (.int .i64))) (.pair (.int .i64) (.slice (.int .i64))), .pair (.pair (.int .i64) (.slice (.int .i64))) (.pair (.int .i64) (.slice (.int .i64)))] [(.int .i64, false)] (fun τ => F_ref05_Cmp τ.1 τ.2.1))] []
def c_ref06_Contains : List (Nat × Live) := []
noncomputable abbrev fe_ref06_Contains := (finE (E_ref06_Contains) [(.bool, false)] Tryz.f23.results.toList)
theorem top_ref06_Contains (S : Nat → KT (RT [(.bool, false)])) (a0 : ((Int × List Int) × Int × List Int) × (Int × List Int) × Int × List Int) (a1 : (Int × List Int) × Int × List Int) : evA (E_ref06_Contains) (lk c_ref06_Contains) S (bodyOf Tryz.f23) noX (fe_ref06_Contains) (fe_ref06_Contains) (initSt [.pair (.pair (.pair (.int .i64) (.slice (.int .i64))) (.pair (.int .i64) (.slice (.int .i64)))) (.pair (.pair (.int .i64) (.slice (.int .i64))) (.pair (.int .i64) (.slice (.int .i64)))), .pair (.pair (.int .i64) (.slice (.int .i64))) (.pair (.int .i64) (.slice (.int .i64)))] (a0, a1, ())) = T_ref06_Contains a0 a1 := by kernel_rfl
noncomputable abbrev tb_ref06_Contains := tab (E_ref06_Contains) (lk c_ref06_Contains) (bodyOf Tryz.f23) (fe_ref06_Contains)
theorem ok_ref06_Contains : EnvOK Tryz.prog (E_ref06_Contains) := mkE_ok tys_ok ⟨⟨fs_ref05_Cmp.csound, ⟨Tryz.f36, by kernel_rfl, by kernel_rfl, by kernel_rfl⟩⟩, trivial⟩ trivial
theorem fs_ref06_Contains : FSound Tryz.prog 23 [.pair (.pair (.pair (.int .i64) (.slice (.int .i64))) (.pair (.int .i64) (.slice (.int .i64)))) (.pair (.pair (.int .i64) (.slice (.int .i64))) (.pair (.int .i64) (.slice (.int .i64)))), .pair (.pair (.int .i64) (.slice (.int .i64))) (.pair (.int .i64) (.slice (.int .i64)))] [(.bool, false)] (fun τ => F_ref06_Contains τ.1 τ.2.1) :=
  evG_sound (E := (E_ref06_Contains)) (C := (lk c_ref06_Contains)) ok_ref06_Contains mixed_ok (fn := Tryz.f23) (c := (bodyOf Tryz.f23)) (by kernel_rfl) (by kernel_rfl) (by kernel_rfl) (by kernel_rfl) (by kernel_rfl) (by kernel_rfl) (fun τ r h => by
    obtain ⟨a0, a1, ⟨⟩⟩ := τ
    obtain ⟨m, hm⟩ := Rn_ref06_Contains a0 a1 r h
    exact ⟨m, (top_ref06_Contains (tb_ref06_Contains m) a0 a1).trans (hm m (Nat.le_refl m))⟩)

abbrev E_integer_Abs : Env := mkE tys [(90, callE [.bool, .slice (.int .u32)] [(.pair (.bool) (.slice (.int .u32)), false)] (fun τ => F_integer_From τ.1 τ.2.1))] []
def c_integer_Abs : List (Nat × Live) := []
noncomputable abbrev fe_integer_Abs := (finE (E_integer_Abs) [(.pair (.bool) (.slice (.int .u32)), false)] Tryz.f73.results.toList)
theorem top_integer_Abs (S : Nat → KT (RT [(.pair (.bool) (.slice (.int .u32)), false)])) (a0 : Bool × List Int) : evA (E_integer_Abs) (lk c_integer_Abs) S (bodyOf Tryz.f73) noX (fe_integer_Abs) (fe_integer_Abs) (initSt [.pair (.bool) (.slice (.int .u32))] (a0, ())) = T_integer_Abs a0 := by kernel_rfl
noncomputable abbrev tb_integer_Abs := tab (E_integer_Abs) (lk c_integer_Abs) (bodyOf Tryz.f73) (fe_integer_Abs)
theorem ok_integer_Abs : EnvOK Tryz.prog (E_integer_Abs) := mkE_ok tys_ok ⟨⟨fs_integer_From.csound, ⟨Tryz.f90, by kernel_rfl, by kernel_rfl, by kernel_rfl⟩⟩, trivial⟩ trivial
theorem fs_integer_Abs : FSound Tryz.prog 73 [.pair (.bool) (.slice (.int .u32))] [(.pair (.bool) (.slice (.int .u32)), false)] (fun τ => F_integer_Abs τ.1) :=
  evG_sound (E := (E_integer_Abs)) (C := (lk c_integer_Abs)) ok_integer_Abs mixed_ok (fn := Tryz.f73) (c := (bodyOf Tryz.f73)) (by kernel_rfl) (by kernel_rfl) (by kernel_rfl) (by kernel_rfl) (by kernel_rfl) (by kernel_rfl) (fun τ r h => by
    obtain ⟨a0, ⟨⟩⟩ := τ
    obtain ⟨m, hm⟩ := Rn_integer_Abs a0 r h
    exact ⟨m, (top_integer_Abs (tb_integer_Abs m) a0).trans (hm m (Nat.le_refl m))⟩)

abbrev E_rational_Abs : Env := mkE tys [(65, callE [.pair (.bool) (.slice (.int .u32)), .slice (.int .u32)] [(.pair (.pair (.bool) (.slice (.int .u32))) (.slice (.int .u32)), false)] (fun τ => F_rational_made τ.1 τ.2.1)), (73, callE [.pair (.bool) (.slice (.int .u32))] [(.pair (.bool) (.slice (.int .u32)), false)] (fun τ => F_integer_Abs τ.1))] []
def c_rational_Abs : List (Nat × Live) := []
noncomputable abbrev fe_rational_Abs := (finE (E_rational_Abs) [(.pair (.pair (.bool) (.slice (.int .u32))) (.slice (.int .u32)), false)] Tryz.f50.results.toList)
theorem top_rational_Abs (S : Nat → KT (RT [(.pair (.pair (.bool) (.slice (.int .u32))) (.slice (.int .u32)), false)])) (a0 : (Bool × List Int) × List Int) : evA (E_rational_Abs) (lk c_rational_Abs) S (bodyOf Tryz.f50) noX (fe_rational_Abs) (fe_rational_Abs) (initSt [.pair (.pair (.bool) (.slice (.int .u32))) (.slice (.int .u32))] (a0, ())) = T_rational_Abs a0 := by kernel_rfl
noncomputable abbrev tb_rational_Abs := tab (E_rational_Abs) (lk c_rational_Abs) (bodyOf Tryz.f50) (fe_rational_Abs)
theorem ok_rational_Abs : EnvOK Tryz.prog (E_rational_Abs) := mkE_ok tys_ok ⟨⟨fs_rational_made.csound, ⟨Tryz.f65, by kernel_rfl, by kernel_rfl, by kernel_rfl⟩⟩, ⟨fs_integer_Abs.csound, ⟨Tryz.f73, by kernel_rfl, by kernel_rfl, by kernel_rfl⟩⟩, trivial⟩ trivial
theorem fs_rational_Abs : FSound Tryz.prog 50 [.pair (.pair (.bool) (.slice (.int .u32))) (.slice (.int .u32))] [(.pair (.pair (.bool) (.slice (.int .u32))) (.slice (.int .u32)), false)] (fun τ => F_rational_Abs τ.1) :=
  evG_sound (E := (E_rational_Abs)) (C := (lk c_rational_Abs)) ok_rational_Abs mixed_ok (fn := Tryz.f50) (c := (bodyOf Tryz.f50)) (by kernel_rfl) (by kernel_rfl) (by kernel_rfl) (by kernel_rfl) (by kernel_rfl) (by kernel_rfl) (fun τ r h => by
    obtain ⟨a0, ⟨⟩⟩ := τ
    obtain ⟨m, hm⟩ := Rn_rational_Abs a0 r h
    exact ⟨m, (top_rational_Abs (tb_rational_Abs m) a0).trans (hm m (Nat.le_refl m))⟩)

abbrev E_rational_Sub : Env := mkE tys [(43, callE [.pair (.pair (.bool) (.slice (.int .u32))) (.slice (.int .u32)), .pair (.pair (.bool) (.slice (.int .u32))) (.slice (.int .u32))] [(.pair (.pair (.bool) (.slice (.int .u32))) (.slice (.int .u32)), false)] (fun τ => F_rational_Add τ.1 τ.2.1)), (66, callE [.pair (.bool) (.slice (.int .u32))] [(.pair (.bool) (.slice (.int .u32)), false)] (fun τ => F_integer_Neg τ.1))] []
def c_rational_Sub : List (Nat × Live) := []
noncomputable abbrev fe_rational_Sub := (finE (E_rational_Sub) [(.pair (.pair (.bool) (.slice (.int .u32))) (.slice (.int .u32)), false)] Tryz.f51.results.toList)
theorem top_rational_Sub (S : Nat → KT (RT [(.pair (.pair (.bool) (.slice (.int .u32))) (.slice (.int .u32)), false)])) (a0 : (Bool × List Int) × List Int) (a1 : (Bool × List Int) × List Int) : evA (E_rational_Sub) (lk c_rational_Sub) S (bodyOf Tryz.f51) noX (fe_rational_Sub) (fe_rational_Sub) (initSt [.pair (.pair (.bool) (.slice (.int .u32))) (.slice (.int .u32)), .pair (.pair (.bool) (.slice (.int .u32))) (.slice (.int .u32))] (a0, a1, ())) = T_rational_Sub a0 a1 := by kernel_rfl
noncomputable abbrev tb_rational_Sub := tab (E_rational_Sub) (lk c_rational_Sub) (bodyOf Tryz.f51) (fe_rational_Sub)
theorem ok_rational_Sub : EnvOK Tryz.prog (E_rational_Sub) := mkE_ok tys_ok ⟨⟨fs_rational_Add.csound, ⟨Tryz.f43, by kernel_rfl, by kernel_rfl, by kernel_rfl⟩⟩, ⟨fs_integer_Neg.csound, ⟨Tryz.f66, by kernel_rfl, by kernel_rfl, by kernel_rfl⟩⟩, trivial⟩ trivial
theorem fs_rational_Sub : FSound Tryz.prog 51 [.pair (.pair (.bool) (.slice (.int .u32))) (.slice (.int .u32)), .pair (.pair (.bool) (.slice (.int .u32))) (.slice (.int .u32))] [(.pair (.pair (.bool) (.slice (.int .u32))) (.slice (.int .u32)), false)] (fun τ => F_rational_Sub τ.1 τ.2.1) :=
  evG_sound (E := (E_rational_Sub)) (C := (lk c_rational_Sub)) ok_rational_Sub mixed_ok (fn := Tryz.f51) (c := (bodyOf Tryz.f51)) (by kernel_rfl) (by kernel_rfl) (by kernel_rfl) (by kernel_rfl) (by kernel_rfl) (by kernel_rfl) (fun τ r h => by
    obtain ⟨a0, a1, ⟨⟩⟩ := τ
    obtain ⟨m, hm⟩ := Rn_rational_Sub a0 a1 r h
    exact ⟨m, (top_rational_Sub (tb_rational_Sub m) a0 a1).trans (hm m (Nat.le_refl m))⟩)

abbrev E_interval_Width : Env := mkE tys [(50, callE [.pair (.pair (.bool) (.slice (.int .u32))) (.slice (.int .u32))] [(.pair (.pair (.bool) (.slice (.int .u32))) (.slice (.int .u32)), false)] (fun τ => F_rational_Abs τ.1)), (51, callE [.pair (.pair (.bool) (.slice (.int .u32))) (.slice (.int .u32)), .pair (.pair (.bool) (.slice (.int .u32))) (.slice (.int .u32))] [(.pair (.pair (.bool) (.slice (.int .u32))) (.slice (.int .u32)), false)] (fun τ => F_rational_Sub τ.1 τ.2.1))] []
def c_interval_Width : List (Nat × Live) := []
noncomputable abbrev fe_interval_Width := (finE (E_interval_Width) [(.pair (.pair (.bool) (.slice (.int .u32))) (.slice (.int .u32)), false)] Tryz.f25.results.toList)
theorem top_interval_Width (S : Nat → KT (RT [(.pair (.pair (.bool) (.slice (.int .u32))) (.slice (.int .u32)), false)])) (a0 : ((Bool × List Int) × List Int) × (Bool × List Int) × List Int) : evA (E_interval_Width) (lk c_interval_Width) S (bodyOf Tryz.f25) noX (fe_interval_Width) (fe_interval_Width) (initSt [.pair (.pair (.pair (.bool) (.slice (.int .u32))) (.slice (.int .u32))) (.pair (.pair (.bool) (.slice (.int .u32))) (.slice (.int .u32)))] (a0, ())) = T_interval_Width a0 := by kernel_rfl
noncomputable abbrev tb_interval_Width := tab (E_interval_Width) (lk c_interval_Width) (bodyOf Tryz.f25) (fe_interval_Width)
theorem ok_interval_Width : EnvOK Tryz.prog (E_interval_Width) := mkE_ok tys_ok ⟨⟨fs_rational_Abs.csound, ⟨Tryz.f50, by kernel_rfl, by kernel_rfl, by kernel_rfl⟩⟩, ⟨fs_rational_Sub.csound, ⟨Tryz.f51, by kernel_rfl, by kernel_rfl, by kernel_rfl⟩⟩, trivial⟩ trivial
theorem fs_interval_Width : FSound Tryz.prog 25 [.pair (.pair (.pair (.bool) (.slice (.int .u32))) (.slice (.int .u32))) (.pair (.pair (.bool) (.slice (.int .u32))) (.slice (.int .u32)))] [(.pair (.pair (.bool) (.slice (.int .u32))) (.slice (.int .u32)), false)] (fun τ => F_interval_Width τ.1) :=
  evG_sound (E := (E_interval_Width)) (C := (lk c_interval_Width)) ok_interval_Width mixed_ok (fn := Tryz.f25) (c := (bodyOf Tryz.f25)) (by kernel_rfl) (by kernel_rfl) (by kernel_rfl) (by kernel_rfl) (by kernel_rfl) (by kernel_rfl) (fun τ r h => by
    obtain ⟨a0, ⟨⟩⟩ := τ
    obtain ⟨m, hm⟩ := Rn_interval_Width a0 r h
    exact ⟨m, (top_interval_Width (tb_interval_Width m) a0).trans (hm m (Nat.le_refl m))⟩)

abbrev E_interval_Contains : Env := mkE tys [(45, callE [.pair (.pair (.bool) (.slice (.int .u32))) (.slice (.int .u32)), .pair (.pair (.bool) (.slice (.int .u32))) (.slice (.int .u32))] [(.pair (.pair (.bool) (.slice (.int .u32))) (.slice (.int .u32)), false)] (fun τ => F_interval_least τ.1 τ.2.1)), (46, callE [.pair (.pair (.bool) (.slice (.int .u32))) (.slice (.int .u32)), .pair (.pair (.bool) (.slice (.int .u32))) (.slice (.int .u32))] [(.pair (.pair (.bool) (.slice (.int .u32))) (.slice (.int .u32)), false)] (fun τ => F_interval_greatest τ.1 τ.2.1)), (56, callE [.pair (.pair (.bool) (.slice (.int .u32))) (.slice (.int .u32)), .pair (.pair (.bool) (.slice (.int .u32))) (.slice (.int .u32))] [(.int .i64, false)] (fun τ => F_rational_Cmp τ.1 τ.2.1))] []
def c_interval_Contains : List (Nat × Live) := []
noncomputable abbrev fe_interval_Contains := (finE (E_interval_Contains) [(.bool, false)] Tryz.f30.results.toList)
theorem top_interval_Contains (S : Nat → KT (RT [(.bool, false)])) (a0 : ((Bool × List Int) × List Int) × (Bool × List Int) × List Int) (a1 : (Bool × List Int) × List Int) : evA (E_interval_Contains) (lk c_interval_Contains) S (bodyOf Tryz.f30) noX (fe_interval_Contains) (fe_interval_Contains) (initSt [.pair (.pair (.pair (.bool) (.slice (.int .u32))) (.slice (.int .u32))) (.pair (.pair (.bool) (.slice (.int .u32))) (.slice (.int .u32))), .pair (.pair (.bool) (.slice (.int .u32))) (.slice (.int .u32))] (a0, a1, ())) = T_interval_Contains a0 a1 := by kernel_rfl
noncomputable abbrev tb_interval_Contains := tab (E_interval_Contains) (lk c_interval_Contains) (bodyOf Tryz.f30) (fe_interval_Contains)
theorem ok_interval_Contains : EnvOK Tryz.prog (E_interval_Contains) := mkE_ok tys_ok ⟨⟨fs_interval_least.csound, ⟨Tryz.f45, by kernel_rfl, by kernel_rfl, by kernel_rfl⟩⟩, ⟨fs_interval_greatest.csound, ⟨Tryz.f46, by kernel_rfl, by kernel_rfl, by kernel_rfl⟩⟩, ⟨fs_rational_Cmp.csound, ⟨Tryz.f56, by kernel_rfl, by kernel_rfl, by kernel_rfl⟩⟩, trivial⟩ trivial
theorem fs_interval_Contains : FSound Tryz.prog 30 [.pair (.pair (.pair (.bool) (.slice (.int .u32))) (.slice (.int .u32))) (.pair (.pair (.bool) (.slice (.int .u32))) (.slice (.int .u32))), .pair (.pair (.bool) (.slice (.int .u32))) (.slice (.int .u32))] [(.bool, false)] (fun τ => F_interval_Contains τ.1 τ.2.1) :=
  evG_sound (E := (E_interval_Contains)) (C := (lk c_interval_Contains)) ok_interval_Contains mixed_ok (fn := Tryz.f30) (c := (bodyOf Tryz.f30)) (by kernel_rfl) (by kernel_rfl) (by kernel_rfl) (by kernel_rfl) (by kernel_rfl) (by kernel_rfl) (fun τ r h => by
    obtain ⟨a0, a1, ⟨⟩⟩ := τ
    obtain ⟨m, hm⟩ := Rn_interval_Contains a0 a1 r h
    exact ⟨m, (top_interval_Contains (tb_interval_Contains m) a0 a1).trans (hm m (Nat.le_refl m))⟩)

abbrev E_interval_Within : Env := mkE tys [(30, callE [.pair (.pair (.pair (.bool) (.slice (.int .u32))) (.slice (.int .u32))) (.pair (.pair (.bool) (.slice (.int .u32))) (.slice (.int .u32))), .pair (.pair (.bool) (.slice (.int .u32))) (.slice (.int .u32))] [(.bool, false)] (fun τ => F_interval_Contains τ.1 τ.2.1))] []
def c_interval_Within : List (Nat × Live) := []
noncomputable abbrev fe_interval_Within := (finE (E_interval_Within) [(.bool, false)] Tryz.f32.results.toList)
theorem top_interval_Within (S : Nat → KT (RT [(.bool, false)])) (a0 : ((Bool × List Int) × List Int) × (Bool × List Int) × List Int) (a1 : ((Bool × List Int) × List Int) × (Bool × List Int) × List Int) : evA (E_interval_Within) (lk c_interval_Within) S (bodyOf Tryz.f32) noX (fe_interval_Within) (fe_interval_Within) (initSt [.pair (.pair (.pair (.bool) (.slice (.int .u32))) (.slice (.int .u32))) (.pair (.pair (.bool) (.slice (.int .u32))) (.slice (.int .u32))), .pair (.pair (.pair (.bool) (.slice (.int .u32))) (.slice (.int .u32))) (.pair (.pair (.bool) (.slice (.int .u32))) (.slice (.int .u32)))] (a0, a1, ())) = T_interval_Within a0 a1 := by kernel_rfl
noncomputable abbrev tb_interval_Within := tab (E_interval_Within) (lk c_interval_Within) (bodyOf Tryz.f32) (fe_interval_Within)
theorem ok_interval_Within : EnvOK Tryz.prog (E_interval_Within) := mkE_ok tys_ok ⟨⟨fs_interval_Contains.csound, ⟨Tryz.f30, by kernel_rfl, by kernel_rfl, by kernel_rfl⟩⟩, trivial⟩ trivial
theorem fs_interval_Within : FSound Tryz.prog 32 [.pair (.pair (.pair (.bool) (.slice (.int .u32))) (.slice (.int .u32))) (.pair (.pair (.bool) (.slice (.int .u32))) (.slice (.int .u32))), .pair (.pair (.pair (.bool) (.slice (.int .u32))) (.slice (.int .u32))) (.pair (.pair (.bool) (.slice (.int .u32))) (.slice (.int .u32)))] [(.bool, false)] (fun τ => F_interval_Within τ.1 τ.2.1) :=
  evG_sound (E := (E_interval_Within)) (C := (lk c_interval_Within)) ok_interval_Within mixed_ok (fn := Tryz.f32) (c := (bodyOf Tryz.f32)) (by kernel_rfl) (by kernel_rfl) (by kernel_rfl) (by kernel_rfl) (by kernel_rfl) (by kernel_rfl) (fun τ r h => by
    obtain ⟨a0, a1, ⟨⟩⟩ := τ
    obtain ⟨m, hm⟩ := Rn_interval_Within a0 a1 r h
    exact ⟨m, (top_interval_Within (tb_interval_Within m) a0 a1).trans (hm m (Nat.le_refl m))⟩)

abbrev E_interval_Hull : Env := mkE tys [(28, callE [.pair (.pair (.pair (.bool) (.slice (.int .u32))) (.slice (.int .u32))) (.pair (.pair (.bool) (.slice (.int .u32))) (.slice (.int .u32)))] [(.pair (.pair (.pair (.bool) (.slice (.int .u32))) (.slice (.int .u32))) (.pair (.pair (.bool) (.slice (.int .u32))) (.slice (.int .u32))), false)] (fun τ => F_interval_Normal τ.1)), (45, callE [.pair (.pair (.bool) (.slice (.int .u32))) (.slice (.int .u32)), .pair (.pair (.bool) (.slice (.int .u32))) (.slice (.int .u32))] [(.pair (.pair (.bool) (.slice (.int .u32))) (.slice (.int .u32)), false)] (fun τ => F_interval_least τ.1 τ.2.1)), (46, callE [.pair (.pair (.bool) (.slice (.int .u32))) (.slice (.int .u32)), .pair (.pair (.bool) (.slice (.int .u32))) (.slice (.int .u32))] [(.pair (.pair (.bool) (.slice (.int .u32))) (.slice (.int .u32)), false)] (fun τ => F_interval_greatest τ.1 τ.2.1))] []
def c_interval_Hull : List (Nat × Live) := []
noncomputable abbrev fe_interval_Hull := (finE (E_interval_Hull) [(.pair (.pair (.pair (.bool) (.slice (.int .u32))) (.slice (.int .u32))) (.pair (.pair (.bool) (.slice (.int .u32))) (.slice (.int .u32))), false)] Tryz.f33.results.toList)
theorem top_interval_Hull (S : Nat → KT (RT [(.pair (.pair (.pair (.bool) (.slice (.int .u32))) (.slice (.int .u32))) (.pair (.pair (.bool) (.slice (.int .u32))) (.slice (.int .u32))), false)])) (a0 : ((Bool × List Int) × List Int) × (Bool × List Int) × List Int) (a1 : ((Bool × List Int) × List Int) × (Bool × List Int) × List Int) : evA (E_interval_Hull) (lk c_interval_Hull) S (bodyOf Tryz.f33) noX (fe_interval_Hull) (fe_interval_Hull) (initSt [.pair (.pair (.pair (.bool) (.slice (.int .u32))) (.slice (.int .u32))) (.pair (.pair (.bool) (.slice (.int .u32))) (.slice (.int .u32))), .pair (.pair (.pair (.bool) (.slice (.int .u32))) (.slice (.int .u32))) (.pair (.pair (.bool) (.slice (.int .u32))) (.slice (.int .u32)))] (a0, a1, ())) = T_interval_Hull a0 a1 := by kernel_rfl
noncomputable abbrev tb_interval_Hull := tab (E_interval_Hull) (lk c_interval_Hull) (bodyOf Tryz.f33) (fe_interval_Hull)
theorem ok_interval_Hull : EnvOK Tryz.prog (E_interval_Hull) := mkE_ok tys_ok ⟨⟨fs_interval_Normal.csound, ⟨Tryz.f28, by kernel_rfl, by kernel_rfl, by kernel_rfl⟩⟩, ⟨fs_interval_least.csound, ⟨Tryz.f45, by kernel_rfl, by kernel_rfl, by kernel_rfl⟩⟩, ⟨fs_interval_greatest.csound, ⟨Tryz.f46, by kernel_rfl, by kernel_rfl, by kernel_rfl⟩⟩, trivial⟩ trivial
theorem fs_interval_Hull : FSound Tryz.prog 33 [.pair (.pair (.pair (.bool) (.slice (.int .u32))) (.slice (.int .u32))) (.pair (.pair (.bool) (.slice (.int .u32))) (.slice (.int .u32))), .pair (.pair (.pair (.bool) (.slice (.int .u32))) (.slice (.int .u32))) (.pair (.pair (.bool) (.slice (.int .u32))) (.slice (.int .u32)))] [(.pair (.pair (.pair (.bool) (.slice (.int .u32))) (.slice (.int .u32))) (.pair (.pair (.bool) (.slice (.int .u32))) (.slice (.int .u32))), false)] (fun τ => F_interval_Hull τ.1 τ.2.1) :=
  evG_sound (E := (E_interval_Hull)) (C := (lk c_interval_Hull)) ok_interval_Hull mixed_ok (fn := Tryz.f33) (c := (bodyOf Tryz.f33)) (by kernel_rfl) (by kernel_rfl) (by kernel_rfl) (by kernel_rfl) (by kernel_rfl) (by kernel_rfl) (fun τ r h => by
    obtain ⟨a0, a1, ⟨⟩⟩ := τ
    obtain ⟨m, hm⟩ := Rn_interval_Hull a0 a1 r h
    exact ⟨m, (top_interval_Hull (tb_interval_Hull m) a0 a1).trans (hm m (Nat.le_refl m))⟩)

abbrev E_interval_Meet : Env := mkE tys [(45, callE [.pair (.pair (.bool) (.slice (.int .u32))) (.slice (.int .u32)), .pair (.pair (.bool) (.slice (.int .u32))) (.slice (.int .u32))] [(.pair (.pair (.bool) (.slice (.int .u32))) (.slice (.int .u32)), false)] (fun τ => F_interval_least τ.1 τ.2.1)), (46, callE [.pair (.pair (.bool) (.slice (.int .u32))) (.slice (.int .u32)), .pair (.pair (.bool) (.slice (.int .u32))) (.slice (.int .u32))] [(.pair (.pair (.bool) (.slice (.int .u32))) (.slice (.int .u32)), false)] (fun τ => F_interval_greatest τ.1 τ.2.1)), (55, callE [.pair (.pair (.bool) (.slice (.int .u32))) (.slice (.int .u32))] [(.pair (.pair (.bool) (.slice (.int .u32))) (.slice (.int .u32)), false)] (fun τ => F_rational_Normal τ.1)), (56, callE [.pair (.pair (.bool) (.slice (.int .u32))) (.slice (.int .u32)), .pair (.pair (.bool) (.slice (.int .u32))) (.slice (.int .u32))] [(.int .i64, false)] (fun τ => F_rational_Cmp τ.1 τ.2.1))] []
def c_interval_Meet : List (Nat × Live) := []
noncomputable abbrev fe_interval_Meet := (finE (E_interval_Meet) [(.pair (.pair (.pair (.bool) (.slice (.int .u32))) (.slice (.int .u32))) (.pair (.pair (.bool) (.slice (.int .u32))) (.slice (.int .u32))), false), (.bool, false)] Tryz.f35.results.toList)
theorem top_interval_Meet (S : Nat → KT (RT [(.pair (.pair (.pair (.bool) (.slice (.int .u32))) (.slice (.int .u32))) (.pair (.pair (.bool) (.slice (.int .u32))) (.slice (.int .u32))), false), (.bool, false)])) (a0 : ((Bool × List Int) × List Int) × (Bool × List Int) × List Int) (a1 : ((Bool × List Int) × List Int) × (Bool × List Int) × List Int) : evA (E_interval_Meet) (lk c_interval_Meet) S (bodyOf Tryz.f35) noX (fe_interval_Meet) (fe_interval_Meet) (initSt [.pair (.pair (.pair (.bool) (.slice (.int .u32))) (.slice (.int .u32))) (.pair (.pair (.bool) (.slice (.int .u32))) (.slice (.int .u32))), .pair (.pair (.pair (.bool) (.slice (.int .u32))) (.slice (.int .u32))) (.pair (.pair (.bool) (.slice (.int .u32))) (.slice (.int .u32)))] (a0, a1, ())) = T_interval_Meet a0 a1 := by kernel_rfl
noncomputable abbrev tb_interval_Meet := tab (E_interval_Meet) (lk c_interval_Meet) (bodyOf Tryz.f35) (fe_interval_Meet)
theorem ok_interval_Meet : EnvOK Tryz.prog (E_interval_Meet) := mkE_ok tys_ok ⟨⟨fs_interval_least.csound, ⟨Tryz.f45, by kernel_rfl, by kernel_rfl, by kernel_rfl⟩⟩, ⟨fs_interval_greatest.csound, ⟨Tryz.f46, by kernel_rfl, by kernel_rfl, by kernel_rfl⟩⟩, ⟨fs_rational_Normal.csound, ⟨Tryz.f55, by kernel_rfl, by kernel_rfl, by kernel_rfl⟩⟩, ⟨fs_rational_Cmp.csound, ⟨Tryz.f56, by kernel_rfl, by kernel_rfl, by kernel_rfl⟩⟩, trivial⟩ trivial
theorem fs_interval_Meet : FSound Tryz.prog 35 [.pair (.pair (.pair (.bool) (.slice (.int .u32))) (.slice (.int .u32))) (.pair (.pair (.bool) (.slice (.int .u32))) (.slice (.int .u32))), .pair (.pair (.pair (.bool) (.slice (.int .u32))) (.slice (.int .u32))) (.pair (.pair (.bool) (.slice (.int .u32))) (.slice (.int .u32)))] [(.pair (.pair (.pair (.bool) (.slice (.int .u32))) (.slice (.int .u32))) (.pair (.pair (.bool) (.slice (.int .u32))) (.slice (.int .u32))), false), (.bool, false)] (fun τ => F_interval_Meet τ.1 τ.2.1) :=
  evG_sound (E := (E_interval_Meet)) (C := (lk c_interval_Meet)) ok_interval_Meet mixed_ok (fn := Tryz.f35) (c := (bodyOf Tryz.f35)) (by kernel_rfl) (by kernel_rfl) (by kernel_rfl) (by kernel_rfl) (by kernel_rfl) (by kernel_rfl) (fun τ r h => by
    obtain ⟨a0, a1, ⟨⟩⟩ := τ
    obtain ⟨m, hm⟩ := Rn_interval_Meet a0 a1 r h
    exact ⟨m, (top_interval_Meet (tb_interval_Meet m) a0 a1).trans (hm m (Nat.le_refl m))⟩)

abbrev E_rational_Sign : Env := mkE tys [(67, callE [.pair (.pair (.bool) (.slice (.int .u32))) (.slice (.int .u32))] [(.pair (.bool) (.slice (.int .u32)), false), (.pair (.bool) (.slice (.int .u32)), false)] (fun τ => F_rational_parts τ.1)), (79, callE [.pair (.bool) (.slice (.int .u32))] [(.int .i64, false)] (fun τ => F_integer_Sign τ.1))] []
def c_rational_Sign : List (Nat × Live) := []
noncomputable abbrev fe_rational_Sign := (finE (E_rational_Sign) [(.int .i64, false)] Tryz.f60.results.toList)
theorem top_rational_Sign (S : Nat → KT (RT [(.int .i64, false)])) (a0 : (Bool × List Int) × List Int) : evA (E_rational_Sign) (lk c_rational_Sign) S (bodyOf Tryz.f60) noX (fe_rational_Sign) (fe_rational_Sign) (initSt [.pair (.pair (.bool) (.slice (.int .u32))) (.slice (.int .u32))] (a0, ())) = T_rational_Sign a0 := by kernel_rfl
noncomputable abbrev tb_rational_Sign := tab (E_rational_Sign) (lk c_rational_Sign) (bodyOf Tryz.f60) (fe_rational_Sign)
theorem ok_rational_Sign : EnvOK Tryz.prog (E_rational_Sign) := mkE_ok tys_ok ⟨⟨fs_rational_parts.csound, ⟨Tryz.f67, by kernel_rfl, by kernel_rfl, by kernel_rfl⟩⟩, ⟨fs_integer_Sign.csound, ⟨Tryz.f79, by kernel_rfl, by kernel_rfl, by kernel_rfl⟩⟩, trivial⟩ trivial
theorem fs_rational_Sign : FSound Tryz.prog 60 [.pair (.pair (.bool) (.slice (.int .u32))) (.slice (.int .u32))] [(.int .i64, false)] (fun τ => F_rational_Sign τ.1) :=
  evG_sound (E := (E_rational_Sign)) (C := (lk c_rational_Sign)) ok_rational_Sign mixed_ok (fn := Tryz.f60) (c := (bodyOf Tryz.f60)) (by kernel_rfl) (by kernel_rfl) (by kernel_rfl) (by kernel_rfl) (by kernel_rfl) (by kernel_rfl) (fun τ r h => by
    obtain ⟨a0, ⟨⟩⟩ := τ
    obtain ⟨m, hm⟩ := Rn_rational_Sign a0 r h
    exact ⟨m, (top_rational_Sign (tb_rational_Sign m) a0).trans (hm m (Nat.le_refl m))⟩)

abbrev E_law06_none : Env := mkE tys [(60, callE [.pair (.pair (.bool) (.slice (.int .u32))) (.slice (.int .u32))] [(.int .i64, false)] (fun τ => F_rational_Sign τ.1))] []
def c_law06_none : List (Nat × Live) := []
noncomputable abbrev fe_law06_none := (finE (E_law06_none) [(.bool, false)] Tryz.f37.results.toList)
theorem top_law06_none (S : Nat → KT (RT [(.bool, false)])) (a0 : ((Bool × List Int) × List Int) × (Bool × List Int) × List Int) : evA (E_law06_none) (lk c_law06_none) S (bodyOf Tryz.f37) noX (fe_law06_none) (fe_law06_none) (initSt [.pair (.pair (.pair (.bool) (.slice (.int .u32))) (.slice (.int .u32))) (.pair (.pair (.bool) (.slice (.int .u32))) (.slice (.int .u32)))] (a0, ())) = T_law06_none a0 := by kernel_rfl
noncomputable abbrev tb_law06_none := tab (E_law06_none) (lk c_law06_none) (bodyOf Tryz.f37) (fe_law06_none)
theorem ok_law06_none : EnvOK Tryz.prog (E_law06_none) := mkE_ok tys_ok ⟨⟨fs_rational_Sign.csound, ⟨Tryz.f60, by kernel_rfl, by kernel_rfl, by kernel_rfl⟩⟩, trivial⟩ trivial
theorem fs_law06_none : FSound Tryz.prog 37 [.pair (.pair (.pair (.bool) (.slice (.int .u32))) (.slice (.int .u32))) (.pair (.pair (.bool) (.slice (.int .u32))) (.slice (.int .u32)))] [(.bool, false)] (fun τ => F_law06_none τ.1) :=
  evG_sound (E := (E_law06_none)) (C := (lk c_law06_none)) ok_law06_none mixed_ok (fn := Tryz.f37) (c := (bodyOf Tryz.f37)) (by kernel_rfl) (by kernel_rfl) (by kernel_rfl) (by kernel_rfl) (by kernel_rfl) (by kernel_rfl) (fun τ r h => by
    obtain ⟨a0, ⟨⟩⟩ := τ
    obtain ⟨m, hm⟩ := Rn_law06_none a0 r h
    exact ⟨m, (top_law06_none (tb_law06_none m) a0).trans (hm m (Nat.le_refl m))⟩)

abbrev E_law06_IntervalSets : Env := mkE tys [(6, callE [] [(.bool, false)] (fun τ => F_law06_awake)), (7, callE [.int .i64, .pair (.pair (.pair (.bool) (.slice (.int .u32))) (.slice (.int .u32))) (.pair (.pair (.bool) (.slice (.int .u32))) (.slice (.int .u32))), .pair (.pair (.pair (.bool) (.slice (.int .u32))) (.slice (.int .u32))) (.pair (.pair (.bool) (.slice (.int .u32))) (.slice (.int .u32)))] [(.bool, false)] (fun τ => F_law06_few τ.1 τ.2.1 τ.2.2.1)), (8, callE [.int .i64, .pair (.pair (.bool) (.slice (.int .u32))) (.slice (.int .u32))] [(.bool, false)] (fun τ => F_law06_small τ.1 τ.2.1)), (9, callE [.pair (.pair (.pair (.bool) (.slice (.int .u32))) (.slice (.int .u32))) (.pair (.pair (.bool) (.slice (.int .u32))) (.slice (.int .u32)))] [(.pair (.pair (.pair (.int .i64) (.slice (.int .i64))) (.pair (.int .i64) (.slice (.int .i64)))) (.pair (.pair (.int .i64) (.slice (.int .i64))) (.pair (.int .i64) (.slice (.int .i64)))), false)] (fun τ => F_law06_of τ.1)), (10, callE [.pair (.pair (.pair (.bool) (.slice (.int .u32))) (.slice (.int .u32))) (.pair (.pair (.bool) (.slice (.int .u32))) (.slice (.int .u32))), .pair (.pair (.pair (.int .i64) (.slice (.int .i64))) (.pair (.int .i64) (.slice (.int .i64)))) (.pair (.pair (.int .i64) (.slice (.int .i64))) (.pair (.int .i64) (.slice (.int .i64))))] [(.bool, false)] (fun τ => F_law06_is τ.1 τ.2.1)), (19, callE [.pair (.pair (.int .i64) (.slice (.int .i64))) (.pair (.int .i64) (.slice (.int .i64)))] [(.pair (.pair (.pair (.int .i64) (.slice (.int .i64))) (.pair (.int .i64) (.slice (.int .i64)))) (.pair (.pair (.int .i64) (.slice (.int .i64))) (.pair (.int .i64) (.slice (.int .i64)))), false)] (fun τ => F_ref06_Point τ.1)), (20, callE [.pair (.pair (.bool) (.slice (.int .u32))) (.slice (.int .u32))] [(.pair (.pair (.int .i64) (.slice (.int .i64))) (.pair (.int .i64) (.slice (.int .i64))), false)] (fun τ => F_law06_q τ.1)), (23, callE [.pair (.pair (.pair (.int .i64) (.slice (.int .i64))) (.pair (.int .i64) (.slice (.int .i64)))) (.pair (.pair (.int .i64) (.slice (.int .i64))) (.pair (.int .i64) (.slice (.int .i64)))), .pair (.pair (.int .i64) (.slice (.int .i64))) (.pair (.int .i64) (.slice (.int .i64)))] [(.bool, false)] (fun τ => F_ref06_Contains τ.1 τ.2.1)), (25, callE [.pair (.pair (.pair (.bool) (.slice (.int .u32))) (.slice (.int .u32))) (.pair (.pair (.bool) (.slice (.int .u32))) (.slice (.int .u32)))] [(.pair (.pair (.bool) (.slice (.int .u32))) (.slice (.int .u32)), false)] (fun τ => F_interval_Width τ.1)), (26, callE [.pair (.pair (.int .i64) (.slice (.int .i64))) (.pair (.int .i64) (.slice (.int .i64))), .pair (.pair (.int .i64) (.slice (.int .i64))) (.pair (.int .i64) (.slice (.int .i64)))] [(.pair (.pair (.int .i64) (.slice (.int .i64))) (.pair (.int .i64) (.slice (.int .i64))), false)] (fun τ => F_ref05_Add τ.1 τ.2.1)), (27, callE [.pair (.pair (.int .i64) (.slice (.int .i64))) (.pair (.int .i64) (.slice (.int .i64)))] [(.pair (.pair (.int .i64) (.slice (.int .i64))) (.pair (.int .i64) (.slice (.int .i64))), false)] (fun τ => F_ref05_Neg τ.1)), (28, callE [.pair (.pair (.pair (.bool) (.slice (.int .u32))) (.slice (.int .u32))) (.pair (.pair (.bool) (.slice (.int .u32))) (.slice (.int .u32)))] [(.pair (.pair (.pair (.bool) (.slice (.int .u32))) (.slice (.int .u32))) (.pair (.pair (.bool) (.slice (.int .u32))) (.slice (.int .u32))), false)] (fun τ => F_interval_Normal τ.1)), (29, callE [.pair (.pair (.bool) (.slice (.int .u32))) (.slice (.int .u32))] [(.pair (.pair (.pair (.bool) (.slice (.int .u32))) (.slice (.int .u32))) (.pair (.pair (.bool) (.slice (.int .u32))) (.slice (.int .u32))), false)] (fun τ => F_interval_Point τ.1)), (30, callE [.pair (.pair (.pair (.bool) (.slice (.int .u32))) (.slice (.int .u32))) (.pair (.pair (.bool) (.slice (.int .u32))) (.slice (.int .u32))), .pair (.pair (.bool) (.slice (.int .u32))) (.slice (.int .u32))] [(.bool, false)] (fun τ => F_interval_Contains τ.1 τ.2.1)), (31, callE [.bool, .slice (.int .u32), .slice (.int .u32), .pair (.pair (.int .i64) (.slice (.int .i64))) (.pair (.int .i64) (.slice (.int .i64)))] [(.bool, false)] (fun τ => F_ref05_Is τ.1 τ.2.1 τ.2.2.1 τ.2.2.2.1)), (32, callE [.pair (.pair (.pair (.bool) (.slice (.int .u32))) (.slice (.int .u32))) (.pair (.pair (.bool) (.slice (.int .u32))) (.slice (.int .u32))), .pair (.pair (.pair (.bool) (.slice (.int .u32))) (.slice (.int .u32))) (.pair (.pair (.bool) (.slice (.int .u32))) (.slice (.int .u32)))] [(.bool, false)] (fun τ => F_interval_Within τ.1 τ.2.1)), (33, callE [.pair (.pair (.pair (.bool) (.slice (.int .u32))) (.slice (.int .u32))) (.pair (.pair (.bool) (.slice (.int .u32))) (.slice (.int .u32))), .pair (.pair (.pair (.bool) (.slice (.int .u32))) (.slice (.int .u32))) (.pair (.pair (.bool) (.slice (.int .u32))) (.slice (.int .u32)))] [(.pair (.pair (.pair (.bool) (.slice (.int .u32))) (.slice (.int .u32))) (.pair (.pair (.bool) (.slice (.int .u32))) (.slice (.int .u32))), false)] (fun τ => F_interval_Hull τ.1 τ.2.1)), (34, callE [.slice (.pair (.pair (.int .i64) (.slice (.int .i64))) (.pair (.int .i64) (.slice (.int .i64))))] [(.pair (.pair (.pair (.int .i64) (.slice (.int .i64))) (.pair (.int .i64) (.slice (.int .i64)))) (.pair (.pair (.int .i64) (.slice (.int .i64))) (.pair (.int .i64) (.slice (.int .i64)))), false)] (fun τ => F_ref06_Hull τ.1)), (35, callE [.pair (.pair (.pair (.bool) (.slice (.int .u32))) (.slice (.int .u32))) (.pair (.pair (.bool) (.slice (.int .u32))) (.slice (.int .u32))), .pair (.pair (.pair (.bool) (.slice (.int .u32))) (.slice (.int .u32))) (.pair (.pair (.bool) (.slice (.int .u32))) (.slice (.int .u32)))] [(.pair (.pair (.pair (.bool) (.slice (.int .u32))) (.slice (.int .u32))) (.pair (.pair (.bool) (.slice (.int .u32))) (.slice (.int .u32))), false), (.bool, false)] (fun τ => F_interval_Meet τ.1 τ.2.1)), (36, callE [.pair (.pair (.int .i64) (.slice (.int .i64))) (.pair (.int .i64) (.slice (.int .i64))), .pair (.pair (.int .i64) (.slice (.int .i64))) (.pair (.int .i64) (.slice (.int .i64)))] [(.int .i64, false)] (fun τ => F_ref05_Cmp τ.1 τ.2.1)), (37, callE [.pair (.pair (.pair (.bool) (.slice (.int .u32))) (.slice (.int .u32))) (.pair (.pair (.bool) (.slice (.int .u32))) (.slice (.int .u32)))] [(.bool, false)] (fun τ => F_law06_none τ.1))] []
def c_law06_IntervalSets : List (Nat × Live) := [(8, ⟨[(28, .bool)], [(true, 3, .pair (.pair (.pair (.bool) (.slice (.int .u32))) (.slice (.int .u32))) (.pair (.pair (.bool) (.slice (.int .u32))) (.slice (.int .u32)))), (true, 4, .pair (.pair (.pair (.bool) (.slice (.int .u32))) (.slice (.int .u32))) (.pair (.pair (.bool) (.slice (.int .u32))) (.slice (.int .u32)))), (true, 5, .pair (.pair (.bool) (.slice (.int .u32))) (.slice (.int .u32)))], []⟩), (28, ⟨[(78, .bool)], [(true, 3, .pair (.pair (.pair (.bool) (.slice (.int .u32))) (.slice (.int .u32))) (.pair (.pair (.bool) (.slice (.int .u32))) (.slice (.int .u32)))), (true, 4, .pair (.pair (.pair (.bool) (.slice (.int .u32))) (.slice (.int .u32))) (.pair (.pair (.bool) (.slice (.int .u32))) (.slice (.int .u32)))), (true, 7, .pair (.pair (.pair (.int .i64) (.slice (.int .i64))) (.pair (.int .i64) (.slice (.int .i64)))) (.pair (.pair (.int .i64) (.slice (.int .i64))) (.pair (.int .i64) (.slice (.int .i64))))), (true, 8, .pair (.pair (.pair (.int .i64) (.slice (.int .i64))) (.pair (.int .i64) (.slice (.int .i64)))) (.pair (.pair (.int .i64) (.slice (.int .i64))) (.pair (.int .i64) (.slice (.int .i64)))))], []⟩), (36, ⟨[(11, .bool)], [(true, 3, .pair (.pair (.pair (.bool) (.slice (.int .u32))) (.slice (.int .u32))) (.pair (.pair (.bool) (.slice (.int .u32))) (.slice (.int .u32)))), (true, 4, .pair (.pair (.pair (.bool) (.slice (.int .u32))) (.slice (.int .u32))) (.pair (.pair (.bool) (.slice (.int .u32))) (.slice (.int .u32)))), (true, 7, .pair (.pair (.pair (.int .i64) (.slice (.int .i64))) (.pair (.int .i64) (.slice (.int .i64)))) (.pair (.pair (.int .i64) (.slice (.int .i64))) (.pair (.int .i64) (.slice (.int .i64))))), (true, 8, .pair (.pair (.pair (.int .i64) (.slice (.int .i64))) (.pair (.int .i64) (.slice (.int .i64)))) (.pair (.pair (.int .i64) (.slice (.int .i64))) (.pair (.int .i64) (.slice (.int .i64)))))], []⟩), (40, ⟨[(110, .bool)], [(true, 3, .pair (.pair (.pair (.bool) (.slice (.int .u32))) (.slice (.int .u32))) (.pair (.pair (.bool) (.slice (.int .u32))) (.slice (.int .u32)))), (true, 4, .pair (.pair (.pair (.bool) (.slice (.int .u32))) (.slice (.int .u32))) (.pair (.pair (.bool) (.slice (.int .u32))) (.slice (.int .u32)))), (true, 7, .pair (.pair (.pair (.int .i64) (.slice (.int .i64))) (.pair (.int .i64) (.slice (.int .i64)))) (.pair (.pair (.int .i64) (.slice (.int .i64))) (.pair (.int .i64) (.slice (.int .i64))))), (true, 8, .pair (.pair (.pair (.int .i64) (.slice (.int .i64))) (.pair (.int .i64) (.slice (.int .i64)))) (.pair (.pair (.int .i64) (.slice (.int .i64))) (.pair (.int .i64) (.slice (.int .i64)))))], []⟩), (60, ⟨[(13, .bool)], [(true, 8, .pair (.pair (.pair (.int .i64) (.slice (.int .i64))) (.pair (.int .i64) (.slice (.int .i64)))) (.pair (.pair (.int .i64) (.slice (.int .i64))) (.pair (.int .i64) (.slice (.int .i64))))), (true, 12, .pair (.pair (.pair (.bool) (.slice (.int .u32))) (.slice (.int .u32))) (.pair (.pair (.bool) (.slice (.int .u32))) (.slice (.int .u32)))), (true, 14, .pair (.pair (.int .i64) (.slice (.int .i64))) (.pair (.int .i64) (.slice (.int .i64)))), (true, 15, .pair (.pair (.int .i64) (.slice (.int .i64))) (.pair (.int .i64) (.slice (.int .i64))))], []⟩)]
noncomputable abbrev fe_law06_IntervalSets := (finE (E_law06_IntervalSets) [(.bool, false)] Tryz.f5.results.toList)
noncomputable abbrev cn_law06_IntervalSets_8 (x28 : Bool) (x3 : ((Bool × List Int) × List Int) × (Bool × List Int) × List Int) (x4 : ((Bool × List Int) × List Int) × (Bool × List Int) × List Int) (x5 : (Bool × List Int) × List Int) : St := ⟨[(5, .one (.ptr 10002 0 [])), (4, .one (.ptr 10001 0 [])), (3, .one (.ptr 10000 0 [])), (28, .one (.val (.bool) x28))], [(10002, some ⟨.pair (.pair (.bool) (.slice (.int .u32))) (.slice (.int .u32)), [x5], false⟩), (10001, some ⟨.pair (.pair (.pair (.bool) (.slice (.int .u32))) (.slice (.int .u32))) (.pair (.pair (.bool) (.slice (.int .u32))) (.slice (.int .u32))), [x4], false⟩), (10000, some ⟨.pair (.pair (.pair (.bool) (.slice (.int .u32))) (.slice (.int .u32))) (.pair (.pair (.bool) (.slice (.int .u32))) (.slice (.int .u32))), [x3], false⟩)]⟩
noncomputable abbrev kk_law06_IntervalSets_8 (S : Nat → KT (RT [(.bool, false)])) := fun (x28 : Bool) (x3 : ((Bool × List Int) × List Int) × (Bool × List Int) × List Int) (x4 : ((Bool × List Int) × List Int) × (Bool × List Int) × List Int) (x5 : (Bool × List Int) × List Int) => S 8 (cn_law06_IntervalSets_8 x28 x3 x4 x5)
noncomputable abbrev cn_law06_IntervalSets_28 (x78 : Bool) (x3 : ((Bool × List Int) × List Int) × (Bool × List Int) × List Int) (x4 : ((Bool × List Int) × List Int) × (Bool × List Int) × List Int) (x7 : ((Int × List Int) × Int × List Int) × (Int × List Int) × Int × List Int) (x8 : ((Int × List Int) × Int × List Int) × (Int × List Int) × Int × List Int) : St := ⟨[(8, .one (.ptr 10003 0 [])), (7, .one (.ptr 10002 0 [])), (4, .one (.ptr 10001 0 [])), (3, .one (.ptr 10000 0 [])), (78, .one (.val (.bool) x78))], [(10003, some ⟨.pair (.pair (.pair (.int .i64) (.slice (.int .i64))) (.pair (.int .i64) (.slice (.int .i64)))) (.pair (.pair (.int .i64) (.slice (.int .i64))) (.pair (.int .i64) (.slice (.int .i64)))), [x8], false⟩), (10002, some ⟨.pair (.pair (.pair (.int .i64) (.slice (.int .i64))) (.pair (.int .i64) (.slice (.int .i64)))) (.pair (.pair (.int .i64) (.slice (.int .i64))) (.pair (.int .i64) (.slice (.int .i64)))), [x7], false⟩), (10001, some ⟨.pair (.pair (.pair (.bool) (.slice (.int .u32))) (.slice (.int .u32))) (.pair (.pair (.bool) (.slice (.int .u32))) (.slice (.int .u32))), [x4], false⟩), (10000, some ⟨.pair (.pair (.pair (.bool) (.slice (.int .u32))) (.slice (.int .u32))) (.pair (.pair (.bool) (.slice (.int .u32))) (.slice (.int .u32))), [x3], false⟩)]⟩
noncomputable abbrev kk_law06_IntervalSets_28 (S : Nat → KT (RT [(.bool, false)])) := fun (x78 : Bool) (x3 : ((Bool × List Int) × List Int) × (Bool × List Int) × List Int) (x4 : ((Bool × List Int) × List Int) × (Bool × List Int) × List Int) (x7 : ((Int × List Int) × Int × List Int) × (Int × List Int) × Int × List Int) (x8 : ((Int × List Int) × Int × List Int) × (Int × List Int) × Int × List Int) => S 28 (cn_law06_IntervalSets_28 x78 x3 x4 x7 x8)
noncomputable abbrev cn_law06_IntervalSets_36 (x11 : Bool) (x3 : ((Bool × List Int) × List Int) × (Bool × List Int) × List Int) (x4 : ((Bool × List Int) × List Int) × (Bool × List Int) × List Int) (x7 : ((Int × List Int) × Int × List Int) × (Int × List Int) × Int × List Int) (x8 : ((Int × List Int) × Int × List Int) × (Int × List Int) × Int × List Int) : St := ⟨[(8, .one (.ptr 10003 0 [])), (7, .one (.ptr 10002 0 [])), (4, .one (.ptr 10001 0 [])), (3, .one (.ptr 10000 0 [])), (11, .one (.val (.bool) x11))], [(10003, some ⟨.pair (.pair (.pair (.int .i64) (.slice (.int .i64))) (.pair (.int .i64) (.slice (.int .i64)))) (.pair (.pair (.int .i64) (.slice (.int .i64))) (.pair (.int .i64) (.slice (.int .i64)))), [x8], false⟩), (10002, some ⟨.pair (.pair (.pair (.int .i64) (.slice (.int .i64))) (.pair (.int .i64) (.slice (.int .i64)))) (.pair (.pair (.int .i64) (.slice (.int .i64))) (.pair (.int .i64) (.slice (.int .i64)))), [x7], false⟩), (10001, some ⟨.pair (.pair (.pair (.bool) (.slice (.int .u32))) (.slice (.int .u32))) (.pair (.pair (.bool) (.slice (.int .u32))) (.slice (.int .u32))), [x4], false⟩), (10000, some ⟨.pair (.pair (.pair (.bool) (.slice (.int .u32))) (.slice (.int .u32))) (.pair (.pair (.bool) (.slice (.int .u32))) (.slice (.int .u32))), [x3], false⟩)]⟩
noncomputable abbrev kk_law06_IntervalSets_36 (S : Nat → KT (RT [(.bool, false)])) := fun (x11 : Bool) (x3 : ((Bool × List Int) × List Int) × (Bool × List Int) × List Int) (x4 : ((Bool × List Int) × List Int) × (Bool × List Int) × List Int) (x7 : ((Int × List Int) × Int × List Int) × (Int × List Int) × Int × List Int) (x8 : ((Int × List Int) × Int × List Int) × (Int × List Int) × Int × List Int) => S 36 (cn_law06_IntervalSets_36 x11 x3 x4 x7 x8)
noncomputable abbrev cn_law06_IntervalSets_40 (x110 : Bool) (x3 : ((Bool × List Int) × List Int) × (Bool × List Int) × List Int) (x4 : ((Bool × List Int) × List Int) × (Bool × List Int) × List Int) (x7 : ((Int × List Int) × Int × List Int) × (Int × List Int) × Int × List Int) (x8 : ((Int × List Int) × Int × List Int) × (Int × List Int) × Int × List Int) : St := ⟨[(8, .one (.ptr 10003 0 [])), (7, .one (.ptr 10002 0 [])), (4, .one (.ptr 10001 0 [])), (3, .one (.ptr 10000 0 [])), (110, .one (.val (.bool) x110))], [(10003, some ⟨.pair (.pair (.pair (.int .i64) (.slice (.int .i64))) (.pair (.int .i64) (.slice (.int .i64)))) (.pair (.pair (.int .i64) (.slice (.int .i64))) (.pair (.int .i64) (.slice (.int .i64)))), [x8], false⟩), (10002, some ⟨.pair (.pair (.pair (.int .i64) (.slice (.int .i64))) (.pair (.int .i64) (.slice (.int .i64)))) (.pair (.pair (.int .i64) (.slice (.int .i64))) (.pair (.int .i64) (.slice (.int .i64)))), [x7], false⟩), (10001, some ⟨.pair (.pair (.pair (.bool) (.slice (.int .u32))) (.slice (.int .u32))) (.pair (.pair (.bool) (.slice (.int .u32))) (.slice (.int .u32))), [x4], false⟩), (10000, some ⟨.pair (.pair (.pair (.bool) (.slice (.int .u32))) (.slice (.int .u32))) (.pair (.pair (.bool) (.slice (.int .u32))) (.slice (.int .u32))), [x3], false⟩)]⟩
noncomputable abbrev kk_law06_IntervalSets_40 (S : Nat → KT (RT [(.bool, false)])) := fun (x110 : Bool) (x3 : ((Bool × List Int) × List Int) × (Bool × List Int) × List Int) (x4 : ((Bool × List Int) × List Int) × (Bool × List Int) × List Int) (x7 : ((Int × List Int) × Int × List Int) × (Int × List Int) × Int × List Int) (x8 : ((Int × List Int) × Int × List Int) × (Int × List Int) × Int × List Int) => S 40 (cn_law06_IntervalSets_40 x110 x3 x4 x7 x8)
noncomputable abbrev cn_law06_IntervalSets_60 (x13 : Bool) (x8 : ((Int × List Int) × Int × List Int) × (Int × List Int) × Int × List Int) (x12 : ((Bool × List Int) × List Int) × (Bool × List Int) × List Int) (x14 : (Int × List Int) × Int × List Int) (x15 : (Int × List Int) × Int × List Int) : St := ⟨[(15, .one (.ptr 10003 0 [])), (14, .one (.ptr 10002 0 [])), (12, .one (.ptr 10001 0 [])), (8, .one (.ptr 10000 0 [])), (13, .one (.val (.bool) x13))], [(10003, some ⟨.pair (.pair (.int .i64) (.slice (.int .i64))) (.pair (.int .i64) (.slice (.int .i64))), [x15], false⟩), (10002, some ⟨.pair (.pair (.int .i64) (.slice (.int .i64))) (.pair (.int .i64) (.slice (.int .i64))), [x14], false⟩), (10001, some ⟨.pair (.pair (.pair (.bool) (.slice (.int .u32))) (.slice (.int .u32))) (.pair (.pair (.bool) (.slice (.int .u32))) (.slice (.int .u32))), [x12], false⟩), (10000, some ⟨.pair (.pair (.pair (.int .i64) (.slice (.int .i64))) (.pair (.int .i64) (.slice (.int .i64)))) (.pair (.pair (.int .i64) (.slice (.int .i64))) (.pair (.int .i64) (.slice (.int .i64)))), [x8], false⟩)]⟩
noncomputable abbrev kk_law06_IntervalSets_60 (S : Nat → KT (RT [(.bool, false)])) := fun (x13 : Bool) (x8 : ((Int × List Int) × Int × List Int) × (Int × List Int) × Int × List Int) (x12 : ((Bool × List Int) × List Int) × (Bool × List Int) × List Int) (x14 : (Int × List Int) × Int × List Int) (x15 : (Int × List Int) × Int × List Int) => S 60 (cn_law06_IntervalSets_60 x13 x8 x12 x14 x15)
theorem top_law06_IntervalSets (S : Nat → KT (RT [(.bool, false)])) (a0 : ((Bool × List Int) × List Int) × (Bool × List Int) × List Int) (a1 : ((Bool × List Int) × List Int) × (Bool × List Int) × List Int) (a2 : (Bool × List Int) × List Int) : evA (E_law06_IntervalSets) (lk c_law06_IntervalSets) S (bodyOf Tryz.f5) noX (fe_law06_IntervalSets) (fe_law06_IntervalSets) (initSt [.pair (.pair (.pair (.bool) (.slice (.int .u32))) (.slice (.int .u32))) (.pair (.pair (.bool) (.slice (.int .u32))) (.slice (.int .u32))), .pair (.pair (.pair (.bool) (.slice (.int .u32))) (.slice (.int .u32))) (.pair (.pair (.bool) (.slice (.int .u32))) (.slice (.int .u32))), .pair (.pair (.bool) (.slice (.int .u32))) (.slice (.int .u32))] (a0, a1, a2, ())) = T_law06_IntervalSets (kk_law06_IntervalSets_8 S) (kk_law06_IntervalSets_28 S) (kk_law06_IntervalSets_36 S) (kk_law06_IntervalSets_40 S) (kk_law06_IntervalSets_60 S) a0 a1 a2 := by kernel_rfl
theorem seg_law06_IntervalSets_8 (S : Nat → KT (RT [(.bool, false)])) (x28 : Bool) (x3 : ((Bool × List Int) × List Int) × (Bool × List Int) × List Int) (x4 : ((Bool × List Int) × List Int) × (Bool × List Int) × List Int) (x5 : (Bool × List Int) × List Int) : stepT (entry (E_law06_IntervalSets) (lk c_law06_IntervalSets) S 8 (bodyOf Tryz.f5) noX (fe_law06_IntervalSets) (fe_law06_IntervalSets)) (cn_law06_IntervalSets_8 x28 x3 x4 x5) = S_law06_IntervalSets_8 (kk_law06_IntervalSets_8 S) (kk_law06_IntervalSets_28 S) (kk_law06_IntervalSets_36 S) (kk_law06_IntervalSets_40 S) (kk_law06_IntervalSets_60 S) x28 x3 x4 x5 := by kernel_rfl
theorem seg_law06_IntervalSets_28 (S : Nat → KT (RT [(.bool, false)])) (x78 : Bool) (x3 : ((Bool × List Int) × List Int) × (Bool × List Int) × List Int) (x4 : ((Bool × List Int) × List Int) × (Bool × List Int) × List Int) (x7 : ((Int × List Int) × Int × List Int) × (Int × List Int) × Int × List Int) (x8 : ((Int × List Int) × Int × List Int) × (Int × List Int) × Int × List Int) : stepT (entry (E_law06_IntervalSets) (lk c_law06_IntervalSets) S 28 (bodyOf Tryz.f5) noX (fe_law06_IntervalSets) (fe_law06_IntervalSets)) (cn_law06_IntervalSets_28 x78 x3 x4 x7 x8) = S_law06_IntervalSets_28 (kk_law06_IntervalSets_8 S) (kk_law06_IntervalSets_28 S) (kk_law06_IntervalSets_36 S) (kk_law06_IntervalSets_40 S) (kk_law06_IntervalSets_60 S) x78 x3 x4 x7 x8 := by kernel_rfl
theorem seg_law06_IntervalSets_36 (S : Nat → KT (RT [(.bool, false)])) (x11 : Bool) (x3 : ((Bool × List Int) × List Int) × (Bool × List Int) × List Int) (x4 : ((Bool × List Int) × List Int) × (Bool × List Int) × List Int) (x7 : ((Int × List Int) × Int × List Int) × (Int × List Int) × Int × List Int) (x8 : ((Int × List Int) × Int × List Int) × (Int × List Int) × Int × List Int) : stepT (entry (E_law06_IntervalSets) (lk c_law06_IntervalSets) S 36 (bodyOf Tryz.f5) noX (fe_law06_IntervalSets) (fe_law06_IntervalSets)) (cn_law06_IntervalSets_36 x11 x3 x4 x7 x8) = S_law06_IntervalSets_36 (kk_law06_IntervalSets_8 S) (kk_law06_IntervalSets_28 S) (kk_law06_IntervalSets_36 S) (kk_law06_IntervalSets_40 S) (kk_law06_IntervalSets_60 S) x11 x3 x4 x7 x8 := by kernel_rfl
theorem seg_law06_IntervalSets_40 (S : Nat → KT (RT [(.bool, false)])) (x110 : Bool) (x3 : ((Bool × List Int) × List Int) × (Bool × List Int) × List Int) (x4 : ((Bool × List Int) × List Int) × (Bool × List Int) × List Int) (x7 : ((Int × List Int) × Int × List Int) × (Int × List Int) × Int × List Int) (x8 : ((Int × List Int) × Int × List Int) × (Int × List Int) × Int × List Int) : stepT (entry (E_law06_IntervalSets) (lk c_law06_IntervalSets) S 40 (bodyOf Tryz.f5) noX (fe_law06_IntervalSets) (fe_law06_IntervalSets)) (cn_law06_IntervalSets_40 x110 x3 x4 x7 x8) = S_law06_IntervalSets_40 (kk_law06_IntervalSets_8 S) (kk_law06_IntervalSets_28 S) (kk_law06_IntervalSets_36 S) (kk_law06_IntervalSets_40 S) (kk_law06_IntervalSets_60 S) x110 x3 x4 x7 x8 := by kernel_rfl
theorem seg_law06_IntervalSets_60 (S : Nat → KT (RT [(.bool, false)])) (x13 : Bool) (x8 : ((Int × List Int) × Int × List Int) × (Int × List Int) × Int × List Int) (x12 : ((Bool × List Int) × List Int) × (Bool × List Int) × List Int) (x14 : (Int × List Int) × Int × List Int) (x15 : (Int × List Int) × Int × List Int) : stepT (entry (E_law06_IntervalSets) (lk c_law06_IntervalSets) S 60 (bodyOf Tryz.f5) noX (fe_law06_IntervalSets) (fe_law06_IntervalSets)) (cn_law06_IntervalSets_60 x13 x8 x12 x14 x15) = S_law06_IntervalSets_60 (kk_law06_IntervalSets_8 S) (kk_law06_IntervalSets_28 S) (kk_law06_IntervalSets_36 S) (kk_law06_IntervalSets_40 S) (kk_law06_IntervalSets_60 S) x13 x8 x12 x14 x15 := by kernel_rfl
noncomputable abbrev tb_law06_IntervalSets := tab (E_law06_IntervalSets) (lk c_law06_IntervalSets) (bodyOf Tryz.f5) (fe_law06_IntervalSets)
theorem ok_law06_IntervalSets : EnvOK Tryz.prog (E_law06_IntervalSets) := mkE_ok tys_ok ⟨⟨fs_law06_awake.csound, ⟨Tryz.f6, by kernel_rfl, by kernel_rfl, by kernel_rfl⟩⟩, ⟨fs_law06_few.csound, ⟨Tryz.f7, by kernel_rfl, by kernel_rfl, by kernel_rfl⟩⟩, ⟨fs_law06_small.csound, ⟨Tryz.f8, by kernel_rfl, by kernel_rfl, by kernel_rfl⟩⟩, ⟨fs_law06_of.csound, ⟨Tryz.f9, by kernel_rfl, by kernel_rfl, by kernel_rfl⟩⟩, ⟨fs_law06_is.csound, ⟨Tryz.f10, by kernel_rfl, by kernel_rfl, by kernel_rfl⟩⟩, ⟨fs_ref06_Point.csound, ⟨Tryz.f19, by kernel_rfl, by kernel_rfl, by kernel_rfl⟩⟩, ⟨fs_law06_q.csound, ⟨Tryz.f20, by kernel_rfl, by kernel_rfl, by kernel_rfl⟩⟩, ⟨fs_ref06_Contains.csound, ⟨Tryz.f23, by kernel_rfl, by kernel_rfl, by kernel_rfl⟩⟩, ⟨fs_interval_Width.csound, ⟨Tryz.f25, by kernel_rfl, by kernel_rfl, by kernel_rfl⟩⟩, ⟨fs_ref05_Add.csound, ⟨Tryz.f26, by kernel_rfl, by kernel_rfl, by kernel_rfl⟩⟩, ⟨fs_ref05_Neg.csound, ⟨Tryz.f27, by kernel_rfl, by kernel_rfl, by kernel_rfl⟩⟩, ⟨fs_interval_Normal.csound, ⟨Tryz.f28, by kernel_rfl, by kernel_rfl, by kernel_rfl⟩⟩, ⟨fs_interval_Point.csound, ⟨Tryz.f29, by kernel_rfl, by kernel_rfl, by kernel_rfl⟩⟩, ⟨fs_interval_Contains.csound, ⟨Tryz.f30, by kernel_rfl, by kernel_rfl, by kernel_rfl⟩⟩, ⟨fs_ref05_Is.csound, ⟨Tryz.f31, by kernel_rfl, by kernel_rfl, by kernel_rfl⟩⟩, ⟨fs_interval_Within.csound, ⟨Tryz.f32, by kernel_rfl, by kernel_rfl, by kernel_rfl⟩⟩, ⟨fs_interval_Hull.csound, ⟨Tryz.f33, by kernel_rfl, by kernel_rfl, by kernel_rfl⟩⟩, ⟨fs_ref06_Hull.csound, ⟨Tryz.f34, by kernel_rfl, by kernel_rfl, by kernel_rfl⟩⟩, ⟨fs_interval_Meet.csound, ⟨Tryz.f35, by kernel_rfl, by kernel_rfl, by kernel_rfl⟩⟩, ⟨fs_ref05_Cmp.csound, ⟨Tryz.f36, by kernel_rfl, by kernel_rfl, by kernel_rfl⟩⟩, ⟨fs_law06_none.csound, ⟨Tryz.f37, by kernel_rfl, by kernel_rfl, by kernel_rfl⟩⟩, trivial⟩ trivial
theorem fs_law06_IntervalSets : FSound Tryz.prog 5 [.pair (.pair (.pair (.bool) (.slice (.int .u32))) (.slice (.int .u32))) (.pair (.pair (.bool) (.slice (.int .u32))) (.slice (.int .u32))), .pair (.pair (.pair (.bool) (.slice (.int .u32))) (.slice (.int .u32))) (.pair (.pair (.bool) (.slice (.int .u32))) (.slice (.int .u32))), .pair (.pair (.bool) (.slice (.int .u32))) (.slice (.int .u32))] [(.bool, false)] (fun τ => F_law06_IntervalSets τ.1 τ.2.1 τ.2.2.1) :=
  evG_sound (E := (E_law06_IntervalSets)) (C := (lk c_law06_IntervalSets)) ok_law06_IntervalSets mixed_ok (fn := Tryz.f5) (c := (bodyOf Tryz.f5)) (by kernel_rfl) (by kernel_rfl) (by kernel_rfl) (by kernel_rfl) (by kernel_rfl) (by kernel_rfl) (fun τ r h => by
    obtain ⟨a0, a1, a2, ⟨⟩⟩ := τ
    obtain ⟨m, hm⟩ := Rn_law06_IntervalSets (fun m => kk_law06_IntervalSets_8 (tb_law06_IntervalSets m)) (fun m => kk_law06_IntervalSets_28 (tb_law06_IntervalSets m)) (fun m => kk_law06_IntervalSets_36 (tb_law06_IntervalSets m)) (fun m => kk_law06_IntervalSets_40 (tb_law06_IntervalSets m)) (fun m => kk_law06_IntervalSets_60 (tb_law06_IntervalSets m)) (fun m x28 x3 x4 x5 => (tab_succ (E_law06_IntervalSets) (lk c_law06_IntervalSets) (bodyOf Tryz.f5) (fe_law06_IntervalSets) m 8 (cn_law06_IntervalSets_8 x28 x3 x4 x5)).trans (seg_law06_IntervalSets_8 (tb_law06_IntervalSets m) x28 x3 x4 x5)) (fun m x78 x3 x4 x7 x8 => (tab_succ (E_law06_IntervalSets) (lk c_law06_IntervalSets) (bodyOf Tryz.f5) (fe_law06_IntervalSets) m 28 (cn_law06_IntervalSets_28 x78 x3 x4 x7 x8)).trans (seg_law06_IntervalSets_28 (tb_law06_IntervalSets m) x78 x3 x4 x7 x8)) (fun m x11 x3 x4 x7 x8 => (tab_succ (E_law06_IntervalSets) (lk c_law06_IntervalSets) (bodyOf Tryz.f5) (fe_law06_IntervalSets) m 36 (cn_law06_IntervalSets_36 x11 x3 x4 x7 x8)).trans (seg_law06_IntervalSets_36 (tb_law06_IntervalSets m) x11 x3 x4 x7 x8)) (fun m x110 x3 x4 x7 x8 => (tab_succ (E_law06_IntervalSets) (lk c_law06_IntervalSets) (bodyOf Tryz.f5) (fe_law06_IntervalSets) m 40 (cn_law06_IntervalSets_40 x110 x3 x4 x7 x8)).trans (seg_law06_IntervalSets_40 (tb_law06_IntervalSets m) x110 x3 x4 x7 x8)) (fun m x13 x8 x12 x14 x15 => (tab_succ (E_law06_IntervalSets) (lk c_law06_IntervalSets) (bodyOf Tryz.f5) (fe_law06_IntervalSets) m 60 (cn_law06_IntervalSets_60 x13 x8 x12 x14 x15)).trans (seg_law06_IntervalSets_60 (tb_law06_IntervalSets m) x13 x8 x12 x14 x15)) a0 a1 a2 r h
    exact ⟨m, (top_law06_IntervalSets (tb_law06_IntervalSets m) a0 a1 a2).trans (hm m (Nat.le_refl m))⟩)
end
end Go.W

set_option linter.unusedVariables false
set_option linter.unusedSimpArgs false
namespace Go.W
open Go.ChangeShapes Go.WideShapes Go.ChangeAt Go.RowKit

/-! ### What a statement's reading of an argument says -/
def wfT : (t : Ty) → t.D → Prop
  | .int k, n => k.min ≤ n ∧ n ≤ k.max
  | .bool, _ => True
  | .str, s => ByteArray.size s ≤ maxLen
  | .slice e, l => l.length ≤ maxLen ∧ ∀ x ∈ l, wfT e x
  | .pair a b, v => wfT a v.1 ∧ wfT b v.2
  | .arr n e, l => l.length = n ∧ ∀ x ∈ l, wfT e x

/-- a reading of cells opens to a typed value -/
def Opens (P : Program) (t : TypeId) (ty : Ty) : Prop := ∀ (H : Type) (enc : TypeId × Value → H) (w : World) (fuel : Nat) (cs : List Value) (x : DataW H × List MemPlace),
  DataW.trod enc P w 0 (fun _ => true) true fuel t cs = some x → ∃ v : ty.D, Rep w (fun g => g < w.heap.size) ty v cs ∧ wfT ty v

theorem opens_int {P : Program} {t : TypeId} {k : IntKind} (hu : P.underlying t = some (.int k)) : Opens P t (.int k) := by
  intro H enc w fuel cs x h
  obtain ⟨n, rfl, _, hw⟩ := DataW.trod_int hu h
  exact ⟨n, rfl, by simpa [wfT, Lit.wf] using hw⟩

theorem opens_bool {P : Program} {t : TypeId} (hu : P.underlying t = some .bool) : Opens P t .bool := by
  intro H enc w fuel cs x h
  obtain ⟨n, rfl, _⟩ := DataW.trod_bool hu h
  exact ⟨n, rfl, trivial⟩

theorem opens_str {P : Program} {t : TypeId} (hu : P.underlying t = some .string) : Opens P t .str := by
  intro H enc w fuel cs x h
  obtain ⟨n, rfl, _, hw⟩ := DataW.trod_string hu h
  exact ⟨n, rfl, hw⟩

theorem exists_listW {α : Type} {p : Nat → α → Prop} : ∀ n : Nat, (∀ i, i < n → ∃ x, p i x) → ∃ l : List α, l.length = n ∧ ∀ i (h : i < l.length), p i l[i]
  | 0, _ => ⟨[], rfl, fun i h => by simp at h⟩
  | n + 1, h => by
    obtain ⟨l, hl, hp⟩ := exists_listW n (fun i hi => h i (by omega))
    obtain ⟨x, hx⟩ := h n (by omega)
    refine ⟨l ++ [x], by simp [hl], fun i hi => ?_⟩
    by_cases hc : i < l.length
    · rw [List.getElem_append_left hc]; exact hp i hc
    · have : i = n := by simp at hi; omega
      subst this
      rw [List.getElem_append_right (by omega)]
      simpa [hl] using hx

theorem opens_slice {P : Program} {t e : TypeId} {ty : Ty} (hu : P.underlying t = some (.slice e)) (hc : P.cellsOf e = ty.size) (hp : 0 < ty.size) (he : Opens P e ty) : Opens P t (.slice ty) := by
  intro H enc w fuel cs x h
  rcases DataW.trod_slice hu h with ⟨rfl, _⟩ | ⟨a, len, cap, elems, rest, n, _, rfl, _, _, hl, hm, hlen, hel, _⟩
  · exact ⟨[], ⟨none, 0, rfl, Nat.le_refl _, fun i hi => by simp at hi⟩, by simp [wfT]⟩
  · obtain ⟨b, off, spot⟩ := a
    have hspot : 0 < len → spot = none := fun h0 => by
      have h1 := hel 0 h0
      have h2 : 0 < elems.length := by omega
      rw [List.getElem?_eq_getElem h2] at h1
      cases hcs : w.cells? 0 ((⟨b, off, spot⟩ : Addr).add (0 * P.cellsOf e)) (P.cellsOf e) with
      | none => rw [hcs] at h1; cases h1
      | some es =>
        unfold World.cells? at hcs
        rw [if_pos (Nat.zero_le _)] at hcs
        have := mapM_some_get hcs 0 0 (by rw [hc]; simp [hp])
        cases hz : es[0]? with
        | none =>
          rw [hz] at this
          have hlen := mapM_some_length hcs
          have := List.getElem?_eq_none_iff.1 hz
          simp at hlen; omega
        | some u => rw [hz] at this; exact World.cell?_spot (a := ⟨b, off, spot⟩) (by simpa [Addr.add] using this)
    have each : ∀ i, i < len → ∃ v : ty.D, (∃ es, Rep w (fun g => g < w.heap.size) ty v es ∧ b < w.heap.size ∧ spot = none ∧ ∀ j u, es[j]? = some u → w.cell? ⟨b, off + i * ty.size + j, none⟩ = some u) ∧ wfT ty v := fun i hi => by
      obtain rfl := hspot (by omega)
      have h1 := hel i hi
      have h2 : i < elems.length := by omega
      rw [List.getElem?_eq_getElem h2] at h1
      cases hcs : w.cells? 0 ((⟨b, off, none⟩ : Addr).add (i * P.cellsOf e)) (P.cellsOf e) with
      | none => rw [hcs] at h1; cases h1
      | some es =>
        rw [hcs] at h1
        obtain ⟨v, hr, hv⟩ := he H enc w n es _ h1
        unfold World.cells? at hcs
        rw [if_pos (Nat.zero_le _)] at hcs
        have hlen := mapM_some_length hcs
        have hget : ∀ j u, es[j]? = some u → w.cell? ⟨b, off + i * ty.size + j, none⟩ = some u := fun j u hj => by
          have hj' : j < P.cellsOf e := by
            have := (List.getElem?_eq_some_iff.1 hj).1
            simp at hlen; omega
          have := mapM_some_get hcs j j (by simp [hj'])
          rw [hj] at this
          rwa [Addr.add_lit, Addr.add_lit, hc] at this
        have hsz := hr.size
        obtain ⟨u, hu'⟩ : ∃ u, es[0]? = some u := ⟨es[0]'(by omega), by rw [List.getElem?_eq_getElem]⟩
        have h0 := hget 0 u hu'
        exact ⟨v, ⟨es, hr, World.block_lt_of_cell? w _ h0, rfl, hget⟩, hv⟩
    obtain ⟨l, hll, hl'⟩ := exists_listW len each
    refine ⟨l, ⟨_, cap, by rw [hll], by omega, fun i hi => ?_⟩, by omega, fun x hx => ?_⟩
    · obtain ⟨⟨es, hr, hb, rfl, hg⟩, _⟩ := hl' i hi
      exact ⟨b, off, es, rfl, hb, hr, hg⟩
    · obtain ⟨i, hi, rfl⟩ := List.getElem_of_mem hx
      exact (hl' i hi).2

theorem take_drop_all {α : Type} (l : List α) (a b : Nat) (h : l.length = a + b) : l = (l.drop 0).take a ++ (l.drop a).take b := by
  have : (l.drop a).take b = l.drop a := List.take_of_length_le (by simp; omega)
  rw [this, List.drop_zero, List.take_append_drop]

theorem opens_pair {P : Program} {t : TypeId} {f0 f1 : Field} {a b : Ty} (hu : P.underlying t = some (.struct #[f0, f1])) (hc : P.cellsOf t = a.size + b.size) (h0 : f0.offset = 0) (h1 : f1.offset = a.size)
    (c0 : P.cellsOf f0.type = a.size) (c1 : P.cellsOf f1.type = b.size) (o0 : Opens P f0.type a) (o1 : Opens P f1.type b) : Opens P t (.pair a b) := by
  intro H enc w fuel cs x h
  obtain ⟨y0, y1, n, _, hl, e0, e1⟩ := trod_struct2 hu h
  rw [h0, c0] at e0
  rw [h1, c1] at e1
  obtain ⟨v0, r0, w0⟩ := o0 H enc w n _ _ e0
  obtain ⟨v1, r1, w1⟩ := o1 H enc w n _ _ e1
  exact ⟨(v0, v1), ⟨_, _, take_drop_all cs _ _ (by omega), r0, r1⟩, w0, w1⟩

theorem opens_three {P : Program} {t : TypeId} {f0 f1 f2 : Field} {a b c : Ty} (hu : P.underlying t = some (.struct #[f0, f1, f2])) (hc : P.cellsOf t = a.size + (b.size + c.size)) (h0 : f0.offset = 0) (h1 : f1.offset = a.size)
    (h2 : f2.offset = a.size + b.size) (c0 : P.cellsOf f0.type = a.size) (c1 : P.cellsOf f1.type = b.size) (c2 : P.cellsOf f2.type = c.size) (o0 : Opens P f0.type a) (o1 : Opens P f1.type b) (o2 : Opens P f2.type c) : Opens P t (.pair a (.pair b c)) := by
  intro H enc w fuel cs x h
  obtain ⟨xs, n, _, rfl, hl, hlen, hf⟩ := DataW.trod_struct hu h
  match xs, hlen with
  | [y0, y1, y2], _ =>
    have e0 := hf 0 f0 rfl
    have e1 := hf 1 f1 rfl
    have e2 := hf 2 f2 rfl
    rw [h0, c0] at e0
    rw [h1, c1] at e1
    rw [h2, c2] at e2
    obtain ⟨v0, r0, w0⟩ := o0 H enc w n _ _ e0
    obtain ⟨v1, r1, w1⟩ := o1 H enc w n _ _ e1
    obtain ⟨v2, r2, w2⟩ := o2 H enc w n _ _ e2
    refine ⟨(v0, v1, v2), ⟨(cs.drop 0).take a.size, cs.drop a.size, by simp, r0, ⟨(cs.drop a.size).take b.size, (cs.drop (a.size + b.size)).take c.size, ?_, r1, r2⟩⟩, w0, w1, w2⟩
    have := take_drop_all (cs.drop a.size) b.size c.size (by simp; omega)
    simpa [List.drop_drop] using this

theorem opens_two {P : Program} {t e : TypeId} {ty : Ty} (hu : P.underlying t = some (.array 2 e)) (hc : P.cellsOf t = 2 * ty.size) (he : P.cellsOf e = ty.size) (o : Opens P e ty) : Opens P t (.arr 2 ty) := by
  intro H enc w fuel cs x h
  obtain ⟨xs, m, _, rfl, hl, hlen, hf⟩ := DataW.trod_array hu h
  match xs, hlen with
  | [y0, y1], _ =>
    have h0 := hf 0 (by omega)
    have h1 := hf 1 (by omega)
    rw [he] at h0 h1
    obtain ⟨v0, r0, w0⟩ := o H enc w m _ y0 h0
    obtain ⟨v1, r1, w1⟩ := o H enc w m _ y1 h1
    refine ⟨[v0, v1], ⟨rfl, [(cs.drop (0 * ty.size)).take ty.size, (cs.drop (1 * ty.size)).take ty.size], ?_, rfl, fun i hi hi' => ?_⟩, rfl, fun x hx => ?_⟩
    · have := take_drop_all cs ty.size ty.size (by omega)
      simpa using this
    · match i, hi with
      | 0, _ => exact r0
      | 1, _ => exact r1
    · simp only [List.mem_cons, List.not_mem_nil, or_false] at hx
      rcases hx with rfl | rfl
      · exact w0
      · exact w1

/-- a whole value opens -/
def OpensV (P : Program) (t : TypeId) (ty : Ty) : Prop := ∀ (H : Type) (enc : TypeId × Value → H) (w : World) (base : Nat) (v : Value) (d : DataW H) (ps : List MemPlace),
  Value.okWide P w .any base t v → DataW.Trod enc P w 0 (fun _ => true) true t v d ps → ∃ x : ty.D, RepV w (fun g => g < w.heap.size) ty x v ∧ wfT ty x

theorem opensV_int {P : Program} {t : TypeId} {k : IntKind} (hu : P.underlying t = some (.int k)) : OpensV P t (.int k) := by
  intro H enc w base v d ps ho ⟨fuel, h⟩
  obtain ⟨n, rfl⟩ := okWide_int hu ho
  obtain ⟨x, hr, hw⟩ := opens_int hu H enc w fuel _ _ h
  exact ⟨x, ⟨_, hr, .inr ⟨rfl, rfl⟩⟩, hw⟩
theorem opensV_bool {P : Program} {t : TypeId} (hu : P.underlying t = some .bool) : OpensV P t .bool := by
  intro H enc w base v d ps ho ⟨fuel, h⟩
  obtain ⟨n, rfl⟩ := okWide_bool hu ho
  obtain ⟨x, hr, hw⟩ := opens_bool hu H enc w fuel _ _ h
  exact ⟨x, ⟨_, hr, .inr ⟨rfl, rfl⟩⟩, hw⟩
theorem opensV_str {P : Program} {t : TypeId} (hu : P.underlying t = some .string) : OpensV P t .str := by
  intro H enc w base v d ps ho ⟨fuel, h⟩
  obtain ⟨n, rfl⟩ := okWide_string hu ho
  obtain ⟨x, hr, hw⟩ := opens_str hu H enc w fuel _ _ h
  exact ⟨x, ⟨_, hr, .inr ⟨rfl, rfl⟩⟩, hw⟩
theorem opensV_slice {P : Program} {t e : TypeId} {ty : Ty} (hu : P.underlying t = some (.slice e)) (ho : Opens P t (.slice ty)) : OpensV P t (.slice ty) := by
  intro H enc w base v d ps hk ⟨fuel, h⟩
  obtain ⟨a, len, cap, rfl⟩ := okWide_slice hu hk
  obtain ⟨x, hr, hw⟩ := ho H enc w fuel _ _ h
  exact ⟨x, ⟨_, hr, .inr ⟨rfl, rfl⟩⟩, hw⟩
theorem opensV_struct {P : Program} {t : TypeId} {fs : Array Field} {a b : Ty} (hu : P.underlying t = some (.struct fs)) (ho : Opens P t (.pair a b)) : OpensV P t (.pair a b) := by
  intro H enc w base v d ps hk ⟨fuel, h⟩
  obtain ⟨cs, rfl, _⟩ := okWide_struct hu hk
  obtain ⟨x, hr, hw⟩ := ho H enc w fuel _ _ h
  exact ⟨x, ⟨_, hr, .inl ⟨rfl, by simp [Value.cells]⟩⟩, hw⟩

theorem opensV_arr {P : Program} {t e : TypeId} {n : Nat} {ty : Ty} (hu : P.underlying t = some (.array n e)) (ho : Opens P t (.arr n ty)) : OpensV P t (.arr n ty) := by
  intro H enc w base v d ps hk ⟨fuel, h⟩
  have hk' : ∃ cs, v = .agg cs := by
    unfold Value.okWide at hk
    rw [hu] at hk
    obtain ⟨cs, e, _⟩ := hk
    exact ⟨cs, e⟩
  obtain ⟨cs, rfl⟩ := hk'
  obtain ⟨x, hr, hw⟩ := ho H enc w fuel _ _ h
  exact ⟨x, ⟨_, hr, .inl ⟨rfl, by simp [Value.cells]⟩⟩, hw⟩

/-! ### All arguments at once -/
def wfA : (ts : List Ty) → AT ts → Prop
  | [], _ => True
  | t :: ts, τ => wfT t τ.1 ∧ wfA ts τ.2
def ParsOK (P : Program) : List TypeId → List Ty → Prop
  | [], [] => True
  | t :: ts, ty :: tys => (OpensV P t ty ∧ P.readableRec t = true ∧ t < P.types.size) ∧ ParsOK P ts tys
  | _, _ => False

theorem args_open {P : Program} {H : Type} {enc : TypeId × Value → H} {w : World} {base : Nat} : ∀ {ts : List TypeId} {tys : List Ty} {vs : List Value} {ds : List (DataW H)} {ps : List MemPlace}, ParsOK P ts tys →
    DataW.TrodAll enc P w 0 (fun _ => true) true ts vs ds ps → (∀ (j : Nat) t v, ts[j]? = some t → vs[j]? = some v → Value.okWide P w .any base t v) →
    ∃ τ : AT tys, ArgsRep w (fun g => g < w.heap.size) tys τ vs ∧ wfA tys τ
  | [], [], vs, ds, ps, _, h, _ => by
    obtain ⟨rfl, rfl, rfl⟩ := trodAll_nil h
    exact ⟨(), rfl, trivial⟩
  | t :: ts, ty :: tys, vs, ds, ps, hp, h, hk => by
    obtain ⟨v, vs', d, ds', p, q, rfl, rfl, rfl, h1, h2⟩ := trodAll_cons h
    obtain ⟨x, hx, hw⟩ := hp.1.1 H enc w base v d p (hk 0 t v rfl rfl) h1
    obtain ⟨τ, hτ, hwτ⟩ := args_open hp.2 h2 (fun j t' v' ht hv => hk (j + 1) t' v' (by simpa using ht) (by simpa using hv))
    exact ⟨(x, τ), ⟨v, vs', rfl, hx, hτ⟩, hw, hwτ⟩
  | [], _ :: _, _, _, _, hp, _, _ => hp.elim
  | _ :: _, [], _, _, _, hp, _, _ => hp.elim

theorem args_shut {P : Program} (hl : laidOutB P = true) {H : Type} {enc : TypeId × Value → H} {w w' : World} (hb : Below w.heap.size w w') : ∀ {ts : List TypeId} {tys : List Ty} {vs : List Value} {ds : List (DataW H)} {ps : List MemPlace}, ParsOK P ts tys →
    DataW.TrodAll enc P w 0 (fun _ => true) true ts vs ds ps → DataW.TrodAll enc P w' 0 (fun b => decide (b < w.heap.size)) true ts vs ds ps
  | [], [], vs, ds, ps, _, h => by
    obtain ⟨rfl, rfl, rfl⟩ := trodAll_nil h
    exact rfl
  | t :: ts, ty :: tys, vs, ds, ps, hp, h => by
    obtain ⟨v, vs', d, ds', p, q, rfl, rfl, rfl, h1, h2⟩ := trodAll_cons h
    have lt : ∀ x ∈ p, x.block < w.heap.size := by obtain ⟨m, hm⟩ := h1; exact DataW.trod_lt m _ _ _ hm
    exact trodAll_cons_mk (Below.trod hl hp.1.2.1 hp.1.2.2 h1 hb lt) (args_shut hl hb hp.2 h2)
  | [], _ :: _, _, _, _, hp, _ => hp.elim
  | _ :: _, [], _, _, _, hp, _ => hp.elim

theorem Fr.below {w w' : World} (h : Fr (fun _ => False) w w') : Below w.heap.size w w' :=
  ⟨h.os, h.tape, h.output, h.size, fun k hk => h.block k hk (fun x => x)⟩

/-- A law that returns true for every input: its contract over the machine gives the statement's end. -/
theorem law_post {P : Program} {H : Type} {enc : TypeId × Value → H} {f : FuncId} {fn : Func} {s : ChangeSpec} {tys : List Ty} {F : AT tys → Option (RT [(.bool, false)])} (hl : laidOutB P = true) (hF : FSound P f tys [(.bool, false)] F) (hT : ∀ τ, wfA tys τ → F τ = some true)
    (hp : ParsOK P fn.params.toList tys) {rt : TypeId} (hr : fn.resultTypes = #[rt]) (hb : P.underlying rt = some .bool) (hv : s.vars = []) (hs : ∀ (ds : List (DataW H)), ds.length = fn.params.size → (s.fn H ds).results = [.lit (.bool true)] ∧ (s.fn H ds).args = ds ∧ (s.fn H ds).vars = [])
    {W : World} {base : Nat} {args : Array Value} {ds gs : List (DataW H)} {before : List MemPlace} (hval : ∀ (j : Nat) t v, fn.params[j]? = some t → args[j]? = some v → Value.okWide P W .any base t v)
    (hW : DataW.Whole enc P fn.params.toList s.vars false W args.toList ds gs before) :
    Calls P f args W fun e W' => ∃ v, e = .returned v ∧ s.post enc P fn false true false false W args v W' := by
  have hW' := hW
  obtain ⟨p, q, hA, hV, rfl, hfz, hnd⟩ := hW
  rw [hv] at hV
  obtain ⟨rfl, rfl⟩ := trodVars_none hV
  obtain ⟨τ, hτ, hw⟩ := args_open (base := base) hp hA (fun j t v ht hv => hval j t v (by simpa using ht) (by simpa using hv))
  have hc := hF τ true (hT τ hw) W (fun g => g < W.heap.size) args.toList (fun g hg => hg) hτ
  refine (show Calls P f args.toList.toArray W _ from hc).mono fun e W' ⟨xs, mg, he, hfr, _, hres⟩ => ?_
  obtain ⟨x, xs', rfl, hx, hxs⟩ := hres
  have hxs : xs' = [] := hxs
  subst hxs
  obtain ⟨cs, hcs, hcx⟩ := hx
  have hcs : cs = [.bool true] := hcs
  subst hcs
  have hxe : x = .bool true := by
    rcases hcx with ⟨h, _⟩ | ⟨_, h⟩
    · cases h
    · injection h with h _; exact h.symm
  subst hxe he
  have hbel := hfr.below
  have hlen : ds.length = fn.params.size := by
    have : ∀ {ts : List TypeId} {vs : List Value} {ds : List (DataW H)} {ps : List MemPlace}, DataW.TrodAll enc P W 0 (fun _ => true) true ts vs ds ps → ds.length = ts.length := by
      intro ts
      induction ts with
      | nil => intro vs ds ps h; obtain ⟨_, rfl, _⟩ := trodAll_nil h; rfl
      | cons t ts ih =>
        intro vs ds ps h
        obtain ⟨v, vs', d, ds', p, q, rfl, rfl, rfl, h1, h2⟩ := trodAll_cons h
        simp [ih h2]
    rw [this hA]; simp
  obtain ⟨e1, e2, e3⟩ := hs ds hlen
  refine ⟨_, rfl, ds, [], _, [], p, [], hW', ?_, ?_, ?_, hbel.frame _, fun h => by cases h⟩
  · rw [List.append_nil, e1, hr]
    exact trodAll_mk1 (shut_bool hb _)
  · rw [List.append_nil, e2]
    exact args_shut hl hbel hp hA
  · rw [List.append_nil, e3, hv]; exact rfl
end Go.W

set_option linter.unusedVariables false
namespace Go.W
open Go.Proofs Go.ChangeShapes Go.WideShapes Go.ChangeAt Go.RowKit

/-! ### The types of the laws' arguments -/
theorem own : ownKnob Tryz.prog.godebug = none := by kernel_rfl
theorem laidOut : laidOutB Tryz.prog = true := by kernel_rfl
theorem opens_nat : Opens Tryz.prog 23 (.slice (.int .u32)) := opens_slice Tryz.underlying23 (by kernel_rfl) (by decide) (opens_int Tryz.underlying108)
theorem opens_integer : Opens Tryz.prog 25 (.pair .bool (.slice (.int .u32))) := opens_pair Tryz.underlying25 (by kernel_rfl) rfl rfl (by kernel_rfl) (by kernel_rfl) (opens_bool Tryz.underlying4) opens_nat
theorem opens_rational : Opens Tryz.prog 27 (.pair (.pair .bool (.slice (.int .u32))) (.slice (.int .u32))) := opens_pair Tryz.underlying27 (by kernel_rfl) rfl rfl (by kernel_rfl) (by kernel_rfl) opens_integer opens_nat
abbrev tRat : Ty := .pair (.pair .bool (.slice (.int .u32))) (.slice (.int .u32))
abbrev tIv : Ty := .pair tRat tRat
theorem opens_interval : Opens Tryz.prog 29 (.pair tRat tRat) := opens_pair Tryz.underlying29 (by kernel_rfl) rfl rfl (by kernel_rfl) (by kernel_rfl) opens_rational opens_rational
theorem par_interval : OpensV Tryz.prog 29 tIv ∧ Tryz.prog.readableRec 29 = true ∧ 29 < Tryz.prog.types.size := ⟨opensV_struct Tryz.underlying29 opens_interval, by kernel_rfl, of_decide_eq_true (by kernel_rfl)⟩
theorem par_rational : OpensV Tryz.prog 27 tRat ∧ Tryz.prog.readableRec 27 = true ∧ 27 < Tryz.prog.types.size := ⟨opensV_struct Tryz.underlying27 opens_rational, by kernel_rfl, of_decide_eq_true (by kernel_rfl)⟩
theorem opens_list : Opens Tryz.prog 50 (.slice tRat) := opens_slice Tryz.underlying50 (by kernel_rfl) (by decide) opens_rational
theorem par_list : OpensV Tryz.prog 50 (.slice tRat) ∧ Tryz.prog.readableRec 50 = true ∧ 50 < Tryz.prog.types.size := ⟨opensV_slice Tryz.underlying50 opens_list, by kernel_rfl, of_decide_eq_true (by kernel_rfl)⟩

theorem DV_of {l : List Int} (h : wfT (.slice (.int .u32)) l) : DV 4294967296 l := fun x hx => by
  have h1 : (0 : Int) ≤ x ∧ x ≤ 4294967295 := h.2 x hx
  omega
theorem DR_of {a : tRat.D} (h : wfT tRat a) : DR a := ⟨DV_of h.1.2, DV_of h.2⟩
theorem DI_of {a : tIv.D} (h : wfT tIv a) : DI a := ⟨DR_of h.1, DR_of h.2⟩
theorem list_of {a : List tRat.D} (h : wfT (.slice tRat) a) : ∀ c ∈ a, DR c := fun c hc => DR_of (h.2 c hc)
end Go.W

set_option linter.unusedVariables false
namespace Go.W

/-! ### No function of a closure calls itself: by a rank -/
def leads (P : Program) (g : FuncId) : List FuncId := (P.funcs[g]?).elim [] P.leadsTo

theorem mem_closureVia {P : Program} {J : Nat → Prop} (hJ : ∀ g, J g → ∀ h ∈ leads P g, J h) : ∀ (n : Nat) (todo seen : List FuncId), (∀ x ∈ todo, J x) → (∀ x ∈ seen, J x) → ∀ x ∈ P.closureVia n todo seen, J x
  | 0, todo, seen, _, hs, x, hx => hs x (by simpa [Program.closureVia] using hx)
  | n + 1, [], seen, _, hs, x, hx => hs x (by simpa [Program.closureVia] using hx)
  | n + 1, f :: todo, seen, ht, hs, x, hx => by
    rw [Program.closureVia] at hx
    split at hx
    · exact mem_closureVia hJ n todo seen (fun y hy => ht y (List.mem_cons_of_mem _ hy)) hs x hx
    · refine mem_closureVia hJ n _ (f :: seen) (fun y hy => ?_) (fun y hy => ?_) x hx
      · rcases List.mem_append.1 hy with hy | hy
        · exact hJ f (ht f (by simp)) y hy
        · exact ht y (List.mem_cons_of_mem _ hy)
      · rcases List.mem_cons.1 hy with rfl | hy
        · exact ht _ (by simp)
        · exact hs y hy

def rankOK (P : Program) (l : List Nat) : Bool := l.all fun g => (leads P g).all fun h => Nat.blt (l.idxOf h) (l.idxOf g)

theorem recurses_false {P : Program} {f : FuncId} {l : List Nat} (hu : P.unfollowed f = false) (h : rankOK P l = true) (hf : l.contains f = true) : P.recurses f = false := by
  have hr : ∀ g, g ∈ l → ∀ h ∈ leads P g, h ∈ l ∧ l.idxOf h < l.idxOf g := fun g hg k hk => by
    have h1 := List.all_eq_true.1 h g hg
    have h2 := List.all_eq_true.1 h1 k hk
    have h3 : l.idxOf k < l.idxOf g := by simpa [Nat.blt_eq] using h2
    exact ⟨List.idxOf_lt_length_iff.1 (Nat.lt_of_lt_of_le h3 (List.idxOf_le_length)), h3⟩
  have hf : f ∈ l := by simpa using hf
  unfold Program.recurses
  rw [hu, Bool.false_or]
  rw [Bool.eq_false_iff]
  intro hx
  obtain ⟨g, hg, hx⟩ := List.any_eq_true.1 hx
  obtain ⟨k, hk, hx⟩ := List.any_eq_true.1 hx
  have hgl : g ∈ l := mem_closureVia (J := fun x => x ∈ l) (fun a ha b hb => (hr a ha b hb).1) _ [f] [] (fun x hx => by simpa using (by simpa using hx : x = f) ▸ hf) (fun x hx => by simp at hx) g hg
  obtain ⟨hkl, hlt⟩ := hr g hgl k hk
  have := mem_closureVia (J := fun x => x ∈ l ∧ l.idxOf x ≤ l.idxOf k) (fun a ha b hb => ⟨(hr a ha.1 b hb).1, Nat.le_trans (Nat.le_of_lt (hr a ha.1 b hb).2) ha.2⟩) _ [k] [] (fun x hx => by
    obtain rfl : x = k := by simpa using hx
    exact ⟨hkl, Nat.le_refl _⟩) (fun x hx => by simp at hx) g (by simpa [Program.closure] using hx)
  omega
end Go.W

