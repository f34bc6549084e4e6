/- A part of the proof: texts P14, P15, P16, Sp2, Sp3, Sp4, Df2, P17, P18, P19, P20, Sp5, Df3, P21, P35, P36, P37, P38, P39, P40, P41, Sp7, Df5, P50, P51, P52, P42, P43, P53, P54, Rev, RepB. What is proved in the end stands in the last file. -/
import Derived.Test.YtgjgjobaohakgaaSc3
import Derived.Laws.Strings
import Derived.Test.YtgjgjobaohakgaaProg
import Derived.Shelf.RegionOpenPlain
import Derived.WalkKit
import Derived.Deep.LoopGhost
import Derived.Lib.Walk
import Derived.Sort.WalkB12
import Derived.Lib.SlicesMore
import Derived.Shelf.Strings.Repeat
set_option linter.unusedVariables false
set_option linter.unusedSimpArgs false
set_option linter.unusedSectionVars false
set_option linter.unusedVariables false
set_option linter.unusedSimpArgs false
namespace Go.W

/-! ### the reference: bits -/
theorem BB.w {b : List Int} (h : BB b) : BW b := ⟨h.1, by have := h.2; omega⟩
theorem BW.nonneg {b : List Int} (h : BW b) : 0 ≤ bv b := gv_nonneg (by decide) h.1
theorem Rn_ref01_Few : Run_ref01_Few := fun s hs n l => Ok.gif fun h => by
  have key : ∀ (d i : Nat), i + d = l.length → Ev (fun m => s m n l (i : Int)) ((l.drop i).all fun a => decide ((a.length : Int) ≤ n)) := by
    intro d
    induction d with
    | zero =>
      intro i hi
      refine Ev.step (t := fun _ => some _) (fun m => ?_) Ev.ret
      rw [hs]; unfold S_ref01_Few_9
      rw [if_neg (by simp; omega), List.drop_eq_nil_of_le (by omega)]; rfl
    | succ d ih =>
      intro i hi
      have hg : (l.drop i) = l.getD i [] :: l.drop (i + 1) := by
        rw [List.drop_eq_getElem_cons (by omega), List.getD_eq_getElem?_getD, List.getElem?_eq_getElem (by omega)]; simp
      rw [hg, List.all_cons]
      by_cases hl : ((l.getD i []).length : Int) ≤ n
      · rw [decide_eq_true hl, Bool.true_and]
        refine Ev.step (fun m => ?_) (ih (i + 1) (by omega))
        rw [hs]; unfold S_ref01_Few_9
        rw [if_pos (by simp; omega), if_pos (by omega)]
        dsimp only
        rw [Int.toNat_natCast, if_neg (by rw [decide_eq_true_eq]; omega), i64w (by omega) (by omega)]
        simp
      · rw [decide_eq_false hl, Bool.false_and]
        refine Ev.step (t := fun _ => some false) (fun m => ?_) Ev.ret
        rw [hs]; unfold S_ref01_Few_9
        rw [if_pos (by simp; omega), if_pos (by omega)]
        dsimp only
        rw [Int.toNat_natCast, if_pos (by rw [decide_eq_true_eq]; omega)]
  have := key l.length 0 (by omega)
  rw [List.drop_zero] at this
  exact this
theorem Rn_ref01_Trim : Run_ref01_Trim := fun s hs a => Ok.gif fun h => by
  have hl := h.2
  have key : ∀ k : Nat, k ≤ a.length → gv 2 (a.drop k) = 0 → Ev (fun m => s m a (k : Int)) (bd (bv a)) := by
    intro k
    induction k with
    | zero =>
      intro _ hz
      rw [List.drop_zero] at hz
      have hz : bv a = 0 := hz
      refine Ev.step (t := fun _ => some (bd (bv a))) (fun m => ?_) Ev.ret
      rw [hs]; unfold S_ref01_Trim_9
      rw [if_neg (by simp), if_pos (by simp), hz, bd_zero]; rfl
    | succ k ih =>
      intro hk hz
      have e1 : IntKind.wrap .i64 (((k + 1 : Nat) : Int) - 1) = k := by rw [i64w] <;> omega
      by_cases hx : a.getD k 0 = 0
      · refine Ev.step (t := fun m => s m a (k : Int)) (fun m => ?_) (ih (by omega) (drop_zero_step hk hz hx))
        rw [hs]; unfold S_ref01_Trim_9
        rw [if_pos (by simp <;> omega), e1, if_pos (by omega)]
        dsimp only
        rw [Int.toNat_natCast, if_pos (by rw [hx]; rfl)]
      · refine Ev.step (t := fun _ => some (bd (bv a))) (fun m => ?_) Ev.ret
        rw [hs]; unfold S_ref01_Trim_9
        rw [if_pos (by simp <;> omega), e1, if_pos (by omega)]
        dsimp only
        rw [Int.toNat_natCast, if_neg (by simpa using hx), if_pos (by omega), Int.toNat_natCast, (trim_at (by decide) h.1 hk hz hx).1]
  exact key a.length (Nat.le_refl _) (by simp [gv])
theorem Rno_ref01_Trim : Runo_ref01_Trim := fun s hs a => Ok.gif fun h => by
  have hl := h.2
  have key : ∀ k : Nat, k ≤ a.length → gv 2 (a.drop k) = 0 → Ev (fun m => s m (k : Int) a) (a, some ((bd (bv a)).length : Int)) := by
    intro k
    induction k with
    | zero =>
      intro _ hz
      rw [List.drop_zero] at hz
      have hz : bv a = 0 := hz
      refine Ev.step (t := fun _ => some (a, some ((bd (bv a)).length : Int))) (fun m => ?_) Ev.ret
      rw [hs]; unfold So_ref01_Trim_9
      rw [if_neg (by simp), if_pos (by simp), hz, bd_zero]; rfl
    | succ k ih =>
      intro hk hz
      have e1 : IntKind.wrap .i64 (((k + 1 : Nat) : Int) - 1) = k := by rw [i64w] <;> omega
      by_cases hx : a.getD k 0 = 0
      · refine Ev.step (t := fun m => s m (k : Int) a) (fun m => ?_) (ih (by omega) (drop_zero_step hk hz hx))
        rw [hs]; unfold So_ref01_Trim_9
        rw [if_pos (by simp <;> omega), e1, if_pos (by omega)]
        dsimp only
        rw [Int.toNat_natCast, if_pos (by rw [hx]; rfl)]
      · refine Ev.step (t := fun _ => some (a, some ((bd (bv a)).length : Int))) (fun m => ?_) Ev.ret
        obtain ⟨h1, h2, h3⟩ := trim_at (by decide) h.1 hk hz hx
        rw [hs]; unfold So_ref01_Trim_9
        rw [if_pos (by simp <;> omega), e1, if_pos (by omega)]
        dsimp only
        have h2 : (bd (bv a)).length = k + 1 := h2
        rw [Int.toNat_natCast, if_neg (by simpa using hx), if_pos (by omega), h2]
  exact key a.length (Nat.le_refl _) (by simp [gv])
theorem btrim_end {l : List Int} (h : BW l) {T : Int} (hT : bv l = T) :
    ((O_ref01_Trim l).bind fun r => if sameLen false (.int .i64) l r.1 then optE r.2 (some ([] : List Int)) (fun n => some (List.take (Int.toNat n) (List.drop (Int.toNat 0) r.1))) else none) = some (bd T) := by
  subst hT
  rw [O_ref01_Trim, gif_bind h, if_pos (sameLen_self (e := .int .i64))]
  show some (List.take (Int.toNat ((bd (bv l)).length : Int)) (List.drop (Int.toNat 0) l)) = _
  rw [Int.toNat_natCast, show (Int.toNat 0) = 0 from rfl, List.drop_zero, take_norm (by decide) h.1]
theorem gv_snoc (B : Int) (l : List Int) (x : Int) : gv B (l ++ [x]) = gv B l + x * B ^ l.length := by
  rw [gv_append]; simp [gv]; grind
theorem DV.snoc {B : Int} {l : List Int} (h : DV B l) {x : Int} (hx : 0 ≤ x ∧ x < B) : DV B (l ++ [x]) := DV.append.2 ⟨h, by simp [DV]; exact hx⟩
/-- bit i of a number whose digits have W bits -/
theorem bit_of {W : Nat} (hW : 0 < W) {l : List Int} (h : DV (2 ^ W) l) {i : Nat} (hi : i / W < l.length) : gv (2 ^ W) l / 2 ^ i % 2 = l.getD (i / W) 0 / 2 ^ (i % W) % 2 := by
  have h1 := gv_split (2 ^ W) (i / W) l (by omega)
  have hp := two_pow_pos (W * (i / W))
  have e : ((2 : Int) ^ W) ^ (i / W) = 2 ^ (W * (i / W)) := by rw [Int.pow_mul]
  have h2 := gv_lt (two_pow_pos W) (h.take (i / W))
  have h3 := gv_nonneg (Int.le_of_lt (two_pow_pos W)) (h.take (i / W))
  rw [List.length_take, Nat.min_eq_left (by omega), e] at h2
  rw [e] at h1
  have hdm := Nat.div_add_mod i W
  have hq : gv (2 ^ W) l / 2 ^ i = gv (2 ^ W) (l.drop (i / W)) / 2 ^ (i % W) := by
    conv => lhs; rw [← hdm, Int.pow_add, ← Int.ediv_ediv_of_nonneg (Int.le_of_lt hp)]
    rw [h1, Int.add_mul_ediv_left _ _ (by omega), Int.ediv_eq_zero_of_lt h3 h2, Int.zero_add]
  rw [hq, gv_drop_succ _ hi]
  have hr : i % W < W := Nat.mod_lt _ hW
  have e2 : (2 : Int) ^ W = 2 ^ (i % W) * (2 * 2 ^ (W - i % W - 1)) := by
    rw [show (2 : Int) * 2 ^ (W - i % W - 1) = 2 ^ (W - i % W) by rw [show W - i % W = (W - i % W - 1) + 1 by omega, Int.pow_succ, Int.mul_comm]; simp, ← Int.pow_add]
    congr 1; omega
  rw [e2, Int.mul_assoc, Int.add_mul_ediv_left _ _ (Int.ne_of_gt (two_pow_pos _)), Int.mul_assoc, Int.add_mul_emod_self_left]
theorem mod_succ (N : Int) (i : Nat) : N % 2 ^ (i + 1) = N % 2 ^ i + N / 2 ^ i % 2 * 2 ^ i := by
  have hp := two_pow_pos i
  have h1 := Int.emod_add_mul_ediv N (2 ^ i)
  have h2 := Int.emod_add_mul_ediv (N / 2 ^ i) 2
  have h3 := Int.emod_nonneg N (show (2 : Int) ^ i ≠ 0 by omega)
  have h4 := Int.emod_lt_of_pos N hp
  have h5 := Int.emod_nonneg (N / 2 ^ i) (show (2 : Int) ≠ 0 by omega)
  have h6 := Int.emod_lt_of_pos (N / 2 ^ i) (show (0 : Int) < 2 by omega)
  generalize N / 2 ^ i % 2 = b at *
  generalize N / 2 ^ i / 2 = Q at *
  generalize N / 2 ^ i = M at *
  generalize N % 2 ^ i = r at *
  have e : N = (r + b * 2 ^ i) + 2 ^ (i + 1) * Q := by rw [Int.pow_succ, ← h1, ← h2]; grind
  have hlt : r + b * 2 ^ i < 2 ^ (i + 1) := by
    have : b * 2 ^ i ≤ 1 * 2 ^ i := Int.mul_le_mul_of_nonneg_right (by omega) (by omega)
    rw [Int.pow_succ]; omega
  have hnn : 0 ≤ b * 2 ^ i := Int.mul_nonneg h5 (by omega)
  rw [e, Int.add_mul_emod_self_left, Int.emod_eq_of_lt (by omega) hlt]
theorem fdiv_sh (a : Int) (r : Nat) (b : Nat) (hr : r ≤ b) : Int.fdiv a (2 ^ (min (Int.toNat (r : Int)) b)) = a / 2 ^ r := by
  rw [shr_eq, Int.toNat_natCast, Nat.min_eq_left hr]
theorem tdivn {x : Nat} {k : Nat} : Int.tdiv (x : Int) (k : Int) = ((x / k : Nat) : Int) := by
  rw [Int.tdiv_eq_ediv_of_nonneg (by omega), Int.natCast_ediv]
theorem tmodn {x : Nat} {k : Nat} : Int.tmod (x : Int) (k : Int) = ((x % k : Nat) : Int) := by
  rw [Int.tmod_eq_emod_of_nonneg (by omega), Int.natCast_emod]
theorem Rn_ref01_Of : Run_ref01_Of := fun s hs a => Ok.gif fun h => by
  have hl := h.2
  have na := h.nonneg
  have key : ∀ (d i : Nat) (o : List Int), i + d = 32 * a.length → o.length = i → DV 2 o → gv 2 o = nv a % 2 ^ i → Ev (fun m => s m a (i : Int) o) (bd (nv a)) := by
    intro d
    induction d with
    | zero =>
      intro i o hi hlo hd hg
      refine Ev.step (t := fun _ => some (bd (nv a))) (fun m => ?_) Ev.ret
      rw [hs]; unfold S_ref01_Of_13
      dsimp only
      rw [if_neg (by rw [i64w (by omega) (by omega)]; simp; omega)]
      refine btrim_end ⟨hd, by omega⟩ ?_
      have h1 := h.val.2
      rw [show 32 * a.length = i by omega] at h1
      show gv 2 o = _
      rw [hg, Int.emod_eq_of_lt na h1]
    | succ d ih =>
      intro i o hi hlo hd hg
      have hb := bit_of (W := 32) (by omega) (l := a) h.1 (i := i) (by omega)
      have hm : (32 : Int) = ((32 : Nat) : Int) := rfl
      have hx := h.1.get (by decide) (i / 32)
      have hq0 : 0 ≤ a.getD (i / 32) 0 / 2 ^ (i % 32) := Int.ediv_nonneg hx.1 (Int.le_of_lt (two_pow_pos _))
      refine Ev.step (fun m => ?_) (ih (i + 1) (o ++ [a.getD (i / 32) 0 / 2 ^ (i % 32) % 2]) (by omega) (by simp; omega) (hd.snoc (by omega)) ?_)
      · rw [hs]; unfold S_ref01_Of_13
        dsimp only
        rw [if_pos (by rw [i64w (by omega) (by omega)]; simp; omega), if_neg (by decide)]
        rw [hm, tdivn, tmodn, i64w (n := ((i / 32 : Nat) : Int)) (by omega) (by omega), if_pos (by omega), u64w (n := ((i % 32 : Nat) : Int)) (by omega) (by omega), if_neg (by decide), if_neg (by omega), if_neg (by decide), fdiv_sh _ _ _ (by rw [bits32]; omega), Int.toNat_natCast, Int.tmod_eq_emod_of_nonneg hq0, i64w (n := a.getD (i / 32) 0 / 2 ^ (i % 32) % 2) (by omega) (by omega), if_pos (by simp; omega), i64w (by omega) (by omega)]
        simp
      · rw [gv_snoc, hlo, hg, mod_succ, ← hb]; rfl
  exact key (32 * a.length) 0 [] (by omega) rfl .nil (by simp [gv])
theorem norm_of_ge {B : Int} (hB : 1 < B) {l : List Int} (h : DV B l) (hge : l = [] ∨ B ^ (l.length - 1) ≤ gv B l) : gd B (gv B l) = l := by
  rcases hge with rfl | hge
  · simp [gv, gd_zero]
  · have h1 := take_norm hB h
    have h2 := gd_len_lt hB (gv B l)
    have h3 : l.length ≤ (gd B (gv B l)).length := by
      by_cases hh : l.length ≤ (gd B (gv B l)).length
      · exact hh
      · exfalso
        have : B ^ (gd B (gv B l)).length ≤ B ^ (l.length - 1) := pow_le_pow' (by omega) (by omega)
        omega
    rw [List.take_of_length_le h3] at h1
    exact h1.symm
theorem get_le {B : Int} (hB : 0 < B) {l : List Int} (h : DV B l) {k : Nat} (hk : k < l.length) : l.getD k 0 * B ^ k ≤ gv B l := by
  have h1 := gv_split B k l (by omega)
  have h2 := gv_nonneg (Int.le_of_lt hB) (h.take k)
  have h3 := gv_nonneg (Int.le_of_lt hB) (h.drop (k + 1))
  rw [gv_drop_succ _ hk] at h1
  have h4 : 0 ≤ B ^ k * (B * gv B (l.drop (k + 1))) := Int.mul_nonneg (Int.le_of_lt (pow_pos' hB k)) (Int.mul_nonneg (Int.le_of_lt hB) h3)
  rw [Int.mul_add] at h1
  rw [Int.mul_comm]
  omega
/-- one more bit into the digits -/
theorem put_bit {W : Nat} (hW : 0 < W) {l : List Int} (h : DV (2 ^ W) l) {i : Nat} (hi : i / W < l.length) {b : Int} (hb : 0 ≤ b ∧ b < 2) (hlt : gv (2 ^ W) l < 2 ^ i) :
    0 ≤ l.getD (i / W) 0 + b * 2 ^ (i % W) ∧ l.getD (i / W) 0 + b * 2 ^ (i % W) < 2 ^ W ∧ gv (2 ^ W) (l.set (i / W) (l.getD (i / W) 0 + b * 2 ^ (i % W))) = gv (2 ^ W) l + b * 2 ^ i := by
  have hx := h.get (two_pow_pos W) (i / W)
  have hp := two_pow_pos (i % W)
  have hr : i % W < W := Nat.mod_lt _ hW
  have e : ((2 : Int) ^ W) ^ (i / W) * 2 ^ (i % W) = 2 ^ i := by rw [← Int.pow_mul, ← Int.pow_add, Nat.div_add_mod]
  have h1 := get_le (two_pow_pos W) h hi
  have h2 : l.getD (i / W) 0 < 2 ^ (i % W) := by
    have hk := pow_pos' (two_pow_pos W) (i / W)
    by_cases hh : l.getD (i / W) 0 < 2 ^ (i % W)
    · exact hh
    · exfalso
      have h3 : ((2 : Int) ^ W) ^ (i / W) * 2 ^ (i % W) ≤ ((2 : Int) ^ W) ^ (i / W) * l.getD (i / W) 0 := Int.mul_le_mul_of_nonneg_left (by omega) (by omega)
      rw [e, Int.mul_comm _ (l.getD (i / W) 0)] at h3
      omega
  have h3 := two_pow_le (show i % W + 1 ≤ W by omega)
  rw [Int.pow_succ] at h3
  have h4 : b * 2 ^ (i % W) ≤ 1 * 2 ^ (i % W) := Int.mul_le_mul_of_nonneg_right (by omega) (by omega)
  have h5 : 0 ≤ b * 2 ^ (i % W) := Int.mul_nonneg hb.1 (by omega)
  refine ⟨by omega, by omega, ?_⟩
  rw [gv_set _ hi]
  have : (l.getD (i / W) 0 + b * 2 ^ (i % W) - l.getD (i / W) 0) * ((2 : Int) ^ W) ^ (i / W) = b * 2 ^ i := by
    rw [← e]; grind
  rw [this]
theorem Rn_ref01_bit : Run_ref01_bit := fun b i => Ok.gif_const fun h => by
  rw [T_ref01_bit]
  by_cases hi : i < (b.length : Int)
  · rw [if_pos (decide_eq_true hi), if_pos (by omega)]
  · rw [if_neg (by simpa using hi), List.getD_eq_getElem?_getD, List.getElem?_eq_none (by omega)]; rfl
theorem bit_bind {σ : Type} {b : List Int} {i : Nat} {k : Int → Option σ} : (F_ref01_bit b (i : Int)).bind k = k (b.getD i 0) := by
  rw [F_ref01_bit, gif_bind (by omega), Int.toNat_natCast]
theorem drop_bit (b : List Int) (k : Nat) : gv 2 (b.drop k) = b.getD k 0 + 2 * gv 2 (b.drop (k + 1)) := by
  by_cases h : k < b.length
  · exact gv_drop_succ _ h
  · rw [List.drop_eq_nil_of_le (by omega), List.drop_eq_nil_of_le (by omega), List.getD_eq_getElem?_getD, List.getElem?_eq_none (by omega)]; rfl
theorem bv_shift {b : List Int} (h : DV 2 b) (k : Nat) : ∃ r, 0 ≤ r ∧ r < 2 ^ k ∧ bv b = r + 2 ^ k * gv 2 (b.drop k) := by
  by_cases hk : k ≤ b.length
  · refine ⟨gv 2 (b.take k), gv_nonneg (by decide) (h.take k), ?_, gv_split 2 k b hk⟩
    have := gv_lt (B := 2) (by decide) (h.take k)
    rwa [List.length_take, Nat.min_eq_left hk] at this
  · refine ⟨bv b, gv_nonneg (by decide) h, Int.lt_of_lt_of_le (gv_lt (by decide) h) (two_pow_le (by omega)), ?_⟩
    rw [List.drop_eq_nil_of_le (by omega)]; simp [gv]
theorem shift_lt {a b : List Int} (ha : DV 2 a) (hb : DV 2 b) (k : Nat) (h : gv 2 (a.drop k) < gv 2 (b.drop k)) : bv a < bv b := by
  obtain ⟨r, h0, h1, h2⟩ := bv_shift ha k
  obtain ⟨r', h3, h4, h5⟩ := bv_shift hb k
  have : 2 ^ k * (gv 2 (a.drop k) + 1) ≤ 2 ^ k * gv 2 (b.drop k) := Int.mul_le_mul_of_nonneg_left (by omega) (Int.le_of_lt (two_pow_pos k))
  rw [Int.mul_add, Int.mul_one] at this
  omega
theorem Rn_ref01_Cmp : Run_ref01_Cmp := fun s hs a b => Ok.gif fun ⟨ha, hb⟩ => by
  have hA := ha.2
  have hB := hb.2
  have key : ∀ k : Nat, k ≤ 2199023255552 → gv 2 (a.drop k) = gv 2 (b.drop k) → Ev (fun m => s m a b ((k : Int) - 1)) (cm (bv a) (bv b)) := by
    intro k
    induction k with
    | zero =>
      intro _ hd
      rw [List.drop_zero, List.drop_zero] at hd
      refine Ev.step (t := fun _ => some (cm (bv a) (bv b))) (fun m => ?_) Ev.ret
      rw [hs]; unfold S_ref01_Cmp_9
      have hd : bv a = bv b := hd
      rw [if_neg (by simp), hd, cm_self]
    | succ k ih =>
      intro hk hd
      have e1 : ((k + 1 : Nat) : Int) - 1 = k := by omega
      have hx := ha.1.get (by decide) k
      have hy := hb.1.get (by decide) k
      have dx := drop_bit a k
      have dy := drop_bit b k
      rw [e1]
      by_cases heq : a.getD k 0 = b.getD k 0
      · refine Ev.step (t := fun m => s m a b ((k : Int) - 1)) (fun m => ?_) (ih (by omega) (by omega))
        rw [hs]; unfold S_ref01_Cmp_9
        rw [if_pos (by simp), bit_bind, bit_bind, if_neg (by rw [heq]; simp), i64w (by omega) (by omega)]
      · refine Ev.step (t := fun _ => some (cm (bv a) (bv b))) (fun m => ?_) Ev.ret
        rw [hs]; unfold S_ref01_Cmp_9
        rw [if_pos (by simp), bit_bind, bit_bind, if_pos (bne_iff_ne.2 heq), bit_bind, bit_bind, i64w (by omega) (by omega)]
        congr 1
        by_cases hlt : a.getD k 0 < b.getD k 0
        · rw [cm_of_lt (shift_lt ha.1 hb.1 k (by omega))]; omega
        · rw [cm_of_gt (shift_lt hb.1 ha.1 k (by omega))]; omega
  have hm : (if (b.length : Int) > (a.length : Int) then (b.length : Int) else (a.length : Int)) = ((max a.length b.length : Nat) : Int) := by split <;> omega
  have := key (max a.length b.length) (by omega) (by rw [List.drop_eq_nil_of_le (by omega), List.drop_eq_nil_of_le (by omega)])
  simp only [T_ref01_Cmp, hm]
  rw [i64w (by omega) (by omega)]
  exact this
end Go.W

set_option linter.unusedVariables false
set_option linter.unusedSimpArgs false
namespace Go.W

theorem BW.bd {k : Nat} {n : Int} (h : Bd k n) (hk : k ≤ 4398046511104) : BW (Go.W.bd n) := ⟨gd_DV (by decide) n, Nat.le_trans (gd_len (by decide) _ n h.2) (by omega)⟩
theorem Rn_ref01_Add : Run_ref01_Add := fun s t hs ht a b => Ok.gif fun ⟨ha, hb⟩ => by
  have hA := ha.2
  have hB := hb.2
  have key : ∀ (d i : Nat) (o : List Int) (c : Int), i + d = max a.length b.length + 1 → o.length = i → DV 2 o → 0 ≤ c → c ≤ 1 → (d = 0 → c = 0) → gv 2 o + (c + gv 2 (a.drop i) + gv 2 (b.drop i)) * 2 ^ i = bv a + bv b → Ev (fun m => s m a b c (i : Int) o) (bd (bv a + bv b)) := by
    intro d
    induction d with
    | zero =>
      intro i o c hi hl hd h0 h1 hc hg
      have hc := hc rfl
      subst hc
      refine Ev.step (t := fun _ => some (bd (bv a + bv b))) (fun m => ?_) Ev.ret
      rw [hs]; unfold S_ref01_Add_17
      rw [if_neg (by simp; omega), if_neg (by simp; omega), if_neg (by decide)]
      rw [List.drop_eq_nil_of_le (by omega), List.drop_eq_nil_of_le (by omega)] at hg
      refine btrim_end ⟨hd, by omega⟩ ?_
      simpa [gv] using hg
    | succ d ih =>
      intro i o c hi hl hd h0 h1 hc hg
      have dx := drop_bit a i
      have dy := drop_bit b i
      have hx := ha.1.get (by decide) i
      have hy := hb.1.get (by decide) i
      by_cases hstop : ¬ i < a.length ∧ ¬ i < b.length ∧ c = 0
      · obtain ⟨q1, q2, q3⟩ := hstop
        subst q3
        refine Ev.step (t := fun _ => some (bd (bv a + bv b))) (fun m => ?_) Ev.ret
        rw [hs]; unfold S_ref01_Add_17
        rw [if_neg (by simp; omega), if_neg (by simp; omega), if_neg (by decide)]
        rw [List.drop_eq_nil_of_le (by omega), List.drop_eq_nil_of_le (by omega)] at hg
        refine btrim_end ⟨hd, by omega⟩ ?_
        simpa [gv] using hg
      · have body : Ev (fun m => t m a b c (i : Int) o) (bd (bv a + bv b)) := by
          refine Ev.step (fun m => ?_) (ih (i + 1) (o ++ [(a.getD i 0 + b.getD i 0 + c) % 2]) ((a.getD i 0 + b.getD i 0 + c) / 2) (by omega) (by simp; omega) (hd.snoc (by omega)) (by omega) (by omega) (fun hd0 => ?_) ?_)
          · rw [ht]; unfold S_ref01_Add_24
            rw [bit_bind, bit_bind, if_neg (by decide)]
            dsimp only
            rw [i64w (n := a.getD i 0 + b.getD i 0) (by omega) (by omega), i64w (n := a.getD i 0 + b.getD i 0 + c) (by omega) (by omega), Int.tmod_eq_emod_of_nonneg (by omega), Int.tdiv_eq_ediv_of_nonneg (by omega), if_pos (by simp; omega), if_neg (by decide), i64w (n := (a.getD i 0 + b.getD i 0 + c) / 2) (by omega) (by omega), i64w (by omega) (by omega)]
            simp
          · have e1 : a.getD i 0 = 0 := by rw [List.getD_eq_getElem?_getD, List.getElem?_eq_none (by omega)]; rfl
            have e2 : b.getD i 0 = 0 := by rw [List.getD_eq_getElem?_getD, List.getElem?_eq_none (by omega)]; rfl
            omega
          · rw [gv_snoc, hl, ← hg, dx, dy, Int.pow_succ]
            have := Int.emod_add_mul_ediv (a.getD i 0 + b.getD i 0 + c) 2
            generalize (a.getD i 0 + b.getD i 0 + c) % 2 = u at *
            generalize (a.getD i 0 + b.getD i 0 + c) / 2 = v at *
            generalize gv 2 (a.drop (i + 1)) = X at *
            generalize gv 2 (b.drop (i + 1)) = Y at *
            grind
        refine Ev.step (fun m => ?_) body
        rw [hs]; unfold S_ref01_Add_17
        by_cases q1 : i < a.length
        · rw [if_pos (by simp; omega)]
        · rw [if_neg (by simp; omega)]
          by_cases q2 : i < b.length
          · rw [if_pos (by simp; omega)]
          · rw [if_neg (by simp; omega), if_pos (by simp; omega)]
  exact key (max a.length b.length + 1) 0 [] 0 (by omega) rfl .nil (by omega) (by omega) (by omega) (by simp [gv])
theorem Rn_ref01_Sub : Run_ref01_Sub := fun s hs a b => Ok.gif fun ⟨ha, hb, hle⟩ => by
  have hA := ha.2
  have hB := hb.2
  have key : ∀ (d i : Nat) (o : List Int) (c : Int), i + d = a.length → o.length = i → DV 2 o → 0 ≤ c → c ≤ 1 → gv 2 o + (gv 2 (a.drop i) - gv 2 (b.drop i) - c) * 2 ^ i = bv a - bv b → Ev (fun m => s m a b c (i : Int) o) (bd (bv a - bv b)) := by
    intro d
    induction d with
    | zero =>
      intro i o c hi hl hd h0 h1 hg
      refine Ev.step (t := fun _ => some (bd (bv a - bv b))) (fun m => ?_) Ev.ret
      rw [hs]; unfold S_ref01_Sub_17
      rw [if_neg (by simp; omega)]
      rw [List.drop_eq_nil_of_le (show a.length ≤ i by omega)] at hg
      have hb0 := gv_nonneg (B := 2) (by decide) (hb.1.drop i)
      have hlt := gv_lt (B := 2) (by decide) hd
      rw [hl] at hlt
      refine btrim_end ⟨hd, by omega⟩ ?_
      simp only [gv] at hg
      generalize hr : 0 - gv 2 (b.drop i) - c = r at hg
      by_cases hr0 : r = 0
      · subst hr0
        show gv 2 o = _
        omega
      · exfalso
        have : r * 2 ^ i ≤ (-1) * 2 ^ i := Int.mul_le_mul_of_nonneg_right (by omega) (Int.le_of_lt (two_pow_pos i))
        omega
    | succ d ih =>
      intro i o c hi hl hd h0 h1 hg
      have dx := drop_bit a i
      have dy := drop_bit b i
      have hx := ha.1.get (by decide) i
      have hy := hb.1.get (by decide) i
      refine Ev.step (fun m => ?_) (ih (i + 1) (o ++ [(a.getD i 0 - b.getD i 0 - c) % 2]) (if a.getD i 0 - b.getD i 0 - c < 0 then 1 else 0) (by omega) (by simp; omega) (hd.snoc (by omega)) (by split <;> omega) (by split <;> omega) ?_)
      · rw [hs]; unfold S_ref01_Sub_17
        rw [if_pos (by simp; omega), bit_bind, bit_bind]
        dsimp only
        rw [i64w (n := a.getD i 0 - b.getD i 0) (by omega) (by omega), i64w (n := a.getD i 0 - b.getD i 0 - c) (by omega) (by omega)]
        by_cases hneg : a.getD i 0 - b.getD i 0 - c < 0
        · rw [if_pos (decide_eq_true hneg), if_pos hneg, i64w (n := a.getD i 0 - b.getD i 0 - c + 2) (by omega) (by omega), if_pos (by simp; omega), i64w (by omega) (by omega), show a.getD i 0 - b.getD i 0 - c + 2 = (a.getD i 0 - b.getD i 0 - c) % 2 by omega]
          simp
        · rw [if_neg (by rw [decide_eq_true_eq]; omega), if_neg hneg, if_pos (by simp; omega), i64w (by omega) (by omega), show a.getD i 0 - b.getD i 0 - c = (a.getD i 0 - b.getD i 0 - c) % 2 by omega]
          simp
      · have e : (a.getD i 0 - b.getD i 0 - c) = (a.getD i 0 - b.getD i 0 - c) % 2 - 2 * (if a.getD i 0 - b.getD i 0 - c < 0 then 1 else 0) := by split <;> omega
        rw [gv_snoc, hl, ← hg, dx, dy, Int.pow_succ]
        generalize (if a.getD i 0 - b.getD i 0 - c < 0 then (1 : Int) else 0) = v at *
        generalize (a.getD i 0 - b.getD i 0 - c) % 2 = u at *
        generalize gv 2 (a.drop (i + 1)) = X at *
        generalize gv 2 (b.drop (i + 1)) = Y at *
        grind
  exact key a.length 0 [] 0 (by omega) rfl .nil (by omega) (by omega) (by simp [gv])

/-! words -/
theorem gdn_len (B : Int) : ∀ (k : Nat) (n : Int), (gdn B n k).length = k
  | 0, _ => rfl
  | k + 1, n => by simp [gdn, gdn_len B k]
theorem gdn_of {B : Int} (hB : 1 < B) : ∀ {l : List Int}, DV B l → gdn B (gv B l) l.length = l
  | [], _ => rfl
  | x :: l, h => by
    have hd := DV.cons.1 h
    simp only [gv, List.length_cons, gdn]
    rw [Int.add_mul_emod_self_left, Int.emod_eq_of_lt hd.1.1 hd.1.2, Int.add_mul_ediv_left _ _ (by omega), Int.ediv_eq_zero_of_lt hd.1.1 hd.1.2, Int.zero_add, gdn_of hB hd.2]
theorem gdn_DV {B : Int} (hB : 1 < B) : ∀ (k : Nat) (n : Int), DV B (gdn B n k)
  | 0, _ => .nil
  | k + 1, n => DV.cons.2 ⟨⟨Int.emod_nonneg _ (by omega), Int.emod_lt_of_pos _ (by omega)⟩, gdn_DV hB k _⟩
theorem gdn_val {B : Int} (hB : 1 < B) : ∀ (k : Nat) (n : Int), 0 ≤ n → n < B ^ k → gv B (gdn B n k) = n
  | 0, n, h0, h => by simp at h; simp [gdn, gv]; omega
  | k + 1, n, h0, h => by
    simp only [gdn, gv]
    rw [gdn_val hB k (n / B) (Int.ediv_nonneg h0 (by omega)) (Int.ediv_lt_of_lt_mul (by omega) (by rw [Int.pow_succ] at h; exact h))]
    exact Int.emod_add_mul_ediv n B
theorem Rn_ref01_words : Run_ref01_words := fun s hs b => Ok.gif fun h => by
  have hl := h.2
  have e15 : (15 : Int) = ((15 : Nat) : Int) := rfl
  have w15 : (32768 : Int) = 2 ^ 15 := rfl
  have key : ∀ (d i : Nat) (o : List Int), i + d = b.length → o.length = (b.length + 14) / 15 → DV 32768 o → gv 32768 o = gv 2 (b.take i) → Ev (fun m => s m b (i : Int) o) (gdn 32768 (bv b) ((b.length + 14) / 15)) := by
    intro d
    induction d with
    | zero =>
      intro i o hi hlo hd hg
      rw [List.take_of_length_le (by omega)] at hg
      refine Ev.step (t := fun _ => some o) (fun m => ?_) ?_
      · rw [hs]; unfold S_ref01_words_13
        rw [if_neg (by simp; omega)]
      · have := gdn_of (by decide) hd
        rw [hg, hlo] at this
        have this : gdn 32768 (bv b) ((b.length + 14) / 15) = o := this
        rw [this]; exact Ev.ret
    | succ d ih =>
      intro i o hi hlo hd hg
      have hx := h.1.get (by decide) i
      have hblt := gv_lt (B := 2) (by decide) (h.1.take i)
      rw [List.length_take, Nat.min_eq_left (by omega)] at hblt
      obtain ⟨p1, p2, p3⟩ := put_bit (W := 15) (by omega) (l := o) hd (i := i) (by omega) hx (by rw [← w15, hg]; exact hblt)
      have hbp : 0 ≤ b.getD i 0 * 2 ^ (i % 15) := Int.mul_nonneg hx.1 (Int.le_of_lt (two_pow_pos _))
      have ho := hd.get (by decide) (i / 15)
      rw [← w15] at p2 p3
      refine Ev.step (fun m => ?_) (ih (i + 1) (o.set (i / 15) (o.getD (i / 15) 0 + b.getD i 0 * 2 ^ (i % 15))) (by omega) (by simpa using hlo) (hd.set ⟨p1, p2⟩) ?_)
      · rw [hs]; unfold S_ref01_words_13
        dsimp only
        rw [if_pos (by simp; omega), e15, tdivn, tmodn, if_neg (by decide), i64w (n := ((i / 15 : Nat) : Int)) (by omega) (by omega), if_pos (by omega), if_pos (by omega), if_neg (by decide), u64w (n := ((i % 15 : Nat) : Int)) (by omega) (by omega), if_neg (by omega), if_pos (by omega), Int.toNat_natCast, Int.toNat_natCast, Int.toNat_natCast, Nat.min_eq_left (show i % 15 ≤ IntKind.bits .i64 by rw [bitsi64]; omega), i64w (n := b.getD i 0 * 2 ^ (i % 15)) (by omega) (by omega), i64w (n := o.getD (i / 15) 0 + b.getD i 0 * 2 ^ (i % 15)) (by omega) (by omega), i64w (by omega) (by omega)]
        simp
      · rw [p3, hg, gv_take_succ _ (by omega)]
  have := key b.length 0 (List.replicate ((b.length + 14) / 15) 0) (by omega) (by simp) (DV.replicate (by decide) _) (by rw [gv_replicate]; simp [gv])
  simp only [T_ref01_words]
  have e14 : (b.length : Int) + 14 = ((b.length + 14 : Nat) : Int) := by simp
  rw [i64w (n := (b.length : Int) + 14) (by omega) (by omega), e14, e15, tdivn, i64w (by omega) (by omega)]
  simp only [show ¬ (((15 : Nat) : Int) = 0) by decide, if_false, show (0 ≤ (((b.length + 14) / 15 : Nat) : Int) ∧ (((b.length + 14) / 15 : Nat) : Int) ≤ ((70368744177664 / 8 : Nat) : Int)) = True by simp; omega, if_true, Int.toNat_natCast]
  exact this
theorem Rn_ref01_bits : Run_ref01_bits := fun s hs w => Ok.gif fun ⟨h, hl⟩ => by
  have e15 : (15 : Int) = ((15 : Nat) : Int) := rfl
  have w15 : (32768 : Int) = 2 ^ 15 := rfl
  have hN := gv_nonneg (B := 32768) (by decide) h
  have key : ∀ (d i : Nat) (o : List Int), i + d = 15 * w.length → o.length = 15 * w.length → DV 2 o → gv 2 (o.take i) = gv 32768 w % 2 ^ i → Ev (fun m => s m w (i : Int) o) (bd (gv 32768 w)) := by
    intro d
    induction d with
    | zero =>
      intro i o hi hlo hd hg
      refine Ev.step (t := fun _ => some (bd (gv 32768 w))) (fun m => ?_) Ev.ret
      rw [hs]; unfold S_ref01_bits_13
      rw [if_neg (by simp; omega)]
      refine btrim_end ⟨hd, by omega⟩ ?_
      rw [List.take_of_length_le (by omega)] at hg
      show gv 2 o = _
      have hlt := gv_lt (B := 32768) (by decide) h
      rw [w15, ← Int.pow_mul, show 15 * w.length = i by omega] at hlt
      rw [hg]
      exact Int.emod_eq_of_lt hN hlt
    | succ d ih =>
      intro i o hi hlo hd hg
      have hb := bit_of (W := 15) (by omega) (l := w) h (i := i) (by omega)
      have hx := h.get (by decide) (i / 15)
      have hq0 : 0 ≤ w.getD (i / 15) 0 / 2 ^ (i % 15) := Int.ediv_nonneg hx.1 (Int.le_of_lt (two_pow_pos _))
      refine Ev.step (fun m => ?_) (ih (i + 1) (o.set i (w.getD (i / 15) 0 / 2 ^ (i % 15) % 2)) (by omega) (by simpa using hlo) (hd.set (by omega)) ?_)
      · rw [hs]; unfold S_ref01_bits_13
        dsimp only
        rw [if_pos (by simp; omega), if_neg (by decide), e15, tdivn, tmodn, i64w (n := ((i / 15 : Nat) : Int)) (by omega) (by omega), if_pos (by omega), if_neg (by decide), u64w (n := ((i % 15 : Nat) : Int)) (by omega) (by omega), if_neg (by omega), if_neg (by decide), if_pos (by omega), fdiv_sh _ _ _ (by rw [bitsi64]; omega), Int.toNat_natCast, Int.toNat_natCast, Int.tmod_eq_emod_of_nonneg hq0, i64w (by omega) (by omega)]
        simp
      · rw [gv_take_set _ (by omega), hg, mod_succ, ← hb]; rfl
  have := key (15 * w.length) 0 (List.replicate (15 * w.length) 0) (by omega) (by simp) (DV.replicate (by decide) _) (by simp [gv])
  simp only [T_ref01_bits]
  rw [i64w (by omega) (by omega), show (15 : Int) * (w.length : Int) = ((15 * w.length : Nat) : Int) by simp]
  simp only [show (0 ≤ ((15 * w.length : Nat) : Int) ∧ ((15 * w.length : Nat) : Int) ≤ ((70368744177664 / 8 : Nat) : Int)) = True by simp; omega, if_true, Int.toNat_natCast]
  exact this
theorem Rn_ref01_Mul : Run_ref01_Mul := fun s t hs ht a b => Ok.gif fun ⟨ha, hb⟩ => by
  have hA := ha.2
  have hB := hb.2
  have na := ha.nonneg
  have nb := hb.nonneg
  have w15 : (32768 : Int) = 2 ^ 15 := rfl
  have words : ∀ c : List Int, BB c → gv 32768 (gdn 32768 (bv c) ((c.length + 14) / 15)) = bv c := fun c hc => by
    refine gdn_val (by decide) _ _ hc.nonneg ?_
    rw [w15, ← Int.pow_mul]
    exact Int.lt_of_lt_of_le hc.val.2 (two_pow_le (by omega))
  have va := words a ha
  have vb := words b hb
  have la := gdn_len 32768 ((a.length + 14) / 15) (bv a)
  have lb := gdn_len 32768 ((b.length + 14) / 15) (bv b)
  have da := gdn_DV (B := 32768) (by decide) ((a.length + 14) / 15) (bv a)
  have db := gdn_DV (B := 32768) (by decide) ((b.length + 14) / 15) (bv b)
  simp only [T_ref01_Mul, F_ref01_words, gif_bind ha, gif_bind hb]
  generalize gdn 32768 (bv a) ((a.length + 14) / 15) = p at *
  generalize gdn 32768 (bv b) ((b.length + 14) / 15) = q at *
  rw [i64w (by omega) (by omega)]
  simp only [show (0 ≤ (p.length : Int) + (q.length : Int) ∧ (p.length : Int) + (q.length : Int) ≤ ((70368744177664 / 8 : Nat) : Int)) = True by simp; omega, if_true]
  rw [show Int.toNat ((p.length : Int) + (q.length : Int)) = p.length + q.length by omega]
  have outer : ∀ (d i : Nat) (out : List Int), i + d = p.length → out.length = p.length + q.length → DV 32768 out → gv 32768 (out.drop (i + q.length)) = 0 →
      gv 32768 (out.take (i + q.length)) = gv 32768 (p.take i) * bv b → Ev (fun m => s m (i : Int) p q out) (bd (bv a * bv b)) := by
    intro d
    induction d with
    | zero =>
      intro i out hi hl hd hz hT
      have hi' : i = p.length := by omega
      subst hi'
      refine Ev.step (t := fun _ => some (bd (bv a * bv b))) (fun m => ?_) Ev.ret
      rw [hs]; unfold S_ref01_Mul_17
      rw [List.take_of_length_le (by omega), List.take_of_length_le (by omega), va] at hT
      rw [if_neg (by simp), F_ref01_bits, gif_bind ⟨hd, by omega⟩, hT]
    | succ d ih =>
      intro i out hi hl hd hz hT
      have hx := da.get (by decide) i
      have hz' := gv_zero_split (by decide) hd (show i + q.length < out.length by omega) hz
      have inner : ∀ (e j : Nat) (o : List Int) (c : Int), j + e = q.length → o.length = p.length + q.length → DV 32768 o → 0 ≤ c → c < 32768 → o.drop (i + q.length) = out.drop (i + q.length) →
          gv 32768 (o.take (i + j)) + (c + gv 32768 ((o.take (i + q.length)).drop (i + j)) + p.getD i 0 * gv 32768 (q.drop j)) * 32768 ^ (i + j) = gv 32768 (p.take (i + 1)) * bv b →
          Ev (fun m => t m (i : Int) c (j : Int) p q o) (bd (bv a * bv b)) := by
        intro e
        induction e with
        | zero =>
          intro j o c hj hlo hdo hc0 hc1 hup hS
          have hj' : j = q.length := by omega
          subst hj'
          have hz0 : o.getD (i + q.length) 0 = 0 := by rw [getD_of_drop hup (Nat.le_refl _)]; exact hz'.1
          refine Ev.step (t := fun m => s m ((i + 1 : Nat) : Int) p q (o.set (i + q.length) c)) (fun m => ?_) (ih (i + 1) _ (by omega) (by simpa using hlo) (hdo.set ⟨hc0, hc1⟩) ?_ ?_)
          · rw [ht]; unfold S_ref01_Mul_33
            rw [if_neg (by simp), i64w (n := (i : Int) + (q.length : Int)) (by omega) (by omega), if_pos (by omega)]
            dsimp only
            rw [if_pos (by omega), show Int.toNat ((i : Int) + (q.length : Int)) = i + q.length by omega, hz0, Int.zero_add, i64w (n := c) (by omega) (by omega), i64w (by omega) (by omega)]
            simp
          · rw [show i + 1 + q.length = i + q.length + 1 by omega, drop_set_lt (by omega)]
            have := congrArg (List.drop 1) hup
            rw [List.drop_drop, List.drop_drop] at this
            rw [this]; exact hz'.2
          · rw [show i + 1 + q.length = i + q.length + 1 by omega, gv_take_set _ (by omega)]
            rw [List.drop_eq_nil_of_le (show (o.take (i + q.length)).length ≤ i + q.length by simp; omega), List.drop_eq_nil_of_le (Nat.le_refl q.length)] at hS
            simp only [gv] at hS
            rw [← hS]; simp
        | succ e ihe =>
          intro j o c hj hlo hdo hc0 hc1 hup hS
          have hy := db.get (by decide) j
          have hr := hdo.get (by decide) (i + j)
          have hm0 : 0 ≤ p.getD i 0 * q.getD j 0 := Int.mul_nonneg hx.1 hy.1
          have hm1 : p.getD i 0 * q.getD j 0 ≤ 1073676289 := by
            have h1 : p.getD i 0 * q.getD j 0 ≤ 32767 * q.getD j 0 := Int.mul_le_mul_of_nonneg_right (by omega) hy.1
            omega
          refine Ev.step (t := fun m => t m (i : Int) ((o.getD (i + j) 0 + p.getD i 0 * q.getD j 0 + c) / 32768) ((j + 1 : Nat) : Int) p q (o.set (i + j) ((o.getD (i + j) 0 + p.getD i 0 * q.getD j 0 + c) % 32768))) (fun m => ?_) (ihe (j + 1) _ _ (by omega) (by simpa using hlo) (hdo.set ⟨by omega, by omega⟩) (by omega) (by omega) (by rw [drop_set_lt (by omega)]; exact hup) ?_)
          · rw [ht]; unfold S_ref01_Mul_33
            have hij : Int.toNat ((i : Int) + (j : Int)) = i + j := by omega
            rw [if_pos (by simp <;> omega), i64w (n := (i : Int) + (j : Int)) (by omega) (by omega), if_pos (by omega), if_pos (by omega), if_pos (by omega)]
            dsimp only
            rw [if_neg (by decide), if_pos (by omega), if_neg (by decide), hij, Int.toNat_natCast, Int.toNat_natCast, i64w (n := p.getD i 0 * q.getD j 0) (by omega) (by omega), i64w (n := o.getD (i + j) 0 + p.getD i 0 * q.getD j 0) (by omega) (by omega), i64w (n := o.getD (i + j) 0 + p.getD i 0 * q.getD j 0 + c) (by omega) (by omega), Int.tmod_eq_emod_of_nonneg (by omega), Int.tdiv_eq_ediv_of_nonneg (by omega), i64w (n := (o.getD (i + j) 0 + p.getD i 0 * q.getD j 0 + c) / 32768) (by omega) (by omega), i64w (by omega) (by omega)]
            simp
          · rw [show i + (j + 1) = (i + j) + 1 by omega]
            refine dig_step _ (by omega) hS ?_
            rw [mid_succ (show i + j < i + q.length by omega) (by omega), gv_drop_succ _ (show j < q.length by omega), mid_set]
            have := Int.mul_ediv_add_emod (o.getD (i + j) 0 + p.getD i 0 * q.getD j 0 + c) 32768
            grind
      refine Ev.step (t := fun m => t m (i : Int) 0 ((0 : Nat) : Int) p q out) (fun m => ?_) (inner q.length 0 out 0 (by omega) hl hd (by omega) (by omega) rfl ?_)
      · rw [hs]; unfold S_ref01_Mul_17
        rw [if_pos (by simp <;> omega)]
        rfl
      · rw [List.drop_zero, Nat.add_zero, vb, gv_take_succ _ (show i < p.length by omega)]
        have h2 := gv_split 32768 i (out.take (i + q.length)) (by simp; omega)
        rw [List.take_take, Nat.min_eq_left (by omega), hT] at h2
        generalize gv 32768 ((out.take (i + q.length)).drop i) = D at *
        generalize gv 32768 (out.take i) = E at *
        generalize gv 32768 (p.take i) = G at *
        generalize (32768 : Int) ^ i = W at *
        generalize p.getD i 0 = x at *
        grind
  have := outer p.length 0 (List.replicate (p.length + q.length) 0) (by omega) (by simp) (DV.replicate (by decide) _) (by
      rw [List.drop_replicate]; exact gv_replicate _ _) (by
      rw [List.take_replicate, gv_replicate]; simp [gv])
  exact this
end Go.W

set_option linter.unusedVariables false
set_option linter.unusedSimpArgs false
namespace Go.W

theorem cmp_words {r d : List Int} (hr : DV 32768 r) (hd : DV 32768 d) {k : Nat} (hk : k < r.length) (hl : r.length = d.length) (he : r.drop (k + 1) = d.drop (k + 1)) :
    (r.getD k 0 < d.getD k 0 → gv 32768 r < gv 32768 d) ∧ (d.getD k 0 < r.getD k 0 → gv 32768 d < gv 32768 r) :=
  ⟨fun h => cmp_digit (by decide) hr hd hk hl he h, fun h => cmp_digit (by decide) hd hr (by omega) hl.symm he.symm h⟩

set_option maxHeartbeats 1000000 in
theorem Rn_ref01_DivMod : Run_ref01_DivMod := fun s1 s2 s3 s4 k1 k2 k3 k4 a b => Ok.gif fun ⟨ha, hb, hb0⟩ => by
  have hA := ha.2
  have hB := hb.2
  have na := ha.nonneg
  have nb := hb.nonneg
  have w15 : (32768 : Int) = 2 ^ 15 := rfl
  have vb : gv 32768 (gdn 32768 (bv b) ((b.length + 14) / 15)) = bv b := by
    refine gdn_val (by decide) _ _ hb.nonneg ?_
    rw [w15, ← Int.pow_mul]
    exact Int.lt_of_lt_of_le hb.val.2 (two_pow_le (by omega))
  have lb := gdn_len 32768 ((b.length + 14) / 15) (bv b)
  have db := gdn_DV (B := 32768) (by decide) ((b.length + 14) / 15) (bv b)
  have hlt := gv_lt (B := 32768) (by decide) db
  simp only [T_ref01_DivMod, F_ref01_words, gif_bind hb]
  generalize gdn 32768 (bv b) ((b.length + 14) / 15) = w at *
  rw [vb] at hlt
  rw [i64w (n := (w.length : Int) + 1) (by omega) (by omega), i64w (n := (a.length : Int) - 1) (by omega) (by omega)]
  simp only [show (0 ≤ (a.length : Int) ∧ (a.length : Int) ≤ ((70368744177664 / 8 : Nat) : Int)) = True by simp; omega, show (0 ≤ (w.length : Int) + 1 ∧ (w.length : Int) + 1 ≤ ((70368744177664 / 8 : Nat) : Int)) = True by simp; omega, show (w.length + ([(0 : Int)] : List Int).length ≤ 70368744177664 / 8) = True by simp; omega, if_true, Int.toNat_natCast]
  rw [show Int.toNat ((w.length : Int) + 1) = w.length + 1 by omega]
  -- the divisor's row
  have hD : DV 32768 (w ++ [0]) := db.snoc (by omega)
  have hDv : gv 32768 (w ++ [0]) = bv b := by rw [gv_snoc, vb]; simp
  have hDl : (w ++ [(0 : Int)]).length = w.length + 1 := by simp
  have hpw := pow_pos' (B := 32768) (by decide) w.length
  generalize hn : w.length + 1 = n at *
  have hn' : (w.length : Int) + 1 = (n : Int) := by omega
  rw [hn']
  have hp2 : (32768 : Int) ^ n = 32768 ^ w.length * 32768 := by rw [← hn, Int.pow_succ]
  generalize w ++ [(0 : Int)] = D at *
  have hpos : 0 < bv b := by omega
  have main : ∀ (k : Nat) (q r : List Int), k ≤ a.length → q.length = a.length → r.length = n → DV 2 q → DV 32768 r → (∀ j, j < k → q.getD j 0 = 0) → gv 32768 r < bv b → gv 2 (a.drop k) = bv b * gv 2 (q.drop k) + gv 32768 r →
      Ev (fun m => s1 m a (n : Int) ((k : Int) - 1) q D r) (bd (bv a / bv b), bd (bv a % bv b)) := by
    intro k
    induction k with
    | zero =>
      intro q r hk hq hr hdq hdr hqz hlt hE
      have hr0 := gv_nonneg (B := 32768) (by decide) hdr
      rw [List.drop_zero, List.drop_zero] at hE
      have hq1 : bv a / bv b = gv 2 q := by
        show gv 2 a / bv b = _
        rw [hE, Int.mul_add_ediv_left _ _ hb0, Int.ediv_eq_zero_of_lt hr0 hlt, Int.add_zero]
      have hr1 : bv a % bv b = gv 32768 r := by
        show gv 2 a % bv b = _
        rw [hE, Int.mul_add_emod_self_left, Int.emod_eq_of_lt hr0 hlt]
      refine Ev.step (t := fun _ => some (bd (bv a / bv b), bd (bv a % bv b))) (fun m => ?_) Ev.ret
      rw [k1]; unfold S_ref01_DivMod_29
      have hBq : BW q := ⟨hdq, by omega⟩
      rw [if_neg (by simp), O_ref01_Trim, gif_bind hBq, if_pos (sameLen_self (e := .int .i64))]
      show ((F_ref01_bits r).bind fun r4 => some (List.take (Int.toNat ((bd (bv q)).length : Int)) (List.drop (Int.toNat 0) q), r4)) = _
      rw [F_ref01_bits, gif_bind ⟨hdr, by omega⟩, Int.toNat_natCast, show (Int.toNat 0) = 0 from rfl, List.drop_zero, take_norm (by decide) hBq.1, hq1, hr1]
    | succ i ih =>
      intro q r hk hq hr hdq hdr hqz hlt hE
      have e1 : ((i + 1 : Nat) : Int) - 1 = i := by omega
      rw [e1]
      have hx := ha.1.get (by decide) i
      have hda := gv_drop_succ 2 (a := a) (i := i) (by omega)
      have hr0 := gv_nonneg (B := 32768) (by decide) hdr
      have next : ∀ (q' r2 : List Int) (bit : Int), q'.length = a.length → DV 2 q' → (∀ j, j < i → q'.getD j 0 = 0) → q'.getD i 0 = bit → q'.drop (i + 1) = q.drop (i + 1) → r2.length = n → DV 32768 r2 → gv 32768 r2 = 2 * gv 32768 r + a.getD i 0 - bit * bv b → gv 32768 r2 < bv b → Ev (fun m => s1 m a (n : Int) ((i : Int) - 1) q' D r2) (bd (bv a / bv b), bd (bv a % bv b)) := by
        intro q' r2 bit g1 g2 g3 g4 g5 h1 h2 h3 h4
        refine ih q' r2 (by omega) g1 h1 g2 h2 g3 h4 ?_
        rw [hda, hE, gv_drop_succ _ (show i < q'.length by omega), g4, g5, h3]
        grind
      -- the subtraction
      have sub : ∀ (d k : Nat) (r3 : List Int) (bw : Int) (q' : List Int), k + d = n → r3.length = n → DV 32768 r3 → 0 ≤ bw → bw ≤ 1 → q' = q.set i 1 →
          gv 32768 (r3.take k) + (gv 32768 (r3.drop k) - gv 32768 (D.drop k) - bw) * 32768 ^ k = 2 * gv 32768 r + a.getD i 0 - bv b → 0 ≤ 2 * gv 32768 r + a.getD i 0 - bv b →
          Ev (fun m => s4 m a (n : Int) (i : Int) bw (k : Int) q' D r3) (bd (bv a / bv b), bd (bv a % bv b)) := by
        intro d
        induction d with
        | zero =>
          intro k r3 bw q' hk' hl hd3 hb1 hb2 hq' hT hT0
          rw [List.drop_eq_nil_of_le (show r3.length ≤ k by omega), List.drop_eq_nil_of_le (show D.length ≤ k by omega), List.take_of_length_le (by omega)] at hT
          simp only [gv] at hT
          have hl3 := gv_lt (B := 32768) (by decide) hd3
          rw [hl, show n = k by omega] at hl3
          have hbw : bw = 0 := by
            by_cases h0 : bw = 0
            · exact h0
            · exfalso
              have : bw = 1 := by omega
              subst this
              omega
          subst hbw
          have hg : gv 32768 r3 = 2 * gv 32768 r + a.getD i 0 - 1 * bv b := by omega
          subst hq'
          refine Ev.step (fun m => ?_) (next (q.set i 1) r3 1 (by simpa using hq) (hdq.set (by omega)) (fun j hj => by rw [getD_set, if_neg (by omega)]; exact hqz j (by omega)) (by rw [getD_set, if_pos ⟨rfl, by omega⟩]) (drop_set_lt (by omega)) hl hd3 hg (by omega))
          rw [k4]; unfold S_ref01_DivMod_93
          rw [if_neg (by simp; omega), i64w (by omega) (by omega)]
        | succ d ihd =>
          intro k r3 bw q' hk' hl hd3 hb1 hb2 hq' hT hT0
          have hu := hd3.get (by decide) k
          have hv := hD.get (by decide) k
          refine Ev.step (fun m => ?_) (ihd (k + 1) (r3.set k ((r3.getD k 0 - D.getD k 0 - bw) % 32768)) (if r3.getD k 0 - D.getD k 0 - bw < 0 then 1 else 0) q' (by omega) (by simpa using hl) (hd3.set ⟨by omega, by omega⟩) (by split <;> omega) (by split <;> omega) hq' ?_ hT0)
          · rw [k4]; unfold S_ref01_DivMod_93
            rw [if_pos (by simp; omega), if_pos (by omega), if_pos (by omega)]
            dsimp only
            rw [Int.toNat_natCast, i64w (n := r3.getD k 0 - D.getD k 0) (by omega) (by omega), i64w (n := r3.getD k 0 - D.getD k 0 - bw) (by omega) (by omega)]
            by_cases hneg : r3.getD k 0 - D.getD k 0 - bw < 0
            · rw [if_pos (decide_eq_true hneg), if_pos hneg, if_pos (by omega), i64w (n := r3.getD k 0 - D.getD k 0 - bw + 32768) (by omega) (by omega), i64w (by omega) (by omega), show r3.getD k 0 - D.getD k 0 - bw + 32768 = (r3.getD k 0 - D.getD k 0 - bw) % 32768 by omega]
              simp
            · rw [if_neg (by rw [decide_eq_true_eq]; omega), if_neg hneg, if_pos (by omega), i64w (by omega) (by omega), show r3.getD k 0 - D.getD k 0 - bw = (r3.getD k 0 - D.getD k 0 - bw) % 32768 by omega]
              simp
          · rw [drop_set_lt (by omega)]
            refine dig_step _ (by omega) hT ?_
            rw [gv_drop_succ _ (show k < r3.length by omega), gv_drop_succ _ (show k < D.length by omega)]
            split <;> omega
      have hi : (i : Int) < q.length := by omega
      -- the comparison
      have less : ∀ r2 : List Int, r2.length = n → DV 32768 r2 → gv 32768 r2 = 2 * gv 32768 r + a.getD i 0 → gv 32768 r2 < bv b → Ev (fun m => s1 m a (n : Int) ((i : Int) - 1) q D r2) (bd (bv a / bv b), bd (bv a % bv b)) := fun r2 h1 h2 h3 h4 =>
        next q r2 0 hq hdq (fun j hj => hqz j (by omega)) (hqz i (by omega)) rfl h1 h2 (by omega) h4
      have more : ∀ r2 : List Int, r2.length = n → DV 32768 r2 → gv 32768 r2 = 2 * gv 32768 r + a.getD i 0 → ¬ gv 32768 r2 < bv b → Ev (fun m => s4 m a (n : Int) (i : Int) 0 0 (q.set i 1) D r2) (bd (bv a / bv b), bd (bv a % bv b)) := fun r2 h1 h2 h3 h4 => by
        have := sub n 0 r2 0 (q.set i 1) (by omega) h1 h2 (by omega) (by omega) rfl (by simp only [List.take_zero, List.drop_zero, gv, Int.pow_zero, hDv]; omega) (by omega)
        exact this
      have comp : ∀ (r2 : List Int), r2.length = n → DV 32768 r2 → gv 32768 r2 = 2 * gv 32768 r + a.getD i 0 → ∀ k : Nat, k < n → r2.drop (k + 1) = D.drop (k + 1) → Ev (fun m => s3 m a (n : Int) (i : Int) (k : Int) q D r2) (bd (bv a / bv b), bd (bv a % bv b)) := by
        intro r2 h1 h2 h3 k
        induction k with
        | zero =>
          intro hk' hdr2
          obtain ⟨c1, c2⟩ := cmp_words h2 hD (k := 0) (by omega) (by omega) hdr2
          rw [hDv] at c1 c2
          have hsame : r2.getD 0 0 = D.getD 0 0 → gv 32768 r2 = bv b := fun h => by
            have e1 := gv_drop_succ 32768 (a := r2) (i := 0) (by omega)
            have e2 := gv_drop_succ 32768 (a := D) (i := 0) (by omega)
            rw [List.drop_zero] at e1 e2
            rw [e1, ← hDv, e2, h, hdr2]
          by_cases hl : r2.getD 0 0 < D.getD 0 0
          · refine Ev.step (fun m => ?_) (less r2 h1 h2 h3 (c1 hl))
            rw [k3]; unfold S_ref01_DivMod_69
            rw [if_neg (by simp), if_pos (by omega), if_pos (by omega)]
            dsimp only
            rw [Int.toNat_natCast, if_pos (decide_eq_true hl), i64w (by omega) (by omega)]
          · have hge : ¬ gv 32768 r2 < bv b := fun h => by
              by_cases heq : r2.getD 0 0 = D.getD 0 0
              · have := hsame heq; omega
              · have := c2 (by omega); omega
            refine Ev.step (fun m => ?_) (more r2 h1 h2 h3 hge)
            rw [k3]; unfold S_ref01_DivMod_69
            rw [if_neg (by simp), if_pos (by omega), if_pos (by omega)]
            dsimp only
            rw [Int.toNat_natCast, if_neg (by rw [decide_eq_true_eq]; exact hl), if_pos (by omega), Int.toNat_natCast]
        | succ k ihk =>
          intro hk' hdr2
          obtain ⟨c1, c2⟩ := cmp_words h2 hD (k := k + 1) (by omega) (by omega) hdr2
          rw [hDv] at c1 c2
          by_cases heq : r2.getD (k + 1) 0 = D.getD (k + 1) 0
          · refine Ev.step (fun m => ?_) (ihk (by omega) (by rw [drop_cons' (show k + 1 < r2.length by omega), drop_cons' (show k + 1 < D.length by omega), heq, hdr2]))
            rw [k3]; unfold S_ref01_DivMod_69
            rw [if_pos (by simp <;> omega), if_pos (by omega), if_pos (by omega)]
            dsimp only
            rw [Int.toNat_natCast, if_pos (by rw [heq]; simp), i64w (by omega) (by omega)]
            simp
          · by_cases hl : r2.getD (k + 1) 0 < D.getD (k + 1) 0
            · refine Ev.step (fun m => ?_) (less r2 h1 h2 h3 (c1 hl))
              rw [k3]; unfold S_ref01_DivMod_69
              rw [if_pos (by simp <;> omega), if_pos (by omega), if_pos (by omega)]
              dsimp only
              rw [Int.toNat_natCast, if_neg (by rw [beq_iff_eq]; exact heq), if_pos (by omega), if_pos (by omega), if_pos (decide_eq_true hl), i64w (by omega) (by omega)]
            · refine Ev.step (fun m => ?_) (more r2 h1 h2 h3 (by have := c2 (by omega); omega))
              rw [k3]; unfold S_ref01_DivMod_69
              rw [if_pos (by simp <;> omega), if_pos (by omega), if_pos (by omega)]
              dsimp only
              rw [Int.toNat_natCast, if_neg (by rw [beq_iff_eq]; exact heq), if_pos (by omega), if_pos (by omega), if_neg (by rw [decide_eq_true_eq]; exact hl), if_pos (by omega), Int.toNat_natCast]
      -- the doubling
      have dbl : ∀ (d k : Nat) (r2 : List Int) (c : Int), k + d = n → r2.length = n → DV 32768 r2 → 0 ≤ c → c ≤ 1 → gv 32768 (r2.take k) + (c + 2 * gv 32768 (r2.drop k)) * 32768 ^ k = 2 * gv 32768 r + a.getD i 0 →
          Ev (fun m => s2 m a (n : Int) (i : Int) c (k : Int) q D r2) (bd (bv a / bv b), bd (bv a % bv b)) := by
        intro d
        induction d with
        | zero =>
          intro k r2 c hk' hl hd2 hc0 hc1 hT
          rw [List.drop_eq_nil_of_le (show r2.length ≤ k by omega), List.take_of_length_le (by omega), show k = n by omega] at hT
          simp only [gv] at hT
          have hc : c = 0 := by
            by_cases h0 : c = 0
            · exact h0
            · exfalso
              have : c = 1 := by omega
              subst this
              have := gv_nonneg (B := 32768) (by decide) hd2
              rw [hp2] at hT
              omega
          subst hc
          refine Ev.step (fun m => ?_) (comp r2 hl hd2 (by omega) (n - 1) (by omega) (by rw [List.drop_eq_nil_of_le (by omega), List.drop_eq_nil_of_le (by omega)]))
          rw [k2]; unfold S_ref01_DivMod_45
          rw [if_neg (by simp; omega), i64w (by omega) (by omega), show ((n - 1 : Nat) : Int) = (n : Int) - 1 by omega]
        | succ d ihd =>
          intro k r2 c hk' hl hd2 hc0 hc1 hT
          have hu := hd2.get (by decide) k
          refine Ev.step (fun m => ?_) (ihd (k + 1) (r2.set k ((2 * r2.getD k 0 + c) % 32768)) ((2 * r2.getD k 0 + c) / 32768) (by omega) (by simpa using hl) (hd2.set ⟨by omega, by omega⟩) (by omega) (by omega) ?_)
          · rw [k2]; unfold S_ref01_DivMod_45
            rw [if_pos (by simp; omega), if_pos (by omega)]
            dsimp only
            rw [if_neg (by decide), if_pos (by omega), if_neg (by decide), Int.toNat_natCast, i64w (n := 2 * r2.getD k 0) (by omega) (by omega), i64w (n := 2 * r2.getD k 0 + c) (by omega) (by omega), Int.tmod_eq_emod_of_nonneg (by omega), Int.tdiv_eq_ediv_of_nonneg (by omega), i64w (n := (2 * r2.getD k 0 + c) / 32768) (by omega) (by omega), i64w (by omega) (by omega)]
            simp
          · rw [drop_set_lt (by omega)]
            refine dig_step _ (by omega) hT ?_
            rw [gv_drop_succ _ (show k < r2.length by omega)]
            omega
      have hstart := dbl n 0 r (a.getD i 0) (by omega) hr hdr hx.1 (by omega) (by simp only [List.take_zero, List.drop_zero, gv, Int.pow_zero]; omega)
      refine Ev.step (fun m => ?_) hstart
      rw [k1]; unfold S_ref01_DivMod_29
      rw [if_pos (by simp), if_pos (by omega), Int.toNat_natCast]
      rfl
  have := main a.length (List.replicate a.length 0) (List.replicate n 0) (Nat.le_refl _) (by simp) (by simp) (DV.replicate (by decide) _) (DV.replicate (by decide) _) (fun j _ => by
      simp only [List.getD_eq_getElem?_getD, List.getElem?_replicate]; split <;> rfl) (by rw [gv_replicate]; exact hpos) (by
      rw [List.drop_eq_nil_of_le (Nat.le_refl _), List.drop_eq_nil_of_le (by simp), gv_replicate]; simp [gv])
  exact this
end Go.W

set_option linter.unusedVariables false
namespace Go.W
/-! ### the reference's integers and fractions -/
noncomputable def F_ref02_Make (neg : Bool) (b : List Int) : Option (Int × List Int) := gif (BW b) (dz (if neg = true then -(bv b) else bv b))
noncomputable def F_ref02_Of (neg : Bool) (a : List Int) : Option (Int × List Int) := gif (NN a) (dz (iv (neg, a)))
noncomputable def F_ref02_Neg (z : Int × List Int) : Option (Int × List Int) := gif (ZZ z) (dz (-(zv z)))
noncomputable def F_ref02_Add (a b : Int × List Int) : Option (Int × List Int) := gif (ZZ a ∧ ZZ b) (dz (zv a + zv b))
noncomputable def F_ref02_Mul (a b : Int × List Int) : Option (Int × List Int) := gif (ZZ a ∧ ZZ b) (dz (zv a * zv b))
noncomputable def F_ref02_Small (n : Int) : Option (Int × List Int) := gif (-9223372036854775807 ≤ n ∧ n ≤ 9223372036854775807) (dz n)
noncomputable def F_ref03_Quo (a b : Int × List Int) : Option ((Int × List Int) × Int × List Int) := gif (ZZ a ∧ ZZ b ∧ zv b ≠ 0) (dz (Int.tdiv (zv a) (zv b)), dz (Int.tmod (zv a) (zv b)))
noncomputable def F_ref03_Floor (a b : Int × List Int) : Option ((Int × List Int) × Int × List Int) := gif (ZZ a ∧ ZZ b ∧ zv b ≠ 0) (dz (Int.fdiv (zv a) (zv b)), dz (Int.fmod (zv a) (zv b)))
noncomputable def F_ref03_Pow (a : Int × List Int) (n : Int) : Option (Int × List Int) := gif (ZZ a ∧ n ≤ 1000 ∧ Bd 1000 (ab (zv a))) (dz (zv a ^ n.toNat))
/-- the reference's fraction n/d -/
def mq (n d : Int) : (Int × List Int) × Int × List Int := (dz n, dz d)
def qn (q : (Int × List Int) × Int × List Int) : Int := zv q.1
def qd (q : (Int × List Int) × Int × List Int) : Int := zv q.2
def qv (q : (Int × List Int) × Int × List Int) : Rat := Rat.divInt (qn q) (qd q)
/-- fractions of at most k bits -/
def RQ (k : Nat) (q : (Int × List Int) × Int × List Int) : Prop := q = mq (qn q) (qd q) ∧ Bd k (ab (qn q)) ∧ Bd k (qd q) ∧ 0 < qd q
def RK : Nat := 1000000000
noncomputable def F_ref05_Of (neg : Bool) (n d : List Int) : Option ((Int × List Int) × Int × List Int) := gif (QD n ∧ QD d) (mq (rn ((neg, n), d)) (rd ((neg, n), d)))
noncomputable def F_ref05_Neg (a : (Int × List Int) × Int × List Int) : Option ((Int × List Int) × Int × List Int) := gif (RQ RK a) (mq (-(qn a)) (qd a))
noncomputable def F_ref05_Add (a b : (Int × List Int) × Int × List Int) : Option ((Int × List Int) × Int × List Int) := gif (RQ RK a ∧ RQ RK b) (mq (qn a * qd b + qn b * qd a) (qd a * qd b))
noncomputable def F_ref05_Mul (a b : (Int × List Int) × Int × List Int) : Option ((Int × List Int) × Int × List Int) := gif (RQ RK a ∧ RQ RK b) (mq (qn a * qn b) (qd a * qd b))
noncomputable def F_ref05_Quo (a b : (Int × List Int) × Int × List Int) : Option ((Int × List Int) × Int × List Int) := gif (RQ RK a ∧ RQ RK b ∧ qn b ≠ 0) (if qn b < 0 then mq (-(qn a * qd b)) (-(qd a * qn b)) else mq (qn a * qd b) (qd a * qn b))
noncomputable def F_ref05_Floor (a : (Int × List Int) × Int × List Int) : Option (Int × List Int) := gif (RQ RK a) (dz (qv a).floor)
/-! ### the laws' helpers -/
noncomputable def F_law05_of (a : (Bool × List Int) × List Int) : Option ((Int × List Int) × Int × List Int) := gif (QQ a) (mq (rn a) (rd a))
noncomputable def F_law05_is (a : (Bool × List Int) × List Int) (b : (Int × List Int) × Int × List Int) : Option Bool := gif (RQ RK b) (decide (a = dr (qv b)))
noncomputable def F_law05_same (a b : (Bool × List Int) × List Int) : Option Bool := gif (QQ a ∧ QQ b) (decide (rv a = rv b))
noncomputable def F_law05_few (n : Int) (a b c : (Bool × List Int) × List Int) : Option Bool := gif True (decide ((a.1.2.length : Int) ≤ n ∧ (a.2.length : Int) ≤ n ∧ (b.1.2.length : Int) ≤ n ∧ (b.2.length : Int) ≤ n ∧ (c.1.2.length : Int) ≤ n ∧ (c.2.length : Int) ≤ n))
end Go.W

set_option linter.unusedVariables false
namespace Go.W
/-! ### texts -/
def decL (z : Int) : List Int := (if z < 0 then [45] else []) ++ ((gd 10 (ab z)).map fun d => 48 + d).reverse
def decS (z : Int) : ByteArray := if z = 0 then (ByteArray.mk #[48]) else ofB (decL z)
noncomputable def O_slices_Reverse (l : List Int) : Option (List Int × Unit) := gif (l.length ≤ 8796093022208) (l.reverse, ())
noncomputable def F_decimal_chunk (b : Int) : Option (Int × Int) := gif (b = 10) (1000000000, 9)
noncomputable def F_decimal_write (a : Bool × List Int) (b : Int) : Option ByteArray := gif (II a ∧ b = 10) (decS (iv a))
noncomputable def F_decimal_Format (a : Bool × List Int) : Option ByteArray := gif (II a) (decS (iv a))
def ratS (r : Rat) : ByteArray := if r.den = 1 then decS r.num else decS r.num ++ (ByteArray.mk #[47]) ++ decS r.den
noncomputable def F_rational_Format (a : (Bool × List Int) × List Int) : Option ByteArray := gif (QQ a) (ratS (rv a))
noncomputable def F_law05_awake : Option Bool := gif True true
end Go.W

set_option linter.unusedVariables false
namespace Go.W
/-! ### the laws -/
def DR (a : (Bool × List Int) × List Int) : Prop := DV 4294967296 a.1.2 ∧ DV 4294967296 a.2
end Go.W

set_option linter.unusedVariables false
namespace Go.W
noncomputable section

/-! cylinder/decimal.chunk -/
def T_decimal_chunk (s9 : Int → Int → Int → Option ((Int × Int))) (a0 : Int) : Option (Int × Int) :=
  s9 a0 a0 (1 : Int)
def S_decimal_chunk_9 (s9 : Int → Int → Int → Option ((Int × Int))) (x0 : Int) (x4 : Int) (x5 : Int) : Option (Int × Int) :=
  let v1 : Bool := (decide ((IntKind.wrap .u64 ((IntKind.wrap .u64 x4) * (IntKind.wrap .u64 x0))) < (4294967296 : Int)))
  if v1 = true then
    s9 x0 (IntKind.wrap .u32 (x4 * x0)) (IntKind.wrap .i64 (x5 + (1 : Int)))
  else
    some (x4, x5)
def Run_decimal_chunk : Prop := ∀ s9 : Nat → Int → Int → Int → Option ((Int × Int)), (∀ m x0 x4 x5, s9 (m + 1) x0 x4 x5 = S_decimal_chunk_9 (s9 m) x0 x4 x5) → ∀ a0 : Int, Ok (F_decimal_chunk a0) (fun m => T_decimal_chunk (s9 m) a0)

/-! cylinder/decimal.write -/
def T_decimal_write (s17 : Int → List Int → Int → Int → (Bool × List Int) → List Int → Option ByteArray) (s33 : Int → List Int → Int → Int → Int → Int → (Bool × List Int) → List Int → Option ByteArray) (s40 : Int → List Int → Int → Int → Int → Int → Int → Bool → Bool → Bool → (Bool × List Int) → List Int → Option ByteArray) (a0 : Bool × List Int) (a1 : Int) : Option ByteArray :=
  (F_natural_Normal a0.2).bind fun r1 =>
  (F_decimal_chunk a1).bind fun r2 =>
  s17 a1 r1 r2.1 r2.2 a0 ([] : List Int)
def S_decimal_write_17 (s17 : Int → List Int → Int → Int → (Bool × List Int) → List Int → Option ByteArray) (s33 : Int → List Int → Int → Int → Int → Int → (Bool × List Int) → List Int → Option ByteArray) (s40 : Int → List Int → Int → Int → Int → Int → Int → Bool → Bool → Bool → (Bool × List Int) → List Int → Option ByteArray) (x1 : Int) (x5 : List Int) (x6 : Int) (x7 : Int) (x2 : Bool × List Int) (x8 : List Int) : Option ByteArray :=
  if (decide ((List.length x5 : Int) > (0 : Int))) = true then
    (F_natural_DivSmall x5 x6).bind fun r1 =>
    s33 x1 r1.1 x6 x7 r1.2.1 (0 : Int) x2 x8
  else
    if ((List.length x8 : Int) == (0 : Int)) = true then
      some ((ByteArray.mk #[48]))
    else
      if x2.1 = true then
        if List.length x8 + List.length ([(45 : Int)] : List Int) ≤ 70368744177664 / 1 then
          (O_slices_Reverse (x8 ++ ([(45 : Int)] : List Int))).bind fun r2 =>
          if Go.W.sameLen false (.int .u8) (x8 ++ ([(45 : Int)] : List Int)) r2.1 then
            some ((Go.W.ofB r2.1))
          else none
        else none
      else
        (O_slices_Reverse x8).bind fun r3 =>
        if Go.W.sameLen false (.int .u8) x8 r3.1 then
          some ((Go.W.ofB r3.1))
        else none
def S_decimal_write_33 (s17 : Int → List Int → Int → Int → (Bool × List Int) → List Int → Option ByteArray) (s33 : Int → List Int → Int → Int → Int → Int → (Bool × List Int) → List Int → Option ByteArray) (s40 : Int → List Int → Int → Int → Int → Int → Int → Bool → Bool → Bool → (Bool × List Int) → List Int → Option ByteArray) (x1 : Int) (x5 : List Int) (x6 : Int) (x7 : Int) (x10 : Int) (x12 : Int) (x2 : Bool × List Int) (x8 : List Int) : Option ByteArray :=
  if (decide (x12 < x7)) = true then
    if (decide (x10 > (0 : Int))) = true then
      s40 x1 x5 x6 x7 x10 x12 x10 (decide (x10 > (0 : Int))) true true x2 x8
    else
      if (decide ((List.length x5 : Int) > (0 : Int))) = true then
        s40 x1 x5 x6 x7 x10 x12 x10 (decide (x10 > (0 : Int))) false (decide ((List.length x5 : Int) > (0 : Int))) x2 x8
      else
        s17 x1 x5 x6 x7 x2 x8
  else
    s17 x1 x5 x6 x7 x2 x8
def S_decimal_write_40 (s17 : Int → List Int → Int → Int → (Bool × List Int) → List Int → Option ByteArray) (s33 : Int → List Int → Int → Int → Int → Int → (Bool × List Int) → List Int → Option ByteArray) (s40 : Int → List Int → Int → Int → Int → Int → Int → Bool → Bool → Bool → (Bool × List Int) → List Int → Option ByteArray) (x1 : Int) (x5 : List Int) (x6 : Int) (x7 : Int) (x10 : Int) (x12 : Int) (x36 : Int) (x37 : Bool) (x38 : Bool) (x42 : Bool) (x2 : Bool × List Int) (x8 : List Int) : Option ByteArray :=
  if x1 = 0 then none else
  if 0 ≤ (Int.tmod x10 x1) ∧ (Int.tmod x10 x1) < ((ByteArray.size (ByteArray.mk #[48, 49, 50, 51, 52, 53, 54, 55, 56, 57, 97, 98, 99, 100, 101, 102, 103, 104, 105, 106, 107, 108, 109, 110, 111, 112, 113, 114, 115, 116, 117, 118, 119, 120, 121, 122])) : Int) then
    let v1 : Int := (Go.W.bt (ByteArray.mk #[48, 49, 50, 51, 52, 53, 54, 55, 56, 57, 97, 98, 99, 100, 101, 102, 103, 104, 105, 106, 107, 108, 109, 110, 111, 112, 113, 114, 115, 116, 117, 118, 119, 120, 121, 122]) (Int.tmod x10 x1))
    if List.length x8 + List.length ([v1] : List Int) ≤ 70368744177664 / 1 then
      if x1 = 0 then none else
      s33 x1 x5 x6 x7 (IntKind.wrap .u32 (Int.tdiv x10 x1)) (IntKind.wrap .i64 (x12 + (1 : Int))) x2 (x8 ++ ([v1] : List Int))
    else none
  else none
def Run_decimal_write : Prop := ∀ s17 : Nat → Int → List Int → Int → Int → (Bool × List Int) → List Int → Option ByteArray, ∀ s33 : Nat → Int → List Int → Int → Int → Int → Int → (Bool × List Int) → List Int → Option ByteArray, ∀ s40 : Nat → Int → List Int → Int → Int → Int → Int → Int → Bool → Bool → Bool → (Bool × List Int) → List Int → Option ByteArray, (∀ m x1 x5 x6 x7 x2 x8, s17 (m + 1) x1 x5 x6 x7 x2 x8 = S_decimal_write_17 (s17 m) (s33 m) (s40 m) x1 x5 x6 x7 x2 x8) → (∀ m x1 x5 x6 x7 x10 x12 x2 x8, s33 (m + 1) x1 x5 x6 x7 x10 x12 x2 x8 = S_decimal_write_33 (s17 m) (s33 m) (s40 m) x1 x5 x6 x7 x10 x12 x2 x8) → (∀ m x1 x5 x6 x7 x10 x12 x36 x37 x38 x42 x2 x8, s40 (m + 1) x1 x5 x6 x7 x10 x12 x36 x37 x38 x42 x2 x8 = S_decimal_write_40 (s17 m) (s33 m) (s40 m) x1 x5 x6 x7 x10 x12 x36 x37 x38 x42 x2 x8) → ∀ a0 : Bool × List Int, ∀ a1 : Int, Ok (F_decimal_write a0 a1) (fun m => T_decimal_write (s17 m) (s33 m) (s40 m) a0 a1)

/-! cylinder/decimal.Format -/
def T_decimal_Format (a0 : Bool × List Int) : Option ByteArray :=
  (F_decimal_write a0 (10 : Int)).bind fun r1 =>
  some r1
def Run_decimal_Format : Prop := ∀ a0 : Bool × List Int, Ok (F_decimal_Format a0) (fun _ => T_decimal_Format a0)

/-! cylinder/rational.Format -/
def T_rational_Format (a0 : (Bool × List Int) × List Int) : Option ByteArray :=
  (F_rational_Normal a0).bind fun r1 =>
  (F_rational_isOne r1.2).bind fun r2 =>
  if r2 = true then
    (F_decimal_Format r1.1).bind fun r3 =>
    some r3
  else
    (F_decimal_Format r1.1).bind fun r4 =>
    if ByteArray.size r4 + ByteArray.size (ByteArray.mk #[47]) ≤ 9223372036854775807 then
      (F_decimal_Format (false, r1.2)).bind fun r5 =>
      if ByteArray.size (r4 ++ (ByteArray.mk #[47])) + ByteArray.size r5 ≤ 9223372036854775807 then
        some (((r4 ++ (ByteArray.mk #[47])) ++ r5))
      else none
    else none
def Run_rational_Format : Prop := ∀ a0 : (Bool × List Int) × List Int, Ok (F_rational_Format a0) (fun _ => T_rational_Format a0)

/-! cylinder/cylinderlaw05.awake -/
def T_law05_awake : Option Bool :=
  (F_integer_Of (6 : Int)).bind fun r1 =>
  (F_integer_Of (-4 : Int)).bind fun r2 =>
  (F_rational_Make r1 r2).bind fun r3 =>
  if (r3.2 == (0 : Int)) = true then
    (F_rational_Format r3.1).bind fun r4 =>
    let v5 : Bool := (ByteArray.toList r4 == ByteArray.toList (ByteArray.mk #[45, 51, 47, 50]))
    if v5 = true then
      some r3.1.1.1
    else
      some false
  else
    some false
def Run_law05_awake : Prop := Ok (F_law05_awake) (fun _ => T_law05_awake)

/-! cylinder/cylinderlaw05.few -/
def T_law05_few (a0 : Int) (a1 : (Bool × List Int) × List Int) (a2 : (Bool × List Int) × List Int) (a3 : (Bool × List Int) × List Int) : Option Bool :=
  (F_ref01_Few a0 ([a1.1.2, a1.2, a2.1.2] : List (List Int))).bind fun r1 =>
  if r1 = true then
    (F_ref01_Few a0 ([a2.2, a3.1.2, a3.2] : List (List Int))).bind fun r2 =>
    some r2
  else
    some false
def Run_law05_few : Prop := ∀ a0 : Int, ∀ a1 : (Bool × List Int) × List Int, ∀ a2 : (Bool × List Int) × List Int, ∀ a3 : (Bool × List Int) × List Int, Ok (F_law05_few a0 a1 a2 a3) (fun _ => T_law05_few a0 a1 a2 a3)

/-! cylinder/cylinderref02.Make -/
def T_ref02_Make (a0 : Bool) (a1 : List Int) : Option (Int × List Int) :=
  (F_ref01_Trim a1).bind fun r1 =>
  if ((List.length r1 : Int) == (0 : Int)) = true then
    some (((0 : Int), ([] : List Int)))
  else
    if a0 = true then
      some (((-1 : Int), r1))
    else
      some (((1 : Int), r1))
def Run_ref02_Make : Prop := ∀ a0 : Bool, ∀ a1 : List Int, Ok (F_ref02_Make a0 a1) (fun _ => T_ref02_Make a0 a1)

/-! cylinder/cylinderref02.Small -/
def T_ref02_Small (s21 : Int → Bool → (Int × List Int) → List Int → Option ((Int × List Int))) (a0 : Int) : Option (Int × List Int) :=
  if (decide (a0 < (0 : Int))) = true then
    s21 (IntKind.wrap .i64 ((0 : Int) - a0)) (decide (a0 < (0 : Int))) ((0 : Int), ([] : List Int)) ([] : List Int)
  else
    s21 a0 (decide (a0 < (0 : Int))) ((0 : Int), ([] : List Int)) ([] : List Int)
def S_ref02_Small_21 (s21 : Int → Bool → (Int × List Int) → List Int → Option ((Int × List Int))) (x0 : Int) (x3 : Bool) (x2 : Int × List Int) (x4 : List Int) : Option (Int × List Int) :=
  if (decide (x0 > (0 : Int))) = true then
    if (2 : Int) = 0 then none else
    if List.length x4 + List.length ([(Int.tmod x0 (2 : Int))] : List Int) ≤ 70368744177664 / 8 then
      if (2 : Int) = 0 then none else
      s21 (IntKind.wrap .i64 (Int.tdiv x0 (2 : Int))) x3 x2 (x4 ++ ([(Int.tmod x0 (2 : Int))] : List Int))
    else none
  else
    (F_ref02_Make x3 x4).bind fun r1 =>
    some r1
def Run_ref02_Small : Prop := ∀ s21 : Nat → Int → Bool → (Int × List Int) → List Int → Option ((Int × List Int)), (∀ m x0 x3 x2 x4, s21 (m + 1) x0 x3 x2 x4 = S_ref02_Small_21 (s21 m) x0 x3 x2 x4) → ∀ a0 : Int, Ok (F_ref02_Small a0) (fun m => T_ref02_Small (s21 m) a0)

/-! cylinder/cylinderref02.Of -/
def T_ref02_Of (a0 : Bool) (a1 : List Int) : Option (Int × List Int) :=
  (F_ref01_Of a1).bind fun r1 =>
  (F_ref02_Make a0 r1).bind fun r2 =>
  some r2
def Run_ref02_Of : Prop := ∀ a0 : Bool, ∀ a1 : List Int, Ok (F_ref02_Of a0 a1) (fun _ => T_ref02_Of a0 a1)

/-! cylinder/cylinderref05.Of -/
def T_ref05_Of (a0 : Bool) (a1 : List Int) (a2 : List Int) : Option ((Int × List Int) × Int × List Int) :=
  (F_ref02_Of false a2).bind fun r1 =>
  if (r1.1 == (0 : Int)) = true then
    (F_ref02_Small (1 : Int)).bind fun r2 =>
    some ((((0 : Int), ([] : List Int)), r2))
  else
    (F_ref02_Of a0 a1).bind fun r3 =>
    some ((r3, r1))
def Run_ref05_Of : Prop := ∀ a0 : Bool, ∀ a1 : List Int, ∀ a2 : List Int, Ok (F_ref05_Of a0 a1 a2) (fun _ => T_ref05_Of a0 a1 a2)

/-! cylinder/cylinderlaw05.of -/
def T_law05_of (a0 : (Bool × List Int) × List Int) : Option ((Int × List Int) × Int × List Int) :=
  (F_ref05_Of a0.1.1 a0.1.2 a0.2).bind fun r1 =>
  some r1
def Run_law05_of : Prop := ∀ a0 : (Bool × List Int) × List Int, Ok (F_law05_of a0) (fun _ => T_law05_of a0)

/-! cylinder/cylinderref02.Neg -/
def T_ref02_Neg (a0 : Int × List Int) : Option (Int × List Int) :=
  some (((IntKind.wrap .i64 ((0 : Int) - a0.1)), a0.2))
def Run_ref02_Neg : Prop := ∀ a0 : Int × List Int, Ok (F_ref02_Neg a0) (fun _ => T_ref02_Neg a0)

/-! cylinder/cylinderref05.Make -/
def T_ref02_Mul (a0 : Int × List Int) (a1 : Int × List Int) : Option (Int × List Int) :=
  (F_ref01_Mul a0.2 a1.2).bind fun r1 =>
  (F_ref02_Make (decide ((IntKind.wrap .i64 (a0.1 * a1.1)) < (0 : Int))) r1).bind fun r2 =>
  some r2
def Run_ref02_Mul : Prop := ∀ a0 : Int × List Int, ∀ a1 : Int × List Int, Ok (F_ref02_Mul a0 a1) (fun _ => T_ref02_Mul a0 a1)

/-! cylinder/cylinderref05.Quo -/
def T_ref03_Quo (a0 : Int × List Int) (a1 : Int × List Int) : Option ((Int × List Int) × Int × List Int) :=
  (F_ref01_DivMod a0.2 a1.2).bind fun r1 =>
  (F_ref02_Make (decide ((IntKind.wrap .i64 (a0.1 * a1.1)) < (0 : Int))) r1.1).bind fun r2 =>
  (F_ref02_Make (decide (a0.1 < (0 : Int))) r1.2).bind fun r3 =>
  some (r2, r3)
def Run_ref03_Quo : Prop := ∀ a0 : Int × List Int, ∀ a1 : Int × List Int, Ok (F_ref03_Quo a0 a1) (fun _ => T_ref03_Quo a0 a1)

/-! cylinder/cylinderref03.Abs -/
def T_ref02_Add (a0 : Int × List Int) (a1 : Int × List Int) : Option (Int × List Int) :=
  if (decide ((IntKind.wrap .i64 (a0.1 * a1.1)) ≥ (0 : Int))) = true then
    (F_ref01_Add a0.2 a1.2).bind fun r1 =>
    (F_ref02_Make (decide ((IntKind.wrap .i64 (a0.1 + a1.1)) < (0 : Int))) r1).bind fun r2 =>
    some r2
  else
    (F_ref01_Cmp a0.2 a1.2).bind fun r3 =>
    if (decide (r3 ≥ (0 : Int))) = true then
      (F_ref01_Sub a0.2 a1.2).bind fun r4 =>
      (F_ref02_Make (decide (a0.1 < (0 : Int))) r4).bind fun r5 =>
      some r5
    else
      (F_ref01_Sub a1.2 a0.2).bind fun r6 =>
      (F_ref02_Make (decide (a1.1 < (0 : Int))) r6).bind fun r7 =>
      some r7
def Run_ref02_Add : Prop := ∀ a0 : Int × List Int, ∀ a1 : Int × List Int, Ok (F_ref02_Add a0 a1) (fun _ => T_ref02_Add a0 a1)

/-! cylinder/cylinderref03.Floor -/
def T_ref03_Floor (a0 : Int × List Int) (a1 : Int × List Int) : Option ((Int × List Int) × Int × List Int) :=
  (F_ref03_Quo a0 a1).bind fun r1 =>
  if (r1.2.1 != (0 : Int)) = true then
    if (r1.2.1 != a1.1) = true then
      (F_ref02_Small (-1 : Int)).bind fun r2 =>
      (F_ref02_Add r1.1 r2).bind fun r3 =>
      (F_ref02_Add r1.2 a1).bind fun r4 =>
      some (r3, r4)
    else
      some (r1.1, r1.2)
  else
    some (r1.1, r1.2)
def Run_ref03_Floor : Prop := ∀ a0 : Int × List Int, ∀ a1 : Int × List Int, Ok (F_ref03_Floor a0 a1) (fun _ => T_ref03_Floor a0 a1)

/-! cylinder/cylinderref03.Pow -/
def T_ref03_Pow (s13 : Int → Int → (Int × List Int) → (Int × List Int) → (Int × List Int) → Option ((Int × List Int))) (a0 : Int × List Int) (a1 : Int) : Option (Int × List Int) :=
  (F_ref02_Small (1 : Int)).bind fun r1 =>
  s13 a1 (0 : Int) a0 ((0 : Int), ([] : List Int)) r1
def S_ref03_Pow_13 (s13 : Int → Int → (Int × List Int) → (Int × List Int) → (Int × List Int) → Option ((Int × List Int))) (x1 : Int) (x6 : Int) (x2 : Int × List Int) (x4 : Int × List Int) (x5 : Int × List Int) : Option (Int × List Int) :=
  if (decide (x6 < x1)) = true then
    (F_ref02_Mul x5 x2).bind fun r1 =>
    s13 x1 (IntKind.wrap .i64 (x6 + (1 : Int))) x2 x4 r1
  else
    some x5
def Run_ref03_Pow : Prop := ∀ s13 : Nat → Int → Int → (Int × List Int) → (Int × List Int) → (Int × List Int) → Option ((Int × List Int)), (∀ m x1 x6 x2 x4 x5, s13 (m + 1) x1 x6 x2 x4 x5 = S_ref03_Pow_13 (s13 m) x1 x6 x2 x4 x5) → ∀ a0 : Int × List Int, ∀ a1 : Int, Ok (F_ref03_Pow a0 a1) (fun m => T_ref03_Pow (s13 m) a0 a1)

/-! cylinder/cylinderref05.Neg -/
def T_ref05_Neg (a0 : (Int × List Int) × Int × List Int) : Option ((Int × List Int) × Int × List Int) :=
  (F_ref02_Neg a0.1).bind fun r1 =>
  some ((r1, a0.2))
def Run_ref05_Neg : Prop := ∀ a0 : (Int × List Int) × Int × List Int, Ok (F_ref05_Neg a0) (fun _ => T_ref05_Neg a0)

/-! cylinder/cylinderref05.Add -/
def T_ref05_Add (a0 : (Int × List Int) × Int × List Int) (a1 : (Int × List Int) × Int × List Int) : Option ((Int × List Int) × Int × List Int) :=
  (F_ref02_Mul a0.1 a1.2).bind fun r1 =>
  (F_ref02_Mul a1.1 a0.2).bind fun r2 =>
  (F_ref02_Add r1 r2).bind fun r3 =>
  (F_ref02_Mul a0.2 a1.2).bind fun r4 =>
  some ((r3, r4))
def Run_ref05_Add : Prop := ∀ a0 : (Int × List Int) × Int × List Int, ∀ a1 : (Int × List Int) × Int × List Int, Ok (F_ref05_Add a0 a1) (fun _ => T_ref05_Add a0 a1)

/-! cylinder/cylinderref05.Cmp -/
def T_ref05_Floor (a0 : (Int × List Int) × Int × List Int) : Option (Int × List Int) :=
  (F_ref03_Floor a0.1 a0.2).bind fun r1 =>
  some r1.1
def Run_ref05_Floor : Prop := ∀ a0 : (Int × List Int) × Int × List Int, Ok (F_ref05_Floor a0) (fun _ => T_ref05_Floor a0)

/-! cylinder/cylinderlaw05.same -/
end
end Go.W

set_option linter.unusedVariables false
set_option linter.unusedSimpArgs false
namespace Go.W

/-! ### the reference's integers -/
theorem zv_dz (v : Int) : zv (dz v) = v := by
  unfold zv dz
  dsimp only
  rw [bv_bd (ab_nonneg v)]
  unfold sg ab; (repeat' split) <;> omega
theorem ZZ.dz {v : Int} (h : Bd 2199023255552 (ab v)) : ZZ (Go.W.dz v) := ⟨by rw [zv_dz]; exact h, by rw [zv_dz]⟩
theorem ZZ.bb {z : Int × List Int} (h : ZZ z) : BB z.2 := by
  rw [h.2]; exact BB.bd h.1 (Nat.le_refl _)
theorem ZZ.sign {z : Int × List Int} (h : ZZ z) : z.1 = sg (zv z) := by
  have := congrArg Prod.fst h.2
  exact this
theorem ZZ.bits {z : Int × List Int} (h : ZZ z) : bv z.2 = ab (zv z) := by
  have := congrArg Prod.snd h.2
  have e : z.2 = bd (ab (zv z)) := this
  rw [e, bv_bd (ab_nonneg _)]
theorem bd_nil {n : Int} : bd n = [] ↔ n ≤ 0 := gd_nil (by decide)
theorem dz_zero : dz 0 = (0, []) := by unfold dz; simp [sg, ab, bd_zero]
theorem Rn_ref02_Make : Run_ref02_Make := fun neg b => Ok.gif_const fun h => by
  have nb := h.nonneg
  rw [T_ref02_Make, F_ref01_Trim, gif_bind h]
  by_cases h0 : bv b = 0
  · rw [h0, bd_zero, if_pos (by decide)]
    simp [dz_zero]
  · have : bd (bv b) ≠ [] := fun h => by have := bd_nil.1 h; omega
    rw [if_neg (by simp; exact this)]
    unfold dz
    cases neg with
    | true => simp only [if_true]; rw [sg_neg (by omega), ab_neg, ab_pos nb]
    | false => simp only [Bool.false_eq_true, if_false]; rw [sg_pos (by omega), ab_pos nb]
theorem Make_bind {σ : Type} {neg : Bool} {n : Int} (h : 0 ≤ n) {k : Nat} (hb : Bd k n) (hk : k ≤ 4398046511104) {f : Int × List Int → Option σ} : (F_ref02_Make neg (bd n)).bind f = f (dz (if neg = true then -n else n)) := by
  rw [F_ref02_Make, gif_bind (BW.bd hb hk), bv_bd h]
theorem Rn_ref02_Of : Run_ref02_Of := fun neg a => Ok.gif_const fun h => by
  rw [T_ref02_Of, F_ref01_Of, gif_bind h, Make_bind h.nonneg h.big (by omega)]
  rfl
theorem sg_range (v : Int) : -1 ≤ sg v ∧ sg v ≤ 1 := by unfold sg; (repeat' split) <;> omega
theorem Rn_ref02_Neg : Run_ref02_Neg := fun z => Ok.gif_const fun h => by
  have hs := sg_range (zv z)
  rw [T_ref02_Neg, h.sign, i64w (by omega) (by omega)]
  have e : z.2 = bd (ab (zv z)) := congrArg Prod.snd h.2
  unfold dz
  rw [ab_neg, ← e]
  congr 2
  unfold sg; (repeat' split) <;> omega
theorem sg_mul (x y : Int) : sg x * sg y = sg (x * y) := by
  by_cases h1 : x = 0
  · subst h1; simp [sg]
  by_cases h2 : y = 0
  · subst h2; simp [sg]
  by_cases h3 : x < 0 <;> by_cases h4 : y < 0
  · have := Int.mul_pos_of_neg_of_neg h3 h4
    rw [sg_neg h3, sg_neg h4, sg_pos this]; rfl
  · have := Int.mul_neg_of_neg_of_pos h3 (show 0 < y by omega)
    rw [sg_neg h3, sg_pos (show 0 < y by omega), sg_neg this]; rfl
  · have := Int.mul_neg_of_pos_of_neg (show 0 < x by omega) h4
    rw [sg_pos (show 0 < x by omega), sg_neg h4, sg_neg this]; rfl
  · have := Int.mul_pos (show 0 < x by omega) (show 0 < y by omega)
    rw [sg_pos (show 0 < x by omega), sg_pos (show 0 < y by omega), sg_pos this]; rfl
theorem big2 : max 2199023255552 2199023255552 + 1 ≤ 4398046511104 := by omega
theorem cm_ge0 {x y : Int} : decide (cm x y ≥ 0) = decide (y ≤ x) := by
  unfold cm; (repeat' split) <;> simp <;> omega
theorem Rn_ref02_Add : Run_ref02_Add := fun a b => Ok.gif_const fun ⟨ha, hb⟩ => by
  have sa := sg_range (zv a)
  have sb := sg_range (zv b)
  have hA := ha.1
  have hB := hb.1
  have na := ab_nonneg (zv a)
  have nb := ab_nonneg (zv b)
  have e1 : IntKind.wrap .i64 (a.1 * b.1) = sg (zv a * zv b) := by
    rw [ha.sign, hb.sign, sg_mul]
    have := sg_range (zv a * zv b)
    exact i64w (by omega) (by omega)
  rw [T_ref02_Add, e1, F_ref01_Add, gif_bind ⟨ha.bb, hb.bb⟩, ha.bits, hb.bits, Make_bind (by omega) (hA.add hB) big2, F_ref01_Cmp, gif_bind ⟨ha.bb, hb.bb⟩, ha.bits, hb.bits, cm_ge0, ha.sign, hb.sign, i64w (n := sg (zv a) + sg (zv b)) (by omega) (by omega)]
  have hs : decide (sg (zv a * zv b) ≥ 0) = decide (0 ≤ sg (zv a) * sg (zv b)) := by rw [sg_mul]
  rw [hs]
  by_cases h0 : 0 ≤ sg (zv a) * sg (zv b)
  · rw [if_pos (decide_eq_true h0)]
    congr 2
    unfold sg at h0 ⊢
    unfold ab
    (repeat' split at h0) <;> simp at h0 ⊢ <;> (repeat' split) <;> omega
  · rw [if_neg (by simpa using h0)]
    by_cases h1 : ab (zv b) ≤ ab (zv a)
    · rw [if_pos (decide_eq_true h1), F_ref01_Sub, gif_bind ⟨ha.bb, hb.bb, by rw [ha.bits, hb.bits]; exact h1⟩, ha.bits, hb.bits, Make_bind (by omega) (hA.le (by omega) (show ab (zv a) - ab (zv b) ≤ ab (zv a) by omega)) (by omega)]
      congr 2
      unfold sg at h0 ⊢
      unfold ab at h1 ⊢
      (repeat' split at h0) <;> simp at h0 ⊢ <;> (repeat' split) <;> (repeat' split at h1) <;> omega
    · rw [if_neg (by simpa using h1), F_ref01_Sub, gif_bind ⟨hb.bb, ha.bb, by rw [ha.bits, hb.bits]; omega⟩, ha.bits, hb.bits, Make_bind (by omega) (hB.le (by omega) (show ab (zv b) - ab (zv a) ≤ ab (zv b) by omega)) (by omega)]
      congr 2
      unfold sg at h0 ⊢
      unfold ab at h1 ⊢
      (repeat' split at h0) <;> simp at h0 ⊢ <;> (repeat' split) <;> (repeat' split at h1) <;> omega
theorem Rn_ref02_Mul : Run_ref02_Mul := fun a b => Ok.gif_const fun ⟨ha, hb⟩ => by
  have na := ab_nonneg (zv a)
  have nb := ab_nonneg (zv b)
  have e1 : IntKind.wrap .i64 (a.1 * b.1) = sg (zv a * zv b) := by
    rw [ha.sign, hb.sign, sg_mul]
    have := sg_range (zv a * zv b)
    exact i64w (by omega) (by omega)
  rw [T_ref02_Mul, e1, F_ref01_Mul, gif_bind ⟨ha.bb, hb.bb⟩, ha.bits, hb.bits, Make_bind (Int.mul_nonneg na nb) (ha.1.mul hb.1) (by omega), ← ab_mul]
  congr 2
  unfold sg ab
  (repeat' split) <;> simp at * <;> omega
theorem Rn_ref02_Small : Run_ref02_Small := fun s hs n => Ok.gif fun ⟨h0, h1⟩ => by
  have key : ∀ (d : Nat) (x : Int) (o : List Int) (neg : Bool) (z : Int × List Int) (N : Int), 0 ≤ x → x < 2 ^ d → d + o.length = 64 → DV 2 o → gv 2 o + x * 2 ^ o.length = N → Ev (fun m => s m x neg z o) (dz (if neg = true then -N else N)) := by
    intro d
    induction d with
    | zero =>
      intro x o neg z N hx0 hx hl hd hN
      have hx : x = 0 := by simp at hx; omega
      subst hx
      have hN : bv o = N := by simp at hN; exact hN
      refine Ev.step (t := fun _ => some (dz (if neg = true then -N else N))) (fun m => ?_) Ev.ret
      rw [hs]; unfold S_ref02_Small_21
      rw [if_neg (by decide), F_ref02_Make, gif_bind ⟨hd, by omega⟩, hN]
    | succ d ih =>
      intro x o neg z N hx0 hx hl hd hN
      by_cases h0 : x = 0
      · subst h0
        have hN : bv o = N := by simp at hN; exact hN
        refine Ev.step (t := fun _ => some (dz (if neg = true then -N else N))) (fun m => ?_) Ev.ret
        rw [hs]; unfold S_ref02_Small_21
        rw [if_neg (by decide), F_ref02_Make, gif_bind ⟨hd, by omega⟩, hN]
      · have hxb : x < 18446744073709551616 := by
          have := two_pow_le (show d + 1 ≤ 64 by omega)
          have e : (2 : Int) ^ 64 = 18446744073709551616 := rfl
          omega
        have hb64 : x / 2 ≤ 9223372036854775807 := by omega
        refine Ev.step (fun m => ?_) (ih (x / 2) (o ++ [x % 2]) neg z N (by omega) (by rw [Int.pow_succ] at hx; omega) (by simp; omega) (hd.snoc (by omega)) (by
          rw [gv_snoc, ← hN, List.length_append]
          have := Int.emod_add_mul_ediv x 2
          simp only [List.length_cons, List.length_nil, Int.pow_succ]
          generalize x % 2 = u at *
          generalize x / 2 = v at *
          grind))
        rw [hs]; unfold S_ref02_Small_21
        rw [if_pos (by simp; omega), if_neg (by decide), Int.tmod_eq_emod_of_nonneg hx0, Int.tdiv_eq_ediv_of_nonneg hx0, if_pos (by simp; omega), if_neg (by decide), i64w (by omega) (by omega)]
  by_cases hn : n < 0
  · simp only [T_ref02_Small, decide_eq_true hn, if_true]
    rw [i64w (by omega) (by omega)]
    have := key 64 (0 - n) [] true (0, []) (-n) (by omega) (by have e : (2 : Int) ^ 64 = 18446744073709551616 := rfl; omega) rfl .nil (by simp [gv])
    simp only [if_true, Int.neg_neg] at this
    exact this
  · simp only [T_ref02_Small, decide_eq_false hn]
    have := key 64 n [] false (0, []) n (by omega) (by have e : (2 : Int) ^ 64 = 18446744073709551616 := rfl; omega) rfl .nil (by simp [gv])
    simp only [Bool.false_eq_true, if_false] at this
    exact this

/-! ### division -/
theorem ab_zero {x : Int} : ab x = 0 ↔ x = 0 := by unfold ab; split <;> omega
theorem tdiv_ab (x y : Int) : ab (Int.tdiv x y) = ab x / ab y := by
  rw [ab_eq, ab_eq, ab_eq, Int.natAbs_tdiv]; exact Int.natCast_ediv _ _
theorem tmod_ab (x y : Int) : ab (Int.tmod x y) = ab x % ab y := by
  rw [ab_eq, ab_eq, ab_eq, Int.natAbs_tmod]; exact Int.natCast_emod _ _
theorem tdiv_sign {x y : Int} (h : Int.tdiv x y ≠ 0) : (sg (x * y) < 0) ↔ Int.tdiv x y < 0 := by
  have hy : y ≠ 0 := fun hy => h (by rw [hy, Int.tdiv_zero])
  rw [sg_lt0]
  have e := Int.mul_tdiv_add_tmod x y
  by_cases h1 : 0 ≤ x <;> by_cases h2 : 0 < y
  · have := Int.mul_nonneg h1 (Int.le_of_lt h2)
    have := Int.tdiv_nonneg h1 (Int.le_of_lt h2)
    omega
  · have h3 : y < 0 := by omega
    have h4 : Int.tdiv x y = -(Int.tdiv x (-y)) := by rw [Int.tdiv_neg, Int.neg_neg]
    have h5 := Int.tdiv_nonneg h1 (show 0 ≤ -y by omega)
    have hx : 0 < x := by
      by_cases hx : x = 0
      · exfalso; exact h (by rw [hx, Int.zero_tdiv])
      · omega
    have := Int.mul_neg_of_pos_of_neg hx h3
    omega
  · have h4 : Int.tdiv x y = -(Int.tdiv (-x) y) := by rw [Int.neg_tdiv, Int.neg_neg]
    have h5 := Int.tdiv_nonneg (show 0 ≤ -x by omega) (Int.le_of_lt h2)
    have := Int.mul_neg_of_neg_of_pos (show x < 0 by omega) h2
    omega
  · have h3 : y < 0 := by omega
    have h4 : Int.tdiv x y = Int.tdiv (-x) (-y) := by rw [Int.neg_tdiv, Int.tdiv_neg, Int.neg_neg]
    have h5 := Int.tdiv_nonneg (show 0 ≤ -x by omega) (show 0 ≤ -y by omega)
    have := Int.mul_pos_of_neg_of_neg (show x < 0 by omega) h3
    omega
theorem Rn_ref03_Quo : Run_ref03_Quo := fun a b => Ok.gif_const fun ⟨ha, hb, h0⟩ => by
  have na := ab_nonneg (zv a)
  have nb := ab_nonneg (zv b)
  have hb0 : ab (zv b) ≠ 0 := fun h => h0 (ab_zero.1 h)
  have e1 : IntKind.wrap .i64 (a.1 * b.1) = sg (zv a * zv b) := by
    rw [ha.sign, hb.sign, sg_mul]
    have := sg_range (zv a * zv b)
    exact i64w (by omega) (by omega)
  have hq := ha.1.div nb
  have hr := ha.1.emod (show 0 < ab (zv b) by omega)
  rw [T_ref03_Quo, e1, F_ref01_DivMod, gif_bind ⟨ha.bb, hb.bb, by rw [hb.bits]; exact hb0⟩, ha.bits, hb.bits, Make_bind hq.1 hq (by omega), Make_bind hr.1 hr (by omega), ha.sign]
  have hQ := tdiv_ab (zv a) (zv b)
  have hR := tmod_ab (zv a) (zv b)
  have hS := @tdiv_sign (zv a) (zv b)
  have hM := tmod_facts (zv a) (zv b) h0
  rw [← hQ, ← hR]
  congr 3
  · by_cases h1 : Int.tdiv (zv a) (zv b) = 0
    · simp [h1, ab]
    · have := hS h1
      unfold ab
      simp only [decide_eq_true_eq]
      split <;> split <;> omega
  · congr 1
    simp only [decide_eq_true_eq, sg_lt0]
    unfold ab at hM ⊢
    split <;> split <;> omega
theorem Rn_ref03_Floor : Run_ref03_Floor := fun a b => Ok.gif_const fun ⟨ha, hb, h0⟩ => by
  have heq : zv a = zv b * Int.tdiv (zv a) (zv b) + Int.tmod (zv a) (zv b) := (Int.mul_tdiv_add_tmod _ _).symm
  have hf := tmod_facts (zv a) (zv b) h0
  have hQ : Bd 2199023255552 (ab (Int.tdiv (zv a) (zv b))) := ha.1.le (ab_nonneg _) (ab_tdiv_le _ _)
  have hR : Bd 2199023255552 (ab (Int.tmod (zv a) (zv b))) := ha.1.le (ab_nonneg _) (ab_tmod_le _ _)
  have h1' : Bd 2199023255552 (ab (-1)) := Bd.mono (j := 1) (by simp [ab]; rw [Bd1]; omega) (by omega)
  rw [T_ref03_Floor, F_ref03_Quo, gif_bind ⟨ha, hb, h0⟩]
  dsimp only
  rw [show (dz (Int.tmod (zv a) (zv b))).1 = sg (Int.tmod (zv a) (zv b)) from rfl, hb.sign, F_ref02_Small, gif_bind (by omega), F_ref02_Add, gif_bind ⟨ZZ.dz hQ, ZZ.dz h1'⟩, F_ref02_Add, gif_bind ⟨ZZ.dz hR, hb⟩]
  simp only [zv_dz]
  generalize Int.tdiv (zv a) (zv b) = q at *
  generalize Int.tmod (zv a) (zv b) = r at *
  by_cases h1 : r = 0
  · subst h1
    have := floor_unique (q := q) (r := 0) heq (by omega)
    rw [if_neg (by decide), this.1, this.2]
  · have hr0 : sg r ≠ 0 := by unfold sg; (repeat' split) <;> omega
    rw [if_pos (bne_iff_ne.2 hr0)]
    by_cases h2 : (r < 0 ↔ zv b < 0)
    · have e : sg r = sg (zv b) := by unfold sg; (repeat' split) <;> omega
      rw [if_neg (by rw [e]; simp)]
      have := floor_unique (q := q) (r := r) heq (by unfold ab at hf; split at hf <;> omega)
      rw [this.1, this.2]
    · have e : sg r ≠ sg (zv b) := by unfold sg; (repeat' split) <;> omega
      rw [if_pos (bne_iff_ne.2 e)]
      have := floor_unique (q := q - 1) (r := r + zv b) (a := zv a) (b := zv b) (by rw [Int.mul_sub]; omega) (by unfold ab at hf; split at hf <;> omega)
      rw [this.1, this.2]
      rfl
end Go.W

set_option linter.unusedVariables false
set_option linter.unusedSimpArgs false
namespace Go.W

theorem ZZ.dz' {k : Nat} {v : Int} (h : Bd k (ab v)) (hk : k ≤ 2199023255552) : ZZ (Go.W.dz v) := ZZ.dz (h.mono hk)
theorem Rn_ref03_Pow : Run_ref03_Pow := fun s hs a n => Ok.gif fun ⟨ha, hn, hb⟩ => by
  simp only [T_ref03_Pow, F_ref02_Small, gif_bind (show (-9223372036854775807 : Int) ≤ 1 ∧ (1 : Int) ≤ 9223372036854775807 by omega)]
  have key : ∀ (d i : Nat) (z : Int × List Int), i + d = n.toNat → Ev (fun m => s m n (i : Int) a z (dz (zv a ^ i))) (dz (zv a ^ n.toNat)) := by
    intro d
    induction d with
    | zero =>
      intro i z hi
      refine Ev.step (t := fun _ => some (dz (zv a ^ n.toNat))) (fun m => ?_) Ev.ret
      rw [hs]; unfold S_ref03_Pow_13
      rw [if_neg (by simp; omega), show i = n.toNat by omega]
    | succ d ih =>
      intro i z hi
      have hp := hb.pow i
      have hi1000 : i ≤ 1000 := by omega
      have hle : 1000 * i + 1 ≤ 2199023255552 := by
        have := Nat.mul_le_mul_left 1000 hi1000
        omega
      refine Ev.step (fun m => ?_) (ih (i + 1) z (by omega))
      rw [hs]; unfold S_ref03_Pow_13
      rw [if_pos (by simp; omega), F_ref02_Mul, gif_bind ⟨ZZ.dz' (by rw [ab_pow]; exact hp) hle, ha⟩, zv_dz, i64w (by omega) (by omega), Int.pow_succ]
      simp
  have := key n.toNat 0 (0, []) (by omega)
  rw [Int.pow_zero] at this
  exact this
theorem RK_le : RK = 1000000000 := rfl
theorem RQ.z1 {k : Nat} {a : (Int × List Int) × Int × List Int} (h : RQ k a) (hk : k ≤ 2199023255552) : ZZ a.1 := by
  have e : a.1 = dz (qn a) := congrArg Prod.fst h.1
  rw [e]; exact ZZ.dz' h.2.1 hk
theorem RQ.z2 {k : Nat} {a : (Int × List Int) × Int × List Int} (h : RQ k a) (hk : k ≤ 2199023255552) : ZZ a.2 := by
  have e : a.2 = dz (qd a) := congrArg Prod.snd h.1
  have := h.2.2.2
  rw [e]; exact ZZ.dz' (by rw [ab_pos (by omega)]; exact h.2.2.1) hk
theorem qn_mq (n d : Int) : qn (mq n d) = n := zv_dz n
theorem qd_mq (n d : Int) : qd (mq n d) = d := zv_dz d
theorem qv_mq (n d : Int) : qv (mq n d) = Rat.divInt n d := by unfold qv; rw [qn_mq, qd_mq]
theorem RQ.mq {k : Nat} {n d : Int} (h1 : Bd k (ab n)) (h2 : Bd k d) (h3 : 0 < d) : RQ k (Go.W.mq n d) := ⟨by rw [qn_mq, qd_mq], by rw [qn_mq]; exact h1, by rw [qd_mq]; exact h2, by rw [qd_mq]; exact h3⟩
theorem RQ.mono {j k : Nat} {a : (Int × List Int) × Int × List Int} (h : RQ j a) (hk : j ≤ k) : RQ k a := ⟨h.1, h.2.1.mono hk, h.2.2.1.mono hk, h.2.2.2⟩
theorem Rn_ref05_Of : Run_ref05_Of := fun neg n d => Ok.gif_const fun ⟨hn, hd⟩ => by
  have nd := hd.nn.nonneg
  rw [T_ref05_Of, F_ref02_Of, gif_bind hd.nn, F_ref02_Of, gif_bind hn.nn]
  have e : iv (false, d) = nv d := by unfold iv; simp
  rw [e]
  unfold rn rd
  dsimp only
  by_cases h0 : nv d = 0
  · rw [h0, if_pos (by decide), if_pos rfl, if_pos rfl, F_ref02_Small, gif_bind (by omega)]
    unfold mq; rw [dz_zero]
  · have : ((dz (nv d)).1 == 0) = false := by
      show (sg (nv d) == 0) = false
      rw [sg_pos (by omega)]; rfl
    rw [this, if_neg (by decide), if_neg h0, if_neg h0]
    rfl
theorem Rn_ref05_Neg : Run_ref05_Neg := fun a => Ok.gif_const fun ha => by
  have e : a.2 = dz (qd a) := congrArg Prod.snd ha.1
  rw [T_ref05_Neg, F_ref02_Neg, gif_bind (ha.z1 (by rw [RK_le]; omega))]
  conv => lhs; rw [e]
  rfl
theorem Rn_ref05_Add : Run_ref05_Add := fun a b => Ok.gif_const fun ⟨ha, hb⟩ => by
  have a1 := ha.z1 (by rw [RK_le]; omega)
  have a2 := ha.z2 (by rw [RK_le]; omega)
  have b1 := hb.z1 (by rw [RK_le]; omega)
  have b2 := hb.z2 (by rw [RK_le]; omega)
  have da := ha.2.2.2
  have db := hb.2.2.2
  have s1 : Bd (RK + RK) (ab (qn a * qd b)) := ha.2.1.ab_mul (by rw [ab_pos (by omega)]; exact hb.2.2.1)
  have s2 : Bd (RK + RK) (ab (qn b * qd a)) := hb.2.1.ab_mul (by rw [ab_pos (by omega)]; exact ha.2.2.1)
  have e1 : zv a.1 = qn a := rfl
  have e2 : zv a.2 = qd a := rfl
  have e3 : zv b.1 = qn b := rfl
  have e4 : zv b.2 = qd b := rfl
  rw [T_ref05_Add, F_ref02_Mul, gif_bind ⟨a1, b2⟩, F_ref02_Mul, gif_bind ⟨b1, a2⟩, e1, e2, e3, e4, F_ref02_Add, gif_bind ⟨ZZ.dz' s1 (by rw [RK_le]; omega), ZZ.dz' s2 (by rw [RK_le]; omega)⟩, zv_dz, zv_dz, F_ref02_Mul, gif_bind ⟨a2, b2⟩]
  rfl
theorem Rn_ref05_Floor : Run_ref05_Floor := fun a => Ok.gif_const fun ha => by
  have a1 := ha.z1 (by rw [RK_le]; omega)
  have a2 := ha.z2 (by rw [RK_le]; omega)
  have da := ha.2.2.2
  have e1 : zv a.1 = qn a := rfl
  have e2 : zv a.2 = qd a := rfl
  rw [T_ref05_Floor, F_ref03_Floor, gif_bind ⟨a1, a2, by rw [e2]; omega⟩, e1, e2]
  unfold qv
  rw [floor_div da, Int.fdiv_eq_ediv_of_nonneg _ (by omega)]

/-! ### the laws' helpers -/
theorem Rn_law05_of : Run_law05_of := fun a => Ok.gif_const fun h => by
  rw [T_law05_of, F_ref05_Of, gif_bind (p := QD a.1.2 ∧ QD a.2) h]
theorem Rn_law05_few : Run_law05_few := fun n a b c => Ok.gif_const fun _ => by
  rw [T_law05_few, F_ref01_Few, gif_bind (by simp), F_ref01_Few, gif_bind (by simp)]
  simp only [List.all_cons, List.all_nil, Bool.and_true]
  by_cases h1 : (a.1.2.length : Int) ≤ n <;> by_cases h2 : (a.2.length : Int) ≤ n <;> by_cases h3 : (b.1.2.length : Int) ≤ n <;> by_cases h4 : (b.2.length : Int) ≤ n <;> by_cases h5 : (c.1.2.length : Int) ≤ n <;> by_cases h6 : (c.2.length : Int) ≤ n <;> simp [h1, h2, h3, h4, h5, h6]
end Go.W

set_option linter.unusedVariables false
set_option linter.unusedSimpArgs false
namespace Go.W

/-! ### decimal -/
theorem Rn_decimal_chunk : Run_decimal_chunk := fun s hs b => Ok.gif fun h => by
  subst h
  have st : ∀ (x n : Int), x * 10 < 4294967296 → 0 ≤ x → 0 ≤ n → n < 100 → Ev (fun m => s m 10 (x * 10) (n + 1)) (1000000000, 9) → Ev (fun m => s m 10 x n) (1000000000, 9) := fun x n h1 h0 h2 h3 h => by
    refine Ev.step (fun m => ?_) h
    rw [hs]; unfold S_decimal_chunk_9
    dsimp only
    rw [u64w (n := x) (by omega) (by omega), u64w (n := 10) (by omega) (by omega), u64w (n := x * 10) (by omega) (by omega), if_pos (decide_eq_true h1), u32w (by omega) h1, i64w (by omega) (by omega)]
  refine st 10 1 (by omega) (by omega) (by omega) (by omega) ?_
  refine st (10 * 10) 2 (by omega) (by omega) (by omega) (by omega) ?_
  refine st (10 * 10 * 10) 3 (by omega) (by omega) (by omega) (by omega) ?_
  refine st (10 * 10 * 10 * 10) 4 (by omega) (by omega) (by omega) (by omega) ?_
  refine st (10 * 10 * 10 * 10 * 10) 5 (by omega) (by omega) (by omega) (by omega) ?_
  refine st (10 * 10 * 10 * 10 * 10 * 10) 6 (by omega) (by omega) (by omega) (by omega) ?_
  refine st (10 * 10 * 10 * 10 * 10 * 10 * 10) 7 (by omega) (by omega) (by omega) (by omega) ?_
  refine st (10 * 10 * 10 * 10 * 10 * 10 * 10 * 10) 8 (by omega) (by omega) (by omega) (by omega) ?_
  refine Ev.step (t := fun _ => some (1000000000, 9)) (fun m => ?_) Ev.ret
  rw [hs]; unfold S_decimal_chunk_9
  rfl
def digTab : ByteArray := (ByteArray.mk #[48, 49, 50, 51, 52, 53, 54, 55, 56, 57, 97, 98, 99, 100, 101, 102, 103, 104, 105, 106, 107, 108, 109, 110, 111, 112, 113, 114, 115, 116, 117, 118, 119, 120, 121, 122])
theorem digTab_ok : (List.range 10).all (fun n => decide (bt digTab (n : Int) = 48 + (n : Int))) = true := by decide +kernel
theorem digTab_size : ByteArray.size digTab = 36 := by decide +kernel
theorem digTab_get {d : Int} (h : 0 ≤ d) (h' : d < 10) : bt digTab d = 48 + d := by
  obtain ⟨n, rfl⟩ := Int.eq_ofNat_of_zero_le h
  exact of_decide_eq_true (List.all_eq_true.1 digTab_ok n (by simp; omega))
theorem dec_len {k n : Nat} {N : Int} (h : Bd k N) (hn : n = 0 ∨ 10 ^ (n - 1) ≤ N) : n ≤ k + 1 := by
  rcases hn with rfl | hn
  · omega
  · have h1 : (2 : Int) ^ (n - 1) ≤ 10 ^ (n - 1) := by
      have : ∀ j : Nat, (2 : Int) ^ j ≤ 10 ^ j := fun j => by
        induction j with
        | zero => simp
        | succ j ih =>
          rw [Int.pow_succ, Int.pow_succ]
          have := two_pow_pos j
          omega
      exact this _
    have := pow_lt_imp (j := n - 1) (k := k) (Int.lt_of_le_of_lt (Int.le_trans h1 hn) h.2)
    omega
theorem chunk_bind {σ : Type} {k : Int × Int → Option σ} : (F_decimal_chunk 10).bind k = k (1000000000, 9) := gif_bind rfl
theorem Rn_decimal_write : Run_decimal_write := fun s1 s2 s3 k1 k2 k3 a b => Ok.gif fun ⟨ha, hb⟩ => by
  subst hb
  have hN := NN.big ha
  have nN := NN.nonneg ha
  simp only [T_decimal_write, F_natural_Normal, gif_bind (show NN a.2 from ha), chunk_bind]
  -- the end
  have fin : ∀ D : List Int, DV 10 D → gv 10 D = nv a.2 → (D.length = 0 ∨ 10 ^ (D.length - 1) ≤ nv a.2) → Ev (fun m => s1 m 10 [] 1000000000 9 a (D.map fun d => 48 + d)) (decS (iv a)) := by
    intro D hD hg hl
    have hlen := dec_len hN hl
    have hnorm := norm_of_ge (B := 10) (by decide) hD (by
      rcases hl with h | h
      · left; exact List.eq_nil_of_length_eq_zero h
      · right; rw [hg]; exact h)
    rw [hg] at hnorm
    refine Ev.step (t := fun _ => some (decS (iv a))) (fun m => ?_) Ev.ret
    rw [k1]; unfold S_decimal_write_17
    rw [if_neg (by simp)]
    unfold decS
    by_cases h0 : nv a.2 = 0
    · have : D = [] := by rw [← hnorm, h0]; exact gd_zero 10
      rw [if_pos ((iv_zero ha).2 h0), this, if_pos (by simp)]
    · have hne : D ≠ [] := fun h => by rw [h] at hg; simp [gv] at hg; omega
      rw [if_neg (fun h => h0 ((iv_zero ha).1 h)), if_neg (by simp; exact hne)]
      unfold decL
      rw [iv_ab ha, hnorm]
      by_cases hs : a.1 = true
      · have hlt : iv a < 0 := by unfold iv; rw [if_pos hs]; omega
        rw [if_pos hs, if_pos (by simp; omega), O_slices_Reverse, gif_bind (by simp; omega), if_pos (sameLen_of (by simp)), if_pos hlt]
        simp
      · have hlt : ¬ iv a < 0 := by unfold iv; rw [if_neg hs]; omega
        rw [if_neg hs, O_slices_Reverse, gif_bind (by simp; omega), if_pos (sameLen_of (by simp)), if_neg hlt]
        simp
  -- the loops
  have main : ∀ (R : Nat) (rest : Int) (D : List Int), rest.toNat ≤ R → 0 ≤ rest → NN (dn rest) → DV 10 D → gv 10 D + rest * 10 ^ D.length = nv a.2 → (D.length = 0 ∨ 10 ^ (D.length - 1) ≤ nv a.2) →
      Ev (fun m => s1 m 10 (dn rest) 1000000000 9 a (D.map fun d => 48 + d)) (decS (iv a)) := by
    intro R
    induction R using Nat.strongRecOn with
    | ind R ih =>
    intro rest D hR hr0 hnn hD hg hl
    by_cases h0 : rest = 0
    · subst h0
      rw [dn_zero]
      exact fin D hD (by omega) hl
    · have vr := nv_dn hr0
      have hq0 : 0 ≤ rest / 1000000000 := by omega
      have hnq : NN (dn (rest / 1000000000)) := by have := hnn.quo (d := 1000000000) (by omega); rwa [vr] at this
      have inner : ∀ (d i : Nat) (low : Int) (E : List Int), i + d = 9 → 0 ≤ low → low < 10 ^ d → DV 10 E → gv 10 E + (low + 10 ^ d * (rest / 1000000000)) * 10 ^ E.length = nv a.2 → (E.length = 0 ∨ 10 ^ (E.length - 1) ≤ nv a.2) →
          Ev (fun m => s2 m 10 (dn (rest / 1000000000)) 1000000000 9 low (i : Int) a (E.map fun d => 48 + d)) (decS (iv a)) := by
        intro d
        induction d with
        | zero =>
          intro i low E hi hlow0 hlow hE hgE hlE
          have hlow : low = 0 := by simp at hlow; omega
          subst hlow
          refine Ev.step (fun m => ?_) (ih (rest / 1000000000).toNat (by omega) (rest / 1000000000) E (Nat.le_refl _) hq0 hnq hE (by simpa using hgE) hlE)
          rw [k2]; unfold S_decimal_write_33
          rw [if_neg (by simp; omega)]
        | succ d ihd =>
          intro i low E hi hlow0 hlow hE hgE hlE
          by_cases hz : low = 0 ∧ rest / 1000000000 = 0
          · obtain ⟨z1, z2⟩ := hz
            subst z1
            rw [z2] at hgE ⊢
            rw [dn_zero]
            refine Ev.step (fun m => ?_) (fin E hE (by simpa using hgE) hlE)
            rw [k2]; unfold S_decimal_write_33
            rw [if_pos (by simp; omega), if_neg (by simp), if_neg (by simp)]
          · have hp := pow_pos' (B := 10) (by decide) (d + 1)
            have hpE := pow_pos' (B := 10) (by decide) E.length
            have hRp : 1 ≤ low + 10 ^ (d + 1) * (rest / 1000000000) := by
              by_cases h1 : rest / 1000000000 = 0
              · rw [h1, Int.mul_zero]; omega
              · have : 1 * 1 ≤ 10 ^ (d + 1) * (rest / 1000000000) := Int.mul_le_mul (by omega) (by omega) (by omega) (by omega)
                omega
            have hgE0 := gv_nonneg (B := 10) (by decide) hE
            have hEl : 10 ^ E.length ≤ nv a.2 := by
              have : 1 * 10 ^ E.length ≤ (low + 10 ^ (d + 1) * (rest / 1000000000)) * 10 ^ E.length := Int.mul_le_mul_of_nonneg_right hRp (by omega)
              omega
            have hlen := dec_len hN hlE
            have hlowB : low < 1000000000 := by
              have : (10 : Int) ^ (d + 1) ≤ 10 ^ 9 := pow_le_pow' (by decide) (by omega)
              have e9 : (10 : Int) ^ 9 = 1000000000 := rfl
              omega
            have hstep := ihd (i + 1) (low / 10) (E ++ [low % 10]) (by omega) (by omega) (by rw [Int.pow_succ] at hlow; omega) (hE.snoc (by omega)) (by
              rw [gv_snoc, List.length_append, ← hgE]
              simp only [List.length_cons, List.length_nil, Int.pow_succ]
              have := Int.emod_add_mul_ediv low 10
              generalize low % 10 = u at *
              generalize low / 10 = v at *
              grind) (by right; simp; exact hEl)
            have three : ∀ (w : Int) (p q r : Bool), Ev (fun m => s3 m 10 (dn (rest / 1000000000)) 1000000000 9 low (i : Int) w p q r a (E.map fun d => 48 + d)) (decS (iv a)) := fun w p q r => by
              refine Ev.step (fun m => ?_) hstep
              rw [k3]; unfold S_decimal_write_40
              have hsz := digTab_size
              have hgt := digTab_get (d := low % 10) (by omega) (by omega)
              show (if (10 : Int) = 0 then none else if 0 ≤ Int.tmod low 10 ∧ Int.tmod low 10 < (ByteArray.size digTab : Int) then
                if (E.map fun d => 48 + d).length + ([bt digTab (Int.tmod low 10)] : List Int).length ≤ 70368744177664 / 1 then
                  if (10 : Int) = 0 then none else s2 m 10 (dn (rest / 1000000000)) 1000000000 9 (IntKind.wrap .u32 (Int.tdiv low 10)) (IntKind.wrap .i64 ((i : Int) + 1)) a ((E.map fun d => 48 + d) ++ [bt digTab (Int.tmod low 10)]) else none else none) = _
              rw [Int.tmod_eq_emod_of_nonneg hlow0, Int.tdiv_eq_ediv_of_nonneg hlow0, hsz, hgt, if_neg (by decide), if_pos (by omega), if_pos (by simp; omega), if_neg (by decide), u32w (by omega) (by omega), i64w (by omega) (by omega)]
              simp
            by_cases hl0 : low > 0
            · refine Ev.step (fun m => ?_) (three low (decide (low > 0)) true true)
              rw [k2]; unfold S_decimal_write_33
              rw [if_pos (by simp; omega), if_pos (decide_eq_true hl0)]
            · refine Ev.step (fun m => ?_) (three low (decide (low > 0)) false (decide (((dn (rest / 1000000000)).length : Int) > 0)))
              rw [k2]; unfold S_decimal_write_33
              have hlq : (dn (rest / 1000000000)).length ≠ 0 := fun h => by
                have := dn_nil.1 (List.eq_nil_of_length_eq_zero h); omega
              rw [if_pos (by simp; omega), if_neg (by simpa using hl0), if_pos (decide_eq_true (by omega))]
      have hrem : rest % 1000000000 < 10 ^ 9 := by
        have e9 : (10 : Int) ^ 9 = 1000000000 := rfl
        omega
      have := inner 9 0 (rest % 1000000000) D rfl (by omega) hrem hD (by
        have e9 : (10 : Int) ^ 9 = 1000000000 := rfl
        rw [e9, show rest % 1000000000 + 1000000000 * (rest / 1000000000) = rest by omega]; exact hg) hl
      refine Ev.step (fun m => ?_) this
      have hlr : (dn rest).length ≠ 0 := fun h => by
        have := dn_nil.1 (List.eq_nil_of_length_eq_zero h); omega
      rw [k1]; unfold S_decimal_write_17
      rw [if_pos (decide_eq_true (by omega)), F_natural_DivSmall, gif_bind ⟨hnn, by rw [Bd32]; omega⟩, vr, if_neg (by decide)]
      rfl
  have := main (nv a.2).toNat (nv a.2) [] (Nat.le_refl _) nN (NN.dn hN (Nat.le_refl _)) .nil (by simp [gv]) (.inl rfl)
  exact this
theorem Rn_decimal_Format : Run_decimal_Format := fun a => Ok.gif_const fun h => by
  rw [T_decimal_Format, F_decimal_write, gif_bind ⟨h, rfl⟩]
theorem ofB_size (l : List Int) : ByteArray.size (ofB l) = l.length := by
  simp [ofB, ByteArray.size]
theorem gd10_len {k : Nat} {n : Int} (h : Bd k n) : (gd 10 n).length ≤ k + 1 := by
  refine dec_len h ?_
  by_cases h0 : 0 < n
  · right; exact gd_len_ge (by decide) h0
  · left; rw [gd_neg (by omega)]; rfl
theorem decS_size {k : Nat} {z : Int} (h : Bd k (ab z)) : ByteArray.size (decS z) ≤ k + 2 := by
  unfold decS
  split
  · show 1 ≤ _; omega
  · rw [ofB_size]
    have := gd10_len h
    unfold decL
    split <;> simp <;> omega
theorem Rn_rational_Format : Run_rational_Format := fun a => Ok.gif_const fun h => by
  have hq := QB.rv h
  have hQ := QQ.dr hq (Nat.le_refl _)
  rw [T_rational_Format, F_rational_Normal, gif_bind h]
  generalize rv a = r at *
  have hd := r.den_pos
  have e1 : (dr r).2 = dn r.den := rfl
  have v1 : iv (dr r).1 = r.num := iv_di _
  have v2 : iv (false, (dr r).2) = r.den := by unfold iv; simp only [Bool.false_eq_true, if_false]; exact nv_den r
  have f1 : ∀ {σ : Type} {k : ByteArray → Option σ}, (F_decimal_Format (dr r).1).bind k = k (decS r.num) := fun {σ k} => by rw [F_decimal_Format, gif_bind (p := II (dr r).1) hQ.i, v1]
  have f2 : ∀ {σ : Type} {k : ByteArray → Option σ}, (F_decimal_Format (false, (dr r).2)).bind k = k (decS r.den) := fun {σ k} => by rw [F_decimal_Format, gif_bind (p := II (false, (dr r).2)) hQ.d, v2]
  rw [f1, f1, e1, isOne_bind (by omega), ← e1]
  unfold ratS
  have s1 := decS_size hq.1
  have s2 := decS_size (z := (r.den : Int)) (k := 33554432) (by rw [ab_pos (by omega)]; exact hq.2)
  by_cases h1 : r.den = 1
  · rw [if_pos (decide_eq_true (by omega)), if_pos h1]
  · have h2 : ¬ ((r.den : Int) = 1) := by omega
    have e2 : ByteArray.size (ByteArray.mk #[47]) = 1 := rfl
    rw [if_neg (by simpa using h2), if_neg h1, e2, if_pos (by omega), f2, ByteArray.size_append, e2, if_pos (by omega)]
theorem Rn_law05_awake : Run_law05_awake := Ok.gif_const fun _ => by
  have i6 : II (di 6) := II.di (k := 3) (by constructor <;> decide) (by omega)
  have i4 : II (di (-4)) := II.di (k := 3) (by constructor <;> decide) (by omega)
  have hr : Rat.divInt 6 (-4) = Rat.divInt (-3) 2 := by decide +kernel
  have hq : QB 3 (Rat.divInt (-3) 2) := QB.mono (QB.div (j := 2) (k := 2) (by constructor <;> decide) (by constructor <;> decide) (by decide)) (by omega)
  have hn : (Rat.divInt (-3) 2).num = -3 := by decide +kernel
  have hd : (Rat.divInt (-3) 2).den = 2 := by decide +kernel
  have g3 : gd 10 3 = [3] := by rw [gd_pos (by decide) (by decide), show (3 : Int) / 10 = 0 by decide, gd_zero]; rfl
  have g2 : gd 10 2 = [2] := by rw [gd_pos (by decide) (by decide), show (2 : Int) / 10 = 0 by decide, gd_zero]; rfl
  have hs : ratS (Rat.divInt (-3) 2) = ByteArray.mk #[45, 51, 47, 50] := by
    have d3 : decS (-3) = ofB [45, 51] := by
      unfold decS decL
      rw [if_neg (show ¬ ((-3 : Int) = 0) by decide), if_pos (show (-3 : Int) < 0 by decide), show ab (-3) = 3 by decide, g3]; rfl
    have d2 : decS ((2 : Nat) : Int) = ofB [50] := by
      unfold decS decL
      rw [if_neg (show ¬ (((2 : Nat) : Int) = 0) by decide), if_neg (show ¬ (((2 : Nat) : Int) < 0) by decide), show ab ((2 : Nat) : Int) = 2 by decide, g2]; rfl
    unfold ratS
    rw [hn, hd, if_neg (by decide), d3, d2]
    decide +kernel
  rw [T_law05_awake, F_integer_Of, gif_bind (by omega), F_integer_Of, gif_bind (by omega), F_rational_Make, gif_bind ⟨i6, i4⟩, iv_di, iv_di, if_neg (show ¬ ((-4 : Int) = 0) by decide), hr]
  dsimp only
  rw [if_pos (by decide), F_rational_Format, gif_bind (QQ.dr hq (by omega)), rv_dr, hs, if_pos (by simp)]
  show some (decide ((Rat.divInt (-3) 2).num < 0)) = some true
  rw [hn]; rfl
end Go.W

set_option linter.unusedVariables false
set_option linter.unusedSimpArgs false
namespace Go.W

theorem DR.qq {a : (Bool × List Int) × List Int} (h : DR a) {m : Int} (h1 : (a.1.2.length : Int) ≤ m) (h2 : (a.2.length : Int) ≤ m) (hm : m ≤ 1048576) : QQ a := ⟨⟨h.1, by omega⟩, ⟨h.2, by omega⟩⟩
/-- the reference's fraction of a number that came in -/
theorem of_rq {a : (Bool × List Int) × List Int} (h : QQ a) {m : Nat} (h1 : a.1.2.length ≤ m) (h2 : a.2.length ≤ m) (hm : 1 ≤ m) : RQ (32 * m) (mq (rn a) (rd a)) := by
  refine RQ.mq ?_ ?_ (rd_pos h)
  · unfold rn; split
    · exact Bd.zero _
    · rw [iv_ab h.i]; exact h.1.nn.val.mono (by omega)
  · unfold rd; split
    · exact Bd.mono (j := 1) (by rw [Bd1]; omega) (by omega)
    · exact h.2.nn.val.mono (by omega)
theorem of_v (a : (Bool × List Int) × List Int) : qv (mq (rn a) (rd a)) = rv a := by rw [qv_mq]; rfl
theorem divInt_pow (n d : Int) : ∀ k : Nat, (Rat.divInt n d) ^ k = Rat.divInt (n ^ k) (d ^ k)
  | 0 => by simp; rfl
  | k + 1 => by rw [Rat.pow_succ, divInt_pow n d k, Rat.divInt_mul_divInt, Int.pow_succ, Int.pow_succ]
end Go.W

set_option linter.unusedVariables false
namespace Go.W
/-! ### intervals -/
abbrev NQ := (Bool × List Int) × List Int
abbrev FQ := (Int × List Int) × Int × List Int
abbrev NI := ((Bool × List Int) × List Int) × (Bool × List Int) × List Int
def rmin (x y : Rat) : Rat := if y < x then y else x
def rmax (x y : Rat) : Rat := if x < y then y else x
def lo (a : NI) : Rat := rmin (rv a.1) (rv a.2)
def hi (a : NI) : Rat := rmax (rv a.1) (rv a.2)
def DI (a : NI) : Prop := DR a.1 ∧ DR a.2
noncomputable def F_ref04_Format (z : Int × List Int) (b : Int) : Option ByteArray := gif (ZZ z ∧ Bd 1000000000 (ab (zv z)) ∧ b = 10) (decS (zv z))
end Go.W

set_option linter.unusedVariables false
namespace Go.W
noncomputable section

/-! cylinder/decimal.Parse -/
def T_ref04_Format (s13 : Int → Int → (Int × List Int) → List Int → Option ByteArray) (s29 : Int → Int → Int → Int → (Int × List Int) → List Int → Option ByteArray) (s73 : ByteArray → Int → List Int → Option ByteArray) (a0 : Int × List Int) (a1 : Int) : Option ByteArray :=
  s13 a1 (IntKind.wrap .i64 ((List.length a0.2 : Int) - (1 : Int))) a0 ([(0 : Int)] : List Int)
def S_ref04_Format_13 (s13 : Int → Int → (Int × List Int) → List Int → Option ByteArray) (s29 : Int → Int → Int → Int → (Int × List Int) → List Int → Option ByteArray) (s73 : ByteArray → Int → List Int → Option ByteArray) (x1 : Int) (x6 : Int) (x2 : Int × List Int) (x5 : List Int) : Option ByteArray :=
  if (decide (x6 ≥ (0 : Int))) = true then
    if 0 ≤ x6 ∧ x6 < (List.length x2.2 : Int) then
      s29 x1 x6 (List.getD x2.2 (Int.toNat x6) (0 : Int)) (0 : Int) x2 x5
    else none
  else
    if (decide (x2.1 < (0 : Int))) = true then
      s73 (ByteArray.mk #[45]) (IntKind.wrap .i64 ((List.length x5 : Int) - (1 : Int))) x5
    else
      s73 (ByteArray.mk #[]) (IntKind.wrap .i64 ((List.length x5 : Int) - (1 : Int))) x5
def S_ref04_Format_29 (s13 : Int → Int → (Int × List Int) → List Int → Option ByteArray) (s29 : Int → Int → Int → Int → (Int × List Int) → List Int → Option ByteArray) (s73 : ByteArray → Int → List Int → Option ByteArray) (x1 : Int) (x6 : Int) (x7 : Int) (x8 : Int) (x2 : Int × List Int) (x5 : List Int) : Option ByteArray :=
  if (decide (x8 < (List.length x5 : Int))) = true then
    if 0 ≤ x8 ∧ x8 < (List.length x5 : Int) then
      let v1 : Int := (IntKind.wrap .i64 ((2 : Int) * (List.getD x5 (Int.toNat x8) (0 : Int))))
      if x1 = 0 then none else
      if 0 ≤ x8 ∧ x8 < (List.length x5 : Int) then
        let v2 : List Int := (List.set x5 (Int.toNat x8) (Int.tmod (IntKind.wrap .i64 (v1 + x7)) x1))
        if x1 = 0 then none else
        s29 x1 x6 (IntKind.wrap .i64 (Int.tdiv (IntKind.wrap .i64 (v1 + x7)) x1)) (IntKind.wrap .i64 (x8 + (1 : Int))) x2 v2
      else none
    else none
  else
    if (decide (x7 > (0 : Int))) = true then
      if List.length x5 + List.length ([x7] : List Int) ≤ 70368744177664 / 8 then
        s13 x1 (IntKind.wrap .i64 (x6 - (1 : Int))) x2 (x5 ++ ([x7] : List Int))
      else none
    else
      s13 x1 (IntKind.wrap .i64 (x6 - (1 : Int))) x2 x5
def S_ref04_Format_73 (s13 : Int → Int → (Int × List Int) → List Int → Option ByteArray) (s29 : Int → Int → Int → Int → (Int × List Int) → List Int → Option ByteArray) (s73 : ByteArray → Int → List Int → Option ByteArray) (x10 : ByteArray) (x11 : Int) (x5 : List Int) : Option ByteArray :=
  if (decide (x11 ≥ (0 : Int))) = true then
    if 0 ≤ x11 ∧ x11 < (List.length x5 : Int) then
      if 0 ≤ x11 ∧ x11 < (List.length x5 : Int) then
        let v1 : Int := (IntKind.wrap .i64 ((List.getD x5 (Int.toNat x11) (0 : Int)) + (1 : Int)))
        if 0 ≤ (List.getD x5 (Int.toNat x11) (0 : Int)) ∧ (List.getD x5 (Int.toNat x11) (0 : Int)) ≤ v1 ∧ v1 ≤ (ByteArray.size (ByteArray.mk #[48, 49, 50, 51, 52, 53, 54, 55, 56, 57, 97, 98, 99, 100, 101, 102, 103, 104, 105, 106, 107, 108, 109, 110, 111, 112, 113, 114, 115, 116, 117, 118, 119, 120, 121, 122]) : Int) then
          let v2 : ByteArray := (ByteArray.extract (ByteArray.mk #[48, 49, 50, 51, 52, 53, 54, 55, 56, 57, 97, 98, 99, 100, 101, 102, 103, 104, 105, 106, 107, 108, 109, 110, 111, 112, 113, 114, 115, 116, 117, 118, 119, 120, 121, 122]) (Int.toNat (List.getD x5 (Int.toNat x11) (0 : Int))) (Int.toNat v1))
          if ByteArray.size x10 + ByteArray.size v2 ≤ 9223372036854775807 then
            s73 (x10 ++ v2) (IntKind.wrap .i64 (x11 - (1 : Int))) x5
          else none
        else none
      else none
    else none
  else
    some x10
def Run_ref04_Format : Prop := ∀ s13 : Nat → Int → Int → (Int × List Int) → List Int → Option ByteArray, ∀ s29 : Nat → Int → Int → Int → Int → (Int × List Int) → List Int → Option ByteArray, ∀ s73 : Nat → ByteArray → Int → List Int → Option ByteArray, (∀ m x1 x6 x2 x5, s13 (m + 1) x1 x6 x2 x5 = S_ref04_Format_13 (s13 m) (s29 m) (s73 m) x1 x6 x2 x5) → (∀ m x1 x6 x7 x8 x2 x5, s29 (m + 1) x1 x6 x7 x8 x2 x5 = S_ref04_Format_29 (s13 m) (s29 m) (s73 m) x1 x6 x7 x8 x2 x5) → (∀ m x10 x11 x5, s73 (m + 1) x10 x11 x5 = S_ref04_Format_73 (s13 m) (s29 m) (s73 m) x10 x11 x5) → ∀ a0 : Int × List Int, ∀ a1 : Int, Ok (F_ref04_Format a0 a1) (fun m => T_ref04_Format (s13 m) (s29 m) (s73 m) a0 a1)

/-! cylinder/cylinderref05.Format -/
end
end Go.W

set_option linter.unusedVariables false
set_option linter.unusedSimpArgs false
namespace Go.W

/-! ### Numbers by their values -/
/-- a has the value r, of at most k bits -/
def QV (k : Nat) (a : NQ) (r : Rat) : Prop := QQ a ∧ rv a = r ∧ QB k r
/-- the reference's q has the value r, of at most k bits -/
def QR (k : Nat) (q : FQ) (r : Rat) : Prop := RQ k q ∧ qv q = r
theorem QV.dr {k : Nat} {r : Rat} (h : QB k r) (hk : k ≤ 33554432) : QV k (Go.W.dr r) r := ⟨QQ.dr h hk, rv_dr r, h⟩
theorem QV.of {a : NQ} (h : QQ a) {m : Nat} (h1 : a.1.2.length ≤ m) (h2 : a.2.length ≤ m) (hm : 1 ≤ m) : QV (32 * m) a (rv a) := ⟨h, rfl, QB.rv' h h1 h2 hm⟩

theorem V.add {j k : Nat} {a b : NQ} {r s : Rat} (ha : QV j a r) (hb : QV k b s) : F_rational_Add a b = some (dr (r + s)) := by rw [F_rational_Add, gif_pos ⟨ha.1, hb.1⟩, ha.2.1, hb.2.1]
theorem V.sub {j k : Nat} {a b : NQ} {r s : Rat} (ha : QV j a r) (hb : QV k b s) : F_rational_Sub a b = some (dr (r - s)) := by rw [F_rational_Sub, gif_pos ⟨ha.1, hb.1⟩, ha.2.1, hb.2.1]
theorem V.mul {j k : Nat} {a b : NQ} {r s : Rat} (ha : QV j a r) (hb : QV k b s) : F_rational_Mul a b = some (dr (r * s)) := by rw [F_rational_Mul, gif_pos ⟨ha.1, hb.1⟩, ha.2.1, hb.2.1]
theorem V.quo {j k : Nat} {a b : NQ} {r s : Rat} (ha : QV j a r) (hb : QV k b s) : F_rational_Quo a b = some (if s = 0 then (zQ, 2) else (dr (r / s), 0)) := by rw [F_rational_Quo, gif_pos ⟨ha.1, hb.1⟩, ha.2.1, hb.2.1]
theorem V.neg {j : Nat} {a : NQ} {r : Rat} (ha : QV j a r) : F_rational_Neg a = some (dr (-r)) := by rw [F_rational_Neg, gif_pos ha.1, ha.2.1]
theorem V.normal {j : Nat} {a : NQ} {r : Rat} (ha : QV j a r) : F_rational_Normal a = some (dr r) := by rw [F_rational_Normal, gif_pos ha.1, ha.2.1]
theorem V.sign {j : Nat} {a : NQ} {r : Rat} (ha : QV j a r) : F_rational_Sign a = some (rsg r) := by rw [F_rational_Sign, gif_pos ha.1, ha.2.1]
theorem V.floor {j : Nat} {a : NQ} {r : Rat} (ha : QV j a r) : F_rational_Floor a = some (di r.floor) := by rw [F_rational_Floor, gif_pos ha.1, ha.2.1]
theorem V.same {j k : Nat} {a b : NQ} {r s : Rat} (ha : QV j a r) (hb : QV k b s) : F_law05_same a b = some (decide (r = s)) := by rw [F_law05_same, gif_pos ⟨ha.1, hb.1⟩, ha.2.1, hb.2.1]

theorem R.of {a : NQ} (h : QQ a) {m : Nat} (h1 : a.1.2.length ≤ m) (h2 : a.2.length ≤ m) (hm : 1 ≤ m) : ∃ q, F_law05_of a = some q ∧ QR (32 * m) q (rv a) :=
  ⟨_, by rw [F_law05_of, gif_pos h], of_rq h h1 h2 hm, of_v a⟩
theorem RQ.pos {k : Nat} {q : FQ} (h : RQ k q) : 0 < qd q := h.2.2.2
theorem RQ.k {k : Nat} {q : FQ} (h : RQ k q) (hk : k ≤ 1000000000) : RQ RK q := h.mono (by rw [RK_le]; exact hk)
theorem R.add {j k : Nat} {a b : FQ} {r s : Rat} (ha : QR j a r) (hb : QR k b s) (hj : j ≤ 1000000000 ∧ k ≤ 1000000000) : ∃ q, F_ref05_Add a b = some q ∧ QR (j + k + 1) q (r + s) := by
  refine ⟨_, by rw [F_ref05_Add, gif_pos ⟨ha.1.k hj.1, hb.1.k hj.2⟩], RQ.mq ?_ ?_ (Int.mul_pos ha.1.pos hb.1.pos), ?_⟩
  · exact (((ha.1.2.1).ab_mul (by rw [ab_pos (Int.le_of_lt hb.1.pos)]; exact hb.1.2.2.1)).ab_add ((hb.1.2.1).ab_mul (by rw [ab_pos (Int.le_of_lt ha.1.pos)]; exact ha.1.2.2.1))).mono (by omega)
  · exact (ha.1.2.2.1.mul hb.1.2.2.1).mono (by omega)
  · rw [qv_mq, ← ha.2, ← hb.2]
    exact (Rat.divInt_add_divInt _ _ (by have := ha.1.pos; omega) (by have := hb.1.pos; omega)).symm
theorem R.mul {j k : Nat} {a b : FQ} {r s : Rat} (ha : QR j a r) (hb : QR k b s) (hj : j ≤ 1000000000 ∧ k ≤ 1000000000) : ∃ q, F_ref05_Mul a b = some q ∧ QR (j + k) q (r * s) := by
  refine ⟨_, by rw [F_ref05_Mul, gif_pos ⟨ha.1.k hj.1, hb.1.k hj.2⟩], RQ.mq (ha.1.2.1.ab_mul hb.1.2.1) (ha.1.2.2.1.mul hb.1.2.2.1) (Int.mul_pos ha.1.pos hb.1.pos), ?_⟩
  rw [qv_mq, ← ha.2, ← hb.2]
  exact (Rat.divInt_mul_divInt _ _).symm
theorem R.neg {j : Nat} {a : FQ} {r : Rat} (ha : QR j a r) (hj : j ≤ 1000000000) : ∃ q, F_ref05_Neg a = some q ∧ QR j q (-r) := by
  refine ⟨_, by rw [F_ref05_Neg, gif_pos (ha.1.k hj)], RQ.mq (by rw [ab_neg]; exact ha.1.2.1) ha.1.2.2.1 ha.1.pos, ?_⟩
  rw [qv_mq, ← ha.2]
  exact (Rat.neg_divInt _ _).symm
theorem QR.zero {j : Nat} {a : FQ} {r : Rat} (ha : QR j a r) : qn a = 0 ↔ r = 0 := by
  rw [← ha.2]; exact (divInt_eq0 ha.1.pos).symm
theorem R.quo {j k : Nat} {a b : FQ} {r s : Rat} (ha : QR j a r) (hb : QR k b s) (hj : j ≤ 1000000000 ∧ k ≤ 1000000000) (h0 : s ≠ 0) : ∃ q, F_ref05_Quo a b = some q ∧ QR (j + k) q (r / s) := by
  have hn : qn b ≠ 0 := fun h => h0 (hb.zero.1 h)
  have e : r / s = Rat.divInt (qn a * qd b) (qd a * qn b) := by
    rw [← ha.2, ← hb.2, Rat.div_def]
    unfold qv
    rw [Rat.inv_divInt, Rat.divInt_mul_divInt]
  have b1 : Bd (j + k) (ab (qn a * qd b)) := (ha.1.2.1).ab_mul (by rw [ab_pos (Int.le_of_lt hb.1.pos)]; exact hb.1.2.2.1)
  have b2 : Bd (j + k) (ab (qd a * qn b)) := by
    have := (show Bd j (ab (qd a)) by rw [ab_pos (Int.le_of_lt ha.1.pos)]; exact ha.1.2.2.1).ab_mul hb.1.2.1
    exact this
  refine ⟨_, by rw [F_ref05_Quo, gif_pos ⟨ha.1.k hj.1, hb.1.k hj.2, hn⟩], ?_⟩
  by_cases h1 : qn b < 0
  · have h2 : qd a * qn b < 0 := Int.mul_neg_of_pos_of_neg ha.1.pos h1
    rw [if_pos h1]
    refine ⟨RQ.mq (by rw [ab_neg]; exact b1) ?_ (by omega), ?_⟩
    · rw [show ab (qd a * qn b) = -(qd a * qn b) by unfold ab; rw [if_pos h2]] at b2; exact b2
    · rw [qv_mq, Rat.neg_divInt_neg, e]
  · have h2 : 0 < qd a * qn b := Int.mul_pos ha.1.pos (by omega)
    rw [if_neg h1]
    refine ⟨RQ.mq b1 ?_ h2, ?_⟩
    · rw [ab_pos (Int.le_of_lt h2)] at b2; exact b2
    · rw [qv_mq, e]
theorem R.is {j : Nat} {q : FQ} {r : Rat} (h : QR j q r) (hj : j ≤ 1000000000) (a : NQ) : F_law05_is a q = some (decide (a = dr r)) := by rw [F_law05_is, gif_pos (h.1.k hj), h.2]
theorem R.floor {j : Nat} {a : FQ} {r : Rat} (ha : QR j a r) (hj : j ≤ 1000000000) : F_ref05_Floor a = some (dz r.floor) := by
  rw [F_ref05_Floor, gif_pos (ha.1.k hj), ha.2]
theorem QR.sign {j : Nat} {a : FQ} {r : Rat} (ha : QR j a r) : a.1.1 = rsg r := by
  have e : a.1 = dz (qn a) := congrArg Prod.fst ha.1.1
  rw [e, ← ha.2]
  exact (rsg_div ha.1.pos).symm
theorem small_some {n : Int} (h : -9223372036854775807 ≤ n ∧ n ≤ 9223372036854775807) : F_ref02_Small n = some (dz n) := gif_pos h
theorem awake_some : F_law05_awake = some true := gif_pos trivial
end Go.W

set_option linter.unusedVariables false
set_option linter.unusedSimpArgs false
namespace Go.W

/-! ### the reference's text -/
def gz (n : Int) : List Int := if n = 0 then [0] else gd 10 n
def dbl : List Int → Int → List Int
  | [], c => if c > 0 then [c] else []
  | d :: l, c => ((2 * d + c) % 10) :: dbl l ((2 * d + c) / 10)
theorem dbl_gd : ∀ (k : Nat) (n c : Int), n.toNat ≤ k → 0 ≤ n → 0 ≤ c → c ≤ 1 → dbl (gd 10 n) c = gd 10 (2 * n + c)
  | 0, n, c, hk, h0, c0, c1 => by
    obtain rfl : n = 0 := by omega
    rw [gd_zero]
    by_cases h : c = 0
    · subst h; simp [dbl, gd_zero]
    · obtain rfl : c = 1 := by omega
      rw [gd_pos (by decide) (by decide), show (2 * (0 : Int) + 1) / 10 = 0 by decide, gd_zero]; rfl
  | k + 1, n, c, hk, h0, c0, c1 => by
    by_cases hn : n = 0
    · exact dbl_gd 0 n c (by omega) h0 c0 c1
    · rw [gd_pos (by decide) (show 0 < n by omega), gd_pos (by decide) (show 0 < 2 * n + c by omega), dbl, dbl_gd k (n / 10) ((2 * (n % 10) + c) / 10) (by omega) (by omega) (by omega) (by omega)]
      rw [show (2 * (n % 10) + c) % 10 = (2 * n + c) % 10 by omega, show 2 * (n / 10) + (2 * (n % 10) + c) / 10 = (2 * n + c) / 10 by omega]
theorem dbl_gz {n c : Int} (h0 : 0 ≤ n) (c0 : 0 ≤ c) (c1 : c ≤ 1) : dbl (gz n) c = gz (2 * n + c) := by
  unfold gz
  by_cases hn : n = 0
  · subst hn
    rw [if_pos rfl]
    by_cases h : c = 0
    · subst h; simp [dbl]
    · obtain rfl : c = 1 := by omega
      rw [if_neg (by decide), gd_pos (by decide) (by decide), show (2 * (0 : Int) + 1) / 10 = 0 by decide, gd_zero]; rfl
  · rw [if_neg hn, if_neg (by omega), dbl_gd n.toNat n c (Nat.le_refl _) h0 c0 c1]
theorem gz_DV {n : Int} : ∀ d ∈ gz n, 0 ≤ d ∧ d < 10 := by
  unfold gz; split
  · intro d hd; simp at hd; omega
  · exact gd_DV (by decide) n
theorem gz_len {k : Nat} {n : Int} (h : Bd k n) : (gz n).length ≤ k + 1 := by
  unfold gz; split
  · simp
  · exact gd10_len h
theorem digit_text : ∀ d : Fin 10, ByteArray.extract (ByteArray.mk #[48, 49, 50, 51, 52, 53, 54, 55, 56, 57, 97, 98, 99, 100, 101, 102, 103, 104, 105, 106, 107, 108, 109, 110, 111, 112, 113, 114, 115, 116, 117, 118, 119, 120, 121, 122]) d.val (d.val + 1) = ofB [48 + (d.val : Int)] := by decide +kernel
theorem ofB_append (a b : List Int) : ofB (a ++ b) = ofB a ++ ofB b := by
  unfold ofB
  apply ByteArray.ext
  simp

theorem Rn_ref04_Format : Run_ref04_Format := fun s1 s2 s3 k1 k2 k3 z b => Ok.gif fun ⟨hz, hb, e10⟩ => by
  subst e10
  have l29 : ∀ (rest pre : List Int) (c x6 : Int) (R : ByteArray), (∀ d ∈ rest, 0 ≤ d ∧ d < 10) → 0 ≤ c → c ≤ 1 → pre.length + rest.length ≤ 2000000000 → 0 ≤ x6 → x6 ≤ 2000000000 →
      Ev (fun m => s1 m 10 (x6 - 1) z (pre ++ dbl rest c)) R → Ev (fun m => s2 m 10 x6 c (pre.length : Int) z (pre ++ rest)) R := by
    intro rest
    induction rest with
    | nil =>
      intro pre c x6 R hd c0 c1 hl h0 h1 hR
      refine Ev.step (fun m => ?_) hR
      rw [k2]; unfold S_ref04_Format_29
      rw [List.append_nil, if_neg (by rw [decide_eq_true_eq]; omega), i64w (by omega) (by omega)]
      unfold dbl
      by_cases hc : c > 0
      · rw [if_pos (decide_eq_true hc), if_pos (by simp at hl ⊢; omega), if_pos hc]
      · rw [if_neg (by rw [decide_eq_true_eq]; exact hc), if_neg hc, List.append_nil]
    | cons d rest ih =>
      intro pre c x6 R hd c0 c1 hl h0 h1 hR
      obtain ⟨d0, d1⟩ := hd d (by simp)
      rw [List.length_cons] at hl
      have hlen : (pre ++ d :: rest).length = pre.length + rest.length + 1 := by simp; omega
      have hg : List.getD (pre ++ d :: rest) (Int.toNat (pre.length : Int)) 0 = d := by simp [List.getD]
      have hs : ∀ v : Int, List.set (pre ++ d :: rest) (Int.toNat (pre.length : Int)) v = (pre ++ [v]) ++ rest := fun v => by simp
      have hr : (0 : Int) ≤ (pre.length : Int) ∧ (pre.length : Int) < ((pre ++ d :: rest).length : Int) := by rw [hlen]; omega
      have := ih (pre ++ [(2 * d + c) % 10]) ((2 * d + c) / 10) x6 R (fun x hx => hd x (List.mem_cons_of_mem _ hx)) (by omega) (by omega) (by simp; omega) h0 h1 (by
        unfold dbl at hR; simpa using hR)
      refine Ev.step (fun m => ?_) this
      rw [k2]; unfold S_ref04_Format_29
      rw [if_pos (by rw [decide_eq_true_eq]; exact hr.2), if_pos hr]
      simp only [hg, hs]
      rw [if_neg (by decide), if_pos hr, if_neg (by decide), i64w (n := 2 * d) (by omega) (by omega), i64w (n := 2 * d + c) (by omega) (by omega), Int.tmod_eq_emod_of_nonneg (by omega), Int.tdiv_eq_ediv_of_nonneg (by omega), i64w (by omega) (by omega), i64w (by omega) (by omega)]
      rw [List.length_append]; rfl
  have l73 : ∀ (l : List Int), (∀ d ∈ l, 0 ≤ d ∧ d < 10) → l.length ≤ 2000000000 → ∀ (i : Nat) (acc : ByteArray), i ≤ l.length → ByteArray.size acc + i ≤ 4000000000 → Ev (fun m => s3 m acc ((i : Int) - 1) l) (acc ++ ofB ((l.take i).map fun d => 48 + d).reverse) := by
    intro l hd hl i
    induction i with
    | zero =>
      intro acc _ _
      refine Ev.step (t := fun _ => some acc) (fun m => ?_) ?_
      · rw [k3]; unfold S_ref04_Format_73
        rw [if_neg (by rw [decide_eq_true_eq]; omega)]
      · have e : acc ++ ofB ((l.take 0).map fun d => 48 + d).reverse = acc := by
          apply ByteArray.ext; simp [ofB]
        rw [e]; exact Ev.ret
    | succ i ih =>
      intro acc hi hs
      have hil : i < l.length := by omega
      obtain ⟨d0, d1⟩ := hd l[i] (List.getElem_mem hil)
      have hg : List.getD l (Int.toNat (((i + 1 : Nat) : Int) - 1)) 0 = l[i] := by
        rw [show Int.toNat (((i + 1 : Nat) : Int) - 1) = i by omega]; simp [List.getD, hil]
      have hx : ByteArray.extract (ByteArray.mk #[48, 49, 50, 51, 52, 53, 54, 55, 56, 57, 97, 98, 99, 100, 101, 102, 103, 104, 105, 106, 107, 108, 109, 110, 111, 112, 113, 114, 115, 116, 117, 118, 119, 120, 121, 122]) (Int.toNat l[i]) (Int.toNat (l[i] + 1)) = ofB [48 + l[i]] := by
        have := digit_text ⟨l[i].toNat, by omega⟩
        simp only at this
        rw [show Int.toNat (l[i] + 1) = l[i].toNat + 1 by omega, this, show ((l[i].toNat : Nat) : Int) = l[i] by omega]
      have h1 : ByteArray.size (ofB [48 + l[i]]) = 1 := ofB_size _
      have := ih (acc ++ ofB [48 + l[i]]) (by omega) (by rw [ByteArray.size_append, h1]; omega)
      have e : acc ++ ofB [48 + l[i]] ++ ofB ((l.take i).map fun d => 48 + d).reverse = acc ++ ofB ((l.take (i + 1)).map fun d => 48 + d).reverse := by
        rw [List.take_add_one, List.getElem?_eq_getElem hil, List.map_append, List.reverse_append]
        rw [ByteArray.append_assoc, ← ofB_append]; rfl
      rw [e] at this
      refine Ev.step (fun m => ?_) this
      rw [k3]; unfold S_ref04_Format_73
      rw [if_pos (by rw [decide_eq_true_eq]; omega), if_pos (by omega), if_pos (by omega)]
      simp only [hg]
      have ht : ByteArray.size (ByteArray.mk #[48, 49, 50, 51, 52, 53, 54, 55, 56, 57, 97, 98, 99, 100, 101, 102, 103, 104, 105, 106, 107, 108, 109, 110, 111, 112, 113, 114, 115, 116, 117, 118, 119, 120, 121, 122]) = 36 := rfl
      rw [i64w (n := l[i] + 1) (by omega) (by omega), ht, if_pos (by omega), hx, h1, if_pos (by omega), i64w (by omega) (by omega), show (((i + 1 : Nat) : Int) - 1 - 1) = (i : Int) - 1 by omega]
  have hbb := hz.bb
  have hbits := hz.bits
  have hsgn := hz.sign
  have hl2 : z.2.length ≤ 1000000000 := by
    have e : z.2 = bd (ab (zv z)) := by have := congrArg Prod.snd hz.2; exact this
    rw [e]; exact gd_len (by decide) _ _ hb.2
  have hDV : ∀ d ∈ z.2, 0 ≤ d ∧ d < 2 := hbb.1
  have hnn : ∀ i, 0 ≤ bv (z.2.drop i) := fun i => gv_nonneg (by decide) (fun d hd => hDV d (List.mem_of_mem_drop hd))
  have hbd : ∀ i, Bd 1000000000 (bv (z.2.drop i)) := fun i => ⟨hnn i, by
    have h1 := gv_lt (B := 2) (by decide) (a := z.2.drop i) (fun d hd => hDV d (List.mem_of_mem_drop hd))
    have h2 : (2 : Int) ^ (z.2.drop i).length ≤ 2 ^ 1000000000 := two_pow_le (by simp; omega)
    exact Int.lt_of_lt_of_le h1 h2⟩
  have l13 : ∀ (R : ByteArray), Ev (fun m => s1 m 10 (-1) z (gz (bv z.2))) R → ∀ i : Nat, i ≤ z.2.length → Ev (fun m => s1 m 10 ((i : Int) - 1) z (gz (bv (z.2.drop i)))) R := by
    intro R hR i
    induction i with
    | zero => intro _; exact hR
    | succ i ih =>
      intro hi
      have hil : i < z.2.length := by omega
      obtain ⟨d0, d1⟩ := hDV z.2[i] (List.getElem_mem hil)
      have hg : List.getD z.2 (Int.toNat (((i + 1 : Nat) : Int) - 1)) 0 = z.2[i] := by
        rw [show Int.toNat (((i + 1 : Nat) : Int) - 1) = i by omega]; simp [List.getD, hil]
      have hcons : bv (z.2.drop i) = 2 * bv (z.2.drop (i + 1)) + z.2[i] := by
        rw [List.drop_eq_getElem_cons hil]
        show z.2[i] + 2 * bv (z.2.drop (i + 1)) = _
        omega
      have hl := gz_len (hbd (i + 1))
      have := l29 (gz (bv (z.2.drop (i + 1)))) [] z.2[i] (i : Int) R gz_DV d0 (by omega) (by simp; omega) (by omega) (by omega) (by
        rw [List.nil_append, dbl_gz (hnn (i + 1)) d0 (by omega), ← hcons]; exact ih (by omega))
      refine Ev.step (fun m => ?_) this
      rw [k1]; unfold S_ref04_Format_13
      rw [if_pos (by rw [decide_eq_true_eq]; omega), if_pos (by omega), hg]
      rw [show (((i + 1 : Nat) : Int) - 1) = (i : Int) by omega]
      rfl
  have hgl := gz_len (hbd 0)
  rw [List.drop_zero] at hgl
  have fin : Ev (fun m => s1 m 10 (-1) z (gz (bv z.2))) (decS (zv z)) := by
    have tk : (gz (bv z.2)).take (gz (bv z.2)).length = gz (bv z.2) := List.take_length
    by_cases hneg : z.1 < 0
    · have := l73 (gz (bv z.2)) gz_DV (by omega) (gz (bv z.2)).length (ByteArray.mk #[45]) (Nat.le_refl _) (by show 1 + _ ≤ _; omega)
      rw [tk] at this
      have hv : zv z < 0 := by rw [hsgn] at hneg; exact sg_lt0.1 hneg
      have e : decS (zv z) = ByteArray.mk #[45] ++ ofB ((gz (bv z.2)).map fun d => 48 + d).reverse := by
        unfold decS decL gz
        rw [if_neg (by omega), if_pos hv, hbits, if_neg (by unfold ab; split <;> omega), ofB_append]
        rfl
      rw [e]
      refine Ev.step (fun m => ?_) this
      rw [k1]; unfold S_ref04_Format_13
      rw [if_neg (by decide), if_pos (decide_eq_true hneg), i64w (by omega) (by omega)]
    · have := l73 (gz (bv z.2)) gz_DV (by omega) (gz (bv z.2)).length (ByteArray.mk #[]) (Nat.le_refl _) (by show 0 + _ ≤ _; omega)
      rw [tk] at this
      have hv : ¬ zv z < 0 := by rw [hsgn] at hneg; exact fun h => hneg (sg_lt0.2 h)
      have e : decS (zv z) = ByteArray.mk #[] ++ ofB ((gz (bv z.2)).map fun d => 48 + d).reverse := by
        have e0 : ∀ x : ByteArray, ByteArray.mk #[] ++ x = x := fun x => by apply ByteArray.ext; simp
        rw [e0]
        unfold decS decL gz
        rw [hbits]
        by_cases h0 : zv z = 0
        · rw [if_pos h0, h0]; rfl
        · rw [if_neg h0, if_neg hv, if_neg (by unfold ab; split <;> omega)]; rfl
      rw [e]
      refine Ev.step (fun m => ?_) this
      rw [k1]; unfold S_ref04_Format_13
      rw [if_neg (by decide), if_neg (by rw [decide_eq_true_eq]; exact hneg), i64w (by omega) (by omega)]
  have := l13 _ fin z.2.length (Nat.le_refl _)
  simp only [T_ref04_Format]
  refine Ev.congr (fun m => ?_) this
  rw [i64w (by omega) (by omega), List.drop_length]
  rfl
end Go.W

set_option linter.unusedVariables false
set_option linter.unusedSimpArgs false
namespace Go.W

end Go.W

set_option linter.unusedVariables false
set_option linter.unusedSimpArgs false
namespace Go.W

/-! ### reading decimal digits -/
end Go.W

set_option linter.unusedVariables false
set_option linter.unusedSimpArgs false
namespace Go.W

end Go.W

set_option linter.unusedVariables false
set_option linter.unusedSimpArgs false
namespace Go.W

end Go.W

set_option linter.unusedVariables false
set_option linter.unusedSimpArgs false
namespace Go.W

end Go.W

set_option linter.unusedVariables false
set_option linter.unusedSimpArgs false
namespace Go.W

theorem divInt_i (n : Int) : Rat.divInt n 1 = (n : Rat) := by
  have := Rat.num_divInt_den (n : Rat)
  rw [Rat.num_intCast, Rat.den_intCast] at this
  exact this
end Go.W

set_option linter.unusedVariables false
namespace Go.W
/-! ### the simplest number between two -/
def Simp (a b q : Rat) : Prop := a < q ∧ q < b ∧ ∀ r : Rat, a < r → r < b → q.num ≤ r.num ∧ q.den ≤ r.den
open Classical in
noncomputable def simp (a b : Rat) : Rat := if h : ∃ q, Simp a b q then h.choose else 0
def Q10 (a : NQ) : Prop := QQ a ∧ QB 10000 (rv a)
def zerosB (n : Nat) : ByteArray := ByteArray.mk (List.replicate n 48).toArray
noncomputable def F_strings_Repeat (s : ByteArray) (n : Int) : Option ByteArray := gif (s = ByteArray.mk #[48] ∧ 0 ≤ n ∧ n ≤ 100000) (zerosB n.toNat)
/-- the absolute value, times the power of ten, plus 1/2, rounded down -/
def decQ (r : Rat) (p : Nat) : Int := ((if r < 0 then -r else r) * (10 : Rat) ^ p + 1 / 2).floor
def decPad (s : ByteArray) (p : Nat) : ByteArray := if ByteArray.size s ≤ p then zerosB (p + 1 - ByteArray.size s) ++ s else s
def decDot (s : ByteArray) (p : Nat) : ByteArray := if 0 < p then (ByteArray.extract s 0 (ByteArray.size s - p) ++ (ByteArray.mk #[46])) ++ ByteArray.extract s (ByteArray.size s - p) (ByteArray.size s) else s
def decD (r : Rat) (p : Nat) : ByteArray := if r < 0 ∧ decQ r p ≠ 0 then (ByteArray.mk #[45]) ++ decDot (decPad (decS (decQ r p)) p) p else decDot (decPad (decS (decQ r p)) p) p
noncomputable def F_rational_Decimal (a : NQ) (p : Int) : Option (ByteArray × Int) := gif (Q10 a ∧ -9223372036854775808 ≤ p ∧ p ≤ 9223372036854775807) (if p < 0 ∨ 1000 < p then (ByteArray.mk #[], 1) else (decD (rv a) p.toNat, 0))
noncomputable def F_ref05_Decimal (a : FQ) (p : Int) : Option ByteArray := gif (RQ 10000 a ∧ 0 ≤ p ∧ p ≤ 1000) (decD (qv a) p.toNat)
noncomputable def F_law05_RationalDecimals (a : NQ) (p : Int) : Option Bool := gif (DR a ∧ -9223372036854775808 ≤ p ∧ p ≤ 9223372036854775807) true
end Go.W

set_option linter.unusedVariables false
namespace Go.W
noncomputable section

/-! cylinder/rational.within -/
def T_rational_Decimal (s8 : Int → Bool → ((Bool × List Int) × List Int) → Option ((ByteArray × Int))) (s40 : Int → ByteArray → (Bool × List Int) → (Bool × List Int) → Option ((ByteArray × Int))) (s48 : ByteArray → (Bool × List Int) → (Bool × List Int) → Option ((ByteArray × Int))) (a0 : (Bool × List Int) × List Int) (a1 : Int) : Option (ByteArray × Int) :=
  if (decide (a1 < (0 : Int))) = true then
    s8 a1 true a0
  else
    s8 a1 (decide (a1 > (1000 : Int))) a0
def S_rational_Decimal_8 (s8 : Int → Bool → ((Bool × List Int) × List Int) → Option ((ByteArray × Int))) (s40 : Int → ByteArray → (Bool × List Int) → (Bool × List Int) → Option ((ByteArray × Int))) (s48 : ByteArray → (Bool × List Int) → (Bool × List Int) → Option ((ByteArray × Int))) (x1 : Int) (x20 : Bool) (x2 : (Bool × List Int) × List Int) : Option (ByteArray × Int) :=
  if x20 = true then
    some ((ByteArray.mk #[]), (1 : Int))
  else
    (F_rational_parts x2).bind fun r1 =>
    (F_integer_Of (10 : Int)).bind fun r2 =>
    (F_integer_Pow r2 x1).bind fun r3 =>
    (F_integer_Abs r1.1).bind fun r4 =>
    (F_integer_Mul r4 r3.1).bind fun r5 =>
    (F_integer_Shl r5 (1 : Int)).bind fun r6 =>
    (F_integer_Add r6 r1.2).bind fun r7 =>
    (F_integer_Shl r1.2 (1 : Int)).bind fun r8 =>
    (F_division_Floor r7 r8).bind fun r9 =>
    (F_decimal_Format r9.1).bind fun r10 =>
    if (decide ((ByteArray.size r10 : Int) ≤ x1)) = true then
      let v11 : Int := (IntKind.wrap .i64 ((IntKind.wrap .i64 (x1 + (1 : Int))) - (ByteArray.size r10 : Int)))
      (F_strings_Repeat (ByteArray.mk #[48]) v11).bind fun r12 =>
      if ByteArray.size r12 + ByteArray.size r10 ≤ 9223372036854775807 then
        s40 x1 (r12 ++ r10) r1.1 r9.1
      else none
    else
      s40 x1 r10 r1.1 r9.1
def S_rational_Decimal_40 (s8 : Int → Bool → ((Bool × List Int) × List Int) → Option ((ByteArray × Int))) (s40 : Int → ByteArray → (Bool × List Int) → (Bool × List Int) → Option ((ByteArray × Int))) (s48 : ByteArray → (Bool × List Int) → (Bool × List Int) → Option ((ByteArray × Int))) (x1 : Int) (x14 : ByteArray) (x6 : Bool × List Int) (x11 : Bool × List Int) : Option (ByteArray × Int) :=
  if (decide (x1 > (0 : Int))) = true then
    if 0 ≤ (IntKind.wrap .i64 ((ByteArray.size x14 : Int) - x1)) ∧ (IntKind.wrap .i64 ((ByteArray.size x14 : Int) - x1)) ≤ (ByteArray.size x14 : Int) then
      let v1 : ByteArray := (ByteArray.extract x14 0 (Int.toNat (IntKind.wrap .i64 ((ByteArray.size x14 : Int) - x1))))
      if ByteArray.size v1 + ByteArray.size (ByteArray.mk #[46]) ≤ 9223372036854775807 then
        if 0 ≤ (IntKind.wrap .i64 ((ByteArray.size x14 : Int) - x1)) ∧ (IntKind.wrap .i64 ((ByteArray.size x14 : Int) - x1)) ≤ (ByteArray.size x14 : Int) then
          let v2 : ByteArray := (ByteArray.extract x14 (Int.toNat (IntKind.wrap .i64 ((ByteArray.size x14 : Int) - x1))) (ByteArray.size x14))
          if ByteArray.size (v1 ++ (ByteArray.mk #[46])) + ByteArray.size v2 ≤ 9223372036854775807 then
            s48 ((v1 ++ (ByteArray.mk #[46])) ++ v2) x6 x11
          else none
        else none
      else none
    else none
  else
    s48 x14 x6 x11
def S_rational_Decimal_48 (s8 : Int → Bool → ((Bool × List Int) × List Int) → Option ((ByteArray × Int))) (s40 : Int → ByteArray → (Bool × List Int) → (Bool × List Int) → Option ((ByteArray × Int))) (s48 : ByteArray → (Bool × List Int) → (Bool × List Int) → Option ((ByteArray × Int))) (x14 : ByteArray) (x6 : Bool × List Int) (x11 : Bool × List Int) : Option (ByteArray × Int) :=
  (F_integer_Sign x6).bind fun r1 =>
  if (decide (r1 < (0 : Int))) = true then
    (F_integer_Sign x11).bind fun r2 =>
    if (r2 != (0 : Int)) = true then
      if ByteArray.size (ByteArray.mk #[45]) + ByteArray.size x14 ≤ 9223372036854775807 then
        some (((ByteArray.mk #[45]) ++ x14), (0 : Int))
      else none
    else
      some (x14, (0 : Int))
  else
    some (x14, (0 : Int))
def Run_rational_Decimal : Prop := ∀ s8 : Nat → Int → Bool → ((Bool × List Int) × List Int) → Option ((ByteArray × Int)), ∀ s40 : Nat → Int → ByteArray → (Bool × List Int) → (Bool × List Int) → Option ((ByteArray × Int)), ∀ s48 : Nat → ByteArray → (Bool × List Int) → (Bool × List Int) → Option ((ByteArray × Int)), (∀ m x1 x20 x2, s8 (m + 1) x1 x20 x2 = S_rational_Decimal_8 (s8 m) (s40 m) (s48 m) x1 x20 x2) → (∀ m x1 x14 x6 x11, s40 (m + 1) x1 x14 x6 x11 = S_rational_Decimal_40 (s8 m) (s40 m) (s48 m) x1 x14 x6 x11) → (∀ m x14 x6 x11, s48 (m + 1) x14 x6 x11 = S_rational_Decimal_48 (s8 m) (s40 m) (s48 m) x14 x6 x11) → ∀ a0 : (Bool × List Int) × List Int, ∀ a1 : Int, Ok (F_rational_Decimal a0 a1) (fun m => T_rational_Decimal (s8 m) (s40 m) (s48 m) a0 a1)

/-! cylinder/cylinderref05.Decimal -/
def T_ref05_Decimal (s37 : Int → ByteArray → ((Int × List Int) × Int × List Int) → (Int × List Int) → Option ByteArray) (s56 : ByteArray → Bool → Option ByteArray) (a0 : (Int × List Int) × Int × List Int) (a1 : Int) : Option ByteArray :=
  if (decide (a0.1.1 < (0 : Int))) = true then
    (F_ref05_Neg a0).bind fun r1 =>
    (F_ref02_Small (10 : Int)).bind fun r2 =>
    (F_ref03_Pow r2 a1).bind fun r3 =>
    (F_ref02_Mul r1.1 r3).bind fun r4 =>
    (F_ref02_Small (1 : Int)).bind fun r5 =>
    (F_ref02_Small (2 : Int)).bind fun r6 =>
    (F_ref05_Add (r4, r1.2) (r5, r6)).bind fun r7 =>
    (F_ref05_Floor r7).bind fun r8 =>
    (F_ref04_Format r8 (10 : Int)).bind fun r9 =>
    s37 a1 r9 a0 r8
  else
    (F_ref02_Small (10 : Int)).bind fun r10 =>
    (F_ref03_Pow r10 a1).bind fun r11 =>
    (F_ref02_Mul a0.1 r11).bind fun r12 =>
    (F_ref02_Small (1 : Int)).bind fun r13 =>
    (F_ref02_Small (2 : Int)).bind fun r14 =>
    (F_ref05_Add (r12, a0.2) (r13, r14)).bind fun r15 =>
    (F_ref05_Floor r15).bind fun r16 =>
    (F_ref04_Format r16 (10 : Int)).bind fun r17 =>
    s37 a1 r17 a0 r16
def S_ref05_Decimal_37 (s37 : Int → ByteArray → ((Int × List Int) × Int × List Int) → (Int × List Int) → Option ByteArray) (s56 : ByteArray → Bool → Option ByteArray) (x1 : Int) (x10 : ByteArray) (x2 : (Int × List Int) × Int × List Int) (x9 : Int × List Int) : Option ByteArray :=
  if (decide ((ByteArray.size x10 : Int) ≤ x1)) = true then
    if ByteArray.size (ByteArray.mk #[48]) + ByteArray.size x10 ≤ 9223372036854775807 then
      s37 x1 ((ByteArray.mk #[48]) ++ x10) x2 x9
    else none
  else
    if (decide (x1 > (0 : Int))) = true then
      if 0 ≤ (IntKind.wrap .i64 ((ByteArray.size x10 : Int) - x1)) ∧ (IntKind.wrap .i64 ((ByteArray.size x10 : Int) - x1)) ≤ (ByteArray.size x10 : Int) then
        let v1 : ByteArray := (ByteArray.extract x10 0 (Int.toNat (IntKind.wrap .i64 ((ByteArray.size x10 : Int) - x1))))
        if ByteArray.size v1 + ByteArray.size (ByteArray.mk #[46]) ≤ 9223372036854775807 then
          if 0 ≤ (IntKind.wrap .i64 ((ByteArray.size x10 : Int) - x1)) ∧ (IntKind.wrap .i64 ((ByteArray.size x10 : Int) - x1)) ≤ (ByteArray.size x10 : Int) then
            let v2 : ByteArray := (ByteArray.extract x10 (Int.toNat (IntKind.wrap .i64 ((ByteArray.size x10 : Int) - x1))) (ByteArray.size x10))
            if ByteArray.size (v1 ++ (ByteArray.mk #[46])) + ByteArray.size v2 ≤ 9223372036854775807 then
              if (decide (x2.1.1 < (0 : Int))) = true then
                s56 ((v1 ++ (ByteArray.mk #[46])) ++ v2) (decide (x9.1 > (0 : Int)))
              else
                s56 ((v1 ++ (ByteArray.mk #[46])) ++ v2) false
            else none
          else none
        else none
      else none
    else
      if (decide (x2.1.1 < (0 : Int))) = true then
        s56 x10 (decide (x9.1 > (0 : Int)))
      else
        s56 x10 false
def S_ref05_Decimal_56 (s37 : Int → ByteArray → ((Int × List Int) × Int × List Int) → (Int × List Int) → Option ByteArray) (s56 : ByteArray → Bool → Option ByteArray) (x10 : ByteArray) (x67 : Bool) : Option ByteArray :=
  if x67 = true then
    if ByteArray.size (ByteArray.mk #[45]) + ByteArray.size x10 ≤ 9223372036854775807 then
      some (((ByteArray.mk #[45]) ++ x10))
    else none
  else
    some x10
def Run_ref05_Decimal : Prop := ∀ s37 : Nat → Int → ByteArray → ((Int × List Int) × Int × List Int) → (Int × List Int) → Option ByteArray, ∀ s56 : Nat → ByteArray → Bool → Option ByteArray, (∀ m x1 x10 x2 x9, s37 (m + 1) x1 x10 x2 x9 = S_ref05_Decimal_37 (s37 m) (s56 m) x1 x10 x2 x9) → (∀ m x10 x67, s56 (m + 1) x10 x67 = S_ref05_Decimal_56 (s37 m) (s56 m) x10 x67) → ∀ a0 : (Int × List Int) × Int × List Int, ∀ a1 : Int, Ok (F_ref05_Decimal a0 a1) (fun m => T_ref05_Decimal (s37 m) (s56 m) a0 a1)

/-! cylinder/cylinderlaw05.RationalDecimals -/
def T_law05_RationalDecimals (s8 : Int → Bool → ((Bool × List Int) × List Int) → Option Bool) (a0 : (Bool × List Int) × List Int) (a1 : Int) : Option Bool :=
  (F_law05_awake).bind fun r1 =>
  if (!r1) = true then
    s8 a1 true a0
  else
    (F_law05_few (4 : Int) a0 a0 a0).bind fun r2 =>
    if (!r2) = true then
      s8 a1 true a0
    else
      if (decide (a1 > (40 : Int))) = true then
        s8 a1 (decide (a1 ≤ (1000 : Int))) a0
      else
        s8 a1 false a0
def S_law05_RationalDecimals_8 (s8 : Int → Bool → ((Bool × List Int) × List Int) → Option Bool) (x1 : Int) (x23 : Bool) (x2 : (Bool × List Int) × List Int) : Option Bool :=
  if x23 = true then
    (F_law05_awake).bind fun r1 =>
    some r1
  else
    (F_rational_Decimal x2 x1).bind fun r2 =>
    if (decide (x1 < (0 : Int))) = true then
      if (r2.2 == (1 : Int)) = true then
        some ((ByteArray.toList r2.1 == ByteArray.toList (ByteArray.mk #[])))
      else
        some false
    else
      if (decide (x1 > (1000 : Int))) = true then
        if (r2.2 == (1 : Int)) = true then
          some ((ByteArray.toList r2.1 == ByteArray.toList (ByteArray.mk #[])))
        else
          some false
      else
        if (r2.2 == (0 : Int)) = true then
          (F_law05_of x2).bind fun r3 =>
          (F_ref05_Decimal r3 x1).bind fun r4 =>
          some ((ByteArray.toList r2.1 == ByteArray.toList r4))
        else
          some false
def Run_law05_RationalDecimals : Prop := ∀ s8 : Nat → Int → Bool → ((Bool × List Int) × List Int) → Option Bool, (∀ m x1 x23 x2, s8 (m + 1) x1 x23 x2 = S_law05_RationalDecimals_8 (s8 m) x1 x23 x2) → ∀ a0 : (Bool × List Int) × List Int, ∀ a1 : Int, Ok (F_law05_RationalDecimals a0 a1) (fun m => T_law05_RationalDecimals (s8 m) a0 a1)
end
end Go.W

set_option linter.unusedVariables false
set_option linter.unusedSimpArgs false
namespace Go.W

/-! ### The simplest number between two -/
theorem num_eq (r : Rat) : (r.num : Rat) = r * ((r.den : Int) : Rat) := by
  have h := QB.as r
  have hd : ((r.den : Int) : Rat) ≠ 0 := by
    rw [Ne, Rat.intCast_eq_zero_iff]; have := r.den_pos; omega
  rw [Rat.divInt_eq_div] at h
  generalize ((r.den : Int) : Rat) = D at *
  generalize (r.num : Rat) = N at *
  grind
theorem den_ge (r : Rat) : (1 : Rat) ≤ ((r.den : Int) : Rat) := by
  have := r.den_pos
  exact Rat.intCast_le_intCast (a := 1) |>.2 (by omega)
theorem add_int (n : Int) (t : Rat) : ((n : Rat) + t).num = n * t.den + t.num ∧ ((n : Rat) + t).den = t.den := by
  have hp := t.den_pos
  have e : (n : Rat) + t = Rat.divInt (n * t.den + t.num) t.den := by
    have h : (n : Rat) = Rat.divInt n 1 := (divInt_i n).symm
    conv => lhs; rw [h, QB.as t]
    rw [Rat.divInt_add_divInt _ _ (by omega) (by omega)]
    congr 1 <;> omega
  have hg : Int.gcd (n * t.den + t.num) (t.den : Int) = 1 := by
    have := t.reduced
    rw [Int.gcd_comm, Int.add_comm]
    have h2 : Int.gcd (t.den : Int) (t.num + n * t.den) = Int.gcd (t.den : Int) t.num := by
      rw [Int.mul_comm]; exact Int.gcd_add_mul_left_right ..
    rw [h2, Int.gcd_comm]
    exact this
  have hn : ((n : Rat) + t).num = n * t.den + t.num := by rw [e, num_div (by omega), hg]; simp
  have hd : (((n : Rat) + t).den : Int) = t.den := by rw [e, den_div (by omega), hg]; simp
  exact ⟨hn, by omega⟩
theorem sub_int (n : Int) (t : Rat) : (t - (n : Rat)).num = t.num - n * t.den ∧ (t - (n : Rat)).den = t.den := by
  have h := add_int (-n) t
  have e : ((-n : Int) : Rat) + t = t - (n : Rat) := by rw [Rat.intCast_neg]; grind
  rw [e] at h
  exact ⟨by rw [h.1, Int.neg_mul]; omega, h.2⟩
theorem num_pos' {t : Rat} : 0 < t ↔ 0 < t.num := by
  have h1 := @Rat.num_nonneg t
  have h2 := @Rat.num_eq_zero t
  constructor
  · intro h
    have : 0 ≤ t.num := h1.2 (Rat.le_of_lt h)
    have h3 : t.num ≠ 0 := fun e => by rw [h2.1 e] at h; exact absurd h Rat.lt_irrefl
    omega
  · intro h
    have : 0 ≤ t := h1.1 (by omega)
    refine Rat.lt_of_le_of_ne this fun e => ?_
    rw [← e] at h; simp at h
theorem inv_parts {t : Rat} (h : 0 < t) : (t⁻¹).num = t.den ∧ ((t⁻¹).den : Int) = t.num := by
  have hp := num_pos'.1 h
  refine ⟨?_, ?_⟩
  · rw [Rat.num_inv, Int.sign_eq_one_of_pos hp, Int.one_mul]
  · rw [Rat.den_inv, if_neg (by omega)]; omega
theorem inv_lt {s t : Rat} (hs : 0 < s) (h : s < t) : t⁻¹ < s⁻¹ := by
  have ht : 0 < t := by grind
  have h1 := Rat.mul_inv_cancel s (by grind)
  have h2 := Rat.mul_inv_cancel t (by grind)
  have p1 := Rat.inv_pos.2 hs
  have p2 := Rat.inv_pos.2 ht
  have h3 := Rat.mul_lt_mul_of_pos_right (Rat.mul_lt_mul_of_pos_right h p1) p2
  generalize s⁻¹ = S at *
  generalize t⁻¹ = T at *
  have e1 : s * S * T = T := by rw [h1, Rat.one_mul]
  have e2 : t * S * T = S := by grind
  rw [e1, e2] at h3
  exact h3
theorem Simp.next {a b : Rat} (ha : 0 ≤ a) (h : ((a.floor + 1 : Int) : Rat) < b) : Simp a b ((a.floor + 1 : Int) : Rat) := by
  refine ⟨Rat.lt_floor_add_one a, h, fun r h1 h2 => ?_⟩
  rw [Rat.num_intCast, Rat.den_intCast]
  refine ⟨?_, r.den_pos⟩
  have hr : 0 < r := by grind
  have hf := Rat.floor_lt_iff (a := a) (x := r.num)
  have : a < (r.num : Rat) := by
    have e := num_eq r
    have d := den_ge r
    have : r * 1 ≤ r * ((r.den : Int) : Rat) := Rat.mul_le_mul_of_nonneg_left d (Rat.le_of_lt hr)
    grind
  have := hf.2 this
  omega
theorem floor_nonneg {a : Rat} (ha : 0 ≤ a) : 0 ≤ a.floor := Rat.le_floor_iff.2 (by simpa using ha)
theorem shift_in {a b r : Rat} (n : Int) (h1 : a < r) (h2 : r < b) : a - (n : Rat) < r - (n : Rat) ∧ r - (n : Rat) < b - (n : Rat) := by constructor <;> grind
theorem Simp.unit {a b : Rat} (ha : 0 ≤ a) (hab : a < b) (hx : a - (a.floor : Rat) = 0) :
    Simp a b ((a.floor : Rat) + ((((b - (a.floor : Rat))⁻¹).floor + 1 : Int) : Rat)⁻¹) := by
  have hn := floor_nonneg ha
  generalize ea : a.floor = n at *
  generalize ey : b - (n : Rat) = y at *
  have hy : 0 < y := by grind
  have hyi := Rat.inv_pos.2 hy
  generalize em : (y⁻¹).floor + 1 = m at *
  have hm1 : 1 ≤ m := by
    have := floor_nonneg (Rat.le_of_lt hyi)
    omega
  have hmr : (0 : Rat) < (m : Rat) := Rat.intCast_pos.2 (by omega)
  have hlt : y⁻¹ < (m : Rat) := by rw [← em]; exact Rat.lt_floor_add_one _
  have hmi := Rat.inv_pos.2 hmr
  have hinv : (m : Rat)⁻¹ < y := by
    have := inv_lt hyi hlt
    rwa [Rat.inv_inv] at this
  obtain ⟨p1, p2⟩ := inv_parts hmr
  rw [Rat.num_intCast] at p2
  rw [Rat.den_intCast] at p1
  obtain ⟨q1, q2⟩ := add_int n ((m : Rat)⁻¹)
  refine ⟨by grind, by grind, fun r h1 h2 => ?_⟩
  obtain ⟨t1, t2⟩ := shift_in n h1 h2
  obtain ⟨u1, u2⟩ := sub_int n r
  generalize r - (n : Rat) = t at *
  rw [hx] at t1
  rw [ey] at t2
  have ht := num_pos'.1 t1
  have hti := inv_lt t1 t2
  obtain ⟨v1, v2⟩ := inv_parts t1
  have hden : m ≤ (t.den : Int) := by
    have h3 : y⁻¹ < ((t.den : Int) : Rat) := by
      have e := num_eq t⁻¹
      rw [v1] at e
      have d := den_ge t⁻¹
      have hp := Rat.inv_pos.2 t1
      have : t⁻¹ * 1 ≤ t⁻¹ * (((t⁻¹).den : Int) : Rat) := Rat.mul_le_mul_of_nonneg_left d (Rat.le_of_lt hp)
      grind
    have := Rat.floor_lt_iff.2 h3
    omega
  have hmul : n * m ≤ n * (t.den : Int) := Int.mul_le_mul_of_nonneg_left hden hn
  refine ⟨?_, by omega⟩
  have e3 : r.num = t.num + n * (t.den : Int) := by rw [u2]; omega
  rw [q1, p1, e3, p2]; omega
theorem Simp.step {a b s : Rat} (ha : 0 ≤ a) (hab : a < b) (hx : 0 < a - (a.floor : Rat)) (hs : Simp (b - (a.floor : Rat))⁻¹ (a - (a.floor : Rat))⁻¹ s) :
    Simp a b ((a.floor : Rat) + s⁻¹) := by
  have hn := floor_nonneg ha
  generalize ea : a.floor = n at *
  generalize ey : b - (n : Rat) = y at *
  generalize ex : a - (n : Rat) = x at *
  have hy : 0 < y := by grind
  have hyi := Rat.inv_pos.2 hy
  have hxi := Rat.inv_pos.2 hx
  obtain ⟨s1, s2, s3⟩ := hs
  have hsp : 0 < s := by grind
  have i1 := inv_lt hyi s1
  have i2 := inv_lt hsp s2
  rw [Rat.inv_inv] at i1 i2
  obtain ⟨p1, p2⟩ := inv_parts hsp
  obtain ⟨q1, q2⟩ := add_int n (s⁻¹)
  refine ⟨by grind, by grind, fun r h1 h2 => ?_⟩
  obtain ⟨t1, t2⟩ := shift_in n h1 h2
  obtain ⟨u1, u2⟩ := sub_int n r
  generalize r - (n : Rat) = t at *
  rw [ex] at t1
  rw [ey] at t2
  have htp : 0 < t := by grind
  obtain ⟨v1, v2⟩ := inv_parts htp
  obtain ⟨w1, w2⟩ := s3 t⁻¹ (inv_lt htp t2) (inv_lt hx t1)
  rw [v1] at w1
  have hmul : n * s.num ≤ n * (t.den : Int) := Int.mul_le_mul_of_nonneg_left w1 hn
  have hsn := num_pos'.1 hsp
  refine ⟨?_, by omega⟩
  have e3 : r.num = t.num + n * (t.den : Int) := by rw [u2]; omega
  rw [q1, p1, e3, p2]; omega
end Go.W

set_option linter.unusedVariables false
set_option linter.unusedSimpArgs false
namespace Go.W

theorem rsg_lt0 {x : Rat} : rsg x < 0 ↔ x < 0 := by
  unfold rsg
  (repeat' split) <;> rename_i h1 <;> constructor <;> intro h <;> first | omega | grind
theorem QV.m {j k : Nat} {a : NQ} {r : Rat} (h : QV j a r) (hk : j ≤ k) : QV k a r := ⟨h.1, h.2.1, h.2.2.mono hk⟩
end Go.W

set_option linter.unusedVariables false
set_option linter.unusedSimpArgs false
namespace Go.W

theorem mq_small {n d : Int} (hn : Bd 63 (ab n)) (hd : Bd 63 d) (h0 : 0 < d) : QR 63 (mq n d) (Rat.divInt n d) := ⟨RQ.mq hn hd h0, qv_mq n d⟩

end Go.W

set_option linter.unusedVariables false
set_option linter.unusedSimpArgs false
namespace Go.W

end Go.W

set_option linter.unusedVariables false
set_option linter.unusedSimpArgs false
namespace Go.W

theorem few5_some {n : Int} {a b c : NQ} : F_law05_few n a b c = some (decide ((a.1.2.length : Int) ≤ n ∧ (a.2.length : Int) ≤ n ∧ (b.1.2.length : Int) ≤ n ∧ (b.2.length : Int) ≤ n ∧ (c.1.2.length : Int) ≤ n ∧ (c.2.length : Int) ≤ n)) := gif_pos trivial
end Go.W

set_option linter.unusedVariables false
set_option linter.unusedSimpArgs false
namespace Go.W

end Go.W

set_option linter.unusedVariables false
set_option linter.unusedSimpArgs false
namespace Go.W

theorem decQ_div {n d : Int} (hd : 0 < d) (p : Nat) : decQ (Rat.divInt n d) p = (ab n * 10 ^ p * 2 + d) / (d * 2) := by
  have e1 : (if Rat.divInt n d < 0 then -(Rat.divInt n d) else Rat.divInt n d) = Rat.divInt (ab n) d := by
    unfold ab
    by_cases h : n < 0
    · rw [if_pos ((divInt_neg0 hd).2 h), if_pos h, Rat.neg_divInt]
    · rw [if_neg (fun x => h ((divInt_neg0 hd).1 x)), if_neg h]
  have e2 : (10 : Rat) ^ p = Rat.divInt (10 ^ p) 1 := by
    have : (10 : Rat) = Rat.divInt 10 1 := by decide +kernel
    rw [this, divInt_pow, Int.one_pow]
  have e3 : (1 / 2 : Rat) = Rat.divInt 1 2 := by decide +kernel
  unfold decQ
  rw [e1, e2, e3, Rat.divInt_mul_divInt, Rat.divInt_add_divInt _ _ (by omega) (by omega), floor_div (by omega)]
  rw [Int.one_mul, Int.mul_one]
theorem decQ_Bd {k : Nat} {r : Rat} (h : QB k r) (p : Nat) : Bd (k + 4 * p + 4) (decQ r p) := by
  have hp : (0 : Int) < r.den := by have := r.den_pos; omega
  conv => arg 2; rw [QB.as r]
  rw [decQ_div hp]
  have h10 : Bd (4 * p + 1) ((10 : Int) ^ p) := Bd.pow (j := 4) (by constructor <;> decide) p
  have h2 : Bd 2 (2 : Int) := by constructor <;> decide
  exact ((((h.1.mul h10).mul h2).add h.2).div (by omega)).mono (by omega)
theorem decQ_Bd' {r : Rat} (h : QB 10000 r) {p : Nat} (hp : p ≤ 1000) : Bd 14004 (ab (decQ r p)) := by
  have := (decQ_Bd h p).mono (k := 14004) (by omega)
  rw [ab_pos this.1]; exact this
theorem zerosB_size (n : Nat) : ByteArray.size (zerosB n) = n := by unfold zerosB; simp [ByteArray.size]
theorem decPad_size {s : ByteArray} {p : Nat} : p < ByteArray.size (decPad s p) ∧ ByteArray.size (decPad s p) ≤ ByteArray.size s + p + 1 := by
  unfold decPad
  split
  · rw [ByteArray.size_append, zerosB_size]; omega
  · omega
theorem extract_size_le (s : ByteArray) (a b : Nat) : ByteArray.size (ByteArray.extract s a b) ≤ ByteArray.size s := by
  rw [ByteArray.size_extract]; omega
theorem decDot_size {s : ByteArray} {p : Nat} : ByteArray.size (decDot s p) ≤ 2 * ByteArray.size s + 1 := by
  unfold decDot
  split
  · have h1 := extract_size_le s 0 (ByteArray.size s - p)
    have h2 := extract_size_le s (ByteArray.size s - p) (ByteArray.size s)
    have h3 : ByteArray.size (ByteArray.mk #[46]) = 1 := rfl
    rw [ByteArray.size_append, ByteArray.size_append]; omega
  · omega
theorem bl10 : bl (ab 10) = 4 := bl_eq (k := 3) (by decide) (by decide)
theorem dot_step {s : ByteArray} {p : Int} (h0 : 0 < p) (h1 : p ≤ 1000) (hs : p.toNat < ByteArray.size s) (hb : ByteArray.size s ≤ 100000) :
    (IntKind.wrap .i64 ((ByteArray.size s : Int) - p)) = (ByteArray.size s : Int) - p ∧ Int.toNat ((ByteArray.size s : Int) - p) = ByteArray.size s - p.toNat := ⟨i64w (by omega) (by omega), by omega⟩
theorem Rn_rational_Decimal : Run_rational_Decimal := fun s8 s40 s48 k8 k40 k48 a p => Ok.gif fun ⟨⟨hq, hQ⟩, p0, p1⟩ => by
  simp only [T_rational_Decimal]
  have key : ∀ f : Bool, f = decide (p < 0 ∨ 1000 < p) → Ev (fun m => s8 m p f a) (if p < 0 ∨ 1000 < p then (ByteArray.mk #[], 1) else (decD (rv a) p.toNat, 0)) := by
    intro f hf
    by_cases hp : p < 0 ∨ 1000 < p
    · rw [if_pos hp]
      refine Ev.step (t := fun _ => some _) (fun m => ?_) Ev.ret
      rw [k8, hf, decide_eq_true hp]; unfold S_rational_Decimal_8
      rw [if_pos rfl]
    · rw [if_neg hp]
      have hpn : ((p.toNat : Nat) : Int) = p := by omega
      obtain ⟨⟨pn, pd⟩, ep, i1, i2, v1, v2, _, _⟩ := parts_ok hq
      dsimp only at i1 i2 v1 v2
      have hdp := rd_pos hq
      have b1 := rn_bd hq
      have b2 := rd_bd hq
      have hdq : decQ (rv a) p.toNat = (ab (rn a) * 10 ^ p.toNat * 2 + rd a) / (rd a * 2) := decQ_div hdp _
      have hqb := decQ_Bd' hQ (p := p.toNat) (by omega)
      have h10 : Bd 4001 (ab ((10 : Int) ^ p.toNat)) := by
        rw [ab_pos (Int.le_of_lt (Int.pow_pos (by decide)))]
        exact (Bd.pow (j := 4) (show Bd 4 (10 : Int) by constructor <;> decide) p.toNat).mono (by omega)
      have i10 : II (di 10) := II.di (k := 4) (by constructor <;> decide) (by omega)
      have e1 : F_integer_Of 10 = some (di 10) := gif_pos (by omega)
      have e2 : F_integer_Pow (di 10) p = some (di (10 ^ p.toNat), 0) := by
        rw [F_integer_Pow, gif_pos ⟨i10, by omega, by omega⟩, iv_di, if_neg (by omega), bl10, if_neg (by omega)]
      have hsz : ByteArray.size (decS (decQ (rv a) p.toNat)) ≤ 14006 := decS_size hqb
      have hps := decPad_size (s := decS (decQ (rv a) p.toNat)) (p := p.toNat)
      have hds := decDot_size (s := decPad (decS (decQ (rv a) p.toNat)) p.toNat) (p := p.toNat)
      have bm : Bd 33558433 (ab (ab (rn a) * 10 ^ p.toNat)) := ((show Bd 33554432 (ab (ab (rn a))) by rw [ab_pos (ab_nonneg _)]; exact b1).ab_mul h10).mono (by omega)
      have bm2 : Bd 33558435 (ab (ab (rn a) * 10 ^ p.toNat * 2 ^ shc 1)) := (bm.ab_mul (z := 2 ^ shc 1) (k := 2) (by constructor <;> decide)).mono (by omega)
      have brd : Bd 33554432 (ab (rd a)) := by rw [ab_pos (by omega)]; exact b2
      have brd2 : Bd 33554434 (ab (rd a * 2 ^ shc 1)) := (brd.ab_mul (z := 2 ^ shc 1) (k := 2) (by constructor <;> decide)).mono (by omega)
      have e3 : F_integer_Mul (di (ab (rn a))) (di (10 ^ p.toNat)) = some (di (ab (rn a) * 10 ^ p.toNat)) := by
        rw [F_integer_Mul, gif_pos ⟨II.di (show Bd 33554432 (ab (ab (rn a))) by rw [ab_pos (ab_nonneg _)]; exact b1) (by omega), II.di h10 (by omega)⟩, iv_di, iv_di]
      have e4 : F_integer_Shl (di (ab (rn a) * 10 ^ p.toNat)) 1 = some (di (ab (rn a) * 10 ^ p.toNat * 2 ^ shc 1)) := by
        rw [F_integer_Shl, gif_pos ⟨II.di bm (by omega), by omega, by omega⟩, iv_di]
      have e5 : F_integer_Add (di (ab (rn a) * 10 ^ p.toNat * 2 ^ shc 1)) pd = some (di (ab (rn a) * 10 ^ p.toNat * 2 ^ shc 1 + rd a)) := by
        rw [F_integer_Add, gif_pos ⟨II.di bm2 (by omega), i2⟩, iv_di, v2]
      have e6 : F_integer_Shl pd 1 = some (di (rd a * 2 ^ shc 1)) := by
        rw [F_integer_Shl, gif_pos ⟨i2, by omega, by omega⟩, v2]
      have s1 : (2 : Int) ^ shc 1 = 2 := by decide
      have e7 : F_division_Floor (di (ab (rn a) * 10 ^ p.toNat * 2 ^ shc 1 + rd a)) (di (rd a * 2 ^ shc 1)) = some (di (decQ (rv a) p.toNat), di (Int.fmod (ab (rn a) * 10 ^ p.toNat * 2 ^ shc 1 + rd a) (rd a * 2 ^ shc 1)), 0) := by
        rw [F_division_Floor, gif_pos ⟨II.di (bm2.ab_add brd) (by omega), II.di brd2 (by omega)⟩, iv_di, iv_di, if_neg (by rw [s1]; omega), s1, hdq, Int.fdiv_eq_ediv_of_nonneg _ (by omega)]
      have i8 : II (di (decQ (rv a) p.toNat)) := II.di hqb (by omega)
      have e8 : F_decimal_Format (di (decQ (rv a) p.toNat)) = some (decS (decQ (rv a) p.toNat)) := by rw [F_decimal_Format, gif_pos i8, iv_di]
      have last : Ev (fun m => s48 m (decDot (decPad (decS (decQ (rv a) p.toNat)) p.toNat) p.toNat) pn (di (decQ (rv a) p.toNat))) (decD (rv a) p.toNat, 0) := by
        refine Ev.step (t := fun _ => some _) (fun m => ?_) Ev.ret
        rw [k48]; unfold S_rational_Decimal_48
        have hneg : rn a < 0 ↔ rv a < 0 := (divInt_neg0 hdp).symm
        rw [F_integer_Sign, gif_bind i1, v1, F_integer_Sign, gif_bind i8, iv_di]
        unfold decD
        have h45 : ByteArray.size (ByteArray.mk #[45]) = 1 := rfl
        by_cases h1 : rn a < 0
        · rw [if_pos (by rw [decide_eq_true_eq]; unfold sg; rw [if_pos h1]; decide)]
          by_cases h2 : decQ (rv a) p.toNat = 0
          · rw [if_neg (by rw [h2]; decide), if_neg (fun h => h.2 h2)]
          · rw [if_pos (by rw [bne_iff_ne]; unfold sg; split <;> (try split) <;> omega), if_pos (by omega), if_pos ⟨hneg.1 h1, h2⟩]
        · rw [if_neg (by rw [decide_eq_true_eq]; unfold sg; (repeat' split) <;> omega), if_neg (fun h => h1 (hneg.2 h.1))]
      have mid : Ev (fun m => s40 m p (decPad (decS (decQ (rv a) p.toNat)) p.toNat) pn (di (decQ (rv a) p.toNat))) (decD (rv a) p.toNat, 0) := by
        refine Ev.step (fun m => ?_) last
        rw [k40]; unfold S_rational_Decimal_40
        by_cases h0 : 0 < p
        · obtain ⟨w1, w2⟩ := dot_step h0 (by omega) hps.1 (by omega)
          have h46 : ByteArray.size (ByteArray.mk #[46]) = 1 := rfl
          have z1 := extract_size_le (decPad (decS (decQ (rv a) p.toNat)) p.toNat) 0 (ByteArray.size (decPad (decS (decQ (rv a) p.toNat)) p.toNat) - p.toNat)
          have z2 := extract_size_le (decPad (decS (decQ (rv a) p.toNat)) p.toNat) (ByteArray.size (decPad (decS (decQ (rv a) p.toNat)) p.toNat) - p.toNat) (ByteArray.size (decPad (decS (decQ (rv a) p.toNat)) p.toNat))
          rw [if_pos (decide_eq_true h0)]
          simp only [w1, w2]
          rw [if_pos (by omega), if_pos (by omega), if_pos (by omega), if_pos (by rw [ByteArray.size_append]; omega)]
          conv => rhs; unfold decDot
          rw [if_pos (show 0 < p.toNat by omega)]
        · rw [if_neg (by rw [decide_eq_true_eq]; exact h0)]
          conv => rhs; unfold decDot
          rw [if_neg (show ¬ 0 < p.toNat by omega)]
      refine Ev.step (fun m => ?_) mid
      rw [k8, hf, decide_eq_false hp]; unfold S_rational_Decimal_8
      rw [if_neg (by decide), ep, Option.bind_some, e1, Option.bind_some, e2, Option.bind_some]
      dsimp only
      rw [F_integer_Abs, gif_bind i1, v1, e3, Option.bind_some, e4, Option.bind_some, e5, Option.bind_some, e6, Option.bind_some, e7, Option.bind_some]
      dsimp only
      rw [e8, Option.bind_some]
      by_cases hl : ByteArray.size (decS (decQ (rv a) p.toNat)) ≤ p.toNat
      · have ew : IntKind.wrap .i64 (IntKind.wrap .i64 (p + 1) - (ByteArray.size (decS (decQ (rv a) p.toNat)) : Int)) = p + 1 - (ByteArray.size (decS (decQ (rv a) p.toNat)) : Int) := by
          rw [i64w (n := p + 1) (by omega) (by omega), i64w (by omega) (by omega)]
        rw [if_pos (by rw [decide_eq_true_eq]; omega)]
        simp only [ew]
        rw [F_strings_Repeat, gif_bind ⟨rfl, by omega, by omega⟩, if_pos (by rw [zerosB_size]; omega)]
        conv => rhs; unfold decPad
        rw [if_pos hl]
        congr 3; omega
      · rw [if_neg (by rw [decide_eq_true_eq]; omega)]
        conv => rhs; unfold decPad
        rw [if_neg hl]
  by_cases h0 : p < 0
  · refine Ev.congr (fun m => ?_) (key true (by simp [h0]))
    rw [if_pos (decide_eq_true h0)]
  · refine Ev.congr (fun m => ?_) (key (decide (p > 1000)) (by simp [h0]))
    rw [if_neg (by rw [decide_eq_true_eq]; exact h0)]

theorem dec_exit {s37 : Nat → Int → ByteArray → FQ → (Int × List Int) → Option ByteArray} {s56 : Nat → ByteArray → Bool → Option ByteArray} (k56 : ∀ m x10 x67, s56 (m + 1) x10 x67 = S_ref05_Decimal_56 (s37 m) (s56 m) x10 x67) {x : ByteArray} (hx : ByteArray.size x ≤ 1000000) (f : Bool) :
    Ev (fun m => s56 m x f) (if f = true then (ByteArray.mk #[45]) ++ x else x) := by
  refine Ev.step (t := fun _ => some _) (fun m => ?_) Ev.ret
  rw [k56]; unfold S_ref05_Decimal_56
  have h45 : ByteArray.size (ByteArray.mk #[45]) = 1 := rfl
  cases f with
  | true => rw [if_pos rfl, if_pos (by omega), if_pos rfl]
  | false => rw [if_neg (by decide), if_neg (by decide)]
theorem zerosB_succ (n : Nat) : zerosB (n + 1) = (ByteArray.mk #[48]) ++ zerosB n := by
  unfold zerosB
  apply ByteArray.ext
  simp [List.replicate_succ, ByteArray.data_append]
theorem zerosB_comm (n : Nat) : zerosB (n + 1) = zerosB n ++ (ByteArray.mk #[48]) := by
  unfold zerosB
  apply ByteArray.ext
  apply Array.ext'
  rw [ByteArray.data_append, Array.toList_append]
  exact List.replicate_succ' ..
theorem decPad_step {s : ByteArray} {p : Nat} (h : ByteArray.size s ≤ p) : decPad ((ByteArray.mk #[48]) ++ s) p = decPad s p := by
  have h1 : ByteArray.size (ByteArray.mk #[48]) = 1 := rfl
  unfold decPad
  rw [if_pos h, ByteArray.size_append, h1]
  by_cases h2 : 1 + ByteArray.size s ≤ p
  · rw [if_pos h2, ← ByteArray.append_assoc, ← zerosB_comm]
    congr 2; omega
  · rw [if_neg h2, show p + 1 - ByteArray.size s = 0 + 1 by omega, zerosB_succ]
    congr 1
theorem Rn_ref05_Decimal : Run_ref05_Decimal := fun s37 s56 k37 k56 a p => Ok.gif fun ⟨hA, p0, p1⟩ => by
  have ra : QR 10000 a (qv a) := ⟨hA, rfl⟩
  have es : a.1.1 = rsg (qv a) := QR.sign ra
  have hqb : QB 10000 (qv a) := (QB.div hA.2.1 hA.2.2.1 hA.pos).mono (by omega)
  have hb := decQ_Bd' hqb (p := p.toNat) (by omega)
  have hb0 := (decQ_Bd hqb p.toNat).1
  have hsz : ByteArray.size (decS (decQ (qv a) p.toNat)) ≤ 14006 := decS_size hb
  have ev0 : decQ (qv a) p.toNat = (ab (qn a) * 10 ^ p.toNat * 2 + qd a) / (qd a * 2) := decQ_div hA.pos _
  -- the loop that pads, and what follows
  have loop : ∀ (k : Nat) (s : ByteArray), p.toNat + 1 - ByteArray.size s = k → ByteArray.size s ≤ 20000 → Ev (fun m => s37 m p s a (dz (decQ (qv a) p.toNat))) (let u := decDot (decPad s p.toNat) p.toNat; if qv a < 0 ∧ decQ (qv a) p.toNat ≠ 0 then (ByteArray.mk #[45]) ++ u else u) := by
    intro k
    induction k with
    | zero =>
      intro s hk hs
      have hlt : ¬ ByteArray.size s ≤ p.toNat := by omega
      have hpad : decPad s p.toNat = s := by unfold decPad; rw [if_neg hlt]
      rw [hpad]
      have hds := decDot_size (s := s) (p := p.toNat)
      have hres : (if (if (decide (a.1.1 < (0 : Int))) = true then (decide ((dz (decQ (qv a) p.toNat)).1 > (0 : Int))) else false) = true then (ByteArray.mk #[45]) ++ decDot s p.toNat else decDot s p.toNat) = if qv a < 0 ∧ decQ (qv a) p.toNat ≠ 0 then (ByteArray.mk #[45]) ++ decDot s p.toNat else decDot s p.toNat := by
        congr 1
        have e : (dz (decQ (qv a) p.toNat)).1 = sg (decQ (qv a) p.toNat) := rfl
        rw [es, e]
        apply propext
        by_cases h1 : qv a < 0
        · rw [if_pos (decide_eq_true (rsg_lt0.2 h1))]
          simp only [decide_eq_true_eq, h1, true_and]
          unfold sg
          (repeat' split) <;> omega
        · rw [if_neg (by rw [decide_eq_true_eq, rsg_lt0]; exact h1)]
          simp [h1]
      have fin := dec_exit (s37 := s37) k56 (x := decDot s p.toNat) (by omega) (if (decide (a.1.1 < (0 : Int))) = true then (decide ((dz (decQ (qv a) p.toNat)).1 > (0 : Int))) else false)
      rw [hres] at fin
      refine Ev.step (fun m => ?_) fin
      rw [k37]; unfold S_ref05_Decimal_37
      rw [if_neg (by rw [decide_eq_true_eq]; omega)]
      by_cases h0 : 0 < p
      · obtain ⟨w1, w2⟩ := dot_step h0 (by omega) (by omega) (s := s) (by omega)
        have h46 : ByteArray.size (ByteArray.mk #[46]) = 1 := rfl
        have z1 := extract_size_le s 0 (ByteArray.size s - p.toNat)
        have z2 := extract_size_le s (ByteArray.size s - p.toNat) (ByteArray.size s)
        rw [if_pos (decide_eq_true h0)]
        simp only [w1, w2]
        rw [if_pos (by omega), if_pos (by omega), if_pos (by omega), if_pos (by rw [ByteArray.size_append]; omega)]
        unfold decDot
        rw [if_pos (show 0 < p.toNat by omega)]
        by_cases h1 : a.1.1 < 0
        · rw [decide_eq_true h1]; rfl
        · rw [decide_eq_false h1]; rfl
      · rw [if_neg (by rw [decide_eq_true_eq]; exact h0)]
        unfold decDot
        rw [if_neg (show ¬ 0 < p.toNat by omega)]
        by_cases h1 : a.1.1 < 0
        · rw [decide_eq_true h1]; rfl
        · rw [decide_eq_false h1]; rfl
    | succ k ih =>
      intro s hk hs
      have hle : ByteArray.size s ≤ p.toNat := by omega
      have h48 : ByteArray.size (ByteArray.mk #[48]) = 1 := rfl
      have := ih ((ByteArray.mk #[48]) ++ s) (by rw [ByteArray.size_append, h48]; omega) (by rw [ByteArray.size_append, h48]; omega)
      rw [decPad_step hle] at this
      refine Ev.step (fun m => ?_) this
      rw [k37]; unfold S_ref05_Decimal_37
      rw [if_pos (by rw [decide_eq_true_eq]; omega), if_pos (by omega)]
  have fin : Ev (fun m => s37 m p (decS (decQ (qv a) p.toNat)) a (dz (decQ (qv a) p.toNat))) (decD (qv a) p.toNat) := loop _ _ rfl (by omega)
  have s10 : F_ref02_Small 10 = some (dz 10) := small_some (by omega)
  have s1 : F_ref02_Small 1 = some (dz 1) := small_some (by omega)
  have s2 : F_ref02_Small 2 = some (dz 2) := small_some (by omega)
  have zz : ∀ {n : Int} {k : Nat}, Bd k (ab n) → k ≤ 2199023255552 → ZZ (dz n) := fun h hk => ZZ.dz' h hk
  have h10 : Bd 4001 (ab ((10 : Int) ^ p.toNat)) := by
    rw [ab_pos (Int.le_of_lt (Int.pow_pos (by decide)))]
    exact (Bd.pow (j := 4) (show Bd 4 (10 : Int) by constructor <;> decide) p.toNat).mono (by omega)
  have ep : F_ref03_Pow (dz 10) p = some (dz (10 ^ p.toNat)) := by
    rw [F_ref03_Pow, gif_pos ⟨zz (k := 4) (by constructor <;> decide) (by omega), p1, by rw [zv_dz]; exact (show Bd 4 (ab 10) by constructor <;> decide).mono (by omega)⟩, zv_dz]
  -- either sign
  have body : ∀ N : Int, N = ab (qn a) → (F_ref02_Mul (dz N) (dz (10 ^ p.toNat))).bind (fun r4 => (F_ref05_Add (r4, a.2) (dz 1, dz 2)).bind fun r7 => (F_ref05_Floor r7).bind fun r8 => (F_ref04_Format r8 (10 : Int)).bind fun r9 => some (r9, r8)) = some (decS (decQ (qv a) p.toNat), dz (decQ (qv a) p.toNat)) := by
    intro N hN
    have e2 : a.2 = dz (qd a) := congrArg Prod.snd hA.1
    have bN : Bd 10000 (ab N) := by rw [hN, ab_pos (ab_nonneg _)]; exact hA.2.1
    have bm : Bd 14001 (ab (N * 10 ^ p.toNat)) := (bN.ab_mul h10).mono (by omega)
    rw [F_ref02_Mul, gif_bind ⟨zz bN (by omega), zz h10 (by omega)⟩, zv_dz, zv_dz, e2]
    have r1 : QR 14001 (mq (N * 10 ^ p.toNat) (qd a)) (Rat.divInt (N * 10 ^ p.toNat) (qd a)) := ⟨RQ.mq bm (hA.2.2.1.mono (by omega)) hA.pos, qv_mq _ _⟩
    have r2 : QR 63 (mq 1 2) (Rat.divInt 1 2) := mq_small (by constructor <;> decide) (by constructor <;> decide) (by decide)
    obtain ⟨t, et, rt⟩ := R.add r1 r2 (by omega)
    have hdp := hA.pos
    have ef : (Rat.divInt (N * 10 ^ p.toNat) (qd a) + Rat.divInt 1 2).floor = decQ (qv a) p.toNat := by
      rw [Rat.divInt_add_divInt _ _ (by omega) (by omega), floor_div (by omega), ev0, hN, Int.one_mul]
    rw [show ((dz (N * 10 ^ p.toNat), dz (qd a)) : FQ) = mq (N * 10 ^ p.toNat) (qd a) from rfl, show ((dz 1, dz 2) : FQ) = mq 1 2 from rfl, et, Option.bind_some, R.floor rt (by omega), ef, Option.bind_some]
    rw [F_ref04_Format, gif_bind ⟨zz hb (by omega), by rw [zv_dz]; exact hb.mono (by omega), rfl⟩, zv_dz]
  have pull : ∀ N : Int, N = ab (qn a) → ∀ m, ((F_ref02_Mul (dz N) (dz (10 ^ p.toNat))).bind fun r4 => (F_ref05_Add (r4, a.2) (dz 1, dz 2)).bind fun r7 => (F_ref05_Floor r7).bind fun r8 => (F_ref04_Format r8 (10 : Int)).bind fun r9 => s37 m p r9 a r8) = s37 m p (decS (decQ (qv a) p.toNat)) a (dz (decQ (qv a) p.toNat)) := by
    intro N hN m
    have := congrArg (fun o => o.bind fun x => s37 m p x.1 a x.2) (body N hN)
    simpa only [Option.bind_assoc, Option.bind_some] using this
  simp only [T_ref05_Decimal]
  refine Ev.congr (fun m => ?_) fin
  have en : a.1 = dz (qn a) := congrArg Prod.fst hA.1
  by_cases h1 : a.1.1 < 0
  · have hneg : qn a < 0 := by rw [es] at h1; exact (divInt_neg0 hA.pos).1 (rsg_lt0.1 h1)
    rw [if_pos (decide_eq_true h1), F_ref05_Neg, gif_bind (hA.mono (by rw [RK_le]; omega))]
    simp only [s10, s1, s2, ep, Option.bind_some]
    have := pull (-(qn a)) (by unfold ab; rw [if_pos hneg]) m
    have e2 : a.2 = dz (qd a) := congrArg Prod.snd hA.1
    rw [e2] at this
    exact this
  · have hpos : 0 ≤ qn a := by
      rw [es] at h1
      rcases Int.lt_or_le (qn a) 0 with h | h
      · exact absurd (rsg_lt0.2 ((divInt_neg0 hA.pos).2 h)) h1
      · exact h
    rw [if_neg (by rw [decide_eq_true_eq]; exact h1)]
    simp only [s10, s1, s2, ep, Option.bind_some]
    have := pull (qn a) (by rw [ab_pos hpos]) m
    rw [← en] at this
    exact this

theorem Rn_law05_RationalDecimals : Run_law05_RationalDecimals := fun s8 k8 a p => Ok.gif fun ⟨hA, p0, p1⟩ => by
  have bad : Ev (fun m => s8 m p true a) true := by
    refine Ev.step (t := fun _ => some true) (fun m => ?_) Ev.ret
    rw [k8]; unfold S_law05_RationalDecimals_8
    rw [if_pos rfl, awake_some]; rfl
  simp only [T_law05_RationalDecimals, awake_some, few5_some, Option.bind_some, Bool.not_true, Bool.false_eq_true, if_false]
  by_cases hf : ((a.1.2.length : Int) ≤ 4 ∧ (a.2.length : Int) ≤ 4 ∧ (a.1.2.length : Int) ≤ 4 ∧ (a.2.length : Int) ≤ 4 ∧ (a.1.2.length : Int) ≤ 4 ∧ (a.2.length : Int) ≤ 4)
  · rw [decide_eq_true hf]
    simp only [Bool.not_true, Bool.false_eq_true, if_false]
    have qa := hA.qq hf.1 hf.2.1 (by omega)
    have va := QV.of qa (m := 4) (by omega) (by omega) (by omega)
    obtain ⟨q, eq, rq⟩ := R.of qa (m := 4) (by omega) (by omega) (by omega)
    have ed : F_rational_Decimal a p = some (if p < 0 ∨ 1000 < p then (ByteArray.mk #[], 1) else (decD (rv a) p.toNat, 0)) := gif_pos ⟨⟨qa, va.2.2.mono (by omega)⟩, p0, p1⟩
    have good : (p < 0 ∨ p ≤ 40 ∨ 1000 < p) → Ev (fun m => s8 m p false a) true := fun hp => by
      refine Ev.step (t := fun _ => some true) (fun m => ?_) Ev.ret
      rw [k8]; unfold S_law05_RationalDecimals_8
      rw [if_neg (by decide), ed, Option.bind_some]
      by_cases h1 : p < 0
      · rw [if_pos (decide_eq_true h1)]
        simp [h1]
      · rw [if_neg (by rw [decide_eq_true_eq]; exact h1)]
        by_cases h2 : p > 1000
        · rw [if_pos (decide_eq_true h2)]
          simp [h2]
        · rw [if_neg (by rw [decide_eq_true_eq]; exact h2), if_neg (show ¬ (p < 0 ∨ 1000 < p) by omega)]
          have er : F_ref05_Decimal q p = some (decD (rv a) p.toNat) := by
            rw [F_ref05_Decimal, gif_pos ⟨rq.1.mono (by omega), by omega, by omega⟩, rq.2]
          simp [eq, er]
    by_cases h40 : p > 40
    · simp only [decide_eq_true h40, if_true]
      by_cases h1000 : p ≤ 1000
      · rw [decide_eq_true h1000]; exact bad
      · rw [decide_eq_false h1000]; exact good (by omega)
    · simp only [decide_eq_false h40, Bool.false_eq_true, if_false]
      exact good (by omega)
  · rw [decide_eq_false hf]
    simp only [Bool.not_false, if_true]; exact bad
end Go.W

set_option linter.unusedVariables false
set_option linter.unusedSimpArgs false
namespace Go.W
open Go.Proofs Go.Shelf Go.RowKit Go.Lib Go.Sort

abbrev encU : Int → Value := fun x => Value.int .u8 x

set_option maxHeartbeats 1600000 in
set_option maxRecDepth 1000000 in
theorem reverse_arr (blk off cap : Nat) (d : Array Int) (w : World) (hH : Holds encU w blk off d) (hsz : d.size ≤ 9223372036854775807) :
    Calls Try.prog 171 #[.slice (some ⟨blk, off, none⟩) d.size cap] w fun e w' => e = .returned (.tuple #[]) ∧ ∃ n, w' = putRow encU (Sort.ahead w n) blk off d.reverse := by
  have mixed : Try.prog.follows .mixedOrders = true := by kernel_rfl
  go_enter Try.func171, Try.ntmps171
  go_wp2
  go_loopg [2, 3] d.size (fun k s2 s3 wr => ∃ (i jn : Nat) (jz : Int) (dk : Array Int) (n : Nat), s2 = .int .i64 i ∧ s3 = .int .i64 jz ∧ ((i : Int) < jz → jz = jn ∧ jn < d.size) ∧ (¬ (i : Int) < jz → ¬ i < jn) ∧ jn - i ≤ k ∧
    dk.size = d.size ∧ wr = putRow encU (Sort.ahead w n) blk off dk ∧ reverseLoop i jn dk = reverseLoop 0 (d.size - 1) d)
  case atStart => exact ⟨0, d.size - 1, (d.size : Int) - 1, d, 0, rfl, rfl, fun h => ⟨by omega, by omega⟩, fun h => by omega, by omega, rfl, (putRow_self encU w blk off d hH).symm, rfl⟩
  case round =>
    obtain ⟨i, jn, jz, dk, n, rfl, rfl, h1, h2, hk, hds, hwr, heq⟩ := hrel
    by_cases hlt : (i : Int) < jz
    · obtain ⟨rfl, hjn⟩ := h1 hlt
      have hij : i < jn := by omega
      have hHk : Holds encU wr blk off dk := by rw [hwr]; exact holds_putRow encU _ blk off d dk (holds_ahead encU w n blk off d hH) hds
      obtain ⟨ci, fi⟩ := hHk i (by omega)
      obtain ⟨cj, fj⟩ := hHk jn (by omega)
      have A : Aside (wr = putRow encU (Sort.ahead w n) blk off dk) := hwr
      clear hwr hHk hH h1 h2
      go_wp2_with fail
      go_region_o
      go_wp2
      go_roundg (jn - 1 - (i + 1))
      case measure => omega
      case rel =>
        rw [reverseLoop, if_pos hij] at heq
        exact ⟨i + 1, jn - 1, (jn : Int) - 1, swp dk i jn, n + 1, by simp, rfl, fun h => ⟨by omega, by omega⟩, fun h => by omega, Nat.le_refl _, by rw [size_swp]; exact hds,
          swap_world encU (by omega) (by omega) A.out (by first | rfl | simp [encU, getElem!_pos, show jn < dk.size by omega]) (by first | rfl | simp [encU, getElem!_pos, show i < dk.size by omega]), heq⟩
    · have hnot := h2 hlt
      go_wp2
      go_end0
      refine ⟨rfl, n, ?_⟩
      rw [reverseLoop, if_neg hnot] at heq
      rw [← Lib.reverseLoop_reverse, ← heq]

set_option maxHeartbeats 1000000 in
theorem reverse_empty (a : Option Addr) (cap : Nat) (w : World) :
    Calls Try.prog 171 #[.slice a 0 cap] w fun e w' => e = .returned (.tuple #[]) ∧ w' = w := by
  have mixed : Try.prog.follows .mixedOrders = true := by kernel_rfl
  go_enter Try.func171, Try.ntmps171
  go_wp2
  go_loopg [2, 3] 0 (fun _ s2 s3 wr => s2 = .int .i64 0 ∧ s3 = .int .i64 (-1) ∧ wr = w)
  case atStart => exact ⟨rfl, rfl, rfl⟩
  case round =>
    obtain ⟨rfl, rfl, rfl⟩ := hrel
    go_wp2
    go_end0
    exact ⟨rfl, rfl⟩

theorem heap_putRow {α : Type} [Inhabited α] (enc : α → Value) (w : World) (blk off : Nat) (d : Array α) (g : Nat) : (putRow enc w blk off d).heap[g]? = if g = blk then (w.heap[g]?).map fun o => match o with
    | .cells c eT fr => .cells (putCells enc off d c) eT fr
    | o => o else w.heap[g]? := by
  unfold putRow mapBlock
  simp only [Array.getElem?_modify]
  split
  · rename_i h; subst h; simp
    cases w.heap[blk]? with
    | none => rfl
    | some o => cases o <;> rfl
  · rename_i h; rw [if_neg (fun e => h e.symm)]

theorem os_slices_Reverse : OSound Try.prog 171 [] false (.int .u8) .unit (fun τ l => O_slices_Reverse l) := by
  intro τ l r hr w ok mg vs v hok hmg hargs hbr hv
  have hvs : vs = [] := hargs
  subst hvs
  change gif (l.length ≤ 8796093022208) (l.reverse, ()) = some r at hr
  unfold gif at hr
  split at hr
  · rename_i hl
    injection hr with hr
    subst hr
    obtain ⟨ob, hob, hv⟩ := hv
    have hob' : ob = some ⟨.int .u8, l, false⟩ := by
      simp only [ownPV, lk_cons, if_true] at hob
      injection hob with hob; exact hob.symm
    obtain ⟨A, cap, rfl, hcap, hv⟩ := hv _ hob'
    simp only [toL] at hv hcap hbr
    simp only [List.nil_append, toL]
    have fin : ∀ w', Fr (fun g => mg = some g) w w' → BRep w' (fun g => (ok g ∨ w.heap.size ≤ g) ∧ g < w'.heap.size ∧ mg ≠ some g) mg ⟨.int .u8, l.reverse, false⟩ →
        ∃ xs, Ending.returned (.tuple #[]) = .returned (retV xs) ∧ Fr (fun g => mg = some g) w w' ∧ BRep w' (fun g => (ok g ∨ w.heap.size ≤ g) ∧ g < w'.heap.size ∧ mg ≠ some g) mg ⟨.int .u8, l.reverse, false⟩ ∧
      xs.length = (resO (.int .u8) 20000 .unit ()).length ∧
      ∀ (j : Nat) p u, (resO (.int .u8) 20000 .unit ())[j]? = some p → xs[j]? = some u → RepPV (fun g => ok g ∨ mg = some g ∨ w.heap.size ≤ g) w' (fun _ => mg) (lk [(20000, some ⟨.int .u8, l.reverse, false⟩)]) p u :=
      fun w' h1 h2 => ⟨[], rfl, h1, h2, rfl, fun j p u hj => by simp [resO] at hj⟩
    by_cases hz : l = []
    · subst hz
      refine (reverse_empty A cap w).mono fun x w' ⟨hx, hw⟩ => ?_
      subst hx hw
      refine fin _ (.refl _ _) ?_
      unfold BRep at hbr ⊢
      cases mg with
      | none => rfl
      | some g =>
        obtain ⟨c, eT, h1, h2, h3⟩ := hbr
        exact ⟨c, eT, h1, h2, fun i h => by simp at h⟩
    · have hpos : 0 < l.length := List.length_pos_iff.mpr hz
      cases mg with
      | none => exact absurd hbr hz
      | some g =>
        obtain ⟨o, rfl, h0, _, _⟩ := hv
        obtain rfl := h0 trivial
        obtain ⟨c, eT, hg, hsz, hc⟩ := hbr
        simp only [Ty.size, Nat.mul_one] at hsz hc
        have hcell : ∀ i, i < l.length → c[i]? = some (.int .u8 (l.getD i 0)) := fun i hi => by
          obtain ⟨es, he, hj⟩ := hc i hi
          have he : es = [.int .u8 l[i]] := he
          have := hj 0 _ (by rw [he]; rfl)
          simp only [Nat.add_zero] at this
          rw [this]; simp [List.getD, hi]
        have hH : Holds encU w g 0 l.toArray := fun j hj => by
          have hj' : j < l.length := by simpa using hj
          have hjc : j < c.size := by omega
          have h1 := hcell j hj'
          constructor
          · simp [World.cell?, hg, h1, encU, List.getD, hj']
          · simp [World.frozen?, hg]
        have hs : (Value.slice (some ⟨g, 0, none⟩) l.length cap) = .slice (some ⟨g, 0, none⟩) l.toArray.size cap := by simp
        rw [hs]
        refine (reverse_arr g 0 cap l.toArray w hH (by simp; omega)).mono fun x w' ⟨hx, n, hw⟩ => ?_
        subst hx
        have hhp : ∀ k, w'.heap[k]? = if k = g then some (.cells (putCells encU 0 l.toArray.reverse c) eT (0, 0)) else w.heap[k]? := fun k => by
          rw [hw, heap_putRow]
          split
          · rename_i h; subst h
            rw [heap_ahead, hg]; rfl
          · rfl
        have hpc : (putCells encU 0 l.toArray.reverse c).size = c.size := by simp [putCells]
        refine fin w' ⟨by rw [hw]; rfl, by rw [hw]; rfl, by rw [hw]; rfl, by rw [hw, size_putRow]; exact Nat.le_refl _, fun k hk hn => ?_, fun k c' eT' fr' hk hc' => ?_⟩ ?_
        · rw [hhp, if_neg]; intro e; exact hn (by rw [e])
        · rw [hhp] at hc'
          split at hc'
          · rename_i h; subst h
            injection hc' with hc'; injection hc' with e1 e2 e3
            exact ⟨c, eT, (0,0), hg, by rw [← e1, hpc]; exact Nat.le_refl _⟩
          · exact ⟨c', eT', fr', hc', Nat.le_refl _⟩
        · refine ⟨_, eT, by rw [hhp, if_pos rfl], by rw [hpc]; simpa [Ty.size] using hsz, fun i hi => ⟨[.int .u8 l.reverse[i]], rfl, fun j v hj => ?_⟩⟩
          have hi' : i < l.length := by simpa using hi
          cases j with
          | zero =>
            simp only [List.getElem?_cons_zero, Option.some.injEq] at hj
            subst hj
            have hic : i < c.size := by omega
            simp [Ty.size, putCells, hic, hi', encU]
          | succ j => simp at hj
  · cases hr
end Go.W

set_option linter.unusedVariables false
set_option linter.unusedSimpArgs false
namespace Go.Proofs
open Go.Shelf
def Try.lays105_ren : Go.Shelf.Ren := ⟨fun | 105 => 127 | 212 => 157 | 99 => 158 | 165 => 159 | 166 => 160 | 170 => 161 | 169 => 162 | 263 => 148 | 264 => 179 | 206 => 180 | 240 => 181 | 241 => 182 | 276 => 190 | 277 => 191 | n => n, fun | 9 => 9 | 3 => 3 | 4 => 4 | 20 => 20 | 0 => 0 | 46 => 150 | 109 => 172 | 5 => 5 | 72 => 178 | 76 => 182 | 51 => 153 | 146 => 162 | 53 => 106 | 148 => 199 | 70 => 175 | 37 => 176 | 75 => 181 | 127 => 202 | 164 => 206 | 80 => 185 | n => n, fun | n => n⟩
theorem Try.lays105 : Go.Proofs.Lays.n105 Try.prog Try.lays105_ren := {
  mixed := by kernel_rfl
  f99 := Try.func158.trans (congrArg some (by kernel_rfl))
  f105 := Try.func127.trans (congrArg some (by kernel_rfl))
  f165 := Try.func159.trans (congrArg some (by kernel_rfl))
  f166 := Try.func160.trans (congrArg some (by kernel_rfl))
  f169 := Try.func162.trans (congrArg some (by kernel_rfl))
  f170 := Try.func161.trans (congrArg some (by kernel_rfl))
  f206 := Try.func180.trans (congrArg some (by kernel_rfl))
  f212 := Try.func157.trans (congrArg some (by kernel_rfl))
  f240 := Try.func181.trans (congrArg some (by kernel_rfl))
  f241 := Try.func182.trans (congrArg some (by kernel_rfl))
  f263 := Try.func148.trans (congrArg some (by kernel_rfl))
  f264 := Try.func179.trans (congrArg some (by kernel_rfl))
  f276 := Try.func190.trans (congrArg some (by kernel_rfl))
  f277 := Try.func191.trans (congrArg some (by kernel_rfl))
  t0 := Try.underlying0
  a0 := Try.isAgg0
  z0 := Try.sizeOf0
  v0 := Try.zeroValue0
  t3 := Try.underlying3
  a3 := Try.isAgg3
  z3 := Try.sizeOf3
  v3 := Try.zeroValue3
  t4 := Try.underlying4
  a4 := Try.isAgg4
  z4 := Try.sizeOf4
  v4 := Try.zeroValue4
  t5 := Try.underlying5
  a5 := Try.isAgg5
  z5 := Try.sizeOf5
  v5 := Try.zeroValue5
  t9 := Try.underlying9
  a9 := Try.isAgg9
  z9 := Try.sizeOf9
  v9 := Try.zeroValue9
  t20 := Try.underlying20
  a20 := Try.isAgg20
  z20 := Try.sizeOf20
  v20 := Try.zeroValue20
  t37 := Try.underlying176
  a37 := Try.isAgg176
  z37 := Try.sizeOf176
  v37 := Try.zeroValue176
  t46 := Try.underlying150
  a46 := Try.isAgg150
  z46 := Try.sizeOf150
  v46 := Try.zeroValue150
  t51 := Try.underlying153
  a51 := Try.isAgg153
  z51 := Try.sizeOf153
  v51 := Try.zeroValue153
  t53 := Try.underlying106
  a53 := Try.isAgg106
  z53 := Try.sizeOf106
  v53 := Try.zeroValue106
  t70 := Try.underlying175
  a70 := Try.isAgg175
  z70 := Try.sizeOf175
  v70 := Try.zeroValue175
  t72 := Try.underlying178
  a72 := Try.isAgg178
  z72 := Try.sizeOf178
  v72 := Try.zeroValue178
  t75 := Try.underlying181
  a75 := Try.isAgg181
  z75 := Try.sizeOf181
  v75 := Try.zeroValue181
  t76 := Try.underlying182
  a76 := Try.isAgg182
  z76 := Try.sizeOf182
  v76 := Try.zeroValue182
  t109 := Try.underlying172
  a109 := Try.isAgg172
  z109 := Try.sizeOf172
  v109 := Try.zeroValue172
  t127 := Try.underlying202
  a127 := Try.isAgg202
  z127 := Try.sizeOf202
  v127 := Try.zeroValue202
  t146 := Try.underlying162
  a146 := Try.isAgg162
  z146 := Try.sizeOf162
  v146 := Try.zeroValue162
  t148 := Try.underlying199
  a148 := Try.isAgg199
  z148 := Try.sizeOf199
  v148 := Try.zeroValue199
  t164 := Try.underlying206
  a164 := Try.isAgg206
  z164 := Try.sizeOf206
  v164 := Try.zeroValue206 }
theorem Try.Builder_Extra_105 : Builder.Extra Try.prog Try.lays105_ren := {
  sizeBuilder := by kernel_rfl
  liesBuilder := by kernel_rfl
  t5 := Try.underlying5
  a5 := Try.isAgg5
  z5 := Try.sizeOf5
  v5 := Try.zeroValue5
  infoByte := by kernel_rfl
  cellsByte := by kernel_rfl
  sizeByte := by kernel_rfl
  neB5 := by decide }
end Go.Proofs
namespace Go.W
open Go.Proofs Go.Shelf Go.RowKit Go.Lib

theorem Fr.of_below {w w' : World} (h : Below w.heap.size w w') : Fr (fun _ => False) w w' :=
  ⟨h.os, h.tape, h.output, h.size, fun g hg _ => h.block g hg, fun g c eT fr hg hc => ⟨c, eT, fr, by rw [← h.block g hg]; exact hc, Nat.le_refl _⟩⟩
theorem repeatL_zero : ∀ n : Nat, Lib.repeatL [48] n = List.replicate n 48
  | 0 => rfl
  | n + 1 => by rw [Lib.repeatL, repeatL_zero n]; rfl
theorem repeat_calls (c : Int) (c0 : 0 ≤ c) (c1 : c ≤ 100000) (w : World) :
    Calls Try.prog 127 #[.string (ByteArray.mk #[48]), .int .i64 c] w fun e w' => e = .returned (.string (zerosB c.toNat)) ∧ Below w.heap.size w w' := by
  obtain ⟨n, rfl⟩ : ∃ n : Nat, c = (n : Int) := ⟨c.toNat, by omega⟩
  have hsz : ByteArray.size (ByteArray.mk #[48]) = 1 := rfl
  have key := Any.strings_Repeat Try.lays105 Try.Builder_Extra_105 (ByteArray.mk #[48]) n w (by omega) (by rw [hsz]; omega)
  rw [show (ByteArray.mk #[48]).data.toList = [48] from rfl, repeatL_zero] at key
  exact key
theorem fs_strings_Repeat : FSound Try.prog 127 [.str, .int .i64] [(.str, false)] (fun τ => F_strings_Repeat τ.1 τ.2.1) := by
  intro τ r hr w ok vs hok hargs
  obtain ⟨s, c, ⟨⟩⟩ := τ
  obtain ⟨v1, vs1, rfl, ⟨cs1, h1, hx1⟩, v2, vs2, rfl, ⟨cs2, h2, hx2⟩, hnil⟩ := hargs
  have hnil : vs2 = [] := hnil
  subst hnil
  have h1 : cs1 = [.string s] := h1
  have h2 : cs2 = [.int .i64 c] := h2
  subst h1 h2
  have e1 : v1 = .string s := by
    rcases hx1 with ⟨h, _⟩ | ⟨_, h⟩
    · cases h
    · injection h with h _; exact h.symm
  have e2 : v2 = .int .i64 c := by
    rcases hx2 with ⟨h, _⟩ | ⟨_, h⟩
    · cases h
    · injection h with h _; exact h.symm
  subst e1 e2
  obtain ⟨⟨hs, c0, c1⟩, hz⟩ := gif_some.1 (show gif (s = ByteArray.mk #[48] ∧ 0 ≤ c ∧ c ≤ 100000) (zerosB c.toNat) = some r from hr)
  subst hs
  refine (repeat_calls c c0 c1 w).mono fun x w' ⟨hx, hw⟩ => ?_
  subst hx
  have hres : ResRep w' (fun g => (ok g ∨ w.heap.size ≤ g) ∧ g < w'.heap.size) none w.heap.size (enc [(Ty.str, false)] r) [Value.string (zerosB (Int.toNat c))] := by
    rw [← hz]
    exact ⟨_, [], rfl, ⟨_, rfl, .inr ⟨rfl, rfl⟩⟩, rfl⟩
  exact ⟨[.string (zerosB (Int.toNat c))], none, rfl, Fr.of_below hw, (by intro g h; cases h), hres⟩
end Go.W

