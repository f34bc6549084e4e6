/- A part of the proof: texts P14, P15, P16, Sp2, Sp3, Sp4, Df2, P17, P18, P19, P20, Sp5, Df3, P21, P24, P25, P26, P27, P28, P29, Sp6, Df4, P32, P33, P34, RevZ. What is proved in the end stands in the last file. -/
import Derived.Test.YtgjgjobaohakgaaGreatWc3
import Derived.Test.YtgjgjobaohakgaaGreatProg
import Derived.Shelf.RegionOpenPlain
import Derived.WalkKit
import Derived.Deep.LoopGhost
import Derived.Lib.Walk
import Derived.Sort.WalkB12
import Derived.Lib.SlicesMore
set_option linter.unusedVariables false
set_option linter.unusedSimpArgs false
set_option linter.unusedSectionVars false
set_option linter.unusedVariables false
set_option linter.unusedSimpArgs false
namespace Go.W

/-! ### the reference: bits -/
theorem BB.w {b : List Int} (h : BB b) : BW b := ⟨h.1, by have := h.2; omega⟩
theorem BW.nonneg {b : List Int} (h : BW b) : 0 ≤ bv b := gv_nonneg (by decide) h.1
theorem Rn_ref01_Few : Run_ref01_Few := fun s hs n l => Ok.gif fun h => by
  have key : ∀ (d i : Nat), i + d = l.length → Ev (fun m => s m n l (i : Int)) ((l.drop i).all fun a => decide ((a.length : Int) ≤ n)) := by
    intro d
    induction d with
    | zero =>
      intro i hi
      refine Ev.step (t := fun _ => some _) (fun m => ?_) Ev.ret
      rw [hs]; unfold S_ref01_Few_9
      rw [if_neg (by simp; omega), List.drop_eq_nil_of_le (by omega)]; rfl
    | succ d ih =>
      intro i hi
      have hg : (l.drop i) = l.getD i [] :: l.drop (i + 1) := by
        rw [List.drop_eq_getElem_cons (by omega), List.getD_eq_getElem?_getD, List.getElem?_eq_getElem (by omega)]; simp
      rw [hg, List.all_cons]
      by_cases hl : ((l.getD i []).length : Int) ≤ n
      · rw [decide_eq_true hl, Bool.true_and]
        refine Ev.step (fun m => ?_) (ih (i + 1) (by omega))
        rw [hs]; unfold S_ref01_Few_9
        rw [if_pos (by simp; omega), if_pos (by omega)]
        dsimp only
        rw [Int.toNat_natCast, if_neg (by rw [decide_eq_true_eq]; omega), i64w (by omega) (by omega)]
        simp
      · rw [decide_eq_false hl, Bool.false_and]
        refine Ev.step (t := fun _ => some false) (fun m => ?_) Ev.ret
        rw [hs]; unfold S_ref01_Few_9
        rw [if_pos (by simp; omega), if_pos (by omega)]
        dsimp only
        rw [Int.toNat_natCast, if_pos (by rw [decide_eq_true_eq]; omega)]
  have := key l.length 0 (by omega)
  rw [List.drop_zero] at this
  exact this
theorem Rn_ref01_Trim : Run_ref01_Trim := fun s hs a => Ok.gif fun h => by
  have hl := h.2
  have key : ∀ k : Nat, k ≤ a.length → gv 2 (a.drop k) = 0 → Ev (fun m => s m a (k : Int)) (bd (bv a)) := by
    intro k
    induction k with
    | zero =>
      intro _ hz
      rw [List.drop_zero] at hz
      have hz : bv a = 0 := hz
      refine Ev.step (t := fun _ => some (bd (bv a))) (fun m => ?_) Ev.ret
      rw [hs]; unfold S_ref01_Trim_9
      rw [if_neg (by simp), if_pos (by simp), hz, bd_zero]; rfl
    | succ k ih =>
      intro hk hz
      have e1 : IntKind.wrap .i64 (((k + 1 : Nat) : Int) - 1) = k := by rw [i64w] <;> omega
      by_cases hx : a.getD k 0 = 0
      · refine Ev.step (t := fun m => s m a (k : Int)) (fun m => ?_) (ih (by omega) (drop_zero_step hk hz hx))
        rw [hs]; unfold S_ref01_Trim_9
        rw [if_pos (by simp <;> omega), e1, if_pos (by omega)]
        dsimp only
        rw [Int.toNat_natCast, if_pos (by rw [hx]; rfl)]
      · refine Ev.step (t := fun _ => some (bd (bv a))) (fun m => ?_) Ev.ret
        rw [hs]; unfold S_ref01_Trim_9
        rw [if_pos (by simp <;> omega), e1, if_pos (by omega)]
        dsimp only
        rw [Int.toNat_natCast, if_neg (by simpa using hx), if_pos (by omega), Int.toNat_natCast, (trim_at (by decide) h.1 hk hz hx).1]
  exact key a.length (Nat.le_refl _) (by simp [gv])
theorem Rno_ref01_Trim : Runo_ref01_Trim := fun s hs a => Ok.gif fun h => by
  have hl := h.2
  have key : ∀ k : Nat, k ≤ a.length → gv 2 (a.drop k) = 0 → Ev (fun m => s m (k : Int) a) (a, some ((bd (bv a)).length : Int)) := by
    intro k
    induction k with
    | zero =>
      intro _ hz
      rw [List.drop_zero] at hz
      have hz : bv a = 0 := hz
      refine Ev.step (t := fun _ => some (a, some ((bd (bv a)).length : Int))) (fun m => ?_) Ev.ret
      rw [hs]; unfold So_ref01_Trim_9
      rw [if_neg (by simp), if_pos (by simp), hz, bd_zero]; rfl
    | succ k ih =>
      intro hk hz
      have e1 : IntKind.wrap .i64 (((k + 1 : Nat) : Int) - 1) = k := by rw [i64w] <;> omega
      by_cases hx : a.getD k 0 = 0
      · refine Ev.step (t := fun m => s m (k : Int) a) (fun m => ?_) (ih (by omega) (drop_zero_step hk hz hx))
        rw [hs]; unfold So_ref01_Trim_9
        rw [if_pos (by simp <;> omega), e1, if_pos (by omega)]
        dsimp only
        rw [Int.toNat_natCast, if_pos (by rw [hx]; rfl)]
      · refine Ev.step (t := fun _ => some (a, some ((bd (bv a)).length : Int))) (fun m => ?_) Ev.ret
        obtain ⟨h1, h2, h3⟩ := trim_at (by decide) h.1 hk hz hx
        rw [hs]; unfold So_ref01_Trim_9
        rw [if_pos (by simp <;> omega), e1, if_pos (by omega)]
        dsimp only
        have h2 : (bd (bv a)).length = k + 1 := h2
        rw [Int.toNat_natCast, if_neg (by simpa using hx), if_pos (by omega), h2]
  exact key a.length (Nat.le_refl _) (by simp [gv])
theorem btrim_end {l : List Int} (h : BW l) {T : Int} (hT : bv l = T) :
    ((O_ref01_Trim l).bind fun r => if sameLen false (.int .i64) l r.1 then optE r.2 (some ([] : List Int)) (fun n => some (List.take (Int.toNat n) (List.drop (Int.toNat 0) r.1))) else none) = some (bd T) := by
  subst hT
  rw [O_ref01_Trim, gif_bind h, if_pos (sameLen_self (e := .int .i64))]
  show some (List.take (Int.toNat ((bd (bv l)).length : Int)) (List.drop (Int.toNat 0) l)) = _
  rw [Int.toNat_natCast, show (Int.toNat 0) = 0 from rfl, List.drop_zero, take_norm (by decide) h.1]
theorem gv_snoc (B : Int) (l : List Int) (x : Int) : gv B (l ++ [x]) = gv B l + x * B ^ l.length := by
  rw [gv_append]; simp [gv]; grind
theorem DV.snoc {B : Int} {l : List Int} (h : DV B l) {x : Int} (hx : 0 ≤ x ∧ x < B) : DV B (l ++ [x]) := DV.append.2 ⟨h, by simp [DV]; exact hx⟩
/-- bit i of a number whose digits have W bits -/
theorem bit_of {W : Nat} (hW : 0 < W) {l : List Int} (h : DV (2 ^ W) l) {i : Nat} (hi : i / W < l.length) : gv (2 ^ W) l / 2 ^ i % 2 = l.getD (i / W) 0 / 2 ^ (i % W) % 2 := by
  have h1 := gv_split (2 ^ W) (i / W) l (by omega)
  have hp := two_pow_pos (W * (i / W))
  have e : ((2 : Int) ^ W) ^ (i / W) = 2 ^ (W * (i / W)) := by rw [Int.pow_mul]
  have h2 := gv_lt (two_pow_pos W) (h.take (i / W))
  have h3 := gv_nonneg (Int.le_of_lt (two_pow_pos W)) (h.take (i / W))
  rw [List.length_take, Nat.min_eq_left (by omega), e] at h2
  rw [e] at h1
  have hdm := Nat.div_add_mod i W
  have hq : gv (2 ^ W) l / 2 ^ i = gv (2 ^ W) (l.drop (i / W)) / 2 ^ (i % W) := by
    conv => lhs; rw [← hdm, Int.pow_add, ← Int.ediv_ediv_of_nonneg (Int.le_of_lt hp)]
    rw [h1, Int.add_mul_ediv_left _ _ (by omega), Int.ediv_eq_zero_of_lt h3 h2, Int.zero_add]
  rw [hq, gv_drop_succ _ hi]
  have hr : i % W < W := Nat.mod_lt _ hW
  have e2 : (2 : Int) ^ W = 2 ^ (i % W) * (2 * 2 ^ (W - i % W - 1)) := by
    rw [show (2 : Int) * 2 ^ (W - i % W - 1) = 2 ^ (W - i % W) by rw [show W - i % W = (W - i % W - 1) + 1 by omega, Int.pow_succ, Int.mul_comm]; simp, ← Int.pow_add]
    congr 1; omega
  rw [e2, Int.mul_assoc, Int.add_mul_ediv_left _ _ (Int.ne_of_gt (two_pow_pos _)), Int.mul_assoc, Int.add_mul_emod_self_left]
theorem mod_succ (N : Int) (i : Nat) : N % 2 ^ (i + 1) = N % 2 ^ i + N / 2 ^ i % 2 * 2 ^ i := by
  have hp := two_pow_pos i
  have h1 := Int.emod_add_mul_ediv N (2 ^ i)
  have h2 := Int.emod_add_mul_ediv (N / 2 ^ i) 2
  have h3 := Int.emod_nonneg N (show (2 : Int) ^ i ≠ 0 by omega)
  have h4 := Int.emod_lt_of_pos N hp
  have h5 := Int.emod_nonneg (N / 2 ^ i) (show (2 : Int) ≠ 0 by omega)
  have h6 := Int.emod_lt_of_pos (N / 2 ^ i) (show (0 : Int) < 2 by omega)
  generalize N / 2 ^ i % 2 = b at *
  generalize N / 2 ^ i / 2 = Q at *
  generalize N / 2 ^ i = M at *
  generalize N % 2 ^ i = r at *
  have e : N = (r + b * 2 ^ i) + 2 ^ (i + 1) * Q := by rw [Int.pow_succ, ← h1, ← h2]; grind
  have hlt : r + b * 2 ^ i < 2 ^ (i + 1) := by
    have : b * 2 ^ i ≤ 1 * 2 ^ i := Int.mul_le_mul_of_nonneg_right (by omega) (by omega)
    rw [Int.pow_succ]; omega
  have hnn : 0 ≤ b * 2 ^ i := Int.mul_nonneg h5 (by omega)
  rw [e, Int.add_mul_emod_self_left, Int.emod_eq_of_lt (by omega) hlt]
theorem fdiv_sh (a : Int) (r : Nat) (b : Nat) (hr : r ≤ b) : Int.fdiv a (2 ^ (min (Int.toNat (r : Int)) b)) = a / 2 ^ r := by
  rw [shr_eq, Int.toNat_natCast, Nat.min_eq_left hr]
theorem tdivn {x : Nat} {k : Nat} : Int.tdiv (x : Int) (k : Int) = ((x / k : Nat) : Int) := by
  rw [Int.tdiv_eq_ediv_of_nonneg (by omega), Int.natCast_ediv]
theorem tmodn {x : Nat} {k : Nat} : Int.tmod (x : Int) (k : Int) = ((x % k : Nat) : Int) := by
  rw [Int.tmod_eq_emod_of_nonneg (by omega), Int.natCast_emod]
theorem Rn_ref01_Of : Run_ref01_Of := fun s hs a => Ok.gif fun h => by
  have hl := h.2
  have na := h.nonneg
  have key : ∀ (d i : Nat) (o : List Int), i + d = 32 * a.length → o.length = i → DV 2 o → gv 2 o = nv a % 2 ^ i → Ev (fun m => s m a (i : Int) o) (bd (nv a)) := by
    intro d
    induction d with
    | zero =>
      intro i o hi hlo hd hg
      refine Ev.step (t := fun _ => some (bd (nv a))) (fun m => ?_) Ev.ret
      rw [hs]; unfold S_ref01_Of_13
      dsimp only
      rw [if_neg (by rw [i64w (by omega) (by omega)]; simp; omega)]
      refine btrim_end ⟨hd, by omega⟩ ?_
      have h1 := h.val.2
      rw [show 32 * a.length = i by omega] at h1
      show gv 2 o = _
      rw [hg, Int.emod_eq_of_lt na h1]
    | succ d ih =>
      intro i o hi hlo hd hg
      have hb := bit_of (W := 32) (by omega) (l := a) h.1 (i := i) (by omega)
      have hm : (32 : Int) = ((32 : Nat) : Int) := rfl
      have hx := h.1.get (by decide) (i / 32)
      have hq0 : 0 ≤ a.getD (i / 32) 0 / 2 ^ (i % 32) := Int.ediv_nonneg hx.1 (Int.le_of_lt (two_pow_pos _))
      refine Ev.step (fun m => ?_) (ih (i + 1) (o ++ [a.getD (i / 32) 0 / 2 ^ (i % 32) % 2]) (by omega) (by simp; omega) (hd.snoc (by omega)) ?_)
      · rw [hs]; unfold S_ref01_Of_13
        dsimp only
        rw [if_pos (by rw [i64w (by omega) (by omega)]; simp; omega), if_neg (by decide)]
        rw [hm, tdivn, tmodn, i64w (n := ((i / 32 : Nat) : Int)) (by omega) (by omega), if_pos (by omega), u64w (n := ((i % 32 : Nat) : Int)) (by omega) (by omega), if_neg (by decide), if_neg (by omega), if_neg (by decide), fdiv_sh _ _ _ (by rw [bits32]; omega), Int.toNat_natCast, Int.tmod_eq_emod_of_nonneg hq0, i64w (n := a.getD (i / 32) 0 / 2 ^ (i % 32) % 2) (by omega) (by omega), if_pos (by simp; omega), i64w (by omega) (by omega)]
        simp
      · rw [gv_snoc, hlo, hg, mod_succ, ← hb]; rfl
  exact key (32 * a.length) 0 [] (by omega) rfl .nil (by simp [gv])
theorem norm_of_ge {B : Int} (hB : 1 < B) {l : List Int} (h : DV B l) (hge : l = [] ∨ B ^ (l.length - 1) ≤ gv B l) : gd B (gv B l) = l := by
  rcases hge with rfl | hge
  · simp [gv, gd_zero]
  · have h1 := take_norm hB h
    have h2 := gd_len_lt hB (gv B l)
    have h3 : l.length ≤ (gd B (gv B l)).length := by
      by_cases hh : l.length ≤ (gd B (gv B l)).length
      · exact hh
      · exfalso
        have : B ^ (gd B (gv B l)).length ≤ B ^ (l.length - 1) := pow_le_pow' (by omega) (by omega)
        omega
    rw [List.take_of_length_le h3] at h1
    exact h1.symm
theorem get_le {B : Int} (hB : 0 < B) {l : List Int} (h : DV B l) {k : Nat} (hk : k < l.length) : l.getD k 0 * B ^ k ≤ gv B l := by
  have h1 := gv_split B k l (by omega)
  have h2 := gv_nonneg (Int.le_of_lt hB) (h.take k)
  have h3 := gv_nonneg (Int.le_of_lt hB) (h.drop (k + 1))
  rw [gv_drop_succ _ hk] at h1
  have h4 : 0 ≤ B ^ k * (B * gv B (l.drop (k + 1))) := Int.mul_nonneg (Int.le_of_lt (pow_pos' hB k)) (Int.mul_nonneg (Int.le_of_lt hB) h3)
  rw [Int.mul_add] at h1
  rw [Int.mul_comm]
  omega
/-- one more bit into the digits -/
theorem put_bit {W : Nat} (hW : 0 < W) {l : List Int} (h : DV (2 ^ W) l) {i : Nat} (hi : i / W < l.length) {b : Int} (hb : 0 ≤ b ∧ b < 2) (hlt : gv (2 ^ W) l < 2 ^ i) :
    0 ≤ l.getD (i / W) 0 + b * 2 ^ (i % W) ∧ l.getD (i / W) 0 + b * 2 ^ (i % W) < 2 ^ W ∧ gv (2 ^ W) (l.set (i / W) (l.getD (i / W) 0 + b * 2 ^ (i % W))) = gv (2 ^ W) l + b * 2 ^ i := by
  have hx := h.get (two_pow_pos W) (i / W)
  have hp := two_pow_pos (i % W)
  have hr : i % W < W := Nat.mod_lt _ hW
  have e : ((2 : Int) ^ W) ^ (i / W) * 2 ^ (i % W) = 2 ^ i := by rw [← Int.pow_mul, ← Int.pow_add, Nat.div_add_mod]
  have h1 := get_le (two_pow_pos W) h hi
  have h2 : l.getD (i / W) 0 < 2 ^ (i % W) := by
    have hk := pow_pos' (two_pow_pos W) (i / W)
    by_cases hh : l.getD (i / W) 0 < 2 ^ (i % W)
    · exact hh
    · exfalso
      have h3 : ((2 : Int) ^ W) ^ (i / W) * 2 ^ (i % W) ≤ ((2 : Int) ^ W) ^ (i / W) * l.getD (i / W) 0 := Int.mul_le_mul_of_nonneg_left (by omega) (by omega)
      rw [e, Int.mul_comm _ (l.getD (i / W) 0)] at h3
      omega
  have h3 := two_pow_le (show i % W + 1 ≤ W by omega)
  rw [Int.pow_succ] at h3
  have h4 : b * 2 ^ (i % W) ≤ 1 * 2 ^ (i % W) := Int.mul_le_mul_of_nonneg_right (by omega) (by omega)
  have h5 : 0 ≤ b * 2 ^ (i % W) := Int.mul_nonneg hb.1 (by omega)
  refine ⟨by omega, by omega, ?_⟩
  rw [gv_set _ hi]
  have : (l.getD (i / W) 0 + b * 2 ^ (i % W) - l.getD (i / W) 0) * ((2 : Int) ^ W) ^ (i / W) = b * 2 ^ i := by
    rw [← e]; grind
  rw [this]
theorem Rn_ref01_To : Run_ref01_To := fun s t hs ht b0 => Ok.gif fun h => by
  have nb := h.nonneg
  have hlen := len_norm (by decide) h.1
  have hbl := h.2
  simp only [T_ref01_To, F_ref01_Trim, gif_bind h.w]
  have hd0 : DV 2 (bd (bv b0)) := gd_DV (by decide) _
  have hv0 : gv 2 (bd (bv b0)) = bv b0 := gd_val (by decide) _ nb
  have hge : bd (bv b0) = [] ∨ 2 ^ ((bd (bv b0)).length - 1) ≤ bv b0 := by
    by_cases h0 : bv b0 = 0
    · left; rw [h0, bd_zero]
    · right; exact gd_len_ge (by decide) (by omega)
  have hlen : (bd (bv b0)).length ≤ b0.length := hlen
  generalize bd (bv b0) = b at *
  have w32 : (4294967296 : Int) = 2 ^ 32 := rfl
  have key : ∀ (d i : Nat) (o : List Int), i + d = b.length → o.length = (i + 31) / 32 → DV 4294967296 o → gv 4294967296 o = gv 2 (b.take i) → Ev (fun m => s m b (i : Int) o) (dn (bv b0)) := by
    intro d
    induction d with
    | zero =>
      intro i o hi hlo hd hg
      refine Ev.step (t := fun _ => some o) (fun m => ?_) ?_
      · rw [hs]; unfold S_ref01_To_17
        rw [if_neg (by simp; omega)]
      · rw [List.take_of_length_le (by omega), hv0] at hg
        have := norm_of_ge (B := 4294967296) (by decide) hd (by
          rcases hge with h1 | h1
          · left
            subst h1
            exact List.eq_nil_of_length_eq_zero (by rw [hlo]; simp at hi; omega)
          · by_cases ho : o = []
            · left; exact ho
            · right
              have : o.length ≠ 0 := fun h => ho (List.eq_nil_of_length_eq_zero h)
              rw [hg, pow32]
              exact Int.le_trans (two_pow_le (by omega)) h1)
        rw [hg] at this
        have this : dn (bv b0) = o := this
        rw [this]; exact Ev.ret
    | succ d ih =>
      intro i o hi hlo hd hg
      have hx := hd0.get (by decide) i
      have hm : (32 : Int) = ((32 : Nat) : Int) := rfl
      have hblt := gv_lt (B := 2) (by decide) (hd0.take i)
      rw [List.length_take, Nat.min_eq_left (by omega)] at hblt
      have next : ∀ o' : List Int, o'.length = (i + 1 + 31) / 32 → DV 4294967296 o' → gv 4294967296 o' = gv 2 (b.take i) → Ev (fun m => t m b (i : Int) o') (dn (bv b0)) := by
        intro o' hl' hd' hg'
        obtain ⟨p1, p2, p3⟩ := put_bit (W := 32) (by omega) (l := o') hd' (i := i) (by omega) hx (by rw [← w32, hg']; exact hblt)
        have hbp : 0 ≤ b.getD i 0 * 2 ^ (i % 32) := Int.mul_nonneg hx.1 (Int.le_of_lt (two_pow_pos _))
        have ho := hd'.get (by decide) (i / 32)
        rw [← w32] at p2 p3
        refine Ev.step (fun m => ?_) (ih (i + 1) (o'.set (i / 32) (o'.getD (i / 32) 0 + b.getD i 0 * 2 ^ (i % 32))) (by omega) (by simpa using hl') (hd'.set ⟨p1, p2⟩) ?_)
        · rw [ht]; unfold S_ref01_To_32
          dsimp only
          rw [hm, tdivn, tmodn, if_neg (by decide), i64w (n := ((i / 32 : Nat) : Int)) (by omega) (by omega), if_pos (by omega), if_pos (by omega), if_neg (by decide), u64w (n := ((i % 32 : Nat) : Int)) (by omega) (by omega), if_neg (by omega), if_pos (by omega), Int.toNat_natCast, Int.toNat_natCast, Int.toNat_natCast, Nat.min_eq_left (show i % 32 ≤ IntKind.bits .u32 by rw [bits32]; omega), u32w (n := b.getD i 0) (by omega) (by omega), u32w (n := b.getD i 0 * 2 ^ (i % 32)) (by omega) (by omega), u32w p1 p2, i64w (by omega) (by omega)]
          simp
        · rw [p3, hg', gv_take_succ _ (by omega)]
      by_cases hz : i % 32 = 0
      · refine Ev.step (fun m => ?_) (next (o ++ [0]) (by simp; omega) (hd.snoc (by omega)) (by rw [gv_snoc, hg]; simp))
        rw [hs]; unfold S_ref01_To_17
        rw [if_pos (by simp; omega), if_neg (by decide), hm, tmodn, if_pos (by rw [hz]; rfl), if_pos (by simp; omega)]
      · refine Ev.step (fun m => ?_) (next o (by omega) hd hg)
        rw [hs]; unfold S_ref01_To_17
        rw [if_pos (by simp; omega), if_neg (by decide), hm, tmodn, if_neg (by simp; omega)]
  exact key b.length 0 [] (by omega) rfl .nil (by simp [gv])
theorem Rn_ref01_Is : Run_ref01_Is := fun s hs a b => Ok.gif fun h => by
  simp only [T_ref01_Is, F_ref01_To, gif_bind h]
  have hlc : (dn (bv b)).length ≤ 2199023255552 := by
    have := dn_len (k := 2199023255552) (n := bv b) (Int.lt_of_lt_of_le h.val.2 (two_pow_le (by have := h.2; omega)))
    exact this
  generalize dn (bv b) = c at *
  by_cases hl : a.length = c.length
  · simp only [show ((a.length : Int) != (c.length : Int)) = false by simp; omega]
    have key : ∀ (d i : Nat), i + d = a.length → Ev (fun m => s m a c (i : Int)) (decide (a.drop i = c.drop i)) := by
      intro d
      induction d with
      | zero =>
        intro i hi
        refine Ev.step (t := fun _ => some _) (fun m => ?_) Ev.ret
        rw [hs]; unfold S_ref01_Is_21
        rw [if_neg (by simp; omega), List.drop_eq_nil_of_le (by omega), List.drop_eq_nil_of_le (by omega)]; rfl
      | succ d ih =>
        intro i hi
        have e : decide (a.drop i = c.drop i) = (decide (a.getD i 0 = c.getD i 0) && decide (a.drop (i + 1) = c.drop (i + 1))) := by
          rw [drop_cons' (show i < a.length by omega), drop_cons' (show i < c.length by omega)]; simp
        rw [e]
        by_cases hx : a.getD i 0 = c.getD i 0
        · rw [decide_eq_true hx, Bool.true_and]
          refine Ev.step (fun m => ?_) (ih (i + 1) (by omega))
          rw [hs]; unfold S_ref01_Is_21
          rw [if_pos (by simp; omega), if_pos (by omega), if_pos (by omega)]
          dsimp only
          rw [Int.toNat_natCast, if_neg (by rw [hx]; simp), i64w (by omega) (by omega)]
          simp
        · rw [decide_eq_false hx, Bool.false_and]
          refine Ev.step (t := fun _ => some false) (fun m => ?_) Ev.ret
          rw [hs]; unfold S_ref01_Is_21
          rw [if_pos (by simp; omega), if_pos (by omega), if_pos (by omega)]
          dsimp only
          rw [Int.toNat_natCast, if_pos (bne_iff_ne.2 hx)]
    have := key a.length 0 (by omega)
    rw [List.drop_zero, List.drop_zero] at this
    exact this
  · simp only [show ((a.length : Int) != (c.length : Int)) = true by simp; omega, if_true]
    rw [decide_eq_false (fun h => hl (by rw [h]))]
    exact Ev.ret
theorem Rn_ref01_bit : Run_ref01_bit := fun b i => Ok.gif_const fun h => by
  rw [T_ref01_bit]
  by_cases hi : i < (b.length : Int)
  · rw [if_pos (decide_eq_true hi), if_pos (by omega)]
  · rw [if_neg (by simpa using hi), List.getD_eq_getElem?_getD, List.getElem?_eq_none (by omega)]; rfl
theorem bit_bind {σ : Type} {b : List Int} {i : Nat} {k : Int → Option σ} : (F_ref01_bit b (i : Int)).bind k = k (b.getD i 0) := by
  rw [F_ref01_bit, gif_bind (by omega), Int.toNat_natCast]
theorem drop_bit (b : List Int) (k : Nat) : gv 2 (b.drop k) = b.getD k 0 + 2 * gv 2 (b.drop (k + 1)) := by
  by_cases h : k < b.length
  · exact gv_drop_succ _ h
  · rw [List.drop_eq_nil_of_le (by omega), List.drop_eq_nil_of_le (by omega), List.getD_eq_getElem?_getD, List.getElem?_eq_none (by omega)]; rfl
theorem bv_shift {b : List Int} (h : DV 2 b) (k : Nat) : ∃ r, 0 ≤ r ∧ r < 2 ^ k ∧ bv b = r + 2 ^ k * gv 2 (b.drop k) := by
  by_cases hk : k ≤ b.length
  · refine ⟨gv 2 (b.take k), gv_nonneg (by decide) (h.take k), ?_, gv_split 2 k b hk⟩
    have := gv_lt (B := 2) (by decide) (h.take k)
    rwa [List.length_take, Nat.min_eq_left hk] at this
  · refine ⟨bv b, gv_nonneg (by decide) h, Int.lt_of_lt_of_le (gv_lt (by decide) h) (two_pow_le (by omega)), ?_⟩
    rw [List.drop_eq_nil_of_le (by omega)]; simp [gv]
theorem shift_lt {a b : List Int} (ha : DV 2 a) (hb : DV 2 b) (k : Nat) (h : gv 2 (a.drop k) < gv 2 (b.drop k)) : bv a < bv b := by
  obtain ⟨r, h0, h1, h2⟩ := bv_shift ha k
  obtain ⟨r', h3, h4, h5⟩ := bv_shift hb k
  have : 2 ^ k * (gv 2 (a.drop k) + 1) ≤ 2 ^ k * gv 2 (b.drop k) := Int.mul_le_mul_of_nonneg_left (by omega) (Int.le_of_lt (two_pow_pos k))
  rw [Int.mul_add, Int.mul_one] at this
  omega
theorem Rn_ref01_Cmp : Run_ref01_Cmp := fun s hs a b => Ok.gif fun ⟨ha, hb⟩ => by
  have hA := ha.2
  have hB := hb.2
  have key : ∀ k : Nat, k ≤ 2199023255552 → gv 2 (a.drop k) = gv 2 (b.drop k) → Ev (fun m => s m a b ((k : Int) - 1)) (cm (bv a) (bv b)) := by
    intro k
    induction k with
    | zero =>
      intro _ hd
      rw [List.drop_zero, List.drop_zero] at hd
      refine Ev.step (t := fun _ => some (cm (bv a) (bv b))) (fun m => ?_) Ev.ret
      rw [hs]; unfold S_ref01_Cmp_9
      have hd : bv a = bv b := hd
      rw [if_neg (by simp), hd, cm_self]
    | succ k ih =>
      intro hk hd
      have e1 : ((k + 1 : Nat) : Int) - 1 = k := by omega
      have hx := ha.1.get (by decide) k
      have hy := hb.1.get (by decide) k
      have dx := drop_bit a k
      have dy := drop_bit b k
      rw [e1]
      by_cases heq : a.getD k 0 = b.getD k 0
      · refine Ev.step (t := fun m => s m a b ((k : Int) - 1)) (fun m => ?_) (ih (by omega) (by omega))
        rw [hs]; unfold S_ref01_Cmp_9
        rw [if_pos (by simp), bit_bind, bit_bind, if_neg (by rw [heq]; simp), i64w (by omega) (by omega)]
      · refine Ev.step (t := fun _ => some (cm (bv a) (bv b))) (fun m => ?_) Ev.ret
        rw [hs]; unfold S_ref01_Cmp_9
        rw [if_pos (by simp), bit_bind, bit_bind, if_pos (bne_iff_ne.2 heq), bit_bind, bit_bind, i64w (by omega) (by omega)]
        congr 1
        by_cases hlt : a.getD k 0 < b.getD k 0
        · rw [cm_of_lt (shift_lt ha.1 hb.1 k (by omega))]; omega
        · rw [cm_of_gt (shift_lt hb.1 ha.1 k (by omega))]; omega
  have hm : (if (b.length : Int) > (a.length : Int) then (b.length : Int) else (a.length : Int)) = ((max a.length b.length : Nat) : Int) := by split <;> omega
  have := key (max a.length b.length) (by omega) (by rw [List.drop_eq_nil_of_le (by omega), List.drop_eq_nil_of_le (by omega)])
  simp only [T_ref01_Cmp, hm]
  rw [i64w (by omega) (by omega)]
  exact this
end Go.W

set_option linter.unusedVariables false
set_option linter.unusedSimpArgs false
namespace Go.W

theorem BW.bd {k : Nat} {n : Int} (h : Bd k n) (hk : k ≤ 4398046511104) : BW (Go.W.bd n) := ⟨gd_DV (by decide) n, Nat.le_trans (gd_len (by decide) _ n h.2) (by omega)⟩
theorem Rn_ref01_Add : Run_ref01_Add := fun s t hs ht a b => Ok.gif fun ⟨ha, hb⟩ => by
  have hA := ha.2
  have hB := hb.2
  have key : ∀ (d i : Nat) (o : List Int) (c : Int), i + d = max a.length b.length + 1 → o.length = i → DV 2 o → 0 ≤ c → c ≤ 1 → (d = 0 → c = 0) → gv 2 o + (c + gv 2 (a.drop i) + gv 2 (b.drop i)) * 2 ^ i = bv a + bv b → Ev (fun m => s m a b c (i : Int) o) (bd (bv a + bv b)) := by
    intro d
    induction d with
    | zero =>
      intro i o c hi hl hd h0 h1 hc hg
      have hc := hc rfl
      subst hc
      refine Ev.step (t := fun _ => some (bd (bv a + bv b))) (fun m => ?_) Ev.ret
      rw [hs]; unfold S_ref01_Add_17
      rw [if_neg (by simp; omega), if_neg (by simp; omega), if_neg (by decide)]
      rw [List.drop_eq_nil_of_le (by omega), List.drop_eq_nil_of_le (by omega)] at hg
      refine btrim_end ⟨hd, by omega⟩ ?_
      simpa [gv] using hg
    | succ d ih =>
      intro i o c hi hl hd h0 h1 hc hg
      have dx := drop_bit a i
      have dy := drop_bit b i
      have hx := ha.1.get (by decide) i
      have hy := hb.1.get (by decide) i
      by_cases hstop : ¬ i < a.length ∧ ¬ i < b.length ∧ c = 0
      · obtain ⟨q1, q2, q3⟩ := hstop
        subst q3
        refine Ev.step (t := fun _ => some (bd (bv a + bv b))) (fun m => ?_) Ev.ret
        rw [hs]; unfold S_ref01_Add_17
        rw [if_neg (by simp; omega), if_neg (by simp; omega), if_neg (by decide)]
        rw [List.drop_eq_nil_of_le (by omega), List.drop_eq_nil_of_le (by omega)] at hg
        refine btrim_end ⟨hd, by omega⟩ ?_
        simpa [gv] using hg
      · have body : Ev (fun m => t m a b c (i : Int) o) (bd (bv a + bv b)) := by
          refine Ev.step (fun m => ?_) (ih (i + 1) (o ++ [(a.getD i 0 + b.getD i 0 + c) % 2]) ((a.getD i 0 + b.getD i 0 + c) / 2) (by omega) (by simp; omega) (hd.snoc (by omega)) (by omega) (by omega) (fun hd0 => ?_) ?_)
          · rw [ht]; unfold S_ref01_Add_24
            rw [bit_bind, bit_bind, if_neg (by decide)]
            dsimp only
            rw [i64w (n := a.getD i 0 + b.getD i 0) (by omega) (by omega), i64w (n := a.getD i 0 + b.getD i 0 + c) (by omega) (by omega), Int.tmod_eq_emod_of_nonneg (by omega), Int.tdiv_eq_ediv_of_nonneg (by omega), if_pos (by simp; omega), if_neg (by decide), i64w (n := (a.getD i 0 + b.getD i 0 + c) / 2) (by omega) (by omega), i64w (by omega) (by omega)]
            simp
          · have e1 : a.getD i 0 = 0 := by rw [List.getD_eq_getElem?_getD, List.getElem?_eq_none (by omega)]; rfl
            have e2 : b.getD i 0 = 0 := by rw [List.getD_eq_getElem?_getD, List.getElem?_eq_none (by omega)]; rfl
            omega
          · rw [gv_snoc, hl, ← hg, dx, dy, Int.pow_succ]
            have := Int.emod_add_mul_ediv (a.getD i 0 + b.getD i 0 + c) 2
            generalize (a.getD i 0 + b.getD i 0 + c) % 2 = u at *
            generalize (a.getD i 0 + b.getD i 0 + c) / 2 = v at *
            generalize gv 2 (a.drop (i + 1)) = X at *
            generalize gv 2 (b.drop (i + 1)) = Y at *
            grind
        refine Ev.step (fun m => ?_) body
        rw [hs]; unfold S_ref01_Add_17
        by_cases q1 : i < a.length
        · rw [if_pos (by simp; omega)]
        · rw [if_neg (by simp; omega)]
          by_cases q2 : i < b.length
          · rw [if_pos (by simp; omega)]
          · rw [if_neg (by simp; omega), if_pos (by simp; omega)]
  exact key (max a.length b.length + 1) 0 [] 0 (by omega) rfl .nil (by omega) (by omega) (by omega) (by simp [gv])
theorem Rn_ref01_Sub : Run_ref01_Sub := fun s hs a b => Ok.gif fun ⟨ha, hb, hle⟩ => by
  have hA := ha.2
  have hB := hb.2
  have key : ∀ (d i : Nat) (o : List Int) (c : Int), i + d = a.length → o.length = i → DV 2 o → 0 ≤ c → c ≤ 1 → gv 2 o + (gv 2 (a.drop i) - gv 2 (b.drop i) - c) * 2 ^ i = bv a - bv b → Ev (fun m => s m a b c (i : Int) o) (bd (bv a - bv b)) := by
    intro d
    induction d with
    | zero =>
      intro i o c hi hl hd h0 h1 hg
      refine Ev.step (t := fun _ => some (bd (bv a - bv b))) (fun m => ?_) Ev.ret
      rw [hs]; unfold S_ref01_Sub_17
      rw [if_neg (by simp; omega)]
      rw [List.drop_eq_nil_of_le (show a.length ≤ i by omega)] at hg
      have hb0 := gv_nonneg (B := 2) (by decide) (hb.1.drop i)
      have hlt := gv_lt (B := 2) (by decide) hd
      rw [hl] at hlt
      refine btrim_end ⟨hd, by omega⟩ ?_
      simp only [gv] at hg
      generalize hr : 0 - gv 2 (b.drop i) - c = r at hg
      by_cases hr0 : r = 0
      · subst hr0
        show gv 2 o = _
        omega
      · exfalso
        have : r * 2 ^ i ≤ (-1) * 2 ^ i := Int.mul_le_mul_of_nonneg_right (by omega) (Int.le_of_lt (two_pow_pos i))
        omega
    | succ d ih =>
      intro i o c hi hl hd h0 h1 hg
      have dx := drop_bit a i
      have dy := drop_bit b i
      have hx := ha.1.get (by decide) i
      have hy := hb.1.get (by decide) i
      refine Ev.step (fun m => ?_) (ih (i + 1) (o ++ [(a.getD i 0 - b.getD i 0 - c) % 2]) (if a.getD i 0 - b.getD i 0 - c < 0 then 1 else 0) (by omega) (by simp; omega) (hd.snoc (by omega)) (by split <;> omega) (by split <;> omega) ?_)
      · rw [hs]; unfold S_ref01_Sub_17
        rw [if_pos (by simp; omega), bit_bind, bit_bind]
        dsimp only
        rw [i64w (n := a.getD i 0 - b.getD i 0) (by omega) (by omega), i64w (n := a.getD i 0 - b.getD i 0 - c) (by omega) (by omega)]
        by_cases hneg : a.getD i 0 - b.getD i 0 - c < 0
        · rw [if_pos (decide_eq_true hneg), if_pos hneg, i64w (n := a.getD i 0 - b.getD i 0 - c + 2) (by omega) (by omega), if_pos (by simp; omega), i64w (by omega) (by omega), show a.getD i 0 - b.getD i 0 - c + 2 = (a.getD i 0 - b.getD i 0 - c) % 2 by omega]
          simp
        · rw [if_neg (by rw [decide_eq_true_eq]; omega), if_neg hneg, if_pos (by simp; omega), i64w (by omega) (by omega), show a.getD i 0 - b.getD i 0 - c = (a.getD i 0 - b.getD i 0 - c) % 2 by omega]
          simp
      · have e : (a.getD i 0 - b.getD i 0 - c) = (a.getD i 0 - b.getD i 0 - c) % 2 - 2 * (if a.getD i 0 - b.getD i 0 - c < 0 then 1 else 0) := by split <;> omega
        rw [gv_snoc, hl, ← hg, dx, dy, Int.pow_succ]
        generalize (if a.getD i 0 - b.getD i 0 - c < 0 then (1 : Int) else 0) = v at *
        generalize (a.getD i 0 - b.getD i 0 - c) % 2 = u at *
        generalize gv 2 (a.drop (i + 1)) = X at *
        generalize gv 2 (b.drop (i + 1)) = Y at *
        grind
  exact key a.length 0 [] 0 (by omega) rfl .nil (by omega) (by omega) (by simp [gv])

/-! words -/
theorem gdn_len (B : Int) : ∀ (k : Nat) (n : Int), (gdn B n k).length = k
  | 0, _ => rfl
  | k + 1, n => by simp [gdn, gdn_len B k]
theorem gdn_of {B : Int} (hB : 1 < B) : ∀ {l : List Int}, DV B l → gdn B (gv B l) l.length = l
  | [], _ => rfl
  | x :: l, h => by
    have hd := DV.cons.1 h
    simp only [gv, List.length_cons, gdn]
    rw [Int.add_mul_emod_self_left, Int.emod_eq_of_lt hd.1.1 hd.1.2, Int.add_mul_ediv_left _ _ (by omega), Int.ediv_eq_zero_of_lt hd.1.1 hd.1.2, Int.zero_add, gdn_of hB hd.2]
theorem gdn_DV {B : Int} (hB : 1 < B) : ∀ (k : Nat) (n : Int), DV B (gdn B n k)
  | 0, _ => .nil
  | k + 1, n => DV.cons.2 ⟨⟨Int.emod_nonneg _ (by omega), Int.emod_lt_of_pos _ (by omega)⟩, gdn_DV hB k _⟩
theorem gdn_val {B : Int} (hB : 1 < B) : ∀ (k : Nat) (n : Int), 0 ≤ n → n < B ^ k → gv B (gdn B n k) = n
  | 0, n, h0, h => by simp at h; simp [gdn, gv]; omega
  | k + 1, n, h0, h => by
    simp only [gdn, gv]
    rw [gdn_val hB k (n / B) (Int.ediv_nonneg h0 (by omega)) (Int.ediv_lt_of_lt_mul (by omega) (by rw [Int.pow_succ] at h; exact h))]
    exact Int.emod_add_mul_ediv n B
theorem Rn_ref01_words : Run_ref01_words := fun s hs b => Ok.gif fun h => by
  have hl := h.2
  have e15 : (15 : Int) = ((15 : Nat) : Int) := rfl
  have w15 : (32768 : Int) = 2 ^ 15 := rfl
  have key : ∀ (d i : Nat) (o : List Int), i + d = b.length → o.length = (b.length + 14) / 15 → DV 32768 o → gv 32768 o = gv 2 (b.take i) → Ev (fun m => s m b (i : Int) o) (gdn 32768 (bv b) ((b.length + 14) / 15)) := by
    intro d
    induction d with
    | zero =>
      intro i o hi hlo hd hg
      rw [List.take_of_length_le (by omega)] at hg
      refine Ev.step (t := fun _ => some o) (fun m => ?_) ?_
      · rw [hs]; unfold S_ref01_words_13
        rw [if_neg (by simp; omega)]
      · have := gdn_of (by decide) hd
        rw [hg, hlo] at this
        have this : gdn 32768 (bv b) ((b.length + 14) / 15) = o := this
        rw [this]; exact Ev.ret
    | succ d ih =>
      intro i o hi hlo hd hg
      have hx := h.1.get (by decide) i
      have hblt := gv_lt (B := 2) (by decide) (h.1.take i)
      rw [List.length_take, Nat.min_eq_left (by omega)] at hblt
      obtain ⟨p1, p2, p3⟩ := put_bit (W := 15) (by omega) (l := o) hd (i := i) (by omega) hx (by rw [← w15, hg]; exact hblt)
      have hbp : 0 ≤ b.getD i 0 * 2 ^ (i % 15) := Int.mul_nonneg hx.1 (Int.le_of_lt (two_pow_pos _))
      have ho := hd.get (by decide) (i / 15)
      rw [← w15] at p2 p3
      refine Ev.step (fun m => ?_) (ih (i + 1) (o.set (i / 15) (o.getD (i / 15) 0 + b.getD i 0 * 2 ^ (i % 15))) (by omega) (by simpa using hlo) (hd.set ⟨p1, p2⟩) ?_)
      · rw [hs]; unfold S_ref01_words_13
        dsimp only
        rw [if_pos (by simp; omega), e15, tdivn, tmodn, if_neg (by decide), i64w (n := ((i / 15 : Nat) : Int)) (by omega) (by omega), if_pos (by omega), if_pos (by omega), if_neg (by decide), u64w (n := ((i % 15 : Nat) : Int)) (by omega) (by omega), if_neg (by omega), if_pos (by omega), Int.toNat_natCast, Int.toNat_natCast, Int.toNat_natCast, Nat.min_eq_left (show i % 15 ≤ IntKind.bits .i64 by rw [bitsi64]; omega), i64w (n := b.getD i 0 * 2 ^ (i % 15)) (by omega) (by omega), i64w (n := o.getD (i / 15) 0 + b.getD i 0 * 2 ^ (i % 15)) (by omega) (by omega), i64w (by omega) (by omega)]
        simp
      · rw [p3, hg, gv_take_succ _ (by omega)]
  have := key b.length 0 (List.replicate ((b.length + 14) / 15) 0) (by omega) (by simp) (DV.replicate (by decide) _) (by rw [gv_replicate]; simp [gv])
  simp only [T_ref01_words]
  have e14 : (b.length : Int) + 14 = ((b.length + 14 : Nat) : Int) := by simp
  rw [i64w (n := (b.length : Int) + 14) (by omega) (by omega), e14, e15, tdivn, i64w (by omega) (by omega)]
  simp only [show ¬ (((15 : Nat) : Int) = 0) by decide, if_false, show (0 ≤ (((b.length + 14) / 15 : Nat) : Int) ∧ (((b.length + 14) / 15 : Nat) : Int) ≤ ((70368744177664 / 8 : Nat) : Int)) = True by simp; omega, if_true, Int.toNat_natCast]
  exact this
theorem Rn_ref01_bits : Run_ref01_bits := fun s hs w => Ok.gif fun ⟨h, hl⟩ => by
  have e15 : (15 : Int) = ((15 : Nat) : Int) := rfl
  have w15 : (32768 : Int) = 2 ^ 15 := rfl
  have hN := gv_nonneg (B := 32768) (by decide) h
  have key : ∀ (d i : Nat) (o : List Int), i + d = 15 * w.length → o.length = 15 * w.length → DV 2 o → gv 2 (o.take i) = gv 32768 w % 2 ^ i → Ev (fun m => s m w (i : Int) o) (bd (gv 32768 w)) := by
    intro d
    induction d with
    | zero =>
      intro i o hi hlo hd hg
      refine Ev.step (t := fun _ => some (bd (gv 32768 w))) (fun m => ?_) Ev.ret
      rw [hs]; unfold S_ref01_bits_13
      rw [if_neg (by simp; omega)]
      refine btrim_end ⟨hd, by omega⟩ ?_
      rw [List.take_of_length_le (by omega)] at hg
      show gv 2 o = _
      have hlt := gv_lt (B := 32768) (by decide) h
      rw [w15, ← Int.pow_mul, show 15 * w.length = i by omega] at hlt
      rw [hg]
      exact Int.emod_eq_of_lt hN hlt
    | succ d ih =>
      intro i o hi hlo hd hg
      have hb := bit_of (W := 15) (by omega) (l := w) h (i := i) (by omega)
      have hx := h.get (by decide) (i / 15)
      have hq0 : 0 ≤ w.getD (i / 15) 0 / 2 ^ (i % 15) := Int.ediv_nonneg hx.1 (Int.le_of_lt (two_pow_pos _))
      refine Ev.step (fun m => ?_) (ih (i + 1) (o.set i (w.getD (i / 15) 0 / 2 ^ (i % 15) % 2)) (by omega) (by simpa using hlo) (hd.set (by omega)) ?_)
      · rw [hs]; unfold S_ref01_bits_13
        dsimp only
        rw [if_pos (by simp; omega), if_neg (by decide), e15, tdivn, tmodn, i64w (n := ((i / 15 : Nat) : Int)) (by omega) (by omega), if_pos (by omega), if_neg (by decide), u64w (n := ((i % 15 : Nat) : Int)) (by omega) (by omega), if_neg (by omega), if_neg (by decide), if_pos (by omega), fdiv_sh _ _ _ (by rw [bitsi64]; omega), Int.toNat_natCast, Int.toNat_natCast, Int.tmod_eq_emod_of_nonneg hq0, i64w (by omega) (by omega)]
        simp
      · rw [gv_take_set _ (by omega), hg, mod_succ, ← hb]; rfl
  have := key (15 * w.length) 0 (List.replicate (15 * w.length) 0) (by omega) (by simp) (DV.replicate (by decide) _) (by simp [gv])
  simp only [T_ref01_bits]
  rw [i64w (by omega) (by omega), show (15 : Int) * (w.length : Int) = ((15 * w.length : Nat) : Int) by simp]
  simp only [show (0 ≤ ((15 * w.length : Nat) : Int) ∧ ((15 * w.length : Nat) : Int) ≤ ((70368744177664 / 8 : Nat) : Int)) = True by simp; omega, if_true, Int.toNat_natCast]
  exact this
theorem Rn_ref01_Mul : Run_ref01_Mul := fun s t hs ht a b => Ok.gif fun ⟨ha, hb⟩ => by
  have hA := ha.2
  have hB := hb.2
  have na := ha.nonneg
  have nb := hb.nonneg
  have w15 : (32768 : Int) = 2 ^ 15 := rfl
  have words : ∀ c : List Int, BB c → gv 32768 (gdn 32768 (bv c) ((c.length + 14) / 15)) = bv c := fun c hc => by
    refine gdn_val (by decide) _ _ hc.nonneg ?_
    rw [w15, ← Int.pow_mul]
    exact Int.lt_of_lt_of_le hc.val.2 (two_pow_le (by omega))
  have va := words a ha
  have vb := words b hb
  have la := gdn_len 32768 ((a.length + 14) / 15) (bv a)
  have lb := gdn_len 32768 ((b.length + 14) / 15) (bv b)
  have da := gdn_DV (B := 32768) (by decide) ((a.length + 14) / 15) (bv a)
  have db := gdn_DV (B := 32768) (by decide) ((b.length + 14) / 15) (bv b)
  simp only [T_ref01_Mul, F_ref01_words, gif_bind ha, gif_bind hb]
  generalize gdn 32768 (bv a) ((a.length + 14) / 15) = p at *
  generalize gdn 32768 (bv b) ((b.length + 14) / 15) = q at *
  rw [i64w (by omega) (by omega)]
  simp only [show (0 ≤ (p.length : Int) + (q.length : Int) ∧ (p.length : Int) + (q.length : Int) ≤ ((70368744177664 / 8 : Nat) : Int)) = True by simp; omega, if_true]
  rw [show Int.toNat ((p.length : Int) + (q.length : Int)) = p.length + q.length by omega]
  have outer : ∀ (d i : Nat) (out : List Int), i + d = p.length → out.length = p.length + q.length → DV 32768 out → gv 32768 (out.drop (i + q.length)) = 0 →
      gv 32768 (out.take (i + q.length)) = gv 32768 (p.take i) * bv b → Ev (fun m => s m (i : Int) p q out) (bd (bv a * bv b)) := by
    intro d
    induction d with
    | zero =>
      intro i out hi hl hd hz hT
      have hi' : i = p.length := by omega
      subst hi'
      refine Ev.step (t := fun _ => some (bd (bv a * bv b))) (fun m => ?_) Ev.ret
      rw [hs]; unfold S_ref01_Mul_17
      rw [List.take_of_length_le (by omega), List.take_of_length_le (by omega), va] at hT
      rw [if_neg (by simp), F_ref01_bits, gif_bind ⟨hd, by omega⟩, hT]
    | succ d ih =>
      intro i out hi hl hd hz hT
      have hx := da.get (by decide) i
      have hz' := gv_zero_split (by decide) hd (show i + q.length < out.length by omega) hz
      have inner : ∀ (e j : Nat) (o : List Int) (c : Int), j + e = q.length → o.length = p.length + q.length → DV 32768 o → 0 ≤ c → c < 32768 → o.drop (i + q.length) = out.drop (i + q.length) →
          gv 32768 (o.take (i + j)) + (c + gv 32768 ((o.take (i + q.length)).drop (i + j)) + p.getD i 0 * gv 32768 (q.drop j)) * 32768 ^ (i + j) = gv 32768 (p.take (i + 1)) * bv b →
          Ev (fun m => t m (i : Int) c (j : Int) p q o) (bd (bv a * bv b)) := by
        intro e
        induction e with
        | zero =>
          intro j o c hj hlo hdo hc0 hc1 hup hS
          have hj' : j = q.length := by omega
          subst hj'
          have hz0 : o.getD (i + q.length) 0 = 0 := by rw [getD_of_drop hup (Nat.le_refl _)]; exact hz'.1
          refine Ev.step (t := fun m => s m ((i + 1 : Nat) : Int) p q (o.set (i + q.length) c)) (fun m => ?_) (ih (i + 1) _ (by omega) (by simpa using hlo) (hdo.set ⟨hc0, hc1⟩) ?_ ?_)
          · rw [ht]; unfold S_ref01_Mul_33
            rw [if_neg (by simp), i64w (n := (i : Int) + (q.length : Int)) (by omega) (by omega), if_pos (by omega)]
            dsimp only
            rw [if_pos (by omega), show Int.toNat ((i : Int) + (q.length : Int)) = i + q.length by omega, hz0, Int.zero_add, i64w (n := c) (by omega) (by omega), i64w (by omega) (by omega)]
            simp
          · rw [show i + 1 + q.length = i + q.length + 1 by omega, drop_set_lt (by omega)]
            have := congrArg (List.drop 1) hup
            rw [List.drop_drop, List.drop_drop] at this
            rw [this]; exact hz'.2
          · rw [show i + 1 + q.length = i + q.length + 1 by omega, gv_take_set _ (by omega)]
            rw [List.drop_eq_nil_of_le (show (o.take (i + q.length)).length ≤ i + q.length by simp; omega), List.drop_eq_nil_of_le (Nat.le_refl q.length)] at hS
            simp only [gv] at hS
            rw [← hS]; simp
        | succ e ihe =>
          intro j o c hj hlo hdo hc0 hc1 hup hS
          have hy := db.get (by decide) j
          have hr := hdo.get (by decide) (i + j)
          have hm0 : 0 ≤ p.getD i 0 * q.getD j 0 := Int.mul_nonneg hx.1 hy.1
          have hm1 : p.getD i 0 * q.getD j 0 ≤ 1073676289 := by
            have h1 : p.getD i 0 * q.getD j 0 ≤ 32767 * q.getD j 0 := Int.mul_le_mul_of_nonneg_right (by omega) hy.1
            omega
          refine Ev.step (t := fun m => t m (i : Int) ((o.getD (i + j) 0 + p.getD i 0 * q.getD j 0 + c) / 32768) ((j + 1 : Nat) : Int) p q (o.set (i + j) ((o.getD (i + j) 0 + p.getD i 0 * q.getD j 0 + c) % 32768))) (fun m => ?_) (ihe (j + 1) _ _ (by omega) (by simpa using hlo) (hdo.set ⟨by omega, by omega⟩) (by omega) (by omega) (by rw [drop_set_lt (by omega)]; exact hup) ?_)
          · rw [ht]; unfold S_ref01_Mul_33
            have hij : Int.toNat ((i : Int) + (j : Int)) = i + j := by omega
            rw [if_pos (by simp <;> omega), i64w (n := (i : Int) + (j : Int)) (by omega) (by omega), if_pos (by omega), if_pos (by omega), if_pos (by omega)]
            dsimp only
            rw [if_neg (by decide), if_pos (by omega), if_neg (by decide), hij, Int.toNat_natCast, Int.toNat_natCast, i64w (n := p.getD i 0 * q.getD j 0) (by omega) (by omega), i64w (n := o.getD (i + j) 0 + p.getD i 0 * q.getD j 0) (by omega) (by omega), i64w (n := o.getD (i + j) 0 + p.getD i 0 * q.getD j 0 + c) (by omega) (by omega), Int.tmod_eq_emod_of_nonneg (by omega), Int.tdiv_eq_ediv_of_nonneg (by omega), i64w (n := (o.getD (i + j) 0 + p.getD i 0 * q.getD j 0 + c) / 32768) (by omega) (by omega), i64w (by omega) (by omega)]
            simp
          · rw [show i + (j + 1) = (i + j) + 1 by omega]
            refine dig_step _ (by omega) hS ?_
            rw [mid_succ (show i + j < i + q.length by omega) (by omega), gv_drop_succ _ (show j < q.length by omega), mid_set]
            have := Int.mul_ediv_add_emod (o.getD (i + j) 0 + p.getD i 0 * q.getD j 0 + c) 32768
            grind
      refine Ev.step (t := fun m => t m (i : Int) 0 ((0 : Nat) : Int) p q out) (fun m => ?_) (inner q.length 0 out 0 (by omega) hl hd (by omega) (by omega) rfl ?_)
      · rw [hs]; unfold S_ref01_Mul_17
        rw [if_pos (by simp <;> omega)]
        rfl
      · rw [List.drop_zero, Nat.add_zero, vb, gv_take_succ _ (show i < p.length by omega)]
        have h2 := gv_split 32768 i (out.take (i + q.length)) (by simp; omega)
        rw [List.take_take, Nat.min_eq_left (by omega), hT] at h2
        generalize gv 32768 ((out.take (i + q.length)).drop i) = D at *
        generalize gv 32768 (out.take i) = E at *
        generalize gv 32768 (p.take i) = G at *
        generalize (32768 : Int) ^ i = W at *
        generalize p.getD i 0 = x at *
        grind
  have := outer p.length 0 (List.replicate (p.length + q.length) 0) (by omega) (by simp) (DV.replicate (by decide) _) (by
      rw [List.drop_replicate]; exact gv_replicate _ _) (by
      rw [List.take_replicate, gv_replicate]; simp [gv])
  exact this
end Go.W

set_option linter.unusedVariables false
set_option linter.unusedSimpArgs false
namespace Go.W

theorem cmp_words {r d : List Int} (hr : DV 32768 r) (hd : DV 32768 d) {k : Nat} (hk : k < r.length) (hl : r.length = d.length) (he : r.drop (k + 1) = d.drop (k + 1)) :
    (r.getD k 0 < d.getD k 0 → gv 32768 r < gv 32768 d) ∧ (d.getD k 0 < r.getD k 0 → gv 32768 d < gv 32768 r) :=
  ⟨fun h => cmp_digit (by decide) hr hd hk hl he h, fun h => cmp_digit (by decide) hd hr (by omega) hl.symm he.symm h⟩

set_option maxHeartbeats 1000000 in
theorem Rn_ref01_DivMod : Run_ref01_DivMod := fun s1 s2 s3 s4 k1 k2 k3 k4 a b => Ok.gif fun ⟨ha, hb, hb0⟩ => by
  have hA := ha.2
  have hB := hb.2
  have na := ha.nonneg
  have nb := hb.nonneg
  have w15 : (32768 : Int) = 2 ^ 15 := rfl
  have vb : gv 32768 (gdn 32768 (bv b) ((b.length + 14) / 15)) = bv b := by
    refine gdn_val (by decide) _ _ hb.nonneg ?_
    rw [w15, ← Int.pow_mul]
    exact Int.lt_of_lt_of_le hb.val.2 (two_pow_le (by omega))
  have lb := gdn_len 32768 ((b.length + 14) / 15) (bv b)
  have db := gdn_DV (B := 32768) (by decide) ((b.length + 14) / 15) (bv b)
  have hlt := gv_lt (B := 32768) (by decide) db
  simp only [T_ref01_DivMod, F_ref01_words, gif_bind hb]
  generalize gdn 32768 (bv b) ((b.length + 14) / 15) = w at *
  rw [vb] at hlt
  rw [i64w (n := (w.length : Int) + 1) (by omega) (by omega), i64w (n := (a.length : Int) - 1) (by omega) (by omega)]
  simp only [show (0 ≤ (a.length : Int) ∧ (a.length : Int) ≤ ((70368744177664 / 8 : Nat) : Int)) = True by simp; omega, show (0 ≤ (w.length : Int) + 1 ∧ (w.length : Int) + 1 ≤ ((70368744177664 / 8 : Nat) : Int)) = True by simp; omega, show (w.length + ([(0 : Int)] : List Int).length ≤ 70368744177664 / 8) = True by simp; omega, if_true, Int.toNat_natCast]
  rw [show Int.toNat ((w.length : Int) + 1) = w.length + 1 by omega]
  -- the divisor's row
  have hD : DV 32768 (w ++ [0]) := db.snoc (by omega)
  have hDv : gv 32768 (w ++ [0]) = bv b := by rw [gv_snoc, vb]; simp
  have hDl : (w ++ [(0 : Int)]).length = w.length + 1 := by simp
  have hpw := pow_pos' (B := 32768) (by decide) w.length
  generalize hn : w.length + 1 = n at *
  have hn' : (w.length : Int) + 1 = (n : Int) := by omega
  rw [hn']
  have hp2 : (32768 : Int) ^ n = 32768 ^ w.length * 32768 := by rw [← hn, Int.pow_succ]
  generalize w ++ [(0 : Int)] = D at *
  have hpos : 0 < bv b := by omega
  have main : ∀ (k : Nat) (q r : List Int), k ≤ a.length → q.length = a.length → r.length = n → DV 2 q → DV 32768 r → (∀ j, j < k → q.getD j 0 = 0) → gv 32768 r < bv b → gv 2 (a.drop k) = bv b * gv 2 (q.drop k) + gv 32768 r →
      Ev (fun m => s1 m a (n : Int) ((k : Int) - 1) q D r) (bd (bv a / bv b), bd (bv a % bv b)) := by
    intro k
    induction k with
    | zero =>
      intro q r hk hq hr hdq hdr hqz hlt hE
      have hr0 := gv_nonneg (B := 32768) (by decide) hdr
      rw [List.drop_zero, List.drop_zero] at hE
      have hq1 : bv a / bv b = gv 2 q := by
        show gv 2 a / bv b = _
        rw [hE, Int.mul_add_ediv_left _ _ hb0, Int.ediv_eq_zero_of_lt hr0 hlt, Int.add_zero]
      have hr1 : bv a % bv b = gv 32768 r := by
        show gv 2 a % bv b = _
        rw [hE, Int.mul_add_emod_self_left, Int.emod_eq_of_lt hr0 hlt]
      refine Ev.step (t := fun _ => some (bd (bv a / bv b), bd (bv a % bv b))) (fun m => ?_) Ev.ret
      rw [k1]; unfold S_ref01_DivMod_29
      have hBq : BW q := ⟨hdq, by omega⟩
      rw [if_neg (by simp), O_ref01_Trim, gif_bind hBq, if_pos (sameLen_self (e := .int .i64))]
      show ((F_ref01_bits r).bind fun r4 => some (List.take (Int.toNat ((bd (bv q)).length : Int)) (List.drop (Int.toNat 0) q), r4)) = _
      rw [F_ref01_bits, gif_bind ⟨hdr, by omega⟩, Int.toNat_natCast, show (Int.toNat 0) = 0 from rfl, List.drop_zero, take_norm (by decide) hBq.1, hq1, hr1]
    | succ i ih =>
      intro q r hk hq hr hdq hdr hqz hlt hE
      have e1 : ((i + 1 : Nat) : Int) - 1 = i := by omega
      rw [e1]
      have hx := ha.1.get (by decide) i
      have hda := gv_drop_succ 2 (a := a) (i := i) (by omega)
      have hr0 := gv_nonneg (B := 32768) (by decide) hdr
      have next : ∀ (q' r2 : List Int) (bit : Int), q'.length = a.length → DV 2 q' → (∀ j, j < i → q'.getD j 0 = 0) → q'.getD i 0 = bit → q'.drop (i + 1) = q.drop (i + 1) → r2.length = n → DV 32768 r2 → gv 32768 r2 = 2 * gv 32768 r + a.getD i 0 - bit * bv b → gv 32768 r2 < bv b → Ev (fun m => s1 m a (n : Int) ((i : Int) - 1) q' D r2) (bd (bv a / bv b), bd (bv a % bv b)) := by
        intro q' r2 bit g1 g2 g3 g4 g5 h1 h2 h3 h4
        refine ih q' r2 (by omega) g1 h1 g2 h2 g3 h4 ?_
        rw [hda, hE, gv_drop_succ _ (show i < q'.length by omega), g4, g5, h3]
        grind
      -- the subtraction
      have sub : ∀ (d k : Nat) (r3 : List Int) (bw : Int) (q' : List Int), k + d = n → r3.length = n → DV 32768 r3 → 0 ≤ bw → bw ≤ 1 → q' = q.set i 1 →
          gv 32768 (r3.take k) + (gv 32768 (r3.drop k) - gv 32768 (D.drop k) - bw) * 32768 ^ k = 2 * gv 32768 r + a.getD i 0 - bv b → 0 ≤ 2 * gv 32768 r + a.getD i 0 - bv b →
          Ev (fun m => s4 m a (n : Int) (i : Int) bw (k : Int) q' D r3) (bd (bv a / bv b), bd (bv a % bv b)) := by
        intro d
        induction d with
        | zero =>
          intro k r3 bw q' hk' hl hd3 hb1 hb2 hq' hT hT0
          rw [List.drop_eq_nil_of_le (show r3.length ≤ k by omega), List.drop_eq_nil_of_le (show D.length ≤ k by omega), List.take_of_length_le (by omega)] at hT
          simp only [gv] at hT
          have hl3 := gv_lt (B := 32768) (by decide) hd3
          rw [hl, show n = k by omega] at hl3
          have hbw : bw = 0 := by
            by_cases h0 : bw = 0
            · exact h0
            · exfalso
              have : bw = 1 := by omega
              subst this
              omega
          subst hbw
          have hg : gv 32768 r3 = 2 * gv 32768 r + a.getD i 0 - 1 * bv b := by omega
          subst hq'
          refine Ev.step (fun m => ?_) (next (q.set i 1) r3 1 (by simpa using hq) (hdq.set (by omega)) (fun j hj => by rw [getD_set, if_neg (by omega)]; exact hqz j (by omega)) (by rw [getD_set, if_pos ⟨rfl, by omega⟩]) (drop_set_lt (by omega)) hl hd3 hg (by omega))
          rw [k4]; unfold S_ref01_DivMod_93
          rw [if_neg (by simp; omega), i64w (by omega) (by omega)]
        | succ d ihd =>
          intro k r3 bw q' hk' hl hd3 hb1 hb2 hq' hT hT0
          have hu := hd3.get (by decide) k
          have hv := hD.get (by decide) k
          refine Ev.step (fun m => ?_) (ihd (k + 1) (r3.set k ((r3.getD k 0 - D.getD k 0 - bw) % 32768)) (if r3.getD k 0 - D.getD k 0 - bw < 0 then 1 else 0) q' (by omega) (by simpa using hl) (hd3.set ⟨by omega, by omega⟩) (by split <;> omega) (by split <;> omega) hq' ?_ hT0)
          · rw [k4]; unfold S_ref01_DivMod_93
            rw [if_pos (by simp; omega), if_pos (by omega), if_pos (by omega)]
            dsimp only
            rw [Int.toNat_natCast, i64w (n := r3.getD k 0 - D.getD k 0) (by omega) (by omega), i64w (n := r3.getD k 0 - D.getD k 0 - bw) (by omega) (by omega)]
            by_cases hneg : r3.getD k 0 - D.getD k 0 - bw < 0
            · rw [if_pos (decide_eq_true hneg), if_pos hneg, if_pos (by omega), i64w (n := r3.getD k 0 - D.getD k 0 - bw + 32768) (by omega) (by omega), i64w (by omega) (by omega), show r3.getD k 0 - D.getD k 0 - bw + 32768 = (r3.getD k 0 - D.getD k 0 - bw) % 32768 by omega]
              simp
            · rw [if_neg (by rw [decide_eq_true_eq]; omega), if_neg hneg, if_pos (by omega), i64w (by omega) (by omega), show r3.getD k 0 - D.getD k 0 - bw = (r3.getD k 0 - D.getD k 0 - bw) % 32768 by omega]
              simp
          · rw [drop_set_lt (by omega)]
            refine dig_step _ (by omega) hT ?_
            rw [gv_drop_succ _ (show k < r3.length by omega), gv_drop_succ _ (show k < D.length by omega)]
            split <;> omega
      have hi : (i : Int) < q.length := by omega
      -- the comparison
      have less : ∀ r2 : List Int, r2.length = n → DV 32768 r2 → gv 32768 r2 = 2 * gv 32768 r + a.getD i 0 → gv 32768 r2 < bv b → Ev (fun m => s1 m a (n : Int) ((i : Int) - 1) q D r2) (bd (bv a / bv b), bd (bv a % bv b)) := fun r2 h1 h2 h3 h4 =>
        next q r2 0 hq hdq (fun j hj => hqz j (by omega)) (hqz i (by omega)) rfl h1 h2 (by omega) h4
      have more : ∀ r2 : List Int, r2.length = n → DV 32768 r2 → gv 32768 r2 = 2 * gv 32768 r + a.getD i 0 → ¬ gv 32768 r2 < bv b → Ev (fun m => s4 m a (n : Int) (i : Int) 0 0 (q.set i 1) D r2) (bd (bv a / bv b), bd (bv a % bv b)) := fun r2 h1 h2 h3 h4 => by
        have := sub n 0 r2 0 (q.set i 1) (by omega) h1 h2 (by omega) (by omega) rfl (by simp only [List.take_zero, List.drop_zero, gv, Int.pow_zero, hDv]; omega) (by omega)
        exact this
      have comp : ∀ (r2 : List Int), r2.length = n → DV 32768 r2 → gv 32768 r2 = 2 * gv 32768 r + a.getD i 0 → ∀ k : Nat, k < n → r2.drop (k + 1) = D.drop (k + 1) → Ev (fun m => s3 m a (n : Int) (i : Int) (k : Int) q D r2) (bd (bv a / bv b), bd (bv a % bv b)) := by
        intro r2 h1 h2 h3 k
        induction k with
        | zero =>
          intro hk' hdr2
          obtain ⟨c1, c2⟩ := cmp_words h2 hD (k := 0) (by omega) (by omega) hdr2
          rw [hDv] at c1 c2
          have hsame : r2.getD 0 0 = D.getD 0 0 → gv 32768 r2 = bv b := fun h => by
            have e1 := gv_drop_succ 32768 (a := r2) (i := 0) (by omega)
            have e2 := gv_drop_succ 32768 (a := D) (i := 0) (by omega)
            rw [List.drop_zero] at e1 e2
            rw [e1, ← hDv, e2, h, hdr2]
          by_cases hl : r2.getD 0 0 < D.getD 0 0
          · refine Ev.step (fun m => ?_) (less r2 h1 h2 h3 (c1 hl))
            rw [k3]; unfold S_ref01_DivMod_69
            rw [if_neg (by simp), if_pos (by omega), if_pos (by omega)]
            dsimp only
            rw [Int.toNat_natCast, if_pos (decide_eq_true hl), i64w (by omega) (by omega)]
          · have hge : ¬ gv 32768 r2 < bv b := fun h => by
              by_cases heq : r2.getD 0 0 = D.getD 0 0
              · have := hsame heq; omega
              · have := c2 (by omega); omega
            refine Ev.step (fun m => ?_) (more r2 h1 h2 h3 hge)
            rw [k3]; unfold S_ref01_DivMod_69
            rw [if_neg (by simp), if_pos (by omega), if_pos (by omega)]
            dsimp only
            rw [Int.toNat_natCast, if_neg (by rw [decide_eq_true_eq]; exact hl), if_pos (by omega), Int.toNat_natCast]
        | succ k ihk =>
          intro hk' hdr2
          obtain ⟨c1, c2⟩ := cmp_words h2 hD (k := k + 1) (by omega) (by omega) hdr2
          rw [hDv] at c1 c2
          by_cases heq : r2.getD (k + 1) 0 = D.getD (k + 1) 0
          · refine Ev.step (fun m => ?_) (ihk (by omega) (by rw [drop_cons' (show k + 1 < r2.length by omega), drop_cons' (show k + 1 < D.length by omega), heq, hdr2]))
            rw [k3]; unfold S_ref01_DivMod_69
            rw [if_pos (by simp <;> omega), if_pos (by omega), if_pos (by omega)]
            dsimp only
            rw [Int.toNat_natCast, if_pos (by rw [heq]; simp), i64w (by omega) (by omega)]
            simp
          · by_cases hl : r2.getD (k + 1) 0 < D.getD (k + 1) 0
            · refine Ev.step (fun m => ?_) (less r2 h1 h2 h3 (c1 hl))
              rw [k3]; unfold S_ref01_DivMod_69
              rw [if_pos (by simp <;> omega), if_pos (by omega), if_pos (by omega)]
              dsimp only
              rw [Int.toNat_natCast, if_neg (by rw [beq_iff_eq]; exact heq), if_pos (by omega), if_pos (by omega), if_pos (decide_eq_true hl), i64w (by omega) (by omega)]
            · refine Ev.step (fun m => ?_) (more r2 h1 h2 h3 (by have := c2 (by omega); omega))
              rw [k3]; unfold S_ref01_DivMod_69
              rw [if_pos (by simp <;> omega), if_pos (by omega), if_pos (by omega)]
              dsimp only
              rw [Int.toNat_natCast, if_neg (by rw [beq_iff_eq]; exact heq), if_pos (by omega), if_pos (by omega), if_neg (by rw [decide_eq_true_eq]; exact hl), if_pos (by omega), Int.toNat_natCast]
      -- the doubling
      have dbl : ∀ (d k : Nat) (r2 : List Int) (c : Int), k + d = n → r2.length = n → DV 32768 r2 → 0 ≤ c → c ≤ 1 → gv 32768 (r2.take k) + (c + 2 * gv 32768 (r2.drop k)) * 32768 ^ k = 2 * gv 32768 r + a.getD i 0 →
          Ev (fun m => s2 m a (n : Int) (i : Int) c (k : Int) q D r2) (bd (bv a / bv b), bd (bv a % bv b)) := by
        intro d
        induction d with
        | zero =>
          intro k r2 c hk' hl hd2 hc0 hc1 hT
          rw [List.drop_eq_nil_of_le (show r2.length ≤ k by omega), List.take_of_length_le (by omega), show k = n by omega] at hT
          simp only [gv] at hT
          have hc : c = 0 := by
            by_cases h0 : c = 0
            · exact h0
            · exfalso
              have : c = 1 := by omega
              subst this
              have := gv_nonneg (B := 32768) (by decide) hd2
              rw [hp2] at hT
              omega
          subst hc
          refine Ev.step (fun m => ?_) (comp r2 hl hd2 (by omega) (n - 1) (by omega) (by rw [List.drop_eq_nil_of_le (by omega), List.drop_eq_nil_of_le (by omega)]))
          rw [k2]; unfold S_ref01_DivMod_45
          rw [if_neg (by simp; omega), i64w (by omega) (by omega), show ((n - 1 : Nat) : Int) = (n : Int) - 1 by omega]
        | succ d ihd =>
          intro k r2 c hk' hl hd2 hc0 hc1 hT
          have hu := hd2.get (by decide) k
          refine Ev.step (fun m => ?_) (ihd (k + 1) (r2.set k ((2 * r2.getD k 0 + c) % 32768)) ((2 * r2.getD k 0 + c) / 32768) (by omega) (by simpa using hl) (hd2.set ⟨by omega, by omega⟩) (by omega) (by omega) ?_)
          · rw [k2]; unfold S_ref01_DivMod_45
            rw [if_pos (by simp; omega), if_pos (by omega)]
            dsimp only
            rw [if_neg (by decide), if_pos (by omega), if_neg (by decide), Int.toNat_natCast, i64w (n := 2 * r2.getD k 0) (by omega) (by omega), i64w (n := 2 * r2.getD k 0 + c) (by omega) (by omega), Int.tmod_eq_emod_of_nonneg (by omega), Int.tdiv_eq_ediv_of_nonneg (by omega), i64w (n := (2 * r2.getD k 0 + c) / 32768) (by omega) (by omega), i64w (by omega) (by omega)]
            simp
          · rw [drop_set_lt (by omega)]
            refine dig_step _ (by omega) hT ?_
            rw [gv_drop_succ _ (show k < r2.length by omega)]
            omega
      have hstart := dbl n 0 r (a.getD i 0) (by omega) hr hdr hx.1 (by omega) (by simp only [List.take_zero, List.drop_zero, gv, Int.pow_zero]; omega)
      refine Ev.step (fun m => ?_) hstart
      rw [k1]; unfold S_ref01_DivMod_29
      rw [if_pos (by simp), if_pos (by omega), Int.toNat_natCast]
      rfl
  have := main a.length (List.replicate a.length 0) (List.replicate n 0) (Nat.le_refl _) (by simp) (by simp) (DV.replicate (by decide) _) (DV.replicate (by decide) _) (fun j _ => by
      simp only [List.getD_eq_getElem?_getD, List.getElem?_replicate]; split <;> rfl) (by rw [gv_replicate]; exact hpos) (by
      rw [List.drop_eq_nil_of_le (Nat.le_refl _), List.drop_eq_nil_of_le (by simp), gv_replicate]; simp [gv])
  exact this
end Go.W

set_option linter.unusedVariables false
namespace Go.W
/-! ### the reference's integers and fractions -/
noncomputable def F_ref02_Make (neg : Bool) (b : List Int) : Option (Int × List Int) := gif (BW b) (dz (if neg = true then -(bv b) else bv b))
noncomputable def F_ref02_Of (neg : Bool) (a : List Int) : Option (Int × List Int) := gif (NN a) (dz (iv (neg, a)))
noncomputable def F_ref02_Is (neg : Bool) (a : List Int) (z : Int × List Int) : Option Bool := gif (ZZ z) (decide ((neg, a) = di (zv z)))
noncomputable def F_ref02_Neg (z : Int × List Int) : Option (Int × List Int) := gif (ZZ z) (dz (-(zv z)))
noncomputable def F_ref02_Cmp (a b : Int × List Int) : Option Int := gif (ZZ a ∧ ZZ b) (cm (zv a) (zv b))
noncomputable def F_ref02_Add (a b : Int × List Int) : Option (Int × List Int) := gif (ZZ a ∧ ZZ b) (dz (zv a + zv b))
noncomputable def F_ref02_Mul (a b : Int × List Int) : Option (Int × List Int) := gif (ZZ a ∧ ZZ b) (dz (zv a * zv b))
noncomputable def F_ref02_Small (n : Int) : Option (Int × List Int) := gif (-9223372036854775807 ≤ n ∧ n ≤ 9223372036854775807) (dz n)
noncomputable def F_ref03_Quo (a b : Int × List Int) : Option ((Int × List Int) × Int × List Int) := gif (ZZ a ∧ ZZ b ∧ zv b ≠ 0) (dz (Int.tdiv (zv a) (zv b)), dz (Int.tmod (zv a) (zv b)))
noncomputable def F_ref03_Abs (a : Int × List Int) : Option (Int × List Int) := gif (ZZ a) (dz (ab (zv a)))
noncomputable def F_ref03_Gcd (a b : Int × List Int) : Option (Int × List Int) := gif (ZZ a ∧ ZZ b) (dz (Int.gcd (zv a) (zv b) : Int))
/-- the reference's fraction n/d -/
def mq (n d : Int) : (Int × List Int) × Int × List Int := (dz n, dz d)
def qn (q : (Int × List Int) × Int × List Int) : Int := zv q.1
def qd (q : (Int × List Int) × Int × List Int) : Int := zv q.2
def qv (q : (Int × List Int) × Int × List Int) : Rat := Rat.divInt (qn q) (qd q)
/-- fractions of at most k bits -/
def RQ (k : Nat) (q : (Int × List Int) × Int × List Int) : Prop := q = mq (qn q) (qd q) ∧ Bd k (ab (qn q)) ∧ Bd k (qd q) ∧ 0 < qd q
def RK : Nat := 1000000000
noncomputable def F_ref05_Of (neg : Bool) (n d : List Int) : Option ((Int × List Int) × Int × List Int) := gif (QD n ∧ QD d) (mq (rn ((neg, n), d)) (rd ((neg, n), d)))
noncomputable def F_ref05_Reduced (a : (Int × List Int) × Int × List Int) : Option ((Int × List Int) × Int × List Int) := gif (RQ RK a) (mq (qv a).num (qv a).den)
noncomputable def F_ref05_Is (neg : Bool) (n d : List Int) (a : (Int × List Int) × Int × List Int) : Option Bool := gif (RQ RK a) (decide (((neg, n), d) = dr (qv a)))
noncomputable def F_ref05_Cmp (a b : (Int × List Int) × Int × List Int) : Option Int := gif (RQ RK a ∧ RQ RK b) (rcm (qv a) (qv b))
noncomputable def F_ref05_Neg (a : (Int × List Int) × Int × List Int) : Option ((Int × List Int) × Int × List Int) := gif (RQ RK a) (mq (-(qn a)) (qd a))
noncomputable def F_ref05_Add (a b : (Int × List Int) × Int × List Int) : Option ((Int × List Int) × Int × List Int) := gif (RQ RK a ∧ RQ RK b) (mq (qn a * qd b + qn b * qd a) (qd a * qd b))
noncomputable def F_ref05_Mul (a b : (Int × List Int) × Int × List Int) : Option ((Int × List Int) × Int × List Int) := gif (RQ RK a ∧ RQ RK b) (mq (qn a * qn b) (qd a * qd b))
noncomputable def F_ref05_Quo (a b : (Int × List Int) × Int × List Int) : Option ((Int × List Int) × Int × List Int) := gif (RQ RK a ∧ RQ RK b ∧ qn b ≠ 0) (if qn b < 0 then mq (-(qn a * qd b)) (-(qd a * qn b)) else mq (qn a * qd b) (qd a * qn b))
noncomputable def F_law05_of (a : (Bool × List Int) × List Int) : Option ((Int × List Int) × Int × List Int) := gif (QQ a) (mq (rn a) (rd a))
noncomputable def F_law05_is (a : (Bool × List Int) × List Int) (b : (Int × List Int) × Int × List Int) : Option Bool := gif (RQ RK b) (decide (a = dr (qv b)))
noncomputable def F_law05_same (a b : (Bool × List Int) × List Int) : Option Bool := gif (QQ a ∧ QQ b) (decide (rv a = rv b))
end Go.W

set_option linter.unusedVariables false
namespace Go.W
/-! ### texts -/
def decL (z : Int) : List Int := (if z < 0 then [45] else []) ++ ((gd 10 (ab z)).map fun d => 48 + d).reverse
def decS (z : Int) : ByteArray := if z = 0 then (ByteArray.mk #[48]) else ofB (decL z)
noncomputable def O_slices_Reverse (l : List Int) : Option (List Int × Unit) := gif (l.length ≤ 8796093022208) (l.reverse, ())
noncomputable def F_decimal_chunk (b : Int) : Option (Int × Int) := gif (b = 10) (1000000000, 9)
noncomputable def F_decimal_write (a : Bool × List Int) (b : Int) : Option ByteArray := gif (II a ∧ b = 10) (decS (iv a))
noncomputable def F_decimal_Format (a : Bool × List Int) : Option ByteArray := gif (II a) (decS (iv a))
def ratS (r : Rat) : ByteArray := if r.den = 1 then decS r.num else decS r.num ++ (ByteArray.mk #[47]) ++ decS r.den
noncomputable def F_rational_Format (a : (Bool × List Int) × List Int) : Option ByteArray := gif (QQ a) (ratS (rv a))
end Go.W

set_option linter.unusedVariables false
namespace Go.W
/-! ### the laws -/
def DR (a : (Bool × List Int) × List Int) : Prop := DV 4294967296 a.1.2 ∧ DV 4294967296 a.2
end Go.W

set_option linter.unusedVariables false
namespace Go.W
noncomputable section

/-! cylinder/decimal.chunk -/
def T_decimal_chunk (s9 : Int → Int → Int → Option ((Int × Int))) (a0 : Int) : Option (Int × Int) :=
  s9 a0 a0 (1 : Int)
def S_decimal_chunk_9 (s9 : Int → Int → Int → Option ((Int × Int))) (x0 : Int) (x4 : Int) (x5 : Int) : Option (Int × Int) :=
  let v1 : Bool := (decide ((IntKind.wrap .u64 ((IntKind.wrap .u64 x4) * (IntKind.wrap .u64 x0))) < (4294967296 : Int)))
  if v1 = true then
    s9 x0 (IntKind.wrap .u32 (x4 * x0)) (IntKind.wrap .i64 (x5 + (1 : Int)))
  else
    some (x4, x5)
def Run_decimal_chunk : Prop := ∀ s9 : Nat → Int → Int → Int → Option ((Int × Int)), (∀ m x0 x4 x5, s9 (m + 1) x0 x4 x5 = S_decimal_chunk_9 (s9 m) x0 x4 x5) → ∀ a0 : Int, Ok (F_decimal_chunk a0) (fun m => T_decimal_chunk (s9 m) a0)

/-! slices.Reverse[[]byte,byte] -/
def T_decimal_write (s17 : Int → List Int → Int → Int → (Bool × List Int) → List Int → Option ByteArray) (s33 : Int → List Int → Int → Int → Int → Int → (Bool × List Int) → List Int → Option ByteArray) (s40 : Int → List Int → Int → Int → Int → Int → Int → Bool → Bool → Bool → (Bool × List Int) → List Int → Option ByteArray) (a0 : Bool × List Int) (a1 : Int) : Option ByteArray :=
  (F_natural_Normal a0.2).bind fun r1 =>
  (F_decimal_chunk a1).bind fun r2 =>
  s17 a1 r1 r2.1 r2.2 a0 ([] : List Int)
def S_decimal_write_17 (s17 : Int → List Int → Int → Int → (Bool × List Int) → List Int → Option ByteArray) (s33 : Int → List Int → Int → Int → Int → Int → (Bool × List Int) → List Int → Option ByteArray) (s40 : Int → List Int → Int → Int → Int → Int → Int → Bool → Bool → Bool → (Bool × List Int) → List Int → Option ByteArray) (x1 : Int) (x5 : List Int) (x6 : Int) (x7 : Int) (x2 : Bool × List Int) (x8 : List Int) : Option ByteArray :=
  if (decide ((List.length x5 : Int) > (0 : Int))) = true then
    (F_natural_DivSmall x5 x6).bind fun r1 =>
    s33 x1 r1.1 x6 x7 r1.2.1 (0 : Int) x2 x8
  else
    if ((List.length x8 : Int) == (0 : Int)) = true then
      some ((ByteArray.mk #[48]))
    else
      if x2.1 = true then
        if List.length x8 + List.length ([(45 : Int)] : List Int) ≤ 70368744177664 / 1 then
          (O_slices_Reverse (x8 ++ ([(45 : Int)] : List Int))).bind fun r2 =>
          if Go.W.sameLen false (.int .u8) (x8 ++ ([(45 : Int)] : List Int)) r2.1 then
            some ((Go.W.ofB r2.1))
          else none
        else none
      else
        (O_slices_Reverse x8).bind fun r3 =>
        if Go.W.sameLen false (.int .u8) x8 r3.1 then
          some ((Go.W.ofB r3.1))
        else none
def S_decimal_write_33 (s17 : Int → List Int → Int → Int → (Bool × List Int) → List Int → Option ByteArray) (s33 : Int → List Int → Int → Int → Int → Int → (Bool × List Int) → List Int → Option ByteArray) (s40 : Int → List Int → Int → Int → Int → Int → Int → Bool → Bool → Bool → (Bool × List Int) → List Int → Option ByteArray) (x1 : Int) (x5 : List Int) (x6 : Int) (x7 : Int) (x10 : Int) (x12 : Int) (x2 : Bool × List Int) (x8 : List Int) : Option ByteArray :=
  if (decide (x12 < x7)) = true then
    if (decide (x10 > (0 : Int))) = true then
      s40 x1 x5 x6 x7 x10 x12 x10 (decide (x10 > (0 : Int))) true true x2 x8
    else
      if (decide ((List.length x5 : Int) > (0 : Int))) = true then
        s40 x1 x5 x6 x7 x10 x12 x10 (decide (x10 > (0 : Int))) false (decide ((List.length x5 : Int) > (0 : Int))) x2 x8
      else
        s17 x1 x5 x6 x7 x2 x8
  else
    s17 x1 x5 x6 x7 x2 x8
def S_decimal_write_40 (s17 : Int → List Int → Int → Int → (Bool × List Int) → List Int → Option ByteArray) (s33 : Int → List Int → Int → Int → Int → Int → (Bool × List Int) → List Int → Option ByteArray) (s40 : Int → List Int → Int → Int → Int → Int → Int → Bool → Bool → Bool → (Bool × List Int) → List Int → Option ByteArray) (x1 : Int) (x5 : List Int) (x6 : Int) (x7 : Int) (x10 : Int) (x12 : Int) (x36 : Int) (x37 : Bool) (x38 : Bool) (x42 : Bool) (x2 : Bool × List Int) (x8 : List Int) : Option ByteArray :=
  if x1 = 0 then none else
  if 0 ≤ (Int.tmod x10 x1) ∧ (Int.tmod x10 x1) < ((ByteArray.size (ByteArray.mk #[48, 49, 50, 51, 52, 53, 54, 55, 56, 57, 97, 98, 99, 100, 101, 102, 103, 104, 105, 106, 107, 108, 109, 110, 111, 112, 113, 114, 115, 116, 117, 118, 119, 120, 121, 122])) : Int) then
    let v1 : Int := (Go.W.bt (ByteArray.mk #[48, 49, 50, 51, 52, 53, 54, 55, 56, 57, 97, 98, 99, 100, 101, 102, 103, 104, 105, 106, 107, 108, 109, 110, 111, 112, 113, 114, 115, 116, 117, 118, 119, 120, 121, 122]) (Int.tmod x10 x1))
    if List.length x8 + List.length ([v1] : List Int) ≤ 70368744177664 / 1 then
      if x1 = 0 then none else
      s33 x1 x5 x6 x7 (IntKind.wrap .u32 (Int.tdiv x10 x1)) (IntKind.wrap .i64 (x12 + (1 : Int))) x2 (x8 ++ ([v1] : List Int))
    else none
  else none
def Run_decimal_write : Prop := ∀ s17 : Nat → Int → List Int → Int → Int → (Bool × List Int) → List Int → Option ByteArray, ∀ s33 : Nat → Int → List Int → Int → Int → Int → Int → (Bool × List Int) → List Int → Option ByteArray, ∀ s40 : Nat → Int → List Int → Int → Int → Int → Int → Int → Bool → Bool → Bool → (Bool × List Int) → List Int → Option ByteArray, (∀ m x1 x5 x6 x7 x2 x8, s17 (m + 1) x1 x5 x6 x7 x2 x8 = S_decimal_write_17 (s17 m) (s33 m) (s40 m) x1 x5 x6 x7 x2 x8) → (∀ m x1 x5 x6 x7 x10 x12 x2 x8, s33 (m + 1) x1 x5 x6 x7 x10 x12 x2 x8 = S_decimal_write_33 (s17 m) (s33 m) (s40 m) x1 x5 x6 x7 x10 x12 x2 x8) → (∀ m x1 x5 x6 x7 x10 x12 x36 x37 x38 x42 x2 x8, s40 (m + 1) x1 x5 x6 x7 x10 x12 x36 x37 x38 x42 x2 x8 = S_decimal_write_40 (s17 m) (s33 m) (s40 m) x1 x5 x6 x7 x10 x12 x36 x37 x38 x42 x2 x8) → ∀ a0 : Bool × List Int, ∀ a1 : Int, Ok (F_decimal_write a0 a1) (fun m => T_decimal_write (s17 m) (s33 m) (s40 m) a0 a1)

/-! cylinder/decimal.Format -/
def T_decimal_Format (a0 : Bool × List Int) : Option ByteArray :=
  (F_decimal_write a0 (10 : Int)).bind fun r1 =>
  some r1
def Run_decimal_Format : Prop := ∀ a0 : Bool × List Int, Ok (F_decimal_Format a0) (fun _ => T_decimal_Format a0)

/-! cylinder/rational.Format -/
def T_rational_Format (a0 : (Bool × List Int) × List Int) : Option ByteArray :=
  (F_rational_Normal a0).bind fun r1 =>
  (F_rational_isOne r1.2).bind fun r2 =>
  if r2 = true then
    (F_decimal_Format r1.1).bind fun r3 =>
    some r3
  else
    (F_decimal_Format r1.1).bind fun r4 =>
    if ByteArray.size r4 + ByteArray.size (ByteArray.mk #[47]) ≤ 9223372036854775807 then
      (F_decimal_Format (false, r1.2)).bind fun r5 =>
      if ByteArray.size (r4 ++ (ByteArray.mk #[47])) + ByteArray.size r5 ≤ 9223372036854775807 then
        some (((r4 ++ (ByteArray.mk #[47])) ++ r5))
      else none
    else none
def Run_rational_Format : Prop := ∀ a0 : (Bool × List Int) × List Int, Ok (F_rational_Format a0) (fun _ => T_rational_Format a0)

/-! cylinder/cylinderlaw05.awake -/
def T_ref02_Make (a0 : Bool) (a1 : List Int) : Option (Int × List Int) :=
  (F_ref01_Trim a1).bind fun r1 =>
  if ((List.length r1 : Int) == (0 : Int)) = true then
    some (((0 : Int), ([] : List Int)))
  else
    if a0 = true then
      some (((-1 : Int), r1))
    else
      some (((1 : Int), r1))
def Run_ref02_Make : Prop := ∀ a0 : Bool, ∀ a1 : List Int, Ok (F_ref02_Make a0 a1) (fun _ => T_ref02_Make a0 a1)

/-! cylinder/cylinderref02.Small -/
def T_ref02_Small (s21 : Int → Bool → (Int × List Int) → List Int → Option ((Int × List Int))) (a0 : Int) : Option (Int × List Int) :=
  if (decide (a0 < (0 : Int))) = true then
    s21 (IntKind.wrap .i64 ((0 : Int) - a0)) (decide (a0 < (0 : Int))) ((0 : Int), ([] : List Int)) ([] : List Int)
  else
    s21 a0 (decide (a0 < (0 : Int))) ((0 : Int), ([] : List Int)) ([] : List Int)
def S_ref02_Small_21 (s21 : Int → Bool → (Int × List Int) → List Int → Option ((Int × List Int))) (x0 : Int) (x3 : Bool) (x2 : Int × List Int) (x4 : List Int) : Option (Int × List Int) :=
  if (decide (x0 > (0 : Int))) = true then
    if (2 : Int) = 0 then none else
    if List.length x4 + List.length ([(Int.tmod x0 (2 : Int))] : List Int) ≤ 70368744177664 / 8 then
      if (2 : Int) = 0 then none else
      s21 (IntKind.wrap .i64 (Int.tdiv x0 (2 : Int))) x3 x2 (x4 ++ ([(Int.tmod x0 (2 : Int))] : List Int))
    else none
  else
    (F_ref02_Make x3 x4).bind fun r1 =>
    some r1
def Run_ref02_Small : Prop := ∀ s21 : Nat → Int → Bool → (Int × List Int) → List Int → Option ((Int × List Int)), (∀ m x0 x3 x2 x4, s21 (m + 1) x0 x3 x2 x4 = S_ref02_Small_21 (s21 m) x0 x3 x2 x4) → ∀ a0 : Int, Ok (F_ref02_Small a0) (fun m => T_ref02_Small (s21 m) a0)

/-! cylinder/cylinderref02.Of -/
def T_ref02_Of (a0 : Bool) (a1 : List Int) : Option (Int × List Int) :=
  (F_ref01_Of a1).bind fun r1 =>
  (F_ref02_Make a0 r1).bind fun r2 =>
  some r2
def Run_ref02_Of : Prop := ∀ a0 : Bool, ∀ a1 : List Int, Ok (F_ref02_Of a0 a1) (fun _ => T_ref02_Of a0 a1)

/-! cylinder/cylinderref05.Of -/
def T_ref05_Of (a0 : Bool) (a1 : List Int) (a2 : List Int) : Option ((Int × List Int) × Int × List Int) :=
  (F_ref02_Of false a2).bind fun r1 =>
  if (r1.1 == (0 : Int)) = true then
    (F_ref02_Small (1 : Int)).bind fun r2 =>
    some ((((0 : Int), ([] : List Int)), r2))
  else
    (F_ref02_Of a0 a1).bind fun r3 =>
    some ((r3, r1))
def Run_ref05_Of : Prop := ∀ a0 : Bool, ∀ a1 : List Int, ∀ a2 : List Int, Ok (F_ref05_Of a0 a1 a2) (fun _ => T_ref05_Of a0 a1 a2)

/-! cylinder/cylinderlaw05.of -/
def T_ref02_Neg (a0 : Int × List Int) : Option (Int × List Int) :=
  some (((IntKind.wrap .i64 ((0 : Int) - a0.1)), a0.2))
def Run_ref02_Neg : Prop := ∀ a0 : Int × List Int, Ok (F_ref02_Neg a0) (fun _ => T_ref02_Neg a0)

/-! cylinder/cylinderref05.Make -/
def T_ref02_Mul (a0 : Int × List Int) (a1 : Int × List Int) : Option (Int × List Int) :=
  (F_ref01_Mul a0.2 a1.2).bind fun r1 =>
  (F_ref02_Make (decide ((IntKind.wrap .i64 (a0.1 * a1.1)) < (0 : Int))) r1).bind fun r2 =>
  some r2
def Run_ref02_Mul : Prop := ∀ a0 : Int × List Int, ∀ a1 : Int × List Int, Ok (F_ref02_Mul a0 a1) (fun _ => T_ref02_Mul a0 a1)

/-! cylinder/cylinderref05.Quo -/
def T_ref02_Is (a0 : Bool) (a1 : List Int) (a2 : Int × List Int) : Option Bool :=
  if (a0 == (decide (a2.1 < (0 : Int)))) = true then
    (F_ref01_Is a1 a2.2).bind fun r1 =>
    some r1
  else
    some false
def Run_ref02_Is : Prop := ∀ a0 : Bool, ∀ a1 : List Int, ∀ a2 : Int × List Int, Ok (F_ref02_Is a0 a1 a2) (fun _ => T_ref02_Is a0 a1 a2)

/-! cylinder/cylinderref03.Quo -/
def T_ref03_Quo (a0 : Int × List Int) (a1 : Int × List Int) : Option ((Int × List Int) × Int × List Int) :=
  (F_ref01_DivMod a0.2 a1.2).bind fun r1 =>
  (F_ref02_Make (decide ((IntKind.wrap .i64 (a0.1 * a1.1)) < (0 : Int))) r1.1).bind fun r2 =>
  (F_ref02_Make (decide (a0.1 < (0 : Int))) r1.2).bind fun r3 =>
  some (r2, r3)
def Run_ref03_Quo : Prop := ∀ a0 : Int × List Int, ∀ a1 : Int × List Int, Ok (F_ref03_Quo a0 a1) (fun _ => T_ref03_Quo a0 a1)

/-! cylinder/cylinderref03.Abs -/
def T_ref03_Abs (a0 : Int × List Int) : Option (Int × List Int) :=
  (F_ref02_Make false a0.2).bind fun r1 =>
  some r1
def Run_ref03_Abs : Prop := ∀ a0 : Int × List Int, Ok (F_ref03_Abs a0) (fun _ => T_ref03_Abs a0)

/-! cylinder/cylinderref03.Gcd -/
def T_ref03_Gcd (s9 : (Int × List Int) → (Int × List Int) → (Int × List Int) → Option ((Int × List Int))) (a0 : Int × List Int) (a1 : Int × List Int) : Option (Int × List Int) :=
  (F_ref03_Abs a0).bind fun r1 =>
  (F_ref03_Abs a1).bind fun r2 =>
  s9 ((0 : Int), ([] : List Int)) r1 r2
def S_ref03_Gcd_9 (s9 : (Int × List Int) → (Int × List Int) → (Int × List Int) → Option ((Int × List Int))) (x4 : Int × List Int) (x5 : Int × List Int) (x6 : Int × List Int) : Option (Int × List Int) :=
  if (x6.1 != (0 : Int)) = true then
    (F_ref03_Quo x5 x6).bind fun r1 =>
    s9 x4 x6 r1.2
  else
    some x5
def Run_ref03_Gcd : Prop := ∀ s9 : Nat → (Int × List Int) → (Int × List Int) → (Int × List Int) → Option ((Int × List Int)), (∀ m x4 x5 x6, s9 (m + 1) x4 x5 x6 = S_ref03_Gcd_9 (s9 m) x4 x5 x6) → ∀ a0 : Int × List Int, ∀ a1 : Int × List Int, Ok (F_ref03_Gcd a0 a1) (fun m => T_ref03_Gcd (s9 m) a0 a1)

/-! cylinder/cylinderref05.Reduced -/
def T_ref05_Reduced (a0 : (Int × List Int) × Int × List Int) : Option ((Int × List Int) × Int × List Int) :=
  (F_ref03_Gcd a0.1 a0.2).bind fun r1 =>
  (F_ref03_Quo a0.1 r1).bind fun r2 =>
  (F_ref03_Quo a0.2 r1).bind fun r3 =>
  some ((r2.1, r3.1))
def Run_ref05_Reduced : Prop := ∀ a0 : (Int × List Int) × Int × List Int, Ok (F_ref05_Reduced a0) (fun _ => T_ref05_Reduced a0)

/-! cylinder/cylinderref05.Is -/
def T_ref05_Is (a0 : Bool) (a1 : List Int) (a2 : List Int) (a3 : (Int × List Int) × Int × List Int) : Option Bool :=
  (F_ref05_Reduced a3).bind fun r1 =>
  (F_ref02_Is a0 a1 r1.1).bind fun r2 =>
  if r2 = true then
    (F_ref02_Is false a2 r1.2).bind fun r3 =>
    some r3
  else
    some false
def Run_ref05_Is : Prop := ∀ a0 : Bool, ∀ a1 : List Int, ∀ a2 : List Int, ∀ a3 : (Int × List Int) × Int × List Int, Ok (F_ref05_Is a0 a1 a2 a3) (fun _ => T_ref05_Is a0 a1 a2 a3)

/-! cylinder/cylinderlaw05.is -/
def T_ref02_Cmp (a0 : Int × List Int) (a1 : Int × List Int) : Option Int :=
  if (a0.1 != a1.1) = true then
    if (decide (a0.1 < a1.1)) = true then
      some ((-1 : Int))
    else
      some ((1 : Int))
  else
    (F_ref01_Cmp a0.2 a1.2).bind fun r1 =>
    some ((IntKind.wrap .i64 (a0.1 * r1)))
def Run_ref02_Cmp : Prop := ∀ a0 : Int × List Int, ∀ a1 : Int × List Int, Ok (F_ref02_Cmp a0 a1) (fun _ => T_ref02_Cmp a0 a1)

/-! cylinder/cylinderref02.Add -/
def T_ref02_Add (a0 : Int × List Int) (a1 : Int × List Int) : Option (Int × List Int) :=
  if (decide ((IntKind.wrap .i64 (a0.1 * a1.1)) ≥ (0 : Int))) = true then
    (F_ref01_Add a0.2 a1.2).bind fun r1 =>
    (F_ref02_Make (decide ((IntKind.wrap .i64 (a0.1 + a1.1)) < (0 : Int))) r1).bind fun r2 =>
    some r2
  else
    (F_ref01_Cmp a0.2 a1.2).bind fun r3 =>
    if (decide (r3 ≥ (0 : Int))) = true then
      (F_ref01_Sub a0.2 a1.2).bind fun r4 =>
      (F_ref02_Make (decide (a0.1 < (0 : Int))) r4).bind fun r5 =>
      some r5
    else
      (F_ref01_Sub a1.2 a0.2).bind fun r6 =>
      (F_ref02_Make (decide (a1.1 < (0 : Int))) r6).bind fun r7 =>
      some r7
def Run_ref02_Add : Prop := ∀ a0 : Int × List Int, ∀ a1 : Int × List Int, Ok (F_ref02_Add a0 a1) (fun _ => T_ref02_Add a0 a1)

/-! cylinder/cylinderref03.Floor -/
def T_ref05_Neg (a0 : (Int × List Int) × Int × List Int) : Option ((Int × List Int) × Int × List Int) :=
  (F_ref02_Neg a0.1).bind fun r1 =>
  some ((r1, a0.2))
def Run_ref05_Neg : Prop := ∀ a0 : (Int × List Int) × Int × List Int, Ok (F_ref05_Neg a0) (fun _ => T_ref05_Neg a0)

/-! cylinder/cylinderref05.Add -/
def T_ref05_Add (a0 : (Int × List Int) × Int × List Int) (a1 : (Int × List Int) × Int × List Int) : Option ((Int × List Int) × Int × List Int) :=
  (F_ref02_Mul a0.1 a1.2).bind fun r1 =>
  (F_ref02_Mul a1.1 a0.2).bind fun r2 =>
  (F_ref02_Add r1 r2).bind fun r3 =>
  (F_ref02_Mul a0.2 a1.2).bind fun r4 =>
  some ((r3, r4))
def Run_ref05_Add : Prop := ∀ a0 : (Int × List Int) × Int × List Int, ∀ a1 : (Int × List Int) × Int × List Int, Ok (F_ref05_Add a0 a1) (fun _ => T_ref05_Add a0 a1)

/-! cylinder/cylinderref05.Cmp -/
def T_ref05_Cmp (a0 : (Int × List Int) × Int × List Int) (a1 : (Int × List Int) × Int × List Int) : Option Int :=
  (F_ref02_Mul a0.1 a1.2).bind fun r1 =>
  (F_ref02_Mul a1.1 a0.2).bind fun r2 =>
  (F_ref02_Cmp r1 r2).bind fun r3 =>
  some r3
def Run_ref05_Cmp : Prop := ∀ a0 : (Int × List Int) × Int × List Int, ∀ a1 : (Int × List Int) × Int × List Int, Ok (F_ref05_Cmp a0 a1) (fun _ => T_ref05_Cmp a0 a1)

/-! cylinder/cylinderref05.Floor -/
end
end Go.W

set_option linter.unusedVariables false
set_option linter.unusedSimpArgs false
namespace Go.W

/-! ### the reference's integers -/
theorem zv_dz (v : Int) : zv (dz v) = v := by
  unfold zv dz
  dsimp only
  rw [bv_bd (ab_nonneg v)]
  unfold sg ab; (repeat' split) <;> omega
theorem ZZ.dz {v : Int} (h : Bd 2199023255552 (ab v)) : ZZ (Go.W.dz v) := ⟨by rw [zv_dz]; exact h, by rw [zv_dz]⟩
theorem ZZ.bb {z : Int × List Int} (h : ZZ z) : BB z.2 := by
  rw [h.2]; exact BB.bd h.1 (Nat.le_refl _)
theorem ZZ.sign {z : Int × List Int} (h : ZZ z) : z.1 = sg (zv z) := by
  have := congrArg Prod.fst h.2
  exact this
theorem ZZ.bits {z : Int × List Int} (h : ZZ z) : bv z.2 = ab (zv z) := by
  have := congrArg Prod.snd h.2
  have e : z.2 = bd (ab (zv z)) := this
  rw [e, bv_bd (ab_nonneg _)]
theorem bd_nil {n : Int} : bd n = [] ↔ n ≤ 0 := gd_nil (by decide)
theorem dz_zero : dz 0 = (0, []) := by unfold dz; simp [sg, ab, bd_zero]
theorem Rn_ref02_Make : Run_ref02_Make := fun neg b => Ok.gif_const fun h => by
  have nb := h.nonneg
  rw [T_ref02_Make, F_ref01_Trim, gif_bind h]
  by_cases h0 : bv b = 0
  · rw [h0, bd_zero, if_pos (by decide)]
    simp [dz_zero]
  · have : bd (bv b) ≠ [] := fun h => by have := bd_nil.1 h; omega
    rw [if_neg (by simp; exact this)]
    unfold dz
    cases neg with
    | true => simp only [if_true]; rw [sg_neg (by omega), ab_neg, ab_pos nb]
    | false => simp only [Bool.false_eq_true, if_false]; rw [sg_pos (by omega), ab_pos nb]
theorem Make_bind {σ : Type} {neg : Bool} {n : Int} (h : 0 ≤ n) {k : Nat} (hb : Bd k n) (hk : k ≤ 4398046511104) {f : Int × List Int → Option σ} : (F_ref02_Make neg (bd n)).bind f = f (dz (if neg = true then -n else n)) := by
  rw [F_ref02_Make, gif_bind (BW.bd hb hk), bv_bd h]
theorem Rn_ref02_Of : Run_ref02_Of := fun neg a => Ok.gif_const fun h => by
  rw [T_ref02_Of, F_ref01_Of, gif_bind h, Make_bind h.nonneg h.big (by omega)]
  rfl
theorem Rn_ref02_Is : Run_ref02_Is := fun neg a z => Ok.gif_const fun h => by
  rw [T_ref02_Is, F_ref01_Is, gif_bind h.bb, h.sign, h.bits]
  have e : decide (sg (zv z) < 0) = decide (zv z < 0) := by
    congr 1; exact propext sg_lt0
  rw [e]
  unfold di
  by_cases h1 : neg = decide (zv z < 0)
  · rw [if_pos (by simp [h1])]
    congr 1
    simp [Prod.ext_iff, h1]
  · rw [if_neg (by simpa using h1)]
    congr 1
    simp [Prod.ext_iff, h1]
theorem sg_range (v : Int) : -1 ≤ sg v ∧ sg v ≤ 1 := by unfold sg; (repeat' split) <;> omega
theorem Rn_ref02_Neg : Run_ref02_Neg := fun z => Ok.gif_const fun h => by
  have hs := sg_range (zv z)
  rw [T_ref02_Neg, h.sign, i64w (by omega) (by omega)]
  have e : z.2 = bd (ab (zv z)) := congrArg Prod.snd h.2
  unfold dz
  rw [ab_neg, ← e]
  congr 2
  unfold sg; (repeat' split) <;> omega
theorem Rn_ref02_Cmp : Run_ref02_Cmp := fun a b => Ok.gif_const fun ⟨ha, hb⟩ => by
  rw [T_ref02_Cmp, F_ref01_Cmp, gif_bind ⟨ha.bb, hb.bb⟩, ha.sign, hb.sign, ha.bits, hb.bits]
  by_cases h0 : sg (zv a) = sg (zv b)
  · rw [if_neg (by simpa using h0)]
    congr 1
    have h1 := sg_eq h0
    unfold sg at h0 ⊢
    unfold cm ab
    (repeat' split at h0) <;> (repeat' split) <;> first | rfl | (exfalso; omega)
  · rw [if_pos (by simpa using h0)]
    by_cases h1 : sg (zv a) < sg (zv b)
    · rw [if_pos (decide_eq_true h1), cm_of_lt (sg_lt h1)]
    · rw [if_neg (by simpa using h1), cm_of_gt (sg_lt (by omega))]
theorem sg_mul (x y : Int) : sg x * sg y = sg (x * y) := by
  by_cases h1 : x = 0
  · subst h1; simp [sg]
  by_cases h2 : y = 0
  · subst h2; simp [sg]
  by_cases h3 : x < 0 <;> by_cases h4 : y < 0
  · have := Int.mul_pos_of_neg_of_neg h3 h4
    rw [sg_neg h3, sg_neg h4, sg_pos this]; rfl
  · have := Int.mul_neg_of_neg_of_pos h3 (show 0 < y by omega)
    rw [sg_neg h3, sg_pos (show 0 < y by omega), sg_neg this]; rfl
  · have := Int.mul_neg_of_pos_of_neg (show 0 < x by omega) h4
    rw [sg_pos (show 0 < x by omega), sg_neg h4, sg_neg this]; rfl
  · have := Int.mul_pos (show 0 < x by omega) (show 0 < y by omega)
    rw [sg_pos (show 0 < x by omega), sg_pos (show 0 < y by omega), sg_pos this]; rfl
theorem big2 : max 2199023255552 2199023255552 + 1 ≤ 4398046511104 := by omega
theorem cm_ge0 {x y : Int} : decide (cm x y ≥ 0) = decide (y ≤ x) := by
  unfold cm; (repeat' split) <;> simp <;> omega
theorem Rn_ref02_Add : Run_ref02_Add := fun a b => Ok.gif_const fun ⟨ha, hb⟩ => by
  have sa := sg_range (zv a)
  have sb := sg_range (zv b)
  have hA := ha.1
  have hB := hb.1
  have na := ab_nonneg (zv a)
  have nb := ab_nonneg (zv b)
  have e1 : IntKind.wrap .i64 (a.1 * b.1) = sg (zv a * zv b) := by
    rw [ha.sign, hb.sign, sg_mul]
    have := sg_range (zv a * zv b)
    exact i64w (by omega) (by omega)
  rw [T_ref02_Add, e1, F_ref01_Add, gif_bind ⟨ha.bb, hb.bb⟩, ha.bits, hb.bits, Make_bind (by omega) (hA.add hB) big2, F_ref01_Cmp, gif_bind ⟨ha.bb, hb.bb⟩, ha.bits, hb.bits, cm_ge0, ha.sign, hb.sign, i64w (n := sg (zv a) + sg (zv b)) (by omega) (by omega)]
  have hs : decide (sg (zv a * zv b) ≥ 0) = decide (0 ≤ sg (zv a) * sg (zv b)) := by rw [sg_mul]
  rw [hs]
  by_cases h0 : 0 ≤ sg (zv a) * sg (zv b)
  · rw [if_pos (decide_eq_true h0)]
    congr 2
    unfold sg at h0 ⊢
    unfold ab
    (repeat' split at h0) <;> simp at h0 ⊢ <;> (repeat' split) <;> omega
  · rw [if_neg (by simpa using h0)]
    by_cases h1 : ab (zv b) ≤ ab (zv a)
    · rw [if_pos (decide_eq_true h1), F_ref01_Sub, gif_bind ⟨ha.bb, hb.bb, by rw [ha.bits, hb.bits]; exact h1⟩, ha.bits, hb.bits, Make_bind (by omega) (hA.le (by omega) (show ab (zv a) - ab (zv b) ≤ ab (zv a) by omega)) (by omega)]
      congr 2
      unfold sg at h0 ⊢
      unfold ab at h1 ⊢
      (repeat' split at h0) <;> simp at h0 ⊢ <;> (repeat' split) <;> (repeat' split at h1) <;> omega
    · rw [if_neg (by simpa using h1), F_ref01_Sub, gif_bind ⟨hb.bb, ha.bb, by rw [ha.bits, hb.bits]; omega⟩, ha.bits, hb.bits, Make_bind (by omega) (hB.le (by omega) (show ab (zv b) - ab (zv a) ≤ ab (zv b) by omega)) (by omega)]
      congr 2
      unfold sg at h0 ⊢
      unfold ab at h1 ⊢
      (repeat' split at h0) <;> simp at h0 ⊢ <;> (repeat' split) <;> (repeat' split at h1) <;> omega
theorem Rn_ref02_Mul : Run_ref02_Mul := fun a b => Ok.gif_const fun ⟨ha, hb⟩ => by
  have na := ab_nonneg (zv a)
  have nb := ab_nonneg (zv b)
  have e1 : IntKind.wrap .i64 (a.1 * b.1) = sg (zv a * zv b) := by
    rw [ha.sign, hb.sign, sg_mul]
    have := sg_range (zv a * zv b)
    exact i64w (by omega) (by omega)
  rw [T_ref02_Mul, e1, F_ref01_Mul, gif_bind ⟨ha.bb, hb.bb⟩, ha.bits, hb.bits, Make_bind (Int.mul_nonneg na nb) (ha.1.mul hb.1) (by omega), ← ab_mul]
  congr 2
  unfold sg ab
  (repeat' split) <;> simp at * <;> omega
theorem Rn_ref02_Small : Run_ref02_Small := fun s hs n => Ok.gif fun ⟨h0, h1⟩ => by
  have key : ∀ (d : Nat) (x : Int) (o : List Int) (neg : Bool) (z : Int × List Int) (N : Int), 0 ≤ x → x < 2 ^ d → d + o.length = 64 → DV 2 o → gv 2 o + x * 2 ^ o.length = N → Ev (fun m => s m x neg z o) (dz (if neg = true then -N else N)) := by
    intro d
    induction d with
    | zero =>
      intro x o neg z N hx0 hx hl hd hN
      have hx : x = 0 := by simp at hx; omega
      subst hx
      have hN : bv o = N := by simp at hN; exact hN
      refine Ev.step (t := fun _ => some (dz (if neg = true then -N else N))) (fun m => ?_) Ev.ret
      rw [hs]; unfold S_ref02_Small_21
      rw [if_neg (by decide), F_ref02_Make, gif_bind ⟨hd, by omega⟩, hN]
    | succ d ih =>
      intro x o neg z N hx0 hx hl hd hN
      by_cases h0 : x = 0
      · subst h0
        have hN : bv o = N := by simp at hN; exact hN
        refine Ev.step (t := fun _ => some (dz (if neg = true then -N else N))) (fun m => ?_) Ev.ret
        rw [hs]; unfold S_ref02_Small_21
        rw [if_neg (by decide), F_ref02_Make, gif_bind ⟨hd, by omega⟩, hN]
      · have hxb : x < 18446744073709551616 := by
          have := two_pow_le (show d + 1 ≤ 64 by omega)
          have e : (2 : Int) ^ 64 = 18446744073709551616 := rfl
          omega
        have hb64 : x / 2 ≤ 9223372036854775807 := by omega
        refine Ev.step (fun m => ?_) (ih (x / 2) (o ++ [x % 2]) neg z N (by omega) (by rw [Int.pow_succ] at hx; omega) (by simp; omega) (hd.snoc (by omega)) (by
          rw [gv_snoc, ← hN, List.length_append]
          have := Int.emod_add_mul_ediv x 2
          simp only [List.length_cons, List.length_nil, Int.pow_succ]
          generalize x % 2 = u at *
          generalize x / 2 = v at *
          grind))
        rw [hs]; unfold S_ref02_Small_21
        rw [if_pos (by simp; omega), if_neg (by decide), Int.tmod_eq_emod_of_nonneg hx0, Int.tdiv_eq_ediv_of_nonneg hx0, if_pos (by simp; omega), if_neg (by decide), i64w (by omega) (by omega)]
  by_cases hn : n < 0
  · simp only [T_ref02_Small, decide_eq_true hn, if_true]
    rw [i64w (by omega) (by omega)]
    have := key 64 (0 - n) [] true (0, []) (-n) (by omega) (by have e : (2 : Int) ^ 64 = 18446744073709551616 := rfl; omega) rfl .nil (by simp [gv])
    simp only [if_true, Int.neg_neg] at this
    exact this
  · simp only [T_ref02_Small, decide_eq_false hn]
    have := key 64 n [] false (0, []) n (by omega) (by have e : (2 : Int) ^ 64 = 18446744073709551616 := rfl; omega) rfl .nil (by simp [gv])
    simp only [Bool.false_eq_true, if_false] at this
    exact this

/-! ### division -/
theorem Rn_ref03_Abs : Run_ref03_Abs := fun a => Ok.gif_const fun h => by
  have := h.bb
  rw [T_ref03_Abs, F_ref02_Make, gif_bind h.bb.w, h.bits]
  rfl
theorem ab_zero {x : Int} : ab x = 0 ↔ x = 0 := by unfold ab; split <;> omega
theorem tdiv_ab (x y : Int) : ab (Int.tdiv x y) = ab x / ab y := by
  rw [ab_eq, ab_eq, ab_eq, Int.natAbs_tdiv]; exact Int.natCast_ediv _ _
theorem tmod_ab (x y : Int) : ab (Int.tmod x y) = ab x % ab y := by
  rw [ab_eq, ab_eq, ab_eq, Int.natAbs_tmod]; exact Int.natCast_emod _ _
theorem tdiv_sign {x y : Int} (h : Int.tdiv x y ≠ 0) : (sg (x * y) < 0) ↔ Int.tdiv x y < 0 := by
  have hy : y ≠ 0 := fun hy => h (by rw [hy, Int.tdiv_zero])
  rw [sg_lt0]
  have e := Int.mul_tdiv_add_tmod x y
  by_cases h1 : 0 ≤ x <;> by_cases h2 : 0 < y
  · have := Int.mul_nonneg h1 (Int.le_of_lt h2)
    have := Int.tdiv_nonneg h1 (Int.le_of_lt h2)
    omega
  · have h3 : y < 0 := by omega
    have h4 : Int.tdiv x y = -(Int.tdiv x (-y)) := by rw [Int.tdiv_neg, Int.neg_neg]
    have h5 := Int.tdiv_nonneg h1 (show 0 ≤ -y by omega)
    have hx : 0 < x := by
      by_cases hx : x = 0
      · exfalso; exact h (by rw [hx, Int.zero_tdiv])
      · omega
    have := Int.mul_neg_of_pos_of_neg hx h3
    omega
  · have h4 : Int.tdiv x y = -(Int.tdiv (-x) y) := by rw [Int.neg_tdiv, Int.neg_neg]
    have h5 := Int.tdiv_nonneg (show 0 ≤ -x by omega) (Int.le_of_lt h2)
    have := Int.mul_neg_of_neg_of_pos (show x < 0 by omega) h2
    omega
  · have h3 : y < 0 := by omega
    have h4 : Int.tdiv x y = Int.tdiv (-x) (-y) := by rw [Int.neg_tdiv, Int.tdiv_neg, Int.neg_neg]
    have h5 := Int.tdiv_nonneg (show 0 ≤ -x by omega) (show 0 ≤ -y by omega)
    have := Int.mul_pos_of_neg_of_neg (show x < 0 by omega) h3
    omega
theorem Rn_ref03_Quo : Run_ref03_Quo := fun a b => Ok.gif_const fun ⟨ha, hb, h0⟩ => by
  have na := ab_nonneg (zv a)
  have nb := ab_nonneg (zv b)
  have hb0 : ab (zv b) ≠ 0 := fun h => h0 (ab_zero.1 h)
  have e1 : IntKind.wrap .i64 (a.1 * b.1) = sg (zv a * zv b) := by
    rw [ha.sign, hb.sign, sg_mul]
    have := sg_range (zv a * zv b)
    exact i64w (by omega) (by omega)
  have hq := ha.1.div nb
  have hr := ha.1.emod (show 0 < ab (zv b) by omega)
  rw [T_ref03_Quo, e1, F_ref01_DivMod, gif_bind ⟨ha.bb, hb.bb, by rw [hb.bits]; exact hb0⟩, ha.bits, hb.bits, Make_bind hq.1 hq (by omega), Make_bind hr.1 hr (by omega), ha.sign]
  have hQ := tdiv_ab (zv a) (zv b)
  have hR := tmod_ab (zv a) (zv b)
  have hS := @tdiv_sign (zv a) (zv b)
  have hM := tmod_facts (zv a) (zv b) h0
  rw [← hQ, ← hR]
  congr 3
  · by_cases h1 : Int.tdiv (zv a) (zv b) = 0
    · simp [h1, ab]
    · have := hS h1
      unfold ab
      simp only [decide_eq_true_eq]
      split <;> split <;> omega
  · congr 1
    simp only [decide_eq_true_eq, sg_lt0]
    unfold ab at hM ⊢
    split <;> split <;> omega
theorem Rn_ref03_Gcd : Run_ref03_Gcd := fun s hs a b => Ok.gif fun ⟨ha, hb⟩ => by
  have key : ∀ (k : Nat) (x y : Int) (z : Int × List Int), y.toNat ≤ k → 0 ≤ y → 0 ≤ x → Bd 2199023255552 x → Bd 2199023255552 y → Ev (fun m => s m z (dz x) (dz y)) (dz (Int.gcd x y : Int)) := by
    intro k
    induction k using Nat.strongRecOn with
    | ind k ih =>
    intro x y z hk hy0 hx0 hx hy
    by_cases h0 : y = 0
    · subst h0
      refine Ev.step (t := fun _ => some (dz (Int.gcd x 0 : Int))) (fun m => ?_) Ev.ret
      rw [hs]; unfold S_ref03_Gcd_9
      rw [if_neg (by decide), gcd_zero' hx0]
    · have hm0 := Int.emod_nonneg x h0
      have hm1 := Int.emod_lt_of_pos x (show 0 < y by omega)
      rw [gcd_step hx0 hy0]
      refine Ev.step (fun m => ?_) (ih (x % y).toNat (by omega) y (x % y) z (Nat.le_refl _) hm0 hy0 hy (hx.emod (by omega)))
      have hy1 : (dz y).1 ≠ 0 := by show sg y ≠ 0; rw [sg_pos (by omega)]; omega
      rw [hs]; unfold S_ref03_Gcd_9
      rw [if_pos (bne_iff_ne.2 hy1), F_ref03_Quo, gif_bind ⟨ZZ.dz (by rw [ab_pos hx0]; exact hx), ZZ.dz (by rw [ab_pos hy0]; exact hy), by rw [zv_dz]; exact h0⟩, zv_dz, zv_dz, Int.tmod_eq_emod_of_nonneg hx0]
  simp only [T_ref03_Gcd, F_ref03_Abs, gif_bind ha, gif_bind hb]
  have := key (ab (zv b)).toNat (ab (zv a)) (ab (zv b)) (0, []) (Nat.le_refl _) (ab_nonneg _) (ab_nonneg _) ha.1 hb.1
  have e : Int.gcd (zv a) (zv b) = Int.gcd (ab (zv a)) (ab (zv b)) := by
    rw [ab_eq, ab_eq]; simp [Int.gcd]
  rw [e]
  exact this
end Go.W

set_option linter.unusedVariables false
set_option linter.unusedSimpArgs false
namespace Go.W

theorem ZZ.dz' {k : Nat} {v : Int} (h : Bd k (ab v)) (hk : k ≤ 2199023255552) : ZZ (Go.W.dz v) := ZZ.dz (h.mono hk)
theorem RK_le : RK = 1000000000 := rfl
theorem RQ.z1 {k : Nat} {a : (Int × List Int) × Int × List Int} (h : RQ k a) (hk : k ≤ 2199023255552) : ZZ a.1 := by
  have e : a.1 = dz (qn a) := congrArg Prod.fst h.1
  rw [e]; exact ZZ.dz' h.2.1 hk
theorem RQ.z2 {k : Nat} {a : (Int × List Int) × Int × List Int} (h : RQ k a) (hk : k ≤ 2199023255552) : ZZ a.2 := by
  have e : a.2 = dz (qd a) := congrArg Prod.snd h.1
  have := h.2.2.2
  rw [e]; exact ZZ.dz' (by rw [ab_pos (by omega)]; exact h.2.2.1) hk
theorem qn_mq (n d : Int) : qn (mq n d) = n := zv_dz n
theorem qd_mq (n d : Int) : qd (mq n d) = d := zv_dz d
theorem qv_mq (n d : Int) : qv (mq n d) = Rat.divInt n d := by unfold qv; rw [qn_mq, qd_mq]
theorem RQ.mq {k : Nat} {n d : Int} (h1 : Bd k (ab n)) (h2 : Bd k d) (h3 : 0 < d) : RQ k (Go.W.mq n d) := ⟨by rw [qn_mq, qd_mq], by rw [qn_mq]; exact h1, by rw [qd_mq]; exact h2, by rw [qd_mq]; exact h3⟩
theorem RQ.mono {j k : Nat} {a : (Int × List Int) × Int × List Int} (h : RQ j a) (hk : j ≤ k) : RQ k a := ⟨h.1, h.2.1.mono hk, h.2.2.1.mono hk, h.2.2.2⟩
theorem Rn_ref05_Of : Run_ref05_Of := fun neg n d => Ok.gif_const fun ⟨hn, hd⟩ => by
  have nd := hd.nn.nonneg
  rw [T_ref05_Of, F_ref02_Of, gif_bind hd.nn, F_ref02_Of, gif_bind hn.nn]
  have e : iv (false, d) = nv d := by unfold iv; simp
  rw [e]
  unfold rn rd
  dsimp only
  by_cases h0 : nv d = 0
  · rw [h0, if_pos (by decide), if_pos rfl, if_pos rfl, F_ref02_Small, gif_bind (by omega)]
    unfold mq; rw [dz_zero]
  · have : ((dz (nv d)).1 == 0) = false := by
      show (sg (nv d) == 0) = false
      rw [sg_pos (by omega)]; rfl
    rw [this, if_neg (by decide), if_neg h0, if_neg h0]
    rfl
theorem Rn_ref05_Neg : Run_ref05_Neg := fun a => Ok.gif_const fun ha => by
  have e : a.2 = dz (qd a) := congrArg Prod.snd ha.1
  rw [T_ref05_Neg, F_ref02_Neg, gif_bind (ha.z1 (by rw [RK_le]; omega))]
  conv => lhs; rw [e]
  rfl
theorem Rn_ref05_Add : Run_ref05_Add := fun a b => Ok.gif_const fun ⟨ha, hb⟩ => by
  have a1 := ha.z1 (by rw [RK_le]; omega)
  have a2 := ha.z2 (by rw [RK_le]; omega)
  have b1 := hb.z1 (by rw [RK_le]; omega)
  have b2 := hb.z2 (by rw [RK_le]; omega)
  have da := ha.2.2.2
  have db := hb.2.2.2
  have s1 : Bd (RK + RK) (ab (qn a * qd b)) := ha.2.1.ab_mul (by rw [ab_pos (by omega)]; exact hb.2.2.1)
  have s2 : Bd (RK + RK) (ab (qn b * qd a)) := hb.2.1.ab_mul (by rw [ab_pos (by omega)]; exact ha.2.2.1)
  have e1 : zv a.1 = qn a := rfl
  have e2 : zv a.2 = qd a := rfl
  have e3 : zv b.1 = qn b := rfl
  have e4 : zv b.2 = qd b := rfl
  rw [T_ref05_Add, F_ref02_Mul, gif_bind ⟨a1, b2⟩, F_ref02_Mul, gif_bind ⟨b1, a2⟩, e1, e2, e3, e4, F_ref02_Add, gif_bind ⟨ZZ.dz' s1 (by rw [RK_le]; omega), ZZ.dz' s2 (by rw [RK_le]; omega)⟩, zv_dz, zv_dz, F_ref02_Mul, gif_bind ⟨a2, b2⟩]
  rfl
theorem Rn_ref05_Cmp : Run_ref05_Cmp := fun a b => Ok.gif_const fun ⟨ha, hb⟩ => by
  have a1 := ha.z1 (by rw [RK_le]; omega)
  have a2 := ha.z2 (by rw [RK_le]; omega)
  have b1 := hb.z1 (by rw [RK_le]; omega)
  have b2 := hb.z2 (by rw [RK_le]; omega)
  have da := ha.2.2.2
  have db := hb.2.2.2
  have s1 : Bd (RK + RK) (ab (qn a * qd b)) := ha.2.1.ab_mul (by rw [ab_pos (by omega)]; exact hb.2.2.1)
  have s2 : Bd (RK + RK) (ab (qn b * qd a)) := hb.2.1.ab_mul (by rw [ab_pos (by omega)]; exact ha.2.2.1)
  have e1 : zv a.1 = qn a := rfl
  have e2 : zv a.2 = qd a := rfl
  have e3 : zv b.1 = qn b := rfl
  have e4 : zv b.2 = qd b := rfl
  rw [T_ref05_Cmp, F_ref02_Mul, gif_bind ⟨a1, b2⟩, F_ref02_Mul, gif_bind ⟨b1, a2⟩, e1, e2, e3, e4, F_ref02_Cmp, gif_bind ⟨ZZ.dz' s1 (by rw [RK_le]; omega), ZZ.dz' s2 (by rw [RK_le]; omega)⟩, zv_dz, zv_dz]
  unfold qv
  rw [rcm_div da db]
theorem Rn_ref05_Reduced : Run_ref05_Reduced := fun a => Ok.gif_const fun ha => by
  have a1 := ha.z1 (by rw [RK_le]; omega)
  have a2 := ha.z2 (by rw [RK_le]; omega)
  have da := ha.2.2.2
  have e1 : zv a.1 = qn a := rfl
  have e2 : zv a.2 = qd a := rfl
  have hg0 : 0 < (Int.gcd (qn a) (qd a) : Int) := by
    have : Int.gcd (qn a) (qd a) ≠ 0 := fun h => by have := (Int.gcd_eq_zero_iff.1 h).2; omega
    omega
  have hgn := Int.gcd_dvd_left (qn a) (qd a)
  have hgd := Int.gcd_dvd_right (qn a) (qd a)
  have hgle := Int.le_of_dvd da hgd
  have hg : ZZ (dz (Int.gcd (qn a) (qd a) : Int)) := ZZ.dz' (k := RK) (by rw [ab_pos (by omega)]; exact ha.2.2.1.le (by omega) hgle) (by rw [RK_le]; omega)
  rw [T_ref05_Reduced, F_ref03_Gcd, gif_bind ⟨a1, a2⟩, e1, e2, F_ref03_Quo, gif_bind ⟨a1, hg, by rw [zv_dz]; omega⟩, F_ref03_Quo, gif_bind ⟨a2, hg, by rw [zv_dz]; omega⟩, e1, e2, zv_dz]
  unfold qv
  rw [num_div da, den_div da, Int.tdiv_eq_ediv_of_dvd hgn, Int.tdiv_eq_ediv_of_dvd hgd]
  rfl
theorem Rn_ref05_Is : Run_ref05_Is := fun neg n d a => Ok.gif_const fun ha => by
  have hb := QB.div (j := RK) (k := RK) ha.2.1 ha.2.2.1 ha.2.2.2
  have hq : QB RK (qv a) := QB.mono hb (by simp)
  have hdp := (qv a).den_pos
  have z1 : ZZ (mq (qv a).num (qv a).den).1 := ZZ.dz' hq.1 (by rw [RK_le]; omega)
  have z2 : ZZ (mq (qv a).num (qv a).den).2 := ZZ.dz' (by rw [ab_pos (by omega)]; exact hq.2) (by rw [RK_le]; omega)
  have v1 : zv (mq (qv a).num (qv a).den).1 = (qv a).num := zv_dz _
  have v2 : zv (mq (qv a).num (qv a).den).2 = (qv a).den := zv_dz _
  rw [T_ref05_Is, F_ref05_Reduced, gif_bind ha, F_ref02_Is, gif_bind z1, F_ref02_Is, gif_bind z2, v1, v2]
  have e : di ((qv a).den : Int) = (false, dn (qv a).den) := by
    unfold di
    rw [ab_pos (by omega), decide_eq_false (by omega)]
  rw [e]
  unfold dr
  by_cases h1 : (neg, n) = di (qv a).num
  · rw [if_pos (decide_eq_true h1), h1]
    congr 1
    simp [Prod.ext_iff]
  · rw [if_neg (by simpa using h1)]
    congr 1
    simp only [Prod.mk.injEq, h1, false_and, decide_false]
end Go.W

set_option linter.unusedVariables false
set_option linter.unusedSimpArgs false
namespace Go.W

/-! ### decimal -/
theorem Rn_decimal_chunk : Run_decimal_chunk := fun s hs b => Ok.gif fun h => by
  subst h
  have st : ∀ (x n : Int), x * 10 < 4294967296 → 0 ≤ x → 0 ≤ n → n < 100 → Ev (fun m => s m 10 (x * 10) (n + 1)) (1000000000, 9) → Ev (fun m => s m 10 x n) (1000000000, 9) := fun x n h1 h0 h2 h3 h => by
    refine Ev.step (fun m => ?_) h
    rw [hs]; unfold S_decimal_chunk_9
    dsimp only
    rw [u64w (n := x) (by omega) (by omega), u64w (n := 10) (by omega) (by omega), u64w (n := x * 10) (by omega) (by omega), if_pos (decide_eq_true h1), u32w (by omega) h1, i64w (by omega) (by omega)]
  refine st 10 1 (by omega) (by omega) (by omega) (by omega) ?_
  refine st (10 * 10) 2 (by omega) (by omega) (by omega) (by omega) ?_
  refine st (10 * 10 * 10) 3 (by omega) (by omega) (by omega) (by omega) ?_
  refine st (10 * 10 * 10 * 10) 4 (by omega) (by omega) (by omega) (by omega) ?_
  refine st (10 * 10 * 10 * 10 * 10) 5 (by omega) (by omega) (by omega) (by omega) ?_
  refine st (10 * 10 * 10 * 10 * 10 * 10) 6 (by omega) (by omega) (by omega) (by omega) ?_
  refine st (10 * 10 * 10 * 10 * 10 * 10 * 10) 7 (by omega) (by omega) (by omega) (by omega) ?_
  refine st (10 * 10 * 10 * 10 * 10 * 10 * 10 * 10) 8 (by omega) (by omega) (by omega) (by omega) ?_
  refine Ev.step (t := fun _ => some (1000000000, 9)) (fun m => ?_) Ev.ret
  rw [hs]; unfold S_decimal_chunk_9
  rfl
def digTab : ByteArray := (ByteArray.mk #[48, 49, 50, 51, 52, 53, 54, 55, 56, 57, 97, 98, 99, 100, 101, 102, 103, 104, 105, 106, 107, 108, 109, 110, 111, 112, 113, 114, 115, 116, 117, 118, 119, 120, 121, 122])
theorem digTab_ok : (List.range 10).all (fun n => decide (bt digTab (n : Int) = 48 + (n : Int))) = true := by decide +kernel
theorem digTab_size : ByteArray.size digTab = 36 := by decide +kernel
theorem digTab_get {d : Int} (h : 0 ≤ d) (h' : d < 10) : bt digTab d = 48 + d := by
  obtain ⟨n, rfl⟩ := Int.eq_ofNat_of_zero_le h
  exact of_decide_eq_true (List.all_eq_true.1 digTab_ok n (by simp; omega))
theorem dec_len {k n : Nat} {N : Int} (h : Bd k N) (hn : n = 0 ∨ 10 ^ (n - 1) ≤ N) : n ≤ k + 1 := by
  rcases hn with rfl | hn
  · omega
  · have h1 : (2 : Int) ^ (n - 1) ≤ 10 ^ (n - 1) := by
      have : ∀ j : Nat, (2 : Int) ^ j ≤ 10 ^ j := fun j => by
        induction j with
        | zero => simp
        | succ j ih =>
          rw [Int.pow_succ, Int.pow_succ]
          have := two_pow_pos j
          omega
      exact this _
    have := pow_lt_imp (j := n - 1) (k := k) (Int.lt_of_le_of_lt (Int.le_trans h1 hn) h.2)
    omega
theorem chunk_bind {σ : Type} {k : Int × Int → Option σ} : (F_decimal_chunk 10).bind k = k (1000000000, 9) := gif_bind rfl
theorem Rn_decimal_write : Run_decimal_write := fun s1 s2 s3 k1 k2 k3 a b => Ok.gif fun ⟨ha, hb⟩ => by
  subst hb
  have hN := NN.big ha
  have nN := NN.nonneg ha
  simp only [T_decimal_write, F_natural_Normal, gif_bind (show NN a.2 from ha), chunk_bind]
  -- the end
  have fin : ∀ D : List Int, DV 10 D → gv 10 D = nv a.2 → (D.length = 0 ∨ 10 ^ (D.length - 1) ≤ nv a.2) → Ev (fun m => s1 m 10 [] 1000000000 9 a (D.map fun d => 48 + d)) (decS (iv a)) := by
    intro D hD hg hl
    have hlen := dec_len hN hl
    have hnorm := norm_of_ge (B := 10) (by decide) hD (by
      rcases hl with h | h
      · left; exact List.eq_nil_of_length_eq_zero h
      · right; rw [hg]; exact h)
    rw [hg] at hnorm
    refine Ev.step (t := fun _ => some (decS (iv a))) (fun m => ?_) Ev.ret
    rw [k1]; unfold S_decimal_write_17
    rw [if_neg (by simp)]
    unfold decS
    by_cases h0 : nv a.2 = 0
    · have : D = [] := by rw [← hnorm, h0]; exact gd_zero 10
      rw [if_pos ((iv_zero ha).2 h0), this, if_pos (by simp)]
    · have hne : D ≠ [] := fun h => by rw [h] at hg; simp [gv] at hg; omega
      rw [if_neg (fun h => h0 ((iv_zero ha).1 h)), if_neg (by simp; exact hne)]
      unfold decL
      rw [iv_ab ha, hnorm]
      by_cases hs : a.1 = true
      · have hlt : iv a < 0 := by unfold iv; rw [if_pos hs]; omega
        rw [if_pos hs, if_pos (by simp; omega), O_slices_Reverse, gif_bind (by simp; omega), if_pos (sameLen_of (by simp)), if_pos hlt]
        simp
      · have hlt : ¬ iv a < 0 := by unfold iv; rw [if_neg hs]; omega
        rw [if_neg hs, O_slices_Reverse, gif_bind (by simp; omega), if_pos (sameLen_of (by simp)), if_neg hlt]
        simp
  -- the loops
  have main : ∀ (R : Nat) (rest : Int) (D : List Int), rest.toNat ≤ R → 0 ≤ rest → NN (dn rest) → DV 10 D → gv 10 D + rest * 10 ^ D.length = nv a.2 → (D.length = 0 ∨ 10 ^ (D.length - 1) ≤ nv a.2) →
      Ev (fun m => s1 m 10 (dn rest) 1000000000 9 a (D.map fun d => 48 + d)) (decS (iv a)) := by
    intro R
    induction R using Nat.strongRecOn with
    | ind R ih =>
    intro rest D hR hr0 hnn hD hg hl
    by_cases h0 : rest = 0
    · subst h0
      rw [dn_zero]
      exact fin D hD (by omega) hl
    · have vr := nv_dn hr0
      have hq0 : 0 ≤ rest / 1000000000 := by omega
      have hnq : NN (dn (rest / 1000000000)) := by have := hnn.quo (d := 1000000000) (by omega); rwa [vr] at this
      have inner : ∀ (d i : Nat) (low : Int) (E : List Int), i + d = 9 → 0 ≤ low → low < 10 ^ d → DV 10 E → gv 10 E + (low + 10 ^ d * (rest / 1000000000)) * 10 ^ E.length = nv a.2 → (E.length = 0 ∨ 10 ^ (E.length - 1) ≤ nv a.2) →
          Ev (fun m => s2 m 10 (dn (rest / 1000000000)) 1000000000 9 low (i : Int) a (E.map fun d => 48 + d)) (decS (iv a)) := by
        intro d
        induction d with
        | zero =>
          intro i low E hi hlow0 hlow hE hgE hlE
          have hlow : low = 0 := by simp at hlow; omega
          subst hlow
          refine Ev.step (fun m => ?_) (ih (rest / 1000000000).toNat (by omega) (rest / 1000000000) E (Nat.le_refl _) hq0 hnq hE (by simpa using hgE) hlE)
          rw [k2]; unfold S_decimal_write_33
          rw [if_neg (by simp; omega)]
        | succ d ihd =>
          intro i low E hi hlow0 hlow hE hgE hlE
          by_cases hz : low = 0 ∧ rest / 1000000000 = 0
          · obtain ⟨z1, z2⟩ := hz
            subst z1
            rw [z2] at hgE ⊢
            rw [dn_zero]
            refine Ev.step (fun m => ?_) (fin E hE (by simpa using hgE) hlE)
            rw [k2]; unfold S_decimal_write_33
            rw [if_pos (by simp; omega), if_neg (by simp), if_neg (by simp)]
          · have hp := pow_pos' (B := 10) (by decide) (d + 1)
            have hpE := pow_pos' (B := 10) (by decide) E.length
            have hRp : 1 ≤ low + 10 ^ (d + 1) * (rest / 1000000000) := by
              by_cases h1 : rest / 1000000000 = 0
              · rw [h1, Int.mul_zero]; omega
              · have : 1 * 1 ≤ 10 ^ (d + 1) * (rest / 1000000000) := Int.mul_le_mul (by omega) (by omega) (by omega) (by omega)
                omega
            have hgE0 := gv_nonneg (B := 10) (by decide) hE
            have hEl : 10 ^ E.length ≤ nv a.2 := by
              have : 1 * 10 ^ E.length ≤ (low + 10 ^ (d + 1) * (rest / 1000000000)) * 10 ^ E.length := Int.mul_le_mul_of_nonneg_right hRp (by omega)
              omega
            have hlen := dec_len hN hlE
            have hlowB : low < 1000000000 := by
              have : (10 : Int) ^ (d + 1) ≤ 10 ^ 9 := pow_le_pow' (by decide) (by omega)
              have e9 : (10 : Int) ^ 9 = 1000000000 := rfl
              omega
            have hstep := ihd (i + 1) (low / 10) (E ++ [low % 10]) (by omega) (by omega) (by rw [Int.pow_succ] at hlow; omega) (hE.snoc (by omega)) (by
              rw [gv_snoc, List.length_append, ← hgE]
              simp only [List.length_cons, List.length_nil, Int.pow_succ]
              have := Int.emod_add_mul_ediv low 10
              generalize low % 10 = u at *
              generalize low / 10 = v at *
              grind) (by right; simp; exact hEl)
            have three : ∀ (w : Int) (p q r : Bool), Ev (fun m => s3 m 10 (dn (rest / 1000000000)) 1000000000 9 low (i : Int) w p q r a (E.map fun d => 48 + d)) (decS (iv a)) := fun w p q r => by
              refine Ev.step (fun m => ?_) hstep
              rw [k3]; unfold S_decimal_write_40
              have hsz := digTab_size
              have hgt := digTab_get (d := low % 10) (by omega) (by omega)
              show (if (10 : Int) = 0 then none else if 0 ≤ Int.tmod low 10 ∧ Int.tmod low 10 < (ByteArray.size digTab : Int) then
                if (E.map fun d => 48 + d).length + ([bt digTab (Int.tmod low 10)] : List Int).length ≤ 70368744177664 / 1 then
                  if (10 : Int) = 0 then none else s2 m 10 (dn (rest / 1000000000)) 1000000000 9 (IntKind.wrap .u32 (Int.tdiv low 10)) (IntKind.wrap .i64 ((i : Int) + 1)) a ((E.map fun d => 48 + d) ++ [bt digTab (Int.tmod low 10)]) else none else none) = _
              rw [Int.tmod_eq_emod_of_nonneg hlow0, Int.tdiv_eq_ediv_of_nonneg hlow0, hsz, hgt, if_neg (by decide), if_pos (by omega), if_pos (by simp; omega), if_neg (by decide), u32w (by omega) (by omega), i64w (by omega) (by omega)]
              simp
            by_cases hl0 : low > 0
            · refine Ev.step (fun m => ?_) (three low (decide (low > 0)) true true)
              rw [k2]; unfold S_decimal_write_33
              rw [if_pos (by simp; omega), if_pos (decide_eq_true hl0)]
            · refine Ev.step (fun m => ?_) (three low (decide (low > 0)) false (decide (((dn (rest / 1000000000)).length : Int) > 0)))
              rw [k2]; unfold S_decimal_write_33
              have hlq : (dn (rest / 1000000000)).length ≠ 0 := fun h => by
                have := dn_nil.1 (List.eq_nil_of_length_eq_zero h); omega
              rw [if_pos (by simp; omega), if_neg (by simpa using hl0), if_pos (decide_eq_true (by omega))]
      have hrem : rest % 1000000000 < 10 ^ 9 := by
        have e9 : (10 : Int) ^ 9 = 1000000000 := rfl
        omega
      have := inner 9 0 (rest % 1000000000) D rfl (by omega) hrem hD (by
        have e9 : (10 : Int) ^ 9 = 1000000000 := rfl
        rw [e9, show rest % 1000000000 + 1000000000 * (rest / 1000000000) = rest by omega]; exact hg) hl
      refine Ev.step (fun m => ?_) this
      have hlr : (dn rest).length ≠ 0 := fun h => by
        have := dn_nil.1 (List.eq_nil_of_length_eq_zero h); omega
      rw [k1]; unfold S_decimal_write_17
      rw [if_pos (decide_eq_true (by omega)), F_natural_DivSmall, gif_bind ⟨hnn, by rw [Bd32]; omega⟩, vr, if_neg (by decide)]
      rfl
  have := main (nv a.2).toNat (nv a.2) [] (Nat.le_refl _) nN (NN.dn hN (Nat.le_refl _)) .nil (by simp [gv]) (.inl rfl)
  exact this
theorem Rn_decimal_Format : Run_decimal_Format := fun a => Ok.gif_const fun h => by
  rw [T_decimal_Format, F_decimal_write, gif_bind ⟨h, rfl⟩]
theorem ofB_size (l : List Int) : ByteArray.size (ofB l) = l.length := by
  simp [ofB, ByteArray.size]
theorem gd10_len {k : Nat} {n : Int} (h : Bd k n) : (gd 10 n).length ≤ k + 1 := by
  refine dec_len h ?_
  by_cases h0 : 0 < n
  · right; exact gd_len_ge (by decide) h0
  · left; rw [gd_neg (by omega)]; rfl
theorem decS_size {k : Nat} {z : Int} (h : Bd k (ab z)) : ByteArray.size (decS z) ≤ k + 2 := by
  unfold decS
  split
  · show 1 ≤ _; omega
  · rw [ofB_size]
    have := gd10_len h
    unfold decL
    split <;> simp <;> omega
theorem Rn_rational_Format : Run_rational_Format := fun a => Ok.gif_const fun h => by
  have hq := QB.rv h
  have hQ := QQ.dr hq (Nat.le_refl _)
  rw [T_rational_Format, F_rational_Normal, gif_bind h]
  generalize rv a = r at *
  have hd := r.den_pos
  have e1 : (dr r).2 = dn r.den := rfl
  have v1 : iv (dr r).1 = r.num := iv_di _
  have v2 : iv (false, (dr r).2) = r.den := by unfold iv; simp only [Bool.false_eq_true, if_false]; exact nv_den r
  have f1 : ∀ {σ : Type} {k : ByteArray → Option σ}, (F_decimal_Format (dr r).1).bind k = k (decS r.num) := fun {σ k} => by rw [F_decimal_Format, gif_bind (p := II (dr r).1) hQ.i, v1]
  have f2 : ∀ {σ : Type} {k : ByteArray → Option σ}, (F_decimal_Format (false, (dr r).2)).bind k = k (decS r.den) := fun {σ k} => by rw [F_decimal_Format, gif_bind (p := II (false, (dr r).2)) hQ.d, v2]
  rw [f1, f1, e1, isOne_bind (by omega), ← e1]
  unfold ratS
  have s1 := decS_size hq.1
  have s2 := decS_size (z := (r.den : Int)) (k := 33554432) (by rw [ab_pos (by omega)]; exact hq.2)
  by_cases h1 : r.den = 1
  · rw [if_pos (decide_eq_true (by omega)), if_pos h1]
  · have h2 : ¬ ((r.den : Int) = 1) := by omega
    have e2 : ByteArray.size (ByteArray.mk #[47]) = 1 := rfl
    rw [if_neg (by simpa using h2), if_neg h1, e2, if_pos (by omega), f2, ByteArray.size_append, e2, if_pos (by omega)]
end Go.W

set_option linter.unusedVariables false
set_option linter.unusedSimpArgs false
namespace Go.W

theorem DR.qq {a : (Bool × List Int) × List Int} (h : DR a) {m : Int} (h1 : (a.1.2.length : Int) ≤ m) (h2 : (a.2.length : Int) ≤ m) (hm : m ≤ 1048576) : QQ a := ⟨⟨h.1, by omega⟩, ⟨h.2, by omega⟩⟩
/-- the reference's fraction of a number that came in -/
theorem of_rq {a : (Bool × List Int) × List Int} (h : QQ a) {m : Nat} (h1 : a.1.2.length ≤ m) (h2 : a.2.length ≤ m) (hm : 1 ≤ m) : RQ (32 * m) (mq (rn a) (rd a)) := by
  refine RQ.mq ?_ ?_ (rd_pos h)
  · unfold rn; split
    · exact Bd.zero _
    · rw [iv_ab h.i]; exact h.1.nn.val.mono (by omega)
  · unfold rd; split
    · exact Bd.mono (j := 1) (by rw [Bd1]; omega) (by omega)
    · exact h.2.nn.val.mono (by omega)
theorem of_v (a : (Bool × List Int) × List Int) : qv (mq (rn a) (rd a)) = rv a := by rw [qv_mq]; rfl
theorem zQ_ok : QQ zQ ∧ rv zQ = 0 := ⟨⟨⟨.nil, by simp⟩, ⟨.nil, by simp⟩⟩, by rw [rv_eq]; rfl⟩
theorem Of_bind {σ : Type} {n : Int} (h : -9223372036854775808 ≤ n ∧ n ≤ 9223372036854775807) {k : ((Bool × List Int) × List Int) → Option σ} : (F_rational_Of n).bind k = k (dr (n : Rat)) := gif_bind h
end Go.W

set_option linter.unusedVariables false
namespace Go.W
/-! ### intervals -/
abbrev NQ := (Bool × List Int) × List Int
abbrev FQ := (Int × List Int) × Int × List Int
abbrev NI := ((Bool × List Int) × List Int) × (Bool × List Int) × List Int
abbrev FI := ((Int × List Int) × Int × List Int) × (Int × List Int) × Int × List Int
def rmin (x y : Rat) : Rat := if y < x then y else x
def rmax (x y : Rat) : Rat := if x < y then y else x
def QI (k : Nat) (a : NI) : Prop := QQ a.1 ∧ QQ a.2 ∧ QB k (rv a.1) ∧ QB k (rv a.2)
def Q2 (a : NI) : Prop := QQ a.1 ∧ QQ a.2
def dI (p : Rat × Rat) : NI := (dr p.1, dr p.2)
def lo (a : NI) : Rat := rmin (rv a.1) (rv a.2)
def hi (a : NI) : Rat := rmax (rv a.1) (rv a.2)
def BI : Nat := 1000000
abbrev zI : NI := (((false, []), []), ((false, []), []))
def mn4 (a b c d : Rat) : Rat := rmin (rmin (rmin a b) c) d
def mx4 (a b c d : Rat) : Rat := rmax (rmax (rmax a b) c) d
def mulI (x y u v : Rat) : Rat × Rat := (mn4 (x * u) (x * v) (y * u) (y * v), mx4 (x * u) (x * v) (y * u) (y * v))
noncomputable def F_interval_least (a b : NQ) : Option NQ := gif (QQ a ∧ QQ b) (if rv b < rv a then b else a)
noncomputable def F_interval_greatest (a b : NQ) : Option NQ := gif (QQ a ∧ QQ b) (if rv a < rv b then b else a)
noncomputable def F_interval_Normal (a : NI) : Option NI := gif (Q2 a) (dI (lo a, hi a))
noncomputable def F_interval_Mul (a b : NI) : Option NI := gif (QI BI a ∧ QI BI b) (dI (mulI (rv a.1) (rv a.2) (rv b.1) (rv b.2)))
noncomputable def F_interval_Add (a b : NI) : Option NI := gif (QI BI a ∧ QI BI b) (dI (lo a + lo b, hi a + hi b))
noncomputable def F_interval_Contains (a : NI) (x : NQ) : Option Bool := gif (Q2 a ∧ QQ x) (decide (lo a ≤ rv x ∧ rv x ≤ hi a))
noncomputable def F_interval_Within (a b : NI) : Option Bool := gif (Q2 a ∧ Q2 b) (decide ((lo b ≤ rv a.1 ∧ rv a.1 ≤ hi b) ∧ lo b ≤ rv a.2 ∧ rv a.2 ≤ hi b))
noncomputable def F_law06_awake : Option Bool := gif True true
noncomputable def F_law06_small (n : Int) (a : NQ) : Option Bool := gif True (decide ((a.1.2.length : Int) ≤ n ∧ (a.2.length : Int) ≤ n))
noncomputable def F_law06_few (n : Int) (a b : NI) : Option Bool := gif True (decide (((a.1.1.2.length : Int) ≤ n ∧ (a.1.2.length : Int) ≤ n) ∧ ((a.2.1.2.length : Int) ≤ n ∧ (a.2.2.length : Int) ≤ n) ∧ ((b.1.1.2.length : Int) ≤ n ∧ (b.1.2.length : Int) ≤ n) ∧ (b.2.1.2.length : Int) ≤ n ∧ (b.2.2.length : Int) ≤ n))
noncomputable def F_law06_q (a : NQ) : Option FQ := gif (QQ a) (mq (rn a) (rd a))
noncomputable def F_law06_of (a : NI) : Option FI := gif (Q2 a) (if rv a.2 < rv a.1 then (mq (rn a.2) (rd a.2), mq (rn a.1) (rd a.1)) else (mq (rn a.1) (rd a.1), mq (rn a.2) (rd a.2)))
noncomputable def F_law06_none (a : NI) : Option Bool := gif (Q2 a) (decide (rv a.1 = 0 ∧ rv a.2 = 0))
noncomputable def F_law06_is (a : NI) (b : FI) : Option Bool := gif (RQ RK b.1 ∧ RQ RK b.2) (decide (a = dI (qv b.1, qv b.2)))
noncomputable def F_ref06_Make (p q : FQ) : Option FI := gif (RQ RK p ∧ RQ RK q) (if qv q < qv p then (q, p) else (p, q))
noncomputable def F_ref06_Point (p : FQ) : Option FI := gif True (p, p)
def lowL (m : FQ) (l : List FQ) : FQ := l.foldl (fun m x => if qv x < qv m then x else m) m
def hiL (m : FQ) (l : List FQ) : FQ := l.foldl (fun m x => if qv m < qv x then x else m) m
def hullL : List FQ → FI
  | [] => (((0, []), (0, [])), ((0, []), (0, [])))
  | m :: l => (lowL m l, hiL m l)
noncomputable def F_ref06_Hull (l : List FQ) : Option FI := gif (l ≠ [] ∧ l.length ≤ 1000 ∧ ∀ q ∈ l, RQ RK q) (hullL l)
def mulq (a b : FQ) : FQ := mq (qn a * qn b) (qd a * qd b)
noncomputable def F_ref06_Mul (p q : FI) : Option FI := gif (RQ 1000000 p.1 ∧ RQ 1000000 p.2 ∧ RQ 1000000 q.1 ∧ RQ 1000000 q.2) (hullL [mulq p.1 q.1, mulq p.1 q.2, mulq p.2 q.1, mulq p.2 q.2])
def DI (a : NI) : Prop := DR a.1 ∧ DR a.2
noncomputable def F_ref06_Contains (p : FI) (q : FQ) : Option Bool := gif (RQ RK p.1 ∧ RQ RK p.2 ∧ RQ RK q) (decide (qv p.1 ≤ qv q ∧ qv q ≤ qv p.2))
noncomputable def F_interval_Hull (a b : NI) : Option NI := gif (Q2 a ∧ Q2 b) (dI (rmin (lo a) (lo b), rmax (hi a) (hi b)))
noncomputable def F_interval_Point (a : NQ) : Option NI := gif (QQ a) (dI (rv a, rv a))
end Go.W

set_option linter.unusedVariables false
namespace Go.W
noncomputable section

/-! cylinder/interval.Add -/
def T_interval_Contains (a0 : ((Bool × List Int) × List Int) × (Bool × List Int) × List Int) (a1 : (Bool × List Int) × List Int) : Option Bool :=
  (F_interval_least a0.1 a0.2).bind fun r1 =>
  (F_rational_Cmp r1 a1).bind fun r2 =>
  if (decide (r2 ≤ (0 : Int))) = true then
    (F_interval_greatest a0.1 a0.2).bind fun r3 =>
    (F_rational_Cmp a1 r3).bind fun r4 =>
    some ((decide (r4 ≤ (0 : Int))))
  else
    some false
def Run_interval_Contains : Prop := ∀ a0 : ((Bool × List Int) × List Int) × (Bool × List Int) × List Int, ∀ a1 : (Bool × List Int) × List Int, Ok (F_interval_Contains a0 a1) (fun _ => T_interval_Contains a0 a1)

/-! cylinder/interval.Eval -/
def T_interval_Hull (a0 : ((Bool × List Int) × List Int) × (Bool × List Int) × List Int) (a1 : ((Bool × List Int) × List Int) × (Bool × List Int) × List Int) : Option (((Bool × List Int) × List Int) × (Bool × List Int) × List Int) :=
  (F_interval_Normal a0).bind fun r1 =>
  (F_interval_Normal a1).bind fun r2 =>
  (F_interval_least r1.1 r2.1).bind fun r3 =>
  (F_interval_greatest r1.2 r2.2).bind fun r4 =>
  some ((r3, r4))
def Run_interval_Hull : Prop := ∀ a0 : ((Bool × List Int) × List Int) × (Bool × List Int) × List Int, ∀ a1 : ((Bool × List Int) × List Int) × (Bool × List Int) × List Int, Ok (F_interval_Hull a0 a1) (fun _ => T_interval_Hull a0 a1)

/-! cylinder/interval.Mul -/
def T_interval_Mul (s17 : (List ((Bool × List Int) × List Int)) → Int → (((Bool × List Int) × List Int) × (Bool × List Int) × List Int) → (((Bool × List Int) × List Int) × (Bool × List Int) × List Int) → Option ((((Bool × List Int) × List Int) × (Bool × List Int) × List Int))) (a0 : ((Bool × List Int) × List Int) × (Bool × List Int) × List Int) (a1 : ((Bool × List Int) × List Int) × (Bool × List Int) × List Int) : Option (((Bool × List Int) × List Int) × (Bool × List Int) × List Int) :=
  (F_rational_Mul a0.1 a1.1).bind fun r1 =>
  (F_rational_Mul a0.1 a1.2).bind fun r2 =>
  (F_rational_Mul a0.2 a1.1).bind fun r3 =>
  (F_rational_Mul a0.2 a1.2).bind fun r4 =>
  s17 ([r2, r3, r4] : List ((Bool × List Int) × List Int)) (0 : Int) (((false, ([] : List Int)), ([] : List Int)), ((false, ([] : List Int)), ([] : List Int))) (r1, r1)
def S_interval_Mul_17 (s17 : (List ((Bool × List Int) × List Int)) → Int → (((Bool × List Int) × List Int) × (Bool × List Int) × List Int) → (((Bool × List Int) × List Int) × (Bool × List Int) × List Int) → Option ((((Bool × List Int) × List Int) × (Bool × List Int) × List Int))) (x32 : List ((Bool × List Int) × List Int)) (x33 : Int) (x4 : ((Bool × List Int) × List Int) × (Bool × List Int) × List Int) (x6 : ((Bool × List Int) × List Int) × (Bool × List Int) × List Int) : Option (((Bool × List Int) × List Int) × (Bool × List Int) × List Int) :=
  if (decide (x33 < (3 : Int))) = true then
    if 0 ≤ x33 ∧ x33 < ((3 : Nat) : Int) then
      let v1 : (Bool × List Int) × List Int := (List.getD x32 (Int.toNat x33) ((false, ([] : List Int)), ([] : List Int)))
      (F_interval_least x6.1 v1).bind fun r2 =>
      (F_interval_greatest x6.2 v1).bind fun r3 =>
      s17 x32 (IntKind.wrap .i64 (x33 + (1 : Int))) x4 (r2, r3)
    else none
  else
    (F_interval_Normal x6).bind fun r4 =>
    some r4
def Run_interval_Mul : Prop := ∀ s17 : Nat → (List ((Bool × List Int) × List Int)) → Int → (((Bool × List Int) × List Int) × (Bool × List Int) × List Int) → (((Bool × List Int) × List Int) × (Bool × List Int) × List Int) → Option ((((Bool × List Int) × List Int) × (Bool × List Int) × List Int)), (∀ m x32 x33 x4 x6, s17 (m + 1) x32 x33 x4 x6 = S_interval_Mul_17 (s17 m) x32 x33 x4 x6) → ∀ a0 : ((Bool × List Int) × List Int) × (Bool × List Int) × List Int, ∀ a1 : ((Bool × List Int) × List Int) × (Bool × List Int) × List Int, Ok (F_interval_Mul a0 a1) (fun m => T_interval_Mul (s17 m) a0 a1)

/-! cylinder/interval.Neg -/
def T_interval_Normal (a0 : ((Bool × List Int) × List Int) × (Bool × List Int) × List Int) : Option (((Bool × List Int) × List Int) × (Bool × List Int) × List Int) :=
  (F_interval_least a0.1 a0.2).bind fun r1 =>
  (F_rational_Normal r1).bind fun r2 =>
  (F_interval_greatest a0.1 a0.2).bind fun r3 =>
  (F_rational_Normal r3).bind fun r4 =>
  some ((r2, r4))
def Run_interval_Normal : Prop := ∀ a0 : ((Bool × List Int) × List Int) × (Bool × List Int) × List Int, Ok (F_interval_Normal a0) (fun _ => T_interval_Normal a0)

/-! cylinder/interval.Point -/
def T_interval_Point (a0 : (Bool × List Int) × List Int) : Option (((Bool × List Int) × List Int) × (Bool × List Int) × List Int) :=
  (F_rational_Normal a0).bind fun r1 =>
  (F_rational_Normal a0).bind fun r2 =>
  some ((r1, r2))
def Run_interval_Point : Prop := ∀ a0 : (Bool × List Int) × List Int, Ok (F_interval_Point a0) (fun _ => T_interval_Point a0)

/-! cylinder/interval.Pow -/
def T_interval_Within (a0 : ((Bool × List Int) × List Int) × (Bool × List Int) × List Int) (a1 : ((Bool × List Int) × List Int) × (Bool × List Int) × List Int) : Option Bool :=
  (F_interval_Contains a1 a0.1).bind fun r1 =>
  if r1 = true then
    (F_interval_Contains a1 a0.2).bind fun r2 =>
    some r2
  else
    some false
def Run_interval_Within : Prop := ∀ a0 : ((Bool × List Int) × List Int) × (Bool × List Int) × List Int, ∀ a1 : ((Bool × List Int) × List Int) × (Bool × List Int) × List Int, Ok (F_interval_Within a0 a1) (fun _ => T_interval_Within a0 a1)

/-! cylinder/interval.greatest -/
def T_interval_greatest (a0 : (Bool × List Int) × List Int) (a1 : (Bool × List Int) × List Int) : Option ((Bool × List Int) × List Int) :=
  (F_rational_Cmp a0 a1).bind fun r1 =>
  if (decide (r1 < (0 : Int))) = true then
    some a1
  else
    some a0
def Run_interval_greatest : Prop := ∀ a0 : (Bool × List Int) × List Int, ∀ a1 : (Bool × List Int) × List Int, Ok (F_interval_greatest a0 a1) (fun _ => T_interval_greatest a0 a1)

/-! cylinder/interval.least -/
def T_interval_least (a0 : (Bool × List Int) × List Int) (a1 : (Bool × List Int) × List Int) : Option ((Bool × List Int) × List Int) :=
  (F_rational_Cmp a0 a1).bind fun r1 =>
  if (decide (r1 > (0 : Int))) = true then
    some a1
  else
    some a0
def Run_interval_least : Prop := ∀ a0 : (Bool × List Int) × List Int, ∀ a1 : (Bool × List Int) × List Int, Ok (F_interval_least a0 a1) (fun _ => T_interval_least a0 a1)

/-! cylinder/cylinderlaw05.RationalAdds -/
def T_law06_awake : Option Bool :=
  (F_rational_Of (-1 : Int)).bind fun r1 =>
  (F_rational_Of (2 : Int)).bind fun r2 =>
  (F_rational_Of (3 : Int)).bind fun r3 =>
  (F_rational_Of (4 : Int)).bind fun r4 =>
  (F_interval_Mul (r1, r2) (r3, r4)).bind fun r5 =>
  (F_rational_Format r5.1).bind fun r6 =>
  if (ByteArray.toList r6 == ByteArray.toList (ByteArray.mk #[45, 52])) = true then
    (F_rational_Format r5.2).bind fun r7 =>
    some ((ByteArray.toList r7 == ByteArray.toList (ByteArray.mk #[56])))
  else
    some false
def Run_law06_awake : Prop := Ok (F_law06_awake) (fun _ => T_law06_awake)

/-! cylinder/cylinderlaw06.clamp -/
def T_law06_few (a0 : Int) (a1 : ((Bool × List Int) × List Int) × (Bool × List Int) × List Int) (a2 : ((Bool × List Int) × List Int) × (Bool × List Int) × List Int) : Option Bool :=
  (F_law06_small a0 a1.1).bind fun r1 =>
  if r1 = true then
    (F_law06_small a0 a1.2).bind fun r2 =>
    if r2 = true then
      (F_law06_small a0 a2.1).bind fun r3 =>
      if r3 = true then
        (F_law06_small a0 a2.2).bind fun r4 =>
        some r4
      else
        some false
    else
      some false
  else
    some false
def Run_law06_few : Prop := ∀ a0 : Int, ∀ a1 : ((Bool × List Int) × List Int) × (Bool × List Int) × List Int, ∀ a2 : ((Bool × List Int) × List Int) × (Bool × List Int) × List Int, Ok (F_law06_few a0 a1 a2) (fun _ => T_law06_few a0 a1 a2)

/-! cylinder/cylinderlaw06.is -/
def T_law06_is (a0 : ((Bool × List Int) × List Int) × (Bool × List Int) × List Int) (a1 : ((Int × List Int) × Int × List Int) × (Int × List Int) × Int × List Int) : Option Bool :=
  (F_ref05_Is a0.1.1.1 a0.1.1.2 a0.1.2 a1.1).bind fun r1 =>
  if r1 = true then
    (F_ref05_Is a0.2.1.1 a0.2.1.2 a0.2.2 a1.2).bind fun r2 =>
    some r2
  else
    some false
def Run_law06_is : Prop := ∀ a0 : ((Bool × List Int) × List Int) × (Bool × List Int) × List Int, ∀ a1 : ((Int × List Int) × Int × List Int) × (Int × List Int) × Int × List Int, Ok (F_law06_is a0 a1) (fun _ => T_law06_is a0 a1)

/-! cylinder/cylinderlaw06.none -/
def T_law06_none (a0 : ((Bool × List Int) × List Int) × (Bool × List Int) × List Int) : Option Bool :=
  (F_rational_Sign a0.1).bind fun r1 =>
  if (r1 == (0 : Int)) = true then
    (F_rational_Sign a0.2).bind fun r2 =>
    some ((r2 == (0 : Int)))
  else
    some false
def Run_law06_none : Prop := ∀ a0 : ((Bool × List Int) × List Int) × (Bool × List Int) × List Int, Ok (F_law06_none a0) (fun _ => T_law06_none a0)

/-! cylinder/cylinderlaw06.of -/
def T_law06_of (a0 : ((Bool × List Int) × List Int) × (Bool × List Int) × List Int) : Option (((Int × List Int) × Int × List Int) × (Int × List Int) × Int × List Int) :=
  (F_law06_q a0.1).bind fun r1 =>
  (F_law06_q a0.2).bind fun r2 =>
  (F_ref06_Make r1 r2).bind fun r3 =>
  some r3
def Run_law06_of : Prop := ∀ a0 : ((Bool × List Int) × List Int) × (Bool × List Int) × List Int, Ok (F_law06_of a0) (fun _ => T_law06_of a0)

/-! cylinder/cylinderlaw06.q -/
def T_law06_q (a0 : (Bool × List Int) × List Int) : Option ((Int × List Int) × Int × List Int) :=
  (F_ref05_Of a0.1.1 a0.1.2 a0.2).bind fun r1 =>
  some r1
def Run_law06_q : Prop := ∀ a0 : (Bool × List Int) × List Int, Ok (F_law06_q a0) (fun _ => T_law06_q a0)

/-! cylinder/cylinderlaw06.small -/
def T_law06_small (a0 : Int) (a1 : (Bool × List Int) × List Int) : Option Bool :=
  (F_ref01_Few a0 ([a1.1.2, a1.2] : List (List Int))).bind fun r1 =>
  some r1
def Run_law06_small : Prop := ∀ a0 : Int, ∀ a1 : (Bool × List Int) × List Int, Ok (F_law06_small a0 a1) (fun _ => T_law06_small a0 a1)

/-! cylinder/cylinderref06.Contains -/
def T_ref06_Contains (a0 : ((Int × List Int) × Int × List Int) × (Int × List Int) × Int × List Int) (a1 : (Int × List Int) × Int × List Int) : Option Bool :=
  (F_ref05_Cmp a0.1 a1).bind fun r1 =>
  if (decide (r1 ≤ (0 : Int))) = true then
    (F_ref05_Cmp a1 a0.2).bind fun r2 =>
    some ((decide (r2 ≤ (0 : Int))))
  else
    some false
def Run_ref06_Contains : Prop := ∀ a0 : ((Int × List Int) × Int × List Int) × (Int × List Int) × Int × List Int, ∀ a1 : (Int × List Int) × Int × List Int, Ok (F_ref06_Contains a0 a1) (fun _ => T_ref06_Contains a0 a1)

/-! cylinder/cylinderref06.Hull -/
def T_ref06_Hull (s13 : (List ((Int × List Int) × Int × List Int)) → Int → (((Int × List Int) × Int × List Int) × (Int × List Int) × Int × List Int) → (((Int × List Int) × Int × List Int) × (Int × List Int) × Int × List Int) → Option ((((Int × List Int) × Int × List Int) × (Int × List Int) × Int × List Int))) (s28 : (List ((Int × List Int) × Int × List Int)) → Int → (((Int × List Int) × Int × List Int) × (Int × List Int) × Int × List Int) → (((Int × List Int) × Int × List Int) × (Int × List Int) × Int × List Int) → Option ((((Int × List Int) × Int × List Int) × (Int × List Int) × Int × List Int))) (a0 : List ((Int × List Int) × Int × List Int)) : Option (((Int × List Int) × Int × List Int) × (Int × List Int) × Int × List Int) :=
  if 0 ≤ (0 : Int) ∧ (0 : Int) < (List.length a0 : Int) then
    let v1 : (Int × List Int) × Int × List Int := (List.getD a0 (Int.toNat (0 : Int)) (((0 : Int), ([] : List Int)), ((0 : Int), ([] : List Int))))
    (F_ref06_Point v1).bind fun r2 =>
    s13 a0 (1 : Int) ((((0 : Int), ([] : List Int)), ((0 : Int), ([] : List Int))), (((0 : Int), ([] : List Int)), ((0 : Int), ([] : List Int)))) r2
  else none
def S_ref06_Hull_13 (s13 : (List ((Int × List Int) × Int × List Int)) → Int → (((Int × List Int) × Int × List Int) × (Int × List Int) × Int × List Int) → (((Int × List Int) × Int × List Int) × (Int × List Int) × Int × List Int) → Option ((((Int × List Int) × Int × List Int) × (Int × List Int) × Int × List Int))) (s28 : (List ((Int × List Int) × Int × List Int)) → Int → (((Int × List Int) × Int × List Int) × (Int × List Int) × Int × List Int) → (((Int × List Int) × Int × List Int) × (Int × List Int) × Int × List Int) → Option ((((Int × List Int) × Int × List Int) × (Int × List Int) × Int × List Int))) (x0 : List ((Int × List Int) × Int × List Int)) (x4 : Int) (x2 : ((Int × List Int) × Int × List Int) × (Int × List Int) × Int × List Int) (x3 : ((Int × List Int) × Int × List Int) × (Int × List Int) × Int × List Int) : Option (((Int × List Int) × Int × List Int) × (Int × List Int) × Int × List Int) :=
  if (decide (x4 < (List.length x0 : Int))) = true then
    if 0 ≤ x4 ∧ x4 < (List.length x0 : Int) then
      let v1 : (Int × List Int) × Int × List Int := (List.getD x0 (Int.toNat x4) (((0 : Int), ([] : List Int)), ((0 : Int), ([] : List Int))))
      (F_ref05_Cmp v1 x3.1).bind fun r2 =>
      if (decide (r2 < (0 : Int))) = true then
        if 0 ≤ x4 ∧ x4 < (List.length x0 : Int) then
          let v3 : (Int × List Int) × Int × List Int := (List.getD x0 (Int.toNat x4) (((0 : Int), ([] : List Int)), ((0 : Int), ([] : List Int))))
          s28 x0 x4 x2 (v3, x3.2)
        else none
      else
        s28 x0 x4 x2 x3
    else none
  else
    some x3
def S_ref06_Hull_28 (s13 : (List ((Int × List Int) × Int × List Int)) → Int → (((Int × List Int) × Int × List Int) × (Int × List Int) × Int × List Int) → (((Int × List Int) × Int × List Int) × (Int × List Int) × Int × List Int) → Option ((((Int × List Int) × Int × List Int) × (Int × List Int) × Int × List Int))) (s28 : (List ((Int × List Int) × Int × List Int)) → Int → (((Int × List Int) × Int × List Int) × (Int × List Int) × Int × List Int) → (((Int × List Int) × Int × List Int) × (Int × List Int) × Int × List Int) → Option ((((Int × List Int) × Int × List Int) × (Int × List Int) × Int × List Int))) (x0 : List ((Int × List Int) × Int × List Int)) (x4 : Int) (x2 : ((Int × List Int) × Int × List Int) × (Int × List Int) × Int × List Int) (x3 : ((Int × List Int) × Int × List Int) × (Int × List Int) × Int × List Int) : Option (((Int × List Int) × Int × List Int) × (Int × List Int) × Int × List Int) :=
  if 0 ≤ x4 ∧ x4 < (List.length x0 : Int) then
    let v1 : (Int × List Int) × Int × List Int := (List.getD x0 (Int.toNat x4) (((0 : Int), ([] : List Int)), ((0 : Int), ([] : List Int))))
    (F_ref05_Cmp v1 x3.2).bind fun r2 =>
    if (decide (r2 > (0 : Int))) = true then
      if 0 ≤ x4 ∧ x4 < (List.length x0 : Int) then
        let v3 : (Int × List Int) × Int × List Int := (List.getD x0 (Int.toNat x4) (((0 : Int), ([] : List Int)), ((0 : Int), ([] : List Int))))
        s13 x0 (IntKind.wrap .i64 (x4 + (1 : Int))) x2 (x3.1, v3)
      else none
    else
      s13 x0 (IntKind.wrap .i64 (x4 + (1 : Int))) x2 x3
  else none
def Run_ref06_Hull : Prop := ∀ s13 : Nat → (List ((Int × List Int) × Int × List Int)) → Int → (((Int × List Int) × Int × List Int) × (Int × List Int) × Int × List Int) → (((Int × List Int) × Int × List Int) × (Int × List Int) × Int × List Int) → Option ((((Int × List Int) × Int × List Int) × (Int × List Int) × Int × List Int)), ∀ s28 : Nat → (List ((Int × List Int) × Int × List Int)) → Int → (((Int × List Int) × Int × List Int) × (Int × List Int) × Int × List Int) → (((Int × List Int) × Int × List Int) × (Int × List Int) × Int × List Int) → Option ((((Int × List Int) × Int × List Int) × (Int × List Int) × Int × List Int)), (∀ m x0 x4 x2 x3, s13 (m + 1) x0 x4 x2 x3 = S_ref06_Hull_13 (s13 m) (s28 m) x0 x4 x2 x3) → (∀ m x0 x4 x2 x3, s28 (m + 1) x0 x4 x2 x3 = S_ref06_Hull_28 (s13 m) (s28 m) x0 x4 x2 x3) → ∀ a0 : List ((Int × List Int) × Int × List Int), Ok (F_ref06_Hull a0) (fun m => T_ref06_Hull (s13 m) (s28 m) a0)

/-! cylinder/cylinderref06.Inverse -/
def T_ref06_Make (a0 : (Int × List Int) × Int × List Int) (a1 : (Int × List Int) × Int × List Int) : Option (((Int × List Int) × Int × List Int) × (Int × List Int) × Int × List Int) :=
  (F_ref05_Cmp a0 a1).bind fun r1 =>
  if (decide (r1 > (0 : Int))) = true then
    some ((a1, a0))
  else
    some ((a0, a1))
def Run_ref06_Make : Prop := ∀ a0 : (Int × List Int) × Int × List Int, ∀ a1 : (Int × List Int) × Int × List Int, Ok (F_ref06_Make a0 a1) (fun _ => T_ref06_Make a0 a1)

/-! cylinder/cylinderref06.Mul -/
def T_ref06_Point (a0 : (Int × List Int) × Int × List Int) : Option (((Int × List Int) × Int × List Int) × (Int × List Int) × Int × List Int) :=
  some ((a0, a0))
def Run_ref06_Point : Prop := ∀ a0 : (Int × List Int) × Int × List Int, Ok (F_ref06_Point a0) (fun _ => T_ref06_Point a0)

/-! cylinder/cylinderref06.Pow -/
end
end Go.W

set_option linter.unusedVariables false
set_option linter.unusedSimpArgs false
namespace Go.W

/-! ### Numbers by their values -/
/-- a has the value r, of at most k bits -/
def QV (k : Nat) (a : NQ) (r : Rat) : Prop := QQ a ∧ rv a = r ∧ QB k r
/-- the reference's q has the value r, of at most k bits -/
def QR (k : Nat) (q : FQ) (r : Rat) : Prop := RQ k q ∧ qv q = r
theorem QV.dr {k : Nat} {r : Rat} (h : QB k r) (hk : k ≤ 33554432) : QV k (Go.W.dr r) r := ⟨QQ.dr h hk, rv_dr r, h⟩
theorem QV.of {a : NQ} (h : QQ a) {m : Nat} (h1 : a.1.2.length ≤ m) (h2 : a.2.length ≤ m) (hm : 1 ≤ m) : QV (32 * m) a (rv a) := ⟨h, rfl, QB.rv' h h1 h2 hm⟩

theorem V.add {j k : Nat} {a b : NQ} {r s : Rat} (ha : QV j a r) (hb : QV k b s) : F_rational_Add a b = some (dr (r + s)) := by rw [F_rational_Add, gif_pos ⟨ha.1, hb.1⟩, ha.2.1, hb.2.1]
theorem V.sub {j k : Nat} {a b : NQ} {r s : Rat} (ha : QV j a r) (hb : QV k b s) : F_rational_Sub a b = some (dr (r - s)) := by rw [F_rational_Sub, gif_pos ⟨ha.1, hb.1⟩, ha.2.1, hb.2.1]
theorem V.mul {j k : Nat} {a b : NQ} {r s : Rat} (ha : QV j a r) (hb : QV k b s) : F_rational_Mul a b = some (dr (r * s)) := by rw [F_rational_Mul, gif_pos ⟨ha.1, hb.1⟩, ha.2.1, hb.2.1]
theorem V.quo {j k : Nat} {a b : NQ} {r s : Rat} (ha : QV j a r) (hb : QV k b s) : F_rational_Quo a b = some (if s = 0 then (zQ, 2) else (dr (r / s), 0)) := by rw [F_rational_Quo, gif_pos ⟨ha.1, hb.1⟩, ha.2.1, hb.2.1]
theorem V.neg {j : Nat} {a : NQ} {r : Rat} (ha : QV j a r) : F_rational_Neg a = some (dr (-r)) := by rw [F_rational_Neg, gif_pos ha.1, ha.2.1]
theorem V.abs {j : Nat} {a : NQ} {r : Rat} (ha : QV j a r) : F_rational_Abs a = some (dr (if r < 0 then -r else r)) := by rw [F_rational_Abs, gif_pos ha.1, ha.2.1]
theorem V.normal {j : Nat} {a : NQ} {r : Rat} (ha : QV j a r) : F_rational_Normal a = some (dr r) := by rw [F_rational_Normal, gif_pos ha.1, ha.2.1]
theorem V.sign {j : Nat} {a : NQ} {r : Rat} (ha : QV j a r) : F_rational_Sign a = some (rsg r) := by rw [F_rational_Sign, gif_pos ha.1, ha.2.1]
theorem V.cmp {j k : Nat} {a b : NQ} {r s : Rat} (ha : QV j a r) (hb : QV k b s) : F_rational_Cmp a b = some (rcm r s) := by rw [F_rational_Cmp, gif_pos ⟨ha.1, hb.1⟩, ha.2.1, hb.2.1]
theorem V.same {j k : Nat} {a b : NQ} {r s : Rat} (ha : QV j a r) (hb : QV k b s) : F_law05_same a b = some (decide (r = s)) := by rw [F_law05_same, gif_pos ⟨ha.1, hb.1⟩, ha.2.1, hb.2.1]

theorem R.of {a : NQ} (h : QQ a) {m : Nat} (h1 : a.1.2.length ≤ m) (h2 : a.2.length ≤ m) (hm : 1 ≤ m) : ∃ q, F_law05_of a = some q ∧ QR (32 * m) q (rv a) :=
  ⟨_, by rw [F_law05_of, gif_pos h], of_rq h h1 h2 hm, of_v a⟩
theorem RQ.pos {k : Nat} {q : FQ} (h : RQ k q) : 0 < qd q := h.2.2.2
theorem RQ.k {k : Nat} {q : FQ} (h : RQ k q) (hk : k ≤ 1000000000) : RQ RK q := h.mono (by rw [RK_le]; exact hk)
theorem R.add {j k : Nat} {a b : FQ} {r s : Rat} (ha : QR j a r) (hb : QR k b s) (hj : j ≤ 1000000000 ∧ k ≤ 1000000000) : ∃ q, F_ref05_Add a b = some q ∧ QR (j + k + 1) q (r + s) := by
  refine ⟨_, by rw [F_ref05_Add, gif_pos ⟨ha.1.k hj.1, hb.1.k hj.2⟩], RQ.mq ?_ ?_ (Int.mul_pos ha.1.pos hb.1.pos), ?_⟩
  · exact (((ha.1.2.1).ab_mul (by rw [ab_pos (Int.le_of_lt hb.1.pos)]; exact hb.1.2.2.1)).ab_add ((hb.1.2.1).ab_mul (by rw [ab_pos (Int.le_of_lt ha.1.pos)]; exact ha.1.2.2.1))).mono (by omega)
  · exact (ha.1.2.2.1.mul hb.1.2.2.1).mono (by omega)
  · rw [qv_mq, ← ha.2, ← hb.2]
    exact (Rat.divInt_add_divInt _ _ (by have := ha.1.pos; omega) (by have := hb.1.pos; omega)).symm
theorem R.mul {j k : Nat} {a b : FQ} {r s : Rat} (ha : QR j a r) (hb : QR k b s) (hj : j ≤ 1000000000 ∧ k ≤ 1000000000) : ∃ q, F_ref05_Mul a b = some q ∧ QR (j + k) q (r * s) := by
  refine ⟨_, by rw [F_ref05_Mul, gif_pos ⟨ha.1.k hj.1, hb.1.k hj.2⟩], RQ.mq (ha.1.2.1.ab_mul hb.1.2.1) (ha.1.2.2.1.mul hb.1.2.2.1) (Int.mul_pos ha.1.pos hb.1.pos), ?_⟩
  rw [qv_mq, ← ha.2, ← hb.2]
  exact (Rat.divInt_mul_divInt _ _).symm
theorem R.neg {j : Nat} {a : FQ} {r : Rat} (ha : QR j a r) (hj : j ≤ 1000000000) : ∃ q, F_ref05_Neg a = some q ∧ QR j q (-r) := by
  refine ⟨_, by rw [F_ref05_Neg, gif_pos (ha.1.k hj)], RQ.mq (by rw [ab_neg]; exact ha.1.2.1) ha.1.2.2.1 ha.1.pos, ?_⟩
  rw [qv_mq, ← ha.2]
  exact (Rat.neg_divInt _ _).symm
theorem QR.zero {j : Nat} {a : FQ} {r : Rat} (ha : QR j a r) : qn a = 0 ↔ r = 0 := by
  rw [← ha.2]; exact (divInt_eq0 ha.1.pos).symm
theorem R.quo {j k : Nat} {a b : FQ} {r s : Rat} (ha : QR j a r) (hb : QR k b s) (hj : j ≤ 1000000000 ∧ k ≤ 1000000000) (h0 : s ≠ 0) : ∃ q, F_ref05_Quo a b = some q ∧ QR (j + k) q (r / s) := by
  have hn : qn b ≠ 0 := fun h => h0 (hb.zero.1 h)
  have e : r / s = Rat.divInt (qn a * qd b) (qd a * qn b) := by
    rw [← ha.2, ← hb.2, Rat.div_def]
    unfold qv
    rw [Rat.inv_divInt, Rat.divInt_mul_divInt]
  have b1 : Bd (j + k) (ab (qn a * qd b)) := (ha.1.2.1).ab_mul (by rw [ab_pos (Int.le_of_lt hb.1.pos)]; exact hb.1.2.2.1)
  have b2 : Bd (j + k) (ab (qd a * qn b)) := by
    have := (show Bd j (ab (qd a)) by rw [ab_pos (Int.le_of_lt ha.1.pos)]; exact ha.1.2.2.1).ab_mul hb.1.2.1
    exact this
  refine ⟨_, by rw [F_ref05_Quo, gif_pos ⟨ha.1.k hj.1, hb.1.k hj.2, hn⟩], ?_⟩
  by_cases h1 : qn b < 0
  · have h2 : qd a * qn b < 0 := Int.mul_neg_of_pos_of_neg ha.1.pos h1
    rw [if_pos h1]
    refine ⟨RQ.mq (by rw [ab_neg]; exact b1) ?_ (by omega), ?_⟩
    · rw [show ab (qd a * qn b) = -(qd a * qn b) by unfold ab; rw [if_pos h2]] at b2; exact b2
    · rw [qv_mq, Rat.neg_divInt_neg, e]
  · have h2 : 0 < qd a * qn b := Int.mul_pos ha.1.pos (by omega)
    rw [if_neg h1]
    refine ⟨RQ.mq b1 ?_ h2, ?_⟩
    · rw [ab_pos (Int.le_of_lt h2)] at b2; exact b2
    · rw [qv_mq, e]
theorem R.is {j : Nat} {q : FQ} {r : Rat} (h : QR j q r) (hj : j ≤ 1000000000) (a : NQ) : F_law05_is a q = some (decide (a = dr r)) := by rw [F_law05_is, gif_pos (h.1.k hj), h.2]
theorem R.cmp {j k : Nat} {a b : FQ} {r s : Rat} (ha : QR j a r) (hb : QR k b s) (hj : j ≤ 1000000000 ∧ k ≤ 1000000000) : F_ref05_Cmp a b = some (rcm r s) := by
  rw [F_ref05_Cmp, gif_pos ⟨ha.1.k hj.1, hb.1.k hj.2⟩, ha.2, hb.2]
theorem QR.sign {j : Nat} {a : FQ} {r : Rat} (ha : QR j a r) : a.1.1 = rsg r := by
  have e : a.1 = dz (qn a) := congrArg Prod.fst ha.1.1
  rw [e, ← ha.2]
  exact (rsg_div ha.1.pos).symm
theorem rsg0 {r : Rat} : rsg r = 0 ↔ r = 0 := by
  unfold rsg
  (repeat' split) <;> rename_i h1 <;> simp_all
  intro h; subst h; exact absurd h1 (Rat.lt_irrefl)
end Go.W

set_option linter.unusedVariables false
set_option linter.unusedSimpArgs false
namespace Go.W

theorem rcm_pos {x y : Rat} : rcm x y > 0 ↔ y < x := by
  unfold rcm
  by_cases h : y < x
  · rw [if_pos h]; simp [h]
  · rw [if_neg h]; by_cases h2 : x < y
    · rw [if_pos h2]; simp [h]
    · rw [if_neg h2]; simp [h]
theorem rcm_neg {x y : Rat} : rcm x y < 0 ↔ x < y := by
  unfold rcm
  by_cases h : y < x
  · rw [if_pos h]; constructor
    · intro h'; omega
    · intro h'; grind
  · rw [if_neg h]; by_cases h2 : x < y
    · rw [if_pos h2]; simp [h2]
    · rw [if_neg h2]; simp [h2]
theorem rcm_le0 {x y : Rat} : rcm x y ≤ 0 ↔ x ≤ y := by
  have := rcm_pos (x := x) (y := y)
  constructor
  · intro h; have : ¬ y < x := fun h' => by have := this.2 h'; omega
    grind
  · intro h; have h1 : ¬ (rcm x y > 0) := fun h' => by have := this.1 h'; grind
    omega

theorem Rn_interval_least : Run_interval_least := fun a b => Ok.gif_const fun ⟨hA, hB⟩ => by
  rw [T_interval_least, F_rational_Cmp, gif_bind ⟨hA, hB⟩]
  by_cases h : rv b < rv a
  · rw [if_pos (decide_eq_true (rcm_pos.2 h)), if_pos h]
  · rw [if_neg (by rw [decide_eq_true_eq]; exact fun x => h (rcm_pos.1 x)), if_neg h]
theorem Rn_interval_greatest : Run_interval_greatest := fun a b => Ok.gif_const fun ⟨hA, hB⟩ => by
  rw [T_interval_greatest, F_rational_Cmp, gif_bind ⟨hA, hB⟩]
  by_cases h : rv a < rv b
  · rw [if_pos (decide_eq_true (rcm_neg.2 h)), if_pos h]
  · rw [if_neg (by rw [decide_eq_true_eq]; exact fun x => h (rcm_neg.1 x)), if_neg h]

/-! values -/
theorem I.least {j k : Nat} {a b : NQ} {x y : Rat} (va : QV j a x) (vb : QV k b y) : ∃ q, F_interval_least a b = some q ∧ QV (max j k) q (rmin x y) ∧ (q = a ∨ q = b) := by
  refine ⟨_, gif_pos ⟨va.1, vb.1⟩, ?_⟩
  rw [va.2.1, vb.2.1]; unfold rmin
  split
  · exact ⟨⟨vb.1, vb.2.1, vb.2.2.mono (Nat.le_max_right _ _)⟩, .inr rfl⟩
  · exact ⟨⟨va.1, va.2.1, va.2.2.mono (Nat.le_max_left _ _)⟩, .inl rfl⟩
theorem I.greatest {j k : Nat} {a b : NQ} {x y : Rat} (va : QV j a x) (vb : QV k b y) : ∃ q, F_interval_greatest a b = some q ∧ QV (max j k) q (rmax x y) ∧ (q = a ∨ q = b) := by
  refine ⟨_, gif_pos ⟨va.1, vb.1⟩, ?_⟩
  rw [va.2.1, vb.2.1]; unfold rmax
  split
  · exact ⟨⟨vb.1, vb.2.1, vb.2.2.mono (Nat.le_max_right _ _)⟩, .inr rfl⟩
  · exact ⟨⟨va.1, va.2.1, va.2.2.mono (Nat.le_max_left _ _)⟩, .inl rfl⟩
theorem QQ.v {a : NQ} (h : QQ a) : QV 33554432 a (rv a) := ⟨h, rfl, QB.rv h⟩
theorem QB.rmin {k : Nat} {x y : Rat} (h : QB k x) (h' : QB k y) : QB k (Go.W.rmin x y) := by unfold Go.W.rmin; split <;> assumption
theorem QB.rmax {k : Nat} {x y : Rat} (h : QB k x) (h' : QB k y) : QB k (Go.W.rmax x y) := by unfold Go.W.rmax; split <;> assumption

theorem Rn_interval_Normal : Run_interval_Normal := fun a => Ok.gif_const fun ⟨h1, h2⟩ => by
  obtain ⟨p, ep, vp, _⟩ := I.least h1.v h2.v
  obtain ⟨q, eq, vq, _⟩ := I.greatest h1.v h2.v
  rw [T_interval_Normal, ep, Option.bind_some, V.normal vp, Option.bind_some, eq, Option.bind_some, V.normal vq]
  rfl
theorem I.normal {j : Nat} {a b : NQ} {x y : Rat} (va : QV j a x) (vb : QV j b y) : F_interval_Normal (a, b) = some (dI (rmin x y, rmax x y)) := by
  rw [F_interval_Normal, gif_pos ⟨va.1, vb.1⟩]; unfold lo hi; rw [va.2.1, vb.2.1]

theorem Rn_interval_Contains : Run_interval_Contains := fun a x => Ok.gif_const fun ⟨⟨h1, h2⟩, h3⟩ => by
  obtain ⟨p, ep, vp, _⟩ := I.least h1.v h2.v
  obtain ⟨q, eq, vq, _⟩ := I.greatest h1.v h2.v
  rw [T_interval_Contains, ep, Option.bind_some, V.cmp vp h3.v, Option.bind_some]
  show _ = some (decide (rmin (rv a.1) (rv a.2) ≤ rv x ∧ rv x ≤ rmax (rv a.1) (rv a.2)))
  by_cases h : rmin (rv a.1) (rv a.2) ≤ rv x
  · rw [if_pos (decide_eq_true (rcm_le0.2 h)), eq, Option.bind_some, V.cmp h3.v vq, Option.bind_some]
    congr 1
    rw [decide_eq_decide, rcm_le0]; exact ⟨fun x => ⟨h, x⟩, fun x => x.2⟩
  · rw [if_neg (by rw [decide_eq_true_eq]; exact fun x => h (rcm_le0.1 x)), decide_eq_false (fun x => h x.1)]
theorem Rn_interval_Within : Run_interval_Within := fun a b => Ok.gif_const fun ⟨ha, hb⟩ => by
  rw [T_interval_Within, F_interval_Contains, gif_bind ⟨hb, ha.1⟩]
  by_cases h : lo b ≤ rv a.1 ∧ rv a.1 ≤ hi b
  · rw [if_pos (decide_eq_true h), F_interval_Contains, gif_bind ⟨hb, ha.2⟩]
    congr 1; rw [decide_eq_decide]; exact ⟨fun x => ⟨h, x⟩, fun x => x.2⟩
  · rw [if_neg (by rw [decide_eq_true_eq]; exact h), decide_eq_false (fun x => h x.1)]
theorem rmin_le_rmax4 (a b c d : Rat) : ¬ (mx4 a b c d < mn4 a b c d) := by
  unfold mx4 mn4 rmin rmax; (repeat' split) <;> grind
theorem QV.mono {j k : Nat} {a : NQ} {r : Rat} (h : QV j a r) (hk : j ≤ k) : QV k a r := ⟨h.1, h.2.1, h.2.2.mono hk⟩
theorem Rn_interval_Mul : Run_interval_Mul := fun s k1 a b => Ok.gif fun ⟨⟨a1, a2, a3, a4⟩, b1, b2, b3, b4⟩ => by
  have va1 : QV BI a.1 (rv a.1) := ⟨a1, rfl, a3⟩
  have va2 : QV BI a.2 (rv a.2) := ⟨a2, rfl, a4⟩
  have vb1 : QV BI b.1 (rv b.1) := ⟨b1, rfl, b3⟩
  have vb2 : QV BI b.2 (rv b.2) := ⟨b2, rfl, b4⟩
  have p1 := QV.dr (a3.mul b3) (by decide)
  have p2 := QV.dr (a3.mul b4) (by decide)
  have p3 := QV.dr (a4.mul b3) (by decide)
  have p4 := QV.dr (a4.mul b4) (by decide)
  obtain ⟨q1, e1, v1, _⟩ := I.least p1 p2
  obtain ⟨g1, f1, w1, _⟩ := I.greatest p1 p2
  obtain ⟨q2, e2, v2, _⟩ := I.least v1 p3
  obtain ⟨g2, f2, w2, _⟩ := I.greatest w1 p3
  obtain ⟨q3, e3, v3, _⟩ := I.least v2 p4
  obtain ⟨g3, f3, w3, _⟩ := I.greatest w2 p4
  simp only [T_interval_Mul, V.mul va1 vb1, V.mul va1 vb2, V.mul va2 vb1, V.mul va2 vb2, Option.bind_some]
  refine Ev.step (t := fun m => s m [dr (rv a.1 * rv b.2), dr (rv a.2 * rv b.1), dr (rv a.2 * rv b.2)] 1 zI (q1, g1)) (fun m => ?_) (Ev.step (t := fun m => s m [dr (rv a.1 * rv b.2), dr (rv a.2 * rv b.1), dr (rv a.2 * rv b.2)] 2 zI (q2, g2)) (fun m => ?_)
    (Ev.step (t := fun m => s m [dr (rv a.1 * rv b.2), dr (rv a.2 * rv b.1), dr (rv a.2 * rv b.2)] 3 zI (q3, g3)) (fun m => ?_) (Ev.step (t := fun m => some (dI (mulI (rv a.1) (rv a.2) (rv b.1) (rv b.2)))) (fun m => ?_) Ev.ret)))
  · rw [k1]; unfold S_interval_Mul_17
    rw [if_pos (by decide), if_pos (by decide)]
    show (F_interval_least _ (dr (rv a.1 * rv b.2))).bind _ = _
    rw [e1, Option.bind_some]
    show (F_interval_greatest _ (dr (rv a.1 * rv b.2))).bind _ = _
    rw [f1, Option.bind_some]; rfl
  · rw [k1]; unfold S_interval_Mul_17
    rw [if_pos (by decide), if_pos (by decide)]
    show (F_interval_least _ (dr (rv a.2 * rv b.1))).bind _ = _
    rw [e2, Option.bind_some]
    show (F_interval_greatest _ (dr (rv a.2 * rv b.1))).bind _ = _
    rw [f2, Option.bind_some]; rfl
  · rw [k1]; unfold S_interval_Mul_17
    rw [if_pos (by decide), if_pos (by decide)]
    show (F_interval_least _ (dr (rv a.2 * rv b.2))).bind _ = _
    rw [e3, Option.bind_some]
    show (F_interval_greatest _ (dr (rv a.2 * rv b.2))).bind _ = _
    rw [f3, Option.bind_some]; rfl
  · rw [k1]; unfold S_interval_Mul_17
    rw [if_neg (by decide), I.normal (v3.mono (Nat.le_refl _)) (w3.mono (Nat.le_refl _)), Option.bind_some]
    have h := rmin_le_rmax4 (rv a.1 * rv b.1) (rv a.1 * rv b.2) (rv a.2 * rv b.1) (rv a.2 * rv b.2)
    unfold mulI
    rw [show rmin (rmin (rmin (rv a.1 * rv b.1) (rv a.1 * rv b.2)) (rv a.2 * rv b.1)) (rv a.2 * rv b.2) = mn4 (rv a.1 * rv b.1) (rv a.1 * rv b.2) (rv a.2 * rv b.1) (rv a.2 * rv b.2) from rfl,
      show rmax (rmax (rmax (rv a.1 * rv b.1) (rv a.1 * rv b.2)) (rv a.2 * rv b.1)) (rv a.2 * rv b.2) = mx4 (rv a.1 * rv b.1) (rv a.1 * rv b.2) (rv a.2 * rv b.1) (rv a.2 * rv b.2) from rfl]
    congr 2
    unfold rmin rmax
    rw [if_neg h]
    by_cases h' : mn4 (rv a.1 * rv b.1) (rv a.1 * rv b.2) (rv a.2 * rv b.1) (rv a.2 * rv b.2) < mx4 (rv a.1 * rv b.1) (rv a.1 * rv b.2) (rv a.2 * rv b.1) (rv a.2 * rv b.2)
    · rw [if_pos h']
    · rw [if_neg h']; congr 1; grind
theorem I.mul {j k : Nat} {a b : NI} {x y u v : Rat} (va : QV j a.1 x) (va' : QV j a.2 y) (vb : QV k b.1 u) (vb' : QV k b.2 v) (hj : j ≤ 1000000) (hk : k ≤ 1000000) : F_interval_Mul a b = some (dI (mulI x y u v)) := by
  rw [F_interval_Mul, gif_pos ⟨⟨va.1, va'.1, by rw [va.2.1]; exact va.2.2.mono hj, by rw [va'.2.1]; exact va'.2.2.mono hj⟩, vb.1, vb'.1, by rw [vb.2.1]; exact vb.2.2.mono hk, by rw [vb'.2.1]; exact vb'.2.2.mono hk⟩, va.2.1, va'.2.1, vb.2.1, vb'.2.1]
theorem mulI_bd {j k : Nat} {x y u v : Rat} (hx : QB j x) (hy : QB j y) (hu : QB k u) (hv : QB k v) : QB (j + k) (mulI x y u v).1 ∧ QB (j + k) (mulI x y u v).2 :=
  ⟨(((hx.mul hu).rmin (hx.mul hv)).rmin (hy.mul hu)).rmin (hy.mul hv), (((hx.mul hu).rmax (hx.mul hv)).rmax (hy.mul hu)).rmax (hy.mul hv)⟩

end Go.W

set_option linter.unusedVariables false
set_option linter.unusedSimpArgs false
namespace Go.W

theorem Rn_law06_small : Run_law06_small := fun n a => Ok.gif_const fun _ => by
  rw [T_law06_small, F_ref01_Few, gif_bind (by simp)]
  congr 1
  rw [Bool.eq_iff_iff]; simp
theorem Rn_law06_few : Run_law06_few := fun n a b => Ok.gif_const fun _ => by
  have e : ∀ x : NQ, F_law06_small n x = some (decide ((x.1.2.length : Int) ≤ n ∧ (x.2.length : Int) ≤ n)) := fun x => gif_pos trivial
  simp only [T_law06_few, e, Option.bind_some]
  by_cases h1 : (a.1.1.2.length : Int) ≤ n ∧ (a.1.2.length : Int) ≤ n
  · rw [decide_eq_true h1, if_pos rfl]
    by_cases h2 : (a.2.1.2.length : Int) ≤ n ∧ (a.2.2.length : Int) ≤ n
    · rw [decide_eq_true h2, if_pos rfl]
      by_cases h3 : (b.1.1.2.length : Int) ≤ n ∧ (b.1.2.length : Int) ≤ n
      · rw [decide_eq_true h3, if_pos rfl]
        congr 1; rw [decide_eq_decide]; exact ⟨fun h => ⟨h1, h2, h3, h⟩, fun h => h.2.2.2⟩
      · rw [decide_eq_false h3, if_neg (by simp), decide_eq_false (fun h => h3 h.2.2.1)]
    · rw [decide_eq_false h2, if_neg (by simp), decide_eq_false (fun h => h2 h.2.1)]
  · rw [decide_eq_false h1, if_neg (by simp), decide_eq_false (fun h => h1 h.1)]
theorem Rn_law06_q : Run_law06_q := fun a => Ok.gif_const fun h => by
  rw [T_law06_q, F_ref05_Of, gif_bind (p := QD a.1.2 ∧ QD a.2) h]
theorem Rn_ref06_Make : Run_ref06_Make := fun p q => Ok.gif_const fun ⟨h1, h2⟩ => by
  rw [T_ref06_Make, F_ref05_Cmp, gif_bind ⟨h1, h2⟩]
  by_cases h : qv q < qv p
  · rw [if_pos (decide_eq_true (rcm_pos.2 h)), if_pos h]
  · rw [if_neg (by rw [decide_eq_true_eq]; exact fun x => h (rcm_pos.1 x)), if_neg h]
theorem mq_RQ {a : NQ} (h : QQ a) : QR 33554432 (mq (rn a) (rd a)) (rv a) := ⟨RQ.mq (rn_bd h) (rd_bd h) (rd_pos h), of_v a⟩
theorem Rn_law06_of : Run_law06_of := fun a => Ok.gif_const fun ⟨h1, h2⟩ => by
  rw [T_law06_of, F_law06_q, gif_bind h1, F_law06_q, gif_bind h2, F_ref06_Make, gif_bind ⟨(mq_RQ h1).1.k (by omega), (mq_RQ h2).1.k (by omega)⟩, (mq_RQ h1).2, (mq_RQ h2).2]
theorem Rn_law06_none : Run_law06_none := fun a => Ok.gif_const fun ⟨h1, h2⟩ => by
  rw [T_law06_none, V.sign h1.v, Option.bind_some]
  by_cases h : rv a.1 = 0
  · rw [if_pos (by rw [beq_iff_eq]; exact rsg0.2 h), V.sign h2.v, Option.bind_some]
    congr 1
    rw [Bool.eq_iff_iff, beq_iff_eq, decide_eq_true_eq, rsg0]; exact ⟨fun x => ⟨h, x⟩, fun x => x.2⟩
  · rw [if_neg (by rw [beq_iff_eq, rsg0]; exact h), decide_eq_false (fun x => h x.1)]
theorem Rn_law06_is : Run_law06_is := fun a b => Ok.gif_const fun ⟨h1, h2⟩ => by
  rw [T_law06_is, F_ref05_Is, gif_bind h1]
  have e : (a = dI (qv b.1, qv b.2)) ↔ a.1 = dr (qv b.1) ∧ a.2 = dr (qv b.2) := by
    unfold dI; rw [Prod.ext_iff]
  by_cases h : a.1 = dr (qv b.1)
  · rw [if_pos (decide_eq_true h), F_ref05_Is, gif_bind h2]
    congr 1; rw [decide_eq_decide, e]; exact ⟨fun x => ⟨h, x⟩, fun x => x.2⟩
  · rw [if_neg (by rw [decide_eq_true_eq]; exact h), decide_eq_false (fun x => h (e.1 x).1)]
theorem Rn_ref06_Point : Run_ref06_Point := fun p => Ok.gif_const fun _ => by rw [T_ref06_Point]
theorem mulq_R {j k : Nat} {a b : FQ} {r s : Rat} (ha : QR j a r) (hb : QR k b s) (hj : j ≤ 1000000000 ∧ k ≤ 1000000000) : F_ref05_Mul a b = some (mulq a b) ∧ QR (j + k) (mulq a b) (r * s) := by
  obtain ⟨q, e, h⟩ := R.mul ha hb hj
  have e2 : F_ref05_Mul a b = some (mulq a b) := gif_pos ⟨ha.1.k hj.1, hb.1.k hj.2⟩
  rw [e2] at e; injection e with e
  subst e
  exact ⟨e2, h⟩
theorem Rn_ref06_Hull : Run_ref06_Hull := fun s1 s2 k1 k2 l => Ok.gif fun ⟨h0, h1, h2⟩ => by
  match l, h0 with
  | m :: l, _ =>
  have hl : ((m :: l).length : Int) = l.length + 1 := by simp
  have h1' : l.length + 1 ≤ 1000 := by simpa using h1
  have loop : ∀ (d i : Nat) (x y : FQ), i + d = l.length → RQ RK x → RQ RK y → Ev (fun m' => s1 m' (m :: l) ((i : Int) + 1) ((((0 : Int), ([] : List Int)), ((0 : Int), ([] : List Int))), (((0 : Int), ([] : List Int)), ((0 : Int), ([] : List Int)))) (x, y)) (lowL x (l.drop i), hiL y (l.drop i)) := by
    intro d
    induction d with
    | zero =>
      intro i x y hi hx hy
      refine Ev.step (t := fun _ => some (x, y)) (fun m' => ?_) ?_
      · rw [k1]; unfold S_ref06_Hull_13
        rw [if_neg (by rw [decide_eq_true_eq, hl]; omega)]
      · rw [List.drop_of_length_le (by omega)]; exact Ev.ret
    | succ d ih =>
      intro i x y hi hx hy
      have hil : i < l.length := by omega
      have hv : RQ RK l[i] := h2 _ (List.mem_cons_of_mem _ (List.getElem_mem hil))
      have hg : (m :: l).getD (Int.toNat ((i : Int) + 1)) ((((0 : Int), ([] : List Int)), ((0 : Int), ([] : List Int)))) = l[i] := by
        rw [show Int.toNat ((i : Int) + 1) = i + 1 by omega]
        simp [List.getD, hil]
      rw [List.drop_eq_getElem_cons hil]
      have hr : (0 : Int) ≤ (i : Int) + 1 ∧ (i : Int) + 1 < ((m :: l).length : Int) := by rw [hl]; omega
      have hx' : RQ RK (if qv l[i] < qv x then l[i] else x) := by split <;> assumption
      have hy' : RQ RK (if qv y < qv l[i] then l[i] else y) := by split <;> assumption
      have := ih (i + 1) _ _ (by omega) hx' hy'
      refine Ev.step (t := fun m' => s2 m' (m :: l) ((i : Int) + 1) ((((0 : Int), ([] : List Int)), ((0 : Int), ([] : List Int))), (((0 : Int), ([] : List Int)), ((0 : Int), ([] : List Int)))) ((if qv l[i] < qv x then l[i] else x), y)) (fun m' => ?_) (Ev.step (fun m' => ?_) this)
      · rw [k1]; unfold S_ref06_Hull_13
        rw [if_pos (by rw [decide_eq_true_eq]; exact hr.2), if_pos hr]
        simp only [hg]
        rw [F_ref05_Cmp, gif_bind ⟨hv, hx⟩]
        by_cases hc : qv l[i] < qv x
        · rw [if_pos (decide_eq_true (rcm_neg.2 hc)), if_pos hr, if_pos hc]
        · rw [if_neg (by rw [decide_eq_true_eq]; exact fun z => hc (rcm_neg.1 z)), if_neg hc]
      · rw [k2]; unfold S_ref06_Hull_28
        rw [if_pos hr]
        simp only [hg]
        rw [F_ref05_Cmp, gif_bind ⟨hv, hy⟩, i64w (by omega) (by omega)]
        by_cases hc : qv y < qv l[i]
        · rw [if_pos (decide_eq_true (rcm_pos.2 hc)), if_pos hr, if_pos hc]; simp
        · rw [if_neg (by rw [decide_eq_true_eq]; exact fun z => hc (rcm_pos.1 z)), if_neg hc]; simp
  have hm : RQ RK m := h2 _ (by simp)
  have := loop l.length 0 m m (by omega) hm hm
  simp only [T_ref06_Hull]
  refine Ev.congr (fun m' => ?_) this
  rw [if_pos (by rw [hl]; omega)]
  show (F_ref06_Point ((m :: l).getD 0 _)).bind _ = _
  rw [F_ref06_Point, gif_bind trivial]
  rfl

theorem Rn_law06_awake : Run_law06_awake := Ok.gif_const fun _ => by
  have hi : ∀ n : Int, -10 ≤ n ∧ n ≤ 10 → QV 4 (dr (n : Rat)) (n : Rat) := fun n h => QV.dr (QB.int (by unfold ab Bd; constructor <;> split <;> omega) (by omega)) (by omega)
  have hm : mulI ((-1 : Int) : Rat) ((2 : Int) : Rat) ((3 : Int) : Rat) ((4 : Int) : Rat) = (((-4 : Int) : Rat), ((8 : Int) : Rat)) := by decide +kernel
  have g4 : gd 10 4 = [4] := by rw [gd_pos (by decide) (by decide), show (4 : Int) / 10 = 0 by decide, gd_zero]; rfl
  have g8 : gd 10 8 = [8] := by rw [gd_pos (by decide) (by decide), show (8 : Int) / 10 = 0 by decide, gd_zero]; rfl
  have s4 : ratS ((-4 : Int) : Rat) = ByteArray.mk #[45, 52] := by
    unfold ratS
    rw [if_pos (Rat.den_intCast _), Rat.num_intCast]
    unfold decS decL
    rw [if_neg (show ¬ ((-4 : Int) = 0) by decide), if_pos (show (-4 : Int) < 0 by decide), show ab (-4) = 4 by decide, g4]; rfl
  have s8 : ratS ((8 : Int) : Rat) = ByteArray.mk #[56] := by
    unfold ratS
    rw [if_pos (Rat.den_intCast _), Rat.num_intCast]
    unfold decS decL
    rw [if_neg (show ¬ ((8 : Int) = 0) by decide), if_neg (show ¬ (8 : Int) < 0 by decide), show ab 8 = 8 by decide, g8]; rfl
  have f4 : F_rational_Format (dr ((-4 : Int) : Rat)) = some (ByteArray.mk #[45, 52]) := by rw [F_rational_Format, gif_pos (hi (-4) (by omega)).1, rv_dr, s4]
  have f8 : F_rational_Format (dr ((8 : Int) : Rat)) = some (ByteArray.mk #[56]) := by rw [F_rational_Format, gif_pos (hi 8 (by omega)).1, rv_dr, s8]
  rw [T_law06_awake, Of_bind (by omega), Of_bind (by omega), Of_bind (by omega), Of_bind (by omega), I.mul (a := (dr ((-1 : Int) : Rat), dr ((2 : Int) : Rat))) (b := (dr ((3 : Int) : Rat), dr ((4 : Int) : Rat))) (hi (-1) (by omega)) (hi 2 (by omega)) (hi 3 (by omega)) (hi 4 (by omega)) (by omega) (by omega), hm, Option.bind_some]
  unfold dI
  rw [f4, Option.bind_some, f8, if_pos (by rw [beq_iff_eq])]
  simp
end Go.W

set_option linter.unusedVariables false
set_option linter.unusedSimpArgs false
namespace Go.W

/-! ### least and greatest -/
theorem rmin_comm (x y : Rat) : rmin x y = rmin y x := by unfold rmin; (repeat' split) <;> grind
theorem rmax_comm (x y : Rat) : rmax x y = rmax y x := by unfold rmax; (repeat' split) <;> grind
theorem rmin_assoc (x y z : Rat) : rmin (rmin x y) z = rmin x (rmin y z) := by unfold rmin; (repeat' split) <;> grind
theorem rmax_assoc (x y z : Rat) : rmax (rmax x y) z = rmax x (rmax y z) := by unfold rmax; (repeat' split) <;> grind
instance : Std.Commutative rmin := ⟨rmin_comm⟩
instance : Std.Commutative rmax := ⟨rmax_comm⟩
instance : Std.Associative rmin := ⟨rmin_assoc⟩
instance : Std.Associative rmax := ⟨rmax_assoc⟩
theorem lohi (x y : Rat) : (rmin x y = x ∧ rmax x y = y) ∨ (rmin x y = y ∧ rmax x y = x) := by unfold rmin rmax; (repeat' split) <;> grind
theorem rmin_le (x y : Rat) : rmin x y ≤ x ∧ rmin x y ≤ y := by unfold rmin; split <;> constructor <;> grind
theorem le_rmax (x y : Rat) : x ≤ rmax x y ∧ y ≤ rmax x y := by unfold rmax; split <;> constructor <;> grind
theorem rmin_le_rmax (x y : Rat) : rmin x y ≤ rmax x y := by have := rmin_le x y; have := le_rmax x y; grind
theorem rmin_of_le {x y : Rat} (h : x ≤ y) : rmin x y = x ∧ rmax x y = y := by unfold rmin rmax; constructor <;> split <;> grind

/-! ### the reference's interval -/
theorem of_R {a : NI} (h : Q2 a) {m : Nat} (h1 : a.1.1.2.length ≤ m) (h2 : a.1.2.length ≤ m) (h3 : a.2.1.2.length ≤ m) (h4 : a.2.2.length ≤ m) (hm : 1 ≤ m) :
    ∃ p, F_law06_of a = some p ∧ QR (32 * m) p.1 (lo a) ∧ QR (32 * m) p.2 (hi a) := by
  have r1 : QR (32 * m) (mq (rn a.1) (rd a.1)) (rv a.1) := ⟨of_rq h.1 h1 h2 hm, of_v a.1⟩
  have r2 : QR (32 * m) (mq (rn a.2) (rd a.2)) (rv a.2) := ⟨of_rq h.2 h3 h4 hm, of_v a.2⟩
  refine ⟨_, gif_pos h, ?_⟩
  unfold lo hi rmin rmax
  by_cases hc : rv a.2 < rv a.1
  · rw [if_pos hc, if_pos hc, if_neg (by grind)]; exact ⟨r2, r1⟩
  · rw [if_neg hc, if_neg hc]
    by_cases hd : rv a.1 < rv a.2
    · rw [if_pos hd]; exact ⟨r1, r2⟩
    · rw [if_neg hd, show rv a.1 = rv a.2 by grind]
      rw [show rv a.1 = rv a.2 by grind] at r1
      exact ⟨r1, r2⟩
theorem fold_lo {k : Nat} {a b : FQ} {r s : Rat} (ha : QR k a r) (hb : QR k b s) : QR k (if qv b < qv a then b else a) (rmin r s) := by
  rw [ha.2, hb.2]; unfold rmin; split <;> assumption
theorem fold_hi {k : Nat} {a b : FQ} {r s : Rat} (ha : QR k a r) (hb : QR k b s) : QR k (if qv a < qv b then b else a) (rmax r s) := by
  rw [ha.2, hb.2]; unfold rmax; split <;> assumption
theorem hull4 {k : Nat} {a b c d : FQ} {r s t u : Rat} (h1 : QR k a r) (h2 : QR k b s) (h3 : QR k c t) (h4 : QR k d u) : QR k (hullL [a, b, c, d]).1 (mn4 r s t u) ∧ QR k (hullL [a, b, c, d]).2 (mx4 r s t u) :=
  ⟨fold_lo (fold_lo (fold_lo h1 h2) h3) h4, fold_hi (fold_hi (fold_hi h1 h2) h3) h4⟩
theorem R.hmul {k : Nat} {p q : FI} {x y u v : Rat} (h1 : QR k p.1 x) (h2 : QR k p.2 y) (h3 : QR k q.1 u) (h4 : QR k q.2 v) (hk : k ≤ 1000000) : ∃ z, F_ref06_Mul p q = some z ∧ QR (k + k) z.1 (mulI x y u v).1 ∧ QR (k + k) z.2 (mulI x y u v).2 := by
  have f : ∀ {a : FQ} {r : Rat}, QR k a r → RQ 1000000 a := fun h => h.1.mono hk
  exact ⟨_, gif_pos ⟨f h1, f h2, f h3, f h4⟩, hull4 (mulq_R h1 h3 (by omega)).2 (mulq_R h1 h4 (by omega)).2 (mulq_R h2 h3 (by omega)).2 (mulq_R h2 h4 (by omega)).2⟩
theorem R.his {k : Nat} {z : FI} {x y : Rat} (h1 : QR k z.1 x) (h2 : QR k z.2 y) (hk : k ≤ 1000000000) : F_law06_is (dI (x, y)) z = some true := by
  rw [F_law06_is, gif_pos ⟨h1.1.k hk, h2.1.k hk⟩, h1.2, h2.2]; simp
theorem awake6_some : F_law06_awake = some true := gif_pos trivial
theorem few6_some {n : Int} {a b : NI} : F_law06_few n a b = some (decide (((a.1.1.2.length : Int) ≤ n ∧ (a.1.2.length : Int) ≤ n) ∧ ((a.2.1.2.length : Int) ≤ n ∧ (a.2.2.length : Int) ≤ n) ∧ ((b.1.1.2.length : Int) ≤ n ∧ (b.1.2.length : Int) ≤ n) ∧ (b.2.1.2.length : Int) ≤ n ∧ (b.2.2.length : Int) ≤ n)) := gif_pos trivial
end Go.W

set_option linter.unusedVariables false
set_option linter.unusedSimpArgs false
namespace Go.W

/-- an interval by its ends -/
def IV (k : Nat) (a : NI) (x y : Rat) : Prop := QV k a.1 x ∧ QV k a.2 y
theorem IV.dI {k : Nat} {x y : Rat} (h1 : QB k x) (h2 : QB k y) (hk : k ≤ 33554432) : IV k (Go.W.dI (x, y)) x y := ⟨QV.dr h1 hk, QV.dr h2 hk⟩
theorem IV.q2 {k : Nat} {a : NI} {x y : Rat} (h : IV k a x y) : Q2 a := ⟨h.1.1, h.2.1⟩
theorem IV.add {j k : Nat} {a b : NI} {x y u v : Rat} (ha : IV j a x y) (hb : IV k b u v) (hj : j ≤ 1000000) (hk : k ≤ 1000000) : F_interval_Add a b = some (Go.W.dI (rmin x y + rmin u v, rmax x y + rmax u v)) := by
  rw [F_interval_Add, gif_pos ⟨⟨ha.1.1, ha.2.1, by rw [ha.1.2.1]; exact ha.1.2.2.mono hj, by rw [ha.2.2.1]; exact ha.2.2.2.mono hj⟩, hb.1.1, hb.2.1, by rw [hb.1.2.1]; exact hb.1.2.2.mono hk, by rw [hb.2.2.1]; exact hb.2.2.2.mono hk⟩]
  unfold lo hi; rw [ha.1.2.1, ha.2.2.1, hb.1.2.1, hb.2.2.1]
theorem IV.mul {j k : Nat} {a b : NI} {x y u v : Rat} (ha : IV j a x y) (hb : IV k b u v) (hj : j ≤ 1000000) (hk : k ≤ 1000000) : F_interval_Mul a b = some (Go.W.dI (mulI x y u v)) := I.mul ha.1 ha.2 hb.1 hb.2 hj hk
theorem IV.mulI {j k : Nat} {x y u v : Rat} (h1 : QB j x) (h2 : QB j y) (h3 : QB k u) (h4 : QB k v) (hk : j + k ≤ 33554432) : IV (j + k) (Go.W.dI (Go.W.mulI x y u v)) (Go.W.mulI x y u v).1 (Go.W.mulI x y u v).2 :=
  IV.dI (mulI_bd h1 h2 h3 h4).1 (mulI_bd h1 h2 h3 h4).2 hk
end Go.W

set_option linter.unusedVariables false
set_option linter.unusedSimpArgs false
namespace Go.W

theorem Rn_ref06_Contains : Run_ref06_Contains := fun p q => Ok.gif_const fun ⟨h1, h2, h3⟩ => by
  rw [T_ref06_Contains, F_ref05_Cmp, gif_bind ⟨h1, h3⟩]
  by_cases h : qv p.1 ≤ qv q
  · rw [if_pos (decide_eq_true (rcm_le0.2 h)), F_ref05_Cmp, gif_bind ⟨h3, h2⟩]
    congr 1; rw [decide_eq_decide, rcm_le0]; exact ⟨fun x => ⟨h, x⟩, fun x => x.2⟩
  · rw [if_neg (by rw [decide_eq_true_eq]; exact fun x => h (rcm_le0.1 x)), decide_eq_false (fun x => h x.1)]
theorem QR.mono {j k : Nat} {q : FQ} {r : Rat} (h : QR j q r) (hk : j ≤ k) : QR k q r := ⟨h.1.mono hk, h.2⟩
end Go.W

set_option linter.unusedVariables false
set_option linter.unusedSimpArgs false
namespace Go.W

theorem Q2.v {a : NI} (h : Q2 a) : IV 33554432 a (rv a.1) (rv a.2) := ⟨h.1.v, h.2.v⟩
theorem Q2.lo {a : NI} (h : Q2 a) : QV 33554432 (dr (lo a)) (Go.W.lo a) := QV.dr ((QB.rv h.1).rmin (QB.rv h.2)) (by omega)
theorem Q2.hi {a : NI} (h : Q2 a) : QV 33554432 (dr (hi a)) (Go.W.hi a) := QV.dr ((QB.rv h.1).rmax (QB.rv h.2)) (by omega)
theorem Rn_interval_Hull : Run_interval_Hull := fun a b => Ok.gif_const fun ⟨ha, hb⟩ => by
  rw [T_interval_Hull, F_interval_Normal, gif_bind ha, F_interval_Normal, gif_bind hb]
  show (F_interval_least (dr (lo a)) (dr (lo b))).bind _ = _
  rw [F_interval_least, gif_bind ⟨ha.lo.1, hb.lo.1⟩]
  show (F_interval_greatest (dr (hi a)) (dr (hi b))).bind _ = _
  rw [F_interval_greatest, gif_bind ⟨ha.hi.1, hb.hi.1⟩, rv_dr, rv_dr, rv_dr, rv_dr]
  unfold dI rmin rmax
  congr 2 <;> split <;> rfl
theorem Rn_interval_Point : Run_interval_Point := fun a => Ok.gif_const fun h => by
  rw [T_interval_Point, V.normal h.v, Option.bind_some, Option.bind_some]; rfl
end Go.W

set_option linter.unusedVariables false
namespace Go.W
noncomputable def F_interval_Meet (a b : NI) : Option (NI × Bool) := gif (Q2 a ∧ Q2 b) (if rmin (hi a) (hi b) < rmax (lo a) (lo b) then (zI, false) else (dI (rmax (lo a) (lo b), rmin (hi a) (hi b)), true))
noncomputable def F_interval_Width (a : NI) : Option NQ := gif (QI BI a) (dr (hi a - lo a))
def addq (a b : FQ) : FQ := mq (qn a * qd b + qn b * qd a) (qd a * qd b)
def negq (a : FQ) : FQ := mq (-(qn a)) (qd a)
noncomputable def F_law06_IntervalSets (a b : NI) (x : NQ) : Option Bool := gif (DI a ∧ DI b ∧ DR x) true
end Go.W

set_option linter.unusedVariables false
namespace Go.W
noncomputable section

/-! cylinder/interval.Meet -/
def T_interval_Meet (a0 : ((Bool × List Int) × List Int) × (Bool × List Int) × List Int) (a1 : ((Bool × List Int) × List Int) × (Bool × List Int) × List Int) : Option ((((Bool × List Int) × List Int) × (Bool × List Int) × List Int) × Bool) :=
  (F_interval_least a0.1 a0.2).bind fun r1 =>
  (F_interval_least a1.1 a1.2).bind fun r2 =>
  (F_interval_greatest r1 r2).bind fun r3 =>
  (F_interval_greatest a0.1 a0.2).bind fun r4 =>
  (F_interval_greatest a1.1 a1.2).bind fun r5 =>
  (F_interval_least r4 r5).bind fun r6 =>
  (F_rational_Cmp r3 r6).bind fun r7 =>
  if (decide (r7 > (0 : Int))) = true then
    some ((((false, ([] : List Int)), ([] : List Int)), ((false, ([] : List Int)), ([] : List Int))), false)
  else
    (F_rational_Normal r3).bind fun r8 =>
    (F_rational_Normal r6).bind fun r9 =>
    some ((r8, r9), true)
def Run_interval_Meet : Prop := ∀ a0 : ((Bool × List Int) × List Int) × (Bool × List Int) × List Int, ∀ a1 : ((Bool × List Int) × List Int) × (Bool × List Int) × List Int, Ok (F_interval_Meet a0 a1) (fun _ => T_interval_Meet a0 a1)

/-! cylinder/interval.Scale -/
def T_interval_Width (a0 : ((Bool × List Int) × List Int) × (Bool × List Int) × List Int) : Option ((Bool × List Int) × List Int) :=
  (F_rational_Sub a0.2 a0.1).bind fun r1 =>
  (F_rational_Abs r1).bind fun r2 =>
  some r2
def Run_interval_Width : Prop := ∀ a0 : ((Bool × List Int) × List Int) × (Bool × List Int) × List Int, Ok (F_interval_Width a0) (fun _ => T_interval_Width a0)

/-! cylinder/cylinderlaw06.IntervalArithmetic -/
def T_law06_IntervalSets (s8 : Bool → (((Bool × List Int) × List Int) × (Bool × List Int) × List Int) → (((Bool × List Int) × List Int) × (Bool × List Int) × List Int) → ((Bool × List Int) × List Int) → Option Bool) (s28 : Bool → (((Bool × List Int) × List Int) × (Bool × List Int) × List Int) → (((Bool × List Int) × List Int) × (Bool × List Int) × List Int) → (((Int × List Int) × Int × List Int) × (Int × List Int) × Int × List Int) → (((Int × List Int) × Int × List Int) × (Int × List Int) × Int × List Int) → Option Bool) (s36 : Bool → (((Bool × List Int) × List Int) × (Bool × List Int) × List Int) → (((Bool × List Int) × List Int) × (Bool × List Int) × List Int) → (((Int × List Int) × Int × List Int) × (Int × List Int) × Int × List Int) → (((Int × List Int) × Int × List Int) × (Int × List Int) × Int × List Int) → Option Bool) (s40 : Bool → (((Bool × List Int) × List Int) × (Bool × List Int) × List Int) → (((Bool × List Int) × List Int) × (Bool × List Int) × List Int) → (((Int × List Int) × Int × List Int) × (Int × List Int) × Int × List Int) → (((Int × List Int) × Int × List Int) × (Int × List Int) × Int × List Int) → Option Bool) (s60 : Bool → (((Int × List Int) × Int × List Int) × (Int × List Int) × Int × List Int) → (((Bool × List Int) × List Int) × (Bool × List Int) × List Int) → ((Int × List Int) × Int × List Int) → ((Int × List Int) × Int × List Int) → Option Bool) (a0 : ((Bool × List Int) × List Int) × (Bool × List Int) × List Int) (a1 : ((Bool × List Int) × List Int) × (Bool × List Int) × List Int) (a2 : (Bool × List Int) × List Int) : Option Bool :=
  (F_law06_awake).bind fun r1 =>
  if (!r1) = true then
    s8 true a0 a1 a2
  else
    (F_law06_few (4 : Int) a0 a1).bind fun r2 =>
    if (!r2) = true then
      s8 true a0 a1 a2
    else
      (F_law06_small (4 : Int) a2).bind fun r3 =>
      s8 (!r3) a0 a1 a2
def S_law06_IntervalSets_8 (s8 : Bool → (((Bool × List Int) × List Int) × (Bool × List Int) × List Int) → (((Bool × List Int) × List Int) × (Bool × List Int) × List Int) → ((Bool × List Int) × List Int) → Option Bool) (s28 : Bool → (((Bool × List Int) × List Int) × (Bool × List Int) × List Int) → (((Bool × List Int) × List Int) × (Bool × List Int) × List Int) → (((Int × List Int) × Int × List Int) × (Int × List Int) × Int × List Int) → (((Int × List Int) × Int × List Int) × (Int × List Int) × Int × List Int) → Option Bool) (s36 : Bool → (((Bool × List Int) × List Int) × (Bool × List Int) × List Int) → (((Bool × List Int) × List Int) × (Bool × List Int) × List Int) → (((Int × List Int) × Int × List Int) × (Int × List Int) × Int × List Int) → (((Int × List Int) × Int × List Int) × (Int × List Int) × Int × List Int) → Option Bool) (s40 : Bool → (((Bool × List Int) × List Int) × (Bool × List Int) × List Int) → (((Bool × List Int) × List Int) × (Bool × List Int) × List Int) → (((Int × List Int) × Int × List Int) × (Int × List Int) × Int × List Int) → (((Int × List Int) × Int × List Int) × (Int × List Int) × Int × List Int) → Option Bool) (s60 : Bool → (((Int × List Int) × Int × List Int) × (Int × List Int) × Int × List Int) → (((Bool × List Int) × List Int) × (Bool × List Int) × List Int) → ((Int × List Int) × Int × List Int) → ((Int × List Int) × Int × List Int) → Option Bool) (x28 : Bool) (x3 : ((Bool × List Int) × List Int) × (Bool × List Int) × List Int) (x4 : ((Bool × List Int) × List Int) × (Bool × List Int) × List Int) (x5 : (Bool × List Int) × List Int) : Option Bool :=
  if x28 = true then
    (F_law06_awake).bind fun r1 =>
    some r1
  else
    (F_law06_of x3).bind fun r2 =>
    (F_law06_of x4).bind fun r3 =>
    (F_interval_Width x3).bind fun r4 =>
    (F_ref05_Neg r2.1).bind fun r5 =>
    (F_ref05_Add r2.2 r5).bind fun r6 =>
    (F_interval_Normal x3).bind fun r7 =>
    (F_law06_is r7 r2).bind fun r8 =>
    if (!r8) = true then
      s28 true x3 x4 r2 r3
    else
      (F_interval_Point x5).bind fun r9 =>
      (F_law06_q x5).bind fun r10 =>
      (F_ref06_Point r10).bind fun r11 =>
      (F_law06_is r9 r11).bind fun r12 =>
      if (!r12) = true then
        s28 true x3 x4 r2 r3
      else
        (F_interval_Contains x3 x5).bind fun r13 =>
        (F_law06_q x5).bind fun r14 =>
        (F_ref06_Contains r2 r14).bind fun r15 =>
        if (!(r13 == r15)) = true then
          s28 true x3 x4 r2 r3
        else
          (F_ref05_Is r4.1.1 r4.1.2 r4.2 r6).bind fun r16 =>
          s28 (!r16) x3 x4 r2 r3
def S_law06_IntervalSets_28 (s8 : Bool → (((Bool × List Int) × List Int) × (Bool × List Int) × List Int) → (((Bool × List Int) × List Int) × (Bool × List Int) × List Int) → ((Bool × List Int) × List Int) → Option Bool) (s28 : Bool → (((Bool × List Int) × List Int) × (Bool × List Int) × List Int) → (((Bool × List Int) × List Int) × (Bool × List Int) × List Int) → (((Int × List Int) × Int × List Int) × (Int × List Int) × Int × List Int) → (((Int × List Int) × Int × List Int) × (Int × List Int) × Int × List Int) → Option Bool) (s36 : Bool → (((Bool × List Int) × List Int) × (Bool × List Int) × List Int) → (((Bool × List Int) × List Int) × (Bool × List Int) × List Int) → (((Int × List Int) × Int × List Int) × (Int × List Int) × Int × List Int) → (((Int × List Int) × Int × List Int) × (Int × List Int) × Int × List Int) → Option Bool) (s40 : Bool → (((Bool × List Int) × List Int) × (Bool × List Int) × List Int) → (((Bool × List Int) × List Int) × (Bool × List Int) × List Int) → (((Int × List Int) × Int × List Int) × (Int × List Int) × Int × List Int) → (((Int × List Int) × Int × List Int) × (Int × List Int) × Int × List Int) → Option Bool) (s60 : Bool → (((Int × List Int) × Int × List Int) × (Int × List Int) × Int × List Int) → (((Bool × List Int) × List Int) × (Bool × List Int) × List Int) → ((Int × List Int) × Int × List Int) → ((Int × List Int) × Int × List Int) → Option Bool) (x78 : Bool) (x3 : ((Bool × List Int) × List Int) × (Bool × List Int) × List Int) (x4 : ((Bool × List Int) × List Int) × (Bool × List Int) × List Int) (x7 : ((Int × List Int) × Int × List Int) × (Int × List Int) × Int × List Int) (x8 : ((Int × List Int) × Int × List Int) × (Int × List Int) × Int × List Int) : Option Bool :=
  if x78 = true then
    some false
  else
    (F_ref06_Contains x8 x7.1).bind fun r1 =>
    if r1 = true then
      (F_ref06_Contains x8 x7.2).bind fun r2 =>
      s36 r2 x3 x4 x7 x8
    else
      s36 false x3 x4 x7 x8
def S_law06_IntervalSets_36 (s8 : Bool → (((Bool × List Int) × List Int) × (Bool × List Int) × List Int) → (((Bool × List Int) × List Int) × (Bool × List Int) × List Int) → ((Bool × List Int) × List Int) → Option Bool) (s28 : Bool → (((Bool × List Int) × List Int) × (Bool × List Int) × List Int) → (((Bool × List Int) × List Int) × (Bool × List Int) × List Int) → (((Int × List Int) × Int × List Int) × (Int × List Int) × Int × List Int) → (((Int × List Int) × Int × List Int) × (Int × List Int) × Int × List Int) → Option Bool) (s36 : Bool → (((Bool × List Int) × List Int) × (Bool × List Int) × List Int) → (((Bool × List Int) × List Int) × (Bool × List Int) × List Int) → (((Int × List Int) × Int × List Int) × (Int × List Int) × Int × List Int) → (((Int × List Int) × Int × List Int) × (Int × List Int) × Int × List Int) → Option Bool) (s40 : Bool → (((Bool × List Int) × List Int) × (Bool × List Int) × List Int) → (((Bool × List Int) × List Int) × (Bool × List Int) × List Int) → (((Int × List Int) × Int × List Int) × (Int × List Int) × Int × List Int) → (((Int × List Int) × Int × List Int) × (Int × List Int) × Int × List Int) → Option Bool) (s60 : Bool → (((Int × List Int) × Int × List Int) × (Int × List Int) × Int × List Int) → (((Bool × List Int) × List Int) × (Bool × List Int) × List Int) → ((Int × List Int) × Int × List Int) → ((Int × List Int) × Int × List Int) → Option Bool) (x11 : Bool) (x3 : ((Bool × List Int) × List Int) × (Bool × List Int) × List Int) (x4 : ((Bool × List Int) × List Int) × (Bool × List Int) × List Int) (x7 : ((Int × List Int) × Int × List Int) × (Int × List Int) × Int × List Int) (x8 : ((Int × List Int) × Int × List Int) × (Int × List Int) × Int × List Int) : Option Bool :=
  (F_interval_Within x3 x4).bind fun r1 =>
  if (!(r1 == x11)) = true then
    s40 true x3 x4 x7 x8
  else
    (F_interval_Hull x3 x4).bind fun r2 =>
    (F_ref06_Hull ([x7.1, x7.2, x8.1, x8.2] : List ((Int × List Int) × Int × List Int))).bind fun r3 =>
    (F_law06_is r2 r3).bind fun r4 =>
    s40 (!r4) x3 x4 x7 x8
def S_law06_IntervalSets_40 (s8 : Bool → (((Bool × List Int) × List Int) × (Bool × List Int) × List Int) → (((Bool × List Int) × List Int) × (Bool × List Int) × List Int) → ((Bool × List Int) × List Int) → Option Bool) (s28 : Bool → (((Bool × List Int) × List Int) × (Bool × List Int) × List Int) → (((Bool × List Int) × List Int) × (Bool × List Int) × List Int) → (((Int × List Int) × Int × List Int) × (Int × List Int) × Int × List Int) → (((Int × List Int) × Int × List Int) × (Int × List Int) × Int × List Int) → Option Bool) (s36 : Bool → (((Bool × List Int) × List Int) × (Bool × List Int) × List Int) → (((Bool × List Int) × List Int) × (Bool × List Int) × List Int) → (((Int × List Int) × Int × List Int) × (Int × List Int) × Int × List Int) → (((Int × List Int) × Int × List Int) × (Int × List Int) × Int × List Int) → Option Bool) (s40 : Bool → (((Bool × List Int) × List Int) × (Bool × List Int) × List Int) → (((Bool × List Int) × List Int) × (Bool × List Int) × List Int) → (((Int × List Int) × Int × List Int) × (Int × List Int) × Int × List Int) → (((Int × List Int) × Int × List Int) × (Int × List Int) × Int × List Int) → Option Bool) (s60 : Bool → (((Int × List Int) × Int × List Int) × (Int × List Int) × Int × List Int) → (((Bool × List Int) × List Int) × (Bool × List Int) × List Int) → ((Int × List Int) × Int × List Int) → ((Int × List Int) × Int × List Int) → Option Bool) (x110 : Bool) (x3 : ((Bool × List Int) × List Int) × (Bool × List Int) × List Int) (x4 : ((Bool × List Int) × List Int) × (Bool × List Int) × List Int) (x7 : ((Int × List Int) × Int × List Int) × (Int × List Int) × Int × List Int) (x8 : ((Int × List Int) × Int × List Int) × (Int × List Int) × Int × List Int) : Option Bool :=
  if x110 = true then
    some false
  else
    (F_interval_Meet x3 x4).bind fun r1 =>
    (F_ref05_Cmp x8.1 x7.1).bind fun r2 =>
    if (decide (r2 > (0 : Int))) = true then
      s60 r1.2 x8 r1.1 x8.1 x7.2
    else
      s60 r1.2 x8 r1.1 x7.1 x7.2
def S_law06_IntervalSets_60 (s8 : Bool → (((Bool × List Int) × List Int) × (Bool × List Int) × List Int) → (((Bool × List Int) × List Int) × (Bool × List Int) × List Int) → ((Bool × List Int) × List Int) → Option Bool) (s28 : Bool → (((Bool × List Int) × List Int) × (Bool × List Int) × List Int) → (((Bool × List Int) × List Int) × (Bool × List Int) × List Int) → (((Int × List Int) × Int × List Int) × (Int × List Int) × Int × List Int) → (((Int × List Int) × Int × List Int) × (Int × List Int) × Int × List Int) → Option Bool) (s36 : Bool → (((Bool × List Int) × List Int) × (Bool × List Int) × List Int) → (((Bool × List Int) × List Int) × (Bool × List Int) × List Int) → (((Int × List Int) × Int × List Int) × (Int × List Int) × Int × List Int) → (((Int × List Int) × Int × List Int) × (Int × List Int) × Int × List Int) → Option Bool) (s40 : Bool → (((Bool × List Int) × List Int) × (Bool × List Int) × List Int) → (((Bool × List Int) × List Int) × (Bool × List Int) × List Int) → (((Int × List Int) × Int × List Int) × (Int × List Int) × Int × List Int) → (((Int × List Int) × Int × List Int) × (Int × List Int) × Int × List Int) → Option Bool) (s60 : Bool → (((Int × List Int) × Int × List Int) × (Int × List Int) × Int × List Int) → (((Bool × List Int) × List Int) × (Bool × List Int) × List Int) → ((Int × List Int) × Int × List Int) → ((Int × List Int) × Int × List Int) → Option Bool) (x13 : Bool) (x8 : ((Int × List Int) × Int × List Int) × (Int × List Int) × Int × List Int) (x12 : ((Bool × List Int) × List Int) × (Bool × List Int) × List Int) (x14 : (Int × List Int) × Int × List Int) (x15 : (Int × List Int) × Int × List Int) : Option Bool :=
  (F_ref05_Cmp x8.2 x15).bind fun r1 =>
  if (decide (r1 < (0 : Int))) = true then
    (F_ref05_Cmp x14 x8.2).bind fun r2 =>
    if (decide (r2 > (0 : Int))) = true then
      if (!x13) = true then
        (F_law06_none x12).bind fun r3 =>
        some r3
      else
        some false
    else
      if x13 = true then
        (F_law06_is x12 (x14, x8.2)).bind fun r4 =>
        some r4
      else
        some false
  else
    (F_ref05_Cmp x14 x15).bind fun r5 =>
    if (decide (r5 > (0 : Int))) = true then
      if (!x13) = true then
        (F_law06_none x12).bind fun r6 =>
        some r6
      else
        some false
    else
      if x13 = true then
        (F_law06_is x12 (x14, x15)).bind fun r7 =>
        some r7
      else
        some false
def Run_law06_IntervalSets : Prop := ∀ s8 : Nat → Bool → (((Bool × List Int) × List Int) × (Bool × List Int) × List Int) → (((Bool × List Int) × List Int) × (Bool × List Int) × List Int) → ((Bool × List Int) × List Int) → Option Bool, ∀ s28 : Nat → Bool → (((Bool × List Int) × List Int) × (Bool × List Int) × List Int) → (((Bool × List Int) × List Int) × (Bool × List Int) × List Int) → (((Int × List Int) × Int × List Int) × (Int × List Int) × Int × List Int) → (((Int × List Int) × Int × List Int) × (Int × List Int) × Int × List Int) → Option Bool, ∀ s36 : Nat → Bool → (((Bool × List Int) × List Int) × (Bool × List Int) × List Int) → (((Bool × List Int) × List Int) × (Bool × List Int) × List Int) → (((Int × List Int) × Int × List Int) × (Int × List Int) × Int × List Int) → (((Int × List Int) × Int × List Int) × (Int × List Int) × Int × List Int) → Option Bool, ∀ s40 : Nat → Bool → (((Bool × List Int) × List Int) × (Bool × List Int) × List Int) → (((Bool × List Int) × List Int) × (Bool × List Int) × List Int) → (((Int × List Int) × Int × List Int) × (Int × List Int) × Int × List Int) → (((Int × List Int) × Int × List Int) × (Int × List Int) × Int × List Int) → Option Bool, ∀ s60 : Nat → Bool → (((Int × List Int) × Int × List Int) × (Int × List Int) × Int × List Int) → (((Bool × List Int) × List Int) × (Bool × List Int) × List Int) → ((Int × List Int) × Int × List Int) → ((Int × List Int) × Int × List Int) → Option Bool, (∀ m x28 x3 x4 x5, s8 (m + 1) x28 x3 x4 x5 = S_law06_IntervalSets_8 (s8 m) (s28 m) (s36 m) (s40 m) (s60 m) x28 x3 x4 x5) → (∀ m x78 x3 x4 x7 x8, s28 (m + 1) x78 x3 x4 x7 x8 = S_law06_IntervalSets_28 (s8 m) (s28 m) (s36 m) (s40 m) (s60 m) x78 x3 x4 x7 x8) → (∀ m x11 x3 x4 x7 x8, s36 (m + 1) x11 x3 x4 x7 x8 = S_law06_IntervalSets_36 (s8 m) (s28 m) (s36 m) (s40 m) (s60 m) x11 x3 x4 x7 x8) → (∀ m x110 x3 x4 x7 x8, s40 (m + 1) x110 x3 x4 x7 x8 = S_law06_IntervalSets_40 (s8 m) (s28 m) (s36 m) (s40 m) (s60 m) x110 x3 x4 x7 x8) → (∀ m x13 x8 x12 x14 x15, s60 (m + 1) x13 x8 x12 x14 x15 = S_law06_IntervalSets_60 (s8 m) (s28 m) (s36 m) (s40 m) (s60 m) x13 x8 x12 x14 x15) → ∀ a0 : ((Bool × List Int) × List Int) × (Bool × List Int) × List Int, ∀ a1 : ((Bool × List Int) × List Int) × (Bool × List Int) × List Int, ∀ a2 : (Bool × List Int) × List Int, Ok (F_law06_IntervalSets a0 a1 a2) (fun m => T_law06_IntervalSets (s8 m) (s28 m) (s36 m) (s40 m) (s60 m) a0 a1 a2)

/-! cylinder/cylinderref06.Add -/
end
end Go.W

set_option linter.unusedVariables false
set_option linter.unusedSimpArgs false
namespace Go.W

theorem Rn_interval_Meet : Run_interval_Meet := fun a b => Ok.gif_const fun ⟨ha, hb⟩ => by
  obtain ⟨p1, e1, v1, _⟩ := I.least ha.1.v ha.2.v
  obtain ⟨p2, e2, v2, _⟩ := I.least hb.1.v hb.2.v
  obtain ⟨p3, e3, v3, _⟩ := I.greatest v1 v2
  obtain ⟨p4, e4, v4, _⟩ := I.greatest ha.1.v ha.2.v
  obtain ⟨p5, e5, v5, _⟩ := I.greatest hb.1.v hb.2.v
  obtain ⟨p6, e6, v6, _⟩ := I.least v4 v5
  rw [T_interval_Meet, e1, Option.bind_some, e2, Option.bind_some, e3, Option.bind_some, e4, Option.bind_some, e5, Option.bind_some, e6, Option.bind_some, V.cmp v3 v6, Option.bind_some]
  show _ = some (if rmin (rmax (rv a.1) (rv a.2)) (rmax (rv b.1) (rv b.2)) < rmax (rmin (rv a.1) (rv a.2)) (rmin (rv b.1) (rv b.2)) then (zI, false) else (dI (rmax (rmin (rv a.1) (rv a.2)) (rmin (rv b.1) (rv b.2)), rmin (rmax (rv a.1) (rv a.2)) (rmax (rv b.1) (rv b.2))), true))
  by_cases h : rmin (rmax (rv a.1) (rv a.2)) (rmax (rv b.1) (rv b.2)) < rmax (rmin (rv a.1) (rv a.2)) (rmin (rv b.1) (rv b.2))
  · rw [if_pos (decide_eq_true (rcm_pos.2 h)), if_pos h]
  · rw [if_neg (by rw [decide_eq_true_eq]; exact fun x => h (rcm_pos.1 x)), if_neg h, V.normal v3, Option.bind_some, V.normal v6]; rfl
theorem Rn_interval_Width : Run_interval_Width := fun a => Ok.gif_const fun ha => by
  have v1 := QV.dr (ha.2.2.2.sub ha.2.2.1) (by decide)
  rw [T_interval_Width, V.sub ha.2.1.v ha.1.v, Option.bind_some, V.abs v1, Option.bind_some]
  congr 2
  unfold hi lo rmin rmax
  (repeat' split) <;> grind
theorem addq_R {j k : Nat} {a b : FQ} {r s : Rat} (ha : QR j a r) (hb : QR k b s) (hj : j ≤ 1000000000 ∧ k ≤ 1000000000) : F_ref05_Add a b = some (addq a b) ∧ QR (j + k + 1) (addq a b) (r + s) := by
  obtain ⟨q, e, h⟩ := R.add ha hb hj
  have e2 : F_ref05_Add a b = some (addq a b) := gif_pos ⟨ha.1.k hj.1, hb.1.k hj.2⟩
  rw [e2] at e; injection e with e; subst e
  exact ⟨e2, h⟩
theorem negq_R {j : Nat} {a : FQ} {r : Rat} (ha : QR j a r) (hj : j ≤ 1000000000) : F_ref05_Neg a = some (negq a) ∧ QR j (negq a) (-r) := by
  obtain ⟨q, e, h⟩ := R.neg ha hj
  have e2 : F_ref05_Neg a = some (negq a) := gif_pos (ha.1.k hj)
  rw [e2] at e; injection e with e; subst e
  exact ⟨e2, h⟩
theorem QR.up {j k : Nat} {q : FQ} {r : Rat} (h : QR j q r) (hk : j ≤ k) : QR k q r := ⟨h.1.mono hk, h.2⟩
theorem RQ.up {j k : Nat} {q : FQ} (h : RQ j q) (hk : j ≤ k) : RQ k q := h.mono hk
/-- Horner's rule -/
def hv (x : Rat) : List Rat → Rat
  | [] => 0
  | c :: l => hv x l * x + c
theorem R.his' {j k : Nat} {z : FI} {x y u v : Rat} (h1 : QR j z.1 u) (h2 : QR k z.2 v) (hj : j ≤ 1000000000) (hk : k ≤ 1000000000) (e : (x, y) = (u, v)) : F_law06_is (dI (x, y)) z = some true := by
  injection e with e1 e2; subst e1 e2
  rw [F_law06_is, gif_pos ⟨h1.1.k hj, h2.1.k hk⟩, h1.2, h2.2]; simp
theorem small6 (n : Int) (x : NQ) : F_law06_small n x = some (decide ((x.1.2.length : Int) ≤ n ∧ (x.2.length : Int) ≤ n)) := gif_pos trivial
theorem DR.qv {x : NQ} (h : DR x) {m : Nat} (h1 : (x.1.2.length : Int) ≤ m) (h2 : (x.2.length : Int) ≤ m) (hm : 1 ≤ m ∧ m ≤ 1000) : QV (32 * m) x (rv x) ∧ ∃ r, F_law06_q x = some r ∧ QR (32 * m) r (rv x) := by
  have hq := h.qq h1 h2 (by omega)
  exact ⟨QV.of hq (by omega) (by omega) hm.1, _, gif_pos hq, of_rq hq (by omega) (by omega) hm.1, of_v x⟩
end Go.W

set_option linter.unusedVariables false
set_option linter.unusedSimpArgs false
namespace Go.W

end Go.W

set_option linter.unusedVariables false
set_option linter.unusedSimpArgs false
namespace Go.W

theorem Sets_60 {s1 s2 s3 s4 s5} {a b : NI} {q : FI} {L : FQ} {P2 : FQ} {x1 x2 u1 u2 : Rat} {k : Nat} (q2 : QR k q.2 u2) (p2 : QR k P2 x2) (hL : QR k L (rmax x1 u1)) (hk : k ≤ 1000000000) :
    S_law06_IntervalSets_60 s1 s2 s3 s4 s5 (if rmin x2 u2 < rmax x1 u1 then (zI, false) else (dI (rmax x1 u1, rmin x2 u2), true)).2 q (if rmin x2 u2 < rmax x1 u1 then (zI, false) else (dI (rmax x1 u1, rmin x2 u2), true)).1 L P2 = some true := by
  have nz : F_law06_none zI = some true := by
    rw [F_law06_none, gif_pos ⟨zQ_ok.1, zQ_ok.1⟩]
    rw [show rv (zI : NI).1 = 0 from zQ_ok.2]; simp
  have c1 := R.cmp q2 p2 ⟨hk, hk⟩
  have c2 := R.cmp hL q2 ⟨hk, hk⟩
  have c3 := R.cmp hL p2 ⟨hk, hk⟩
  unfold S_law06_IntervalSets_60
  rw [c1, Option.bind_some]
  by_cases h : u2 < x2
  · have hm : rmin x2 u2 = u2 := by unfold rmin; rw [if_pos h]
    rw [if_pos (decide_eq_true (rcm_neg.2 h)), c2, Option.bind_some, hm]
    by_cases h' : u2 < rmax x1 u1
    · rw [if_pos (decide_eq_true (rcm_pos.2 h')), if_pos h']
      show (F_law06_none zI).bind _ = _
      rw [nz]; rfl
    · rw [if_neg (by rw [decide_eq_true_eq]; exact fun z => h' (rcm_pos.1 z)), if_neg h', if_pos rfl, R.his (z := (L, q.2)) hL q2 hk]; rfl
  · have hm : rmin x2 u2 = x2 := by unfold rmin; rw [if_neg h]
    rw [if_neg (by rw [decide_eq_true_eq]; exact fun z => h (rcm_neg.1 z)), c3, Option.bind_some, hm]
    by_cases h' : x2 < rmax x1 u1
    · rw [if_pos (decide_eq_true (rcm_pos.2 h')), if_pos h']
      show (F_law06_none zI).bind _ = _
      rw [nz]; rfl
    · rw [if_neg (by rw [decide_eq_true_eq]; exact fun z => h' (rcm_pos.1 z)), if_neg h', if_pos rfl, R.his (z := (L, P2)) hL p2 hk]; rfl
theorem R.contains {j k : Nat} {p : FI} {q : FQ} {x y z : Rat} (h1 : QR j p.1 x) (h2 : QR j p.2 y) (h3 : QR k q z) (hj : j ≤ 1000000000 ∧ k ≤ 1000000000) : F_ref06_Contains p q = some (decide (x ≤ z ∧ z ≤ y)) := by
  rw [F_ref06_Contains, gif_pos ⟨h1.1.k hj.1, h2.1.k hj.1, h3.1.k hj.2⟩, h1.2, h2.2, h3.2]
theorem Rn_law06_IntervalSets : Run_law06_IntervalSets := fun s1 s2 s3 s4 s5 k1 k2 k3 k4 k5 a b c => Ok.gif fun ⟨hA, hB, hC⟩ => by
  simp only [T_law06_IntervalSets, awake6_some, few6_some, small6, Option.bind_some, Bool.not_true, Bool.false_eq_true, if_false]
  have bad : Ev (fun m => s1 m true a b c) true := by
    refine Ev.step (t := fun _ => some true) (fun m => ?_) Ev.ret
    rw [k1]; unfold S_law06_IntervalSets_8
    rw [if_pos rfl, awake6_some]; rfl
  by_cases hf : (((a.1.1.2.length : Int) ≤ 4 ∧ (a.1.2.length : Int) ≤ 4) ∧ ((a.2.1.2.length : Int) ≤ 4 ∧ (a.2.2.length : Int) ≤ 4) ∧ ((b.1.1.2.length : Int) ≤ 4 ∧ (b.1.2.length : Int) ≤ 4) ∧ (b.2.1.2.length : Int) ≤ 4 ∧ (b.2.2.length : Int) ≤ 4)
  · rw [decide_eq_true hf]
    simp only [Bool.not_true, Bool.false_eq_true, if_false]
    by_cases hg : (c.1.2.length : Int) ≤ 4 ∧ (c.2.length : Int) ≤ 4
    · rw [decide_eq_true hg]
      obtain ⟨⟨f1, f2⟩, ⟨f3, f4⟩, ⟨f5, f6⟩, f7, f8⟩ := hf
      have a1 := hA.1.qq f1 f2 (by omega)
      have a2 := hA.2.qq f3 f4 (by omega)
      have b1 := hB.1.qq f5 f6 (by omega)
      have b2 := hB.2.qq f7 f8 (by omega)
      obtain ⟨p, ep, p1, p2⟩ := of_R (a := a) ⟨a1, a2⟩ (m := 4) (by omega) (by omega) (by omega) (by omega) (by omega)
      obtain ⟨q, eq, q1, q2⟩ := of_R (a := b) ⟨b1, b2⟩ (m := 4) (by omega) (by omega) (by omega) (by omega) (by omega)
      obtain ⟨vc, r, er, r1⟩ := hC.qv (m := 4) hg.1 hg.2 (by omega)
      have va1 := (hA.1.qv (m := 4) f1 f2 (by omega)).1
      have va2 := (hA.2.qv (m := 4) f3 f4 (by omega)).1
      have vb1 := (hB.1.qv (m := 4) f5 f6 (by omega)).1
      have vb2 := (hB.2.qv (m := 4) f7 f8 (by omega)).1
      have la : lo a ≤ hi a := rmin_le_rmax _ _
      have lb : lo b ≤ hi b := rmin_le_rmax _ _
      have hlo : ∀ x : NQ, QV (32 * 4) x (rv x) → QB 128 (rv x) := fun x h => h.2.2
      have bl1 : QB 128 (lo a) := va1.2.2.rmin va2.2.2
      have bh1 : QB 128 (hi a) := va1.2.2.rmax va2.2.2
      have bl2 : QB 128 (lo b) := vb1.2.2.rmin vb2.2.2
      have bh2 : QB 128 (hi b) := vb1.2.2.rmax vb2.2.2
      -- the parts
      have eW : F_interval_Width a = some (dr (hi a - lo a)) := gif_pos ⟨a1, a2, va1.2.2.mono (by decide), va2.2.2.mono (by decide)⟩
      obtain ⟨en, n1⟩ := negq_R p1 (by omega)
      obtain ⟨ea, w1⟩ := addq_R p2 n1 (by omega)
      have eN : F_interval_Normal a = some (dI (lo a, hi a)) := gif_pos ⟨a1, a2⟩
      have eI : F_law06_is (dI (lo a, hi a)) p = some true := R.his p1 p2 (by omega)
      have eP : F_interval_Point c = some (dI (rv c, rv c)) := gif_pos vc.1
      have ePr : F_ref06_Point r = some (r, r) := gif_pos trivial
      have eI2 : F_law06_is (dI (rv c, rv c)) (r, r) = some true := R.his (z := (r, r)) r1 r1 (by omega)
      have eC : F_interval_Contains a c = some (decide (lo a ≤ rv c ∧ rv c ≤ hi a)) := gif_pos ⟨⟨a1, a2⟩, vc.1⟩
      have eC2 := R.contains p1 p2 r1 (by omega)
      have eIs : F_ref05_Is (dr (hi a - lo a)).1.1 (dr (hi a - lo a)).1.2 (dr (hi a - lo a)).2 (addq p.2 (negq p.1)) = some true := by
        rw [F_ref05_Is, gif_pos (w1.1.k (by omega)), w1.2, ← Rat.sub_eq_add_neg]; simp
      have c1 := R.contains q1 q2 p1 (by omega)
      have c2 := R.contains q1 q2 p2 (by omega)
      have hW : F_interval_Within a b = some (decide ((lo b ≤ lo a ∧ lo a ≤ hi b) ∧ lo b ≤ hi a ∧ hi a ≤ hi b)) := by
        rw [F_interval_Within, gif_pos ⟨⟨a1, a2⟩, b1, b2⟩]
        congr 1
        rw [decide_eq_decide]
        have hh : (lo a = rv a.1 ∧ hi a = rv a.2) ∨ (lo a = rv a.2 ∧ hi a = rv a.1) := lohi _ _
        rcases hh with ⟨h1, h2⟩ | ⟨h1, h2⟩ <;> rw [h1, h2]
        exact ⟨fun z => ⟨z.2, z.1⟩, fun z => ⟨z.2, z.1⟩⟩
      have eH : F_interval_Hull a b = some (dI (rmin (lo a) (lo b), rmax (hi a) (hi b))) := gif_pos ⟨⟨a1, a2⟩, b1, b2⟩
      have eRH : F_ref06_Hull [p.1, p.2, q.1, q.2] = some (hullL [p.1, p.2, q.1, q.2]) := gif_pos ⟨by simp, by simp, fun z hz => by
        simp only [List.mem_cons, List.not_mem_nil, or_false] at hz
        rcases hz with rfl | rfl | rfl | rfl
        · exact p1.1.k (by omega)
        · exact p2.1.k (by omega)
        · exact q1.1.k (by omega)
        · exact q2.1.k (by omega)⟩
      have hh := hull4 p1 p2 q1 q2
      have hends : (rmin (lo a) (lo b), rmax (hi a) (hi b)) = (mn4 (lo a) (hi a) (lo b) (hi b), mx4 (lo a) (hi a) (lo b) (hi b)) := by
        unfold mn4 mx4
        rw [(rmin_of_le la).1, (rmin_of_le la).2]
        congr 1
        · unfold rmin; (repeat' split) <;> grind
        · unfold rmax; (repeat' split) <;> grind
      have eI3 : F_law06_is (dI (rmin (lo a) (lo b), rmax (hi a) (hi b))) (hullL [p.1, p.2, q.1, q.2]) = some true := R.his' hh.1 hh.2 (by omega) (by omega) hends
      have eM : F_interval_Meet a b = some (if rmin (hi a) (hi b) < rmax (lo a) (lo b) then (zI, false) else (dI (rmax (lo a) (lo b), rmin (hi a) (hi b)), true)) := gif_pos ⟨⟨a1, a2⟩, b1, b2⟩
      have c4 := R.cmp q1 p1 (by omega)
      -- the ways
      refine Ev.step (t := fun m => s2 m false a b p q) (fun m => ?_) (Ev.step (t := fun m => s3 m (decide ((lo b ≤ lo a ∧ lo a ≤ hi b) ∧ lo b ≤ hi a ∧ hi a ≤ hi b)) a b p q) (fun m => ?_) (Ev.step (t := fun m => s4 m false a b p q) (fun m => ?_)
        (Ev.step (t := fun m => s5 m (if rmin (hi a) (hi b) < rmax (lo a) (lo b) then (zI, false) else (dI (rmax (lo a) (lo b), rmin (hi a) (hi b)), true)).2 q (if rmin (hi a) (hi b) < rmax (lo a) (lo b) then (zI, false) else (dI (rmax (lo a) (lo b), rmin (hi a) (hi b)), true)).1 (if lo a < lo b then q.1 else p.1) p.2) (fun m => ?_) (Ev.step (t := fun _ => some true) (fun m => ?_) Ev.ret))))
      · rw [k1]; unfold S_law06_IntervalSets_8
        simp only [ep, eq, eW, en, ea, eN, eI, eP, er, ePr, eI2, eC, eC2, eIs, Option.bind_some, Bool.not_true, Bool.false_eq_true, if_false, beq_self_eq_true]
      · rw [k2]; unfold S_law06_IntervalSets_28
        rw [if_neg (by simp), c1, Option.bind_some]
        by_cases h : lo b ≤ lo a ∧ lo a ≤ hi b
        · rw [if_pos (decide_eq_true h), c2, Option.bind_some]
          congr 1; rw [decide_eq_decide]; exact ⟨fun z => ⟨h, z⟩, fun z => z.2⟩
        · rw [if_neg (by rw [decide_eq_true_eq]; exact h), decide_eq_false (fun z => h z.1)]
      · rw [k3]; unfold S_law06_IntervalSets_36
        rw [hW, Option.bind_some, if_neg (by simp)]
        simp only [eH, eRH, eI3, Option.bind_some, Bool.not_true]
      · rw [k4]; unfold S_law06_IntervalSets_40
        rw [if_neg (by simp), eM, Option.bind_some, c4, Option.bind_some]
        by_cases h : lo a < lo b
        · rw [if_pos (decide_eq_true (rcm_pos.2 h)), if_pos h]
        · rw [if_neg (by rw [decide_eq_true_eq]; exact fun z => h (rcm_pos.1 z)), if_neg h]
      · rw [k5]
        have hL : QR (32 * 4) (if lo a < lo b then q.1 else p.1) (rmax (lo a) (lo b)) := by unfold rmax; split <;> assumption
        exact Sets_60 (a := a) (b := b) q2 p2 hL (by omega)
    · rw [decide_eq_false hg]; exact bad
  · rw [decide_eq_false hf]; exact bad
end Go.W

set_option linter.unusedVariables false
set_option linter.unusedSimpArgs false
namespace Go.W
open Go.Proofs Go.Shelf Go.RowKit Go.Lib Go.Sort

abbrev encU : Int → Value := fun x => Value.int .u8 x

set_option maxHeartbeats 1600000 in
set_option maxRecDepth 1000000 in
theorem reverse_arr (blk off cap : Nat) (d : Array Int) (w : World) (hH : Holds encU w blk off d) (hsz : d.size ≤ 9223372036854775807) :
    Calls Tryz.prog 109 #[.slice (some ⟨blk, off, none⟩) d.size cap] w fun e w' => e = .returned (.tuple #[]) ∧ ∃ n, w' = putRow encU (Sort.ahead w n) blk off d.reverse := by
  have mixed : Tryz.prog.follows .mixedOrders = true := by kernel_rfl
  go_enter Tryz.func109, Tryz.ntmps109
  go_wp2
  go_loopg [2, 3] d.size (fun k s2 s3 wr => ∃ (i jn : Nat) (jz : Int) (dk : Array Int) (n : Nat), s2 = .int .i64 i ∧ s3 = .int .i64 jz ∧ ((i : Int) < jz → jz = jn ∧ jn < d.size) ∧ (¬ (i : Int) < jz → ¬ i < jn) ∧ jn - i ≤ k ∧
    dk.size = d.size ∧ wr = putRow encU (Sort.ahead w n) blk off dk ∧ reverseLoop i jn dk = reverseLoop 0 (d.size - 1) d)
  case atStart => exact ⟨0, d.size - 1, (d.size : Int) - 1, d, 0, rfl, rfl, fun h => ⟨by omega, by omega⟩, fun h => by omega, by omega, rfl, (putRow_self encU w blk off d hH).symm, rfl⟩
  case round =>
    obtain ⟨i, jn, jz, dk, n, rfl, rfl, h1, h2, hk, hds, hwr, heq⟩ := hrel
    by_cases hlt : (i : Int) < jz
    · obtain ⟨rfl, hjn⟩ := h1 hlt
      have hij : i < jn := by omega
      have hHk : Holds encU wr blk off dk := by rw [hwr]; exact holds_putRow encU _ blk off d dk (holds_ahead encU w n blk off d hH) hds
      obtain ⟨ci, fi⟩ := hHk i (by omega)
      obtain ⟨cj, fj⟩ := hHk jn (by omega)
      have A : Aside (wr = putRow encU (Sort.ahead w n) blk off dk) := hwr
      clear hwr hHk hH h1 h2
      go_wp2_with fail
      go_region_o
      go_wp2
      go_roundg (jn - 1 - (i + 1))
      case measure => omega
      case rel =>
        rw [reverseLoop, if_pos hij] at heq
        exact ⟨i + 1, jn - 1, (jn : Int) - 1, swp dk i jn, n + 1, by simp, rfl, fun h => ⟨by omega, by omega⟩, fun h => by omega, Nat.le_refl _, by rw [size_swp]; exact hds,
          swap_world encU (by omega) (by omega) A.out (by first | rfl | simp [encU, getElem!_pos, show jn < dk.size by omega]) (by first | rfl | simp [encU, getElem!_pos, show i < dk.size by omega]), heq⟩
    · have hnot := h2 hlt
      go_wp2
      go_end0
      refine ⟨rfl, n, ?_⟩
      rw [reverseLoop, if_neg hnot] at heq
      rw [← Lib.reverseLoop_reverse, ← heq]

set_option maxHeartbeats 1000000 in
theorem reverse_empty (a : Option Addr) (cap : Nat) (w : World) :
    Calls Tryz.prog 109 #[.slice a 0 cap] w fun e w' => e = .returned (.tuple #[]) ∧ w' = w := by
  have mixed : Tryz.prog.follows .mixedOrders = true := by kernel_rfl
  go_enter Tryz.func109, Tryz.ntmps109
  go_wp2
  go_loopg [2, 3] 0 (fun _ s2 s3 wr => s2 = .int .i64 0 ∧ s3 = .int .i64 (-1) ∧ wr = w)
  case atStart => exact ⟨rfl, rfl, rfl⟩
  case round =>
    obtain ⟨rfl, rfl, rfl⟩ := hrel
    go_wp2
    go_end0
    exact ⟨rfl, rfl⟩

theorem heap_putRow {α : Type} [Inhabited α] (enc : α → Value) (w : World) (blk off : Nat) (d : Array α) (g : Nat) : (putRow enc w blk off d).heap[g]? = if g = blk then (w.heap[g]?).map fun o => match o with
    | .cells c eT fr => .cells (putCells enc off d c) eT fr
    | o => o else w.heap[g]? := by
  unfold putRow mapBlock
  simp only [Array.getElem?_modify]
  split
  · rename_i h; subst h; simp
    cases w.heap[blk]? with
    | none => rfl
    | some o => cases o <;> rfl
  · rename_i h; rw [if_neg (fun e => h e.symm)]

theorem os_slices_Reverse : OSound Tryz.prog 109 [] false (.int .u8) .unit (fun τ l => O_slices_Reverse l) := by
  intro τ l r hr w ok mg vs v hok hmg hargs hbr hv
  have hvs : vs = [] := hargs
  subst hvs
  change gif (l.length ≤ 8796093022208) (l.reverse, ()) = some r at hr
  unfold gif at hr
  split at hr
  · rename_i hl
    injection hr with hr
    subst hr
    obtain ⟨ob, hob, hv⟩ := hv
    have hob' : ob = some ⟨.int .u8, l, false⟩ := by
      simp only [ownPV, lk_cons, if_true] at hob
      injection hob with hob; exact hob.symm
    obtain ⟨A, cap, rfl, hcap, hv⟩ := hv _ hob'
    simp only [toL] at hv hcap hbr
    simp only [List.nil_append, toL]
    have fin : ∀ w', Fr (fun g => mg = some g) w w' → BRep w' (fun g => (ok g ∨ w.heap.size ≤ g) ∧ g < w'.heap.size ∧ mg ≠ some g) mg ⟨.int .u8, l.reverse, false⟩ →
        ∃ xs, Ending.returned (.tuple #[]) = .returned (retV xs) ∧ Fr (fun g => mg = some g) w w' ∧ BRep w' (fun g => (ok g ∨ w.heap.size ≤ g) ∧ g < w'.heap.size ∧ mg ≠ some g) mg ⟨.int .u8, l.reverse, false⟩ ∧
      xs.length = (resO (.int .u8) 20000 .unit ()).length ∧
      ∀ (j : Nat) p u, (resO (.int .u8) 20000 .unit ())[j]? = some p → xs[j]? = some u → RepPV (fun g => ok g ∨ mg = some g ∨ w.heap.size ≤ g) w' (fun _ => mg) (lk [(20000, some ⟨.int .u8, l.reverse, false⟩)]) p u :=
      fun w' h1 h2 => ⟨[], rfl, h1, h2, rfl, fun j p u hj => by simp [resO] at hj⟩
    by_cases hz : l = []
    · subst hz
      refine (reverse_empty A cap w).mono fun x w' ⟨hx, hw⟩ => ?_
      subst hx hw
      refine fin _ (.refl _ _) ?_
      unfold BRep at hbr ⊢
      cases mg with
      | none => rfl
      | some g =>
        obtain ⟨c, eT, h1, h2, h3⟩ := hbr
        exact ⟨c, eT, h1, h2, fun i h => by simp at h⟩
    · have hpos : 0 < l.length := List.length_pos_iff.mpr hz
      cases mg with
      | none => exact absurd hbr hz
      | some g =>
        obtain ⟨o, rfl, h0, _, _⟩ := hv
        obtain rfl := h0 trivial
        obtain ⟨c, eT, hg, hsz, hc⟩ := hbr
        simp only [Ty.size, Nat.mul_one] at hsz hc
        have hcell : ∀ i, i < l.length → c[i]? = some (.int .u8 (l.getD i 0)) := fun i hi => by
          obtain ⟨es, he, hj⟩ := hc i hi
          have he : es = [.int .u8 l[i]] := he
          have := hj 0 _ (by rw [he]; rfl)
          simp only [Nat.add_zero] at this
          rw [this]; simp [List.getD, hi]
        have hH : Holds encU w g 0 l.toArray := fun j hj => by
          have hj' : j < l.length := by simpa using hj
          have hjc : j < c.size := by omega
          have h1 := hcell j hj'
          constructor
          · simp [World.cell?, hg, h1, encU, List.getD, hj']
          · simp [World.frozen?, hg]
        have hs : (Value.slice (some ⟨g, 0, none⟩) l.length cap) = .slice (some ⟨g, 0, none⟩) l.toArray.size cap := by simp
        rw [hs]
        refine (reverse_arr g 0 cap l.toArray w hH (by simp; omega)).mono fun x w' ⟨hx, n, hw⟩ => ?_
        subst hx
        have hhp : ∀ k, w'.heap[k]? = if k = g then some (.cells (putCells encU 0 l.toArray.reverse c) eT (0, 0)) else w.heap[k]? := fun k => by
          rw [hw, heap_putRow]
          split
          · rename_i h; subst h
            rw [heap_ahead, hg]; rfl
          · rfl
        have hpc : (putCells encU 0 l.toArray.reverse c).size = c.size := by simp [putCells]
        refine fin w' ⟨by rw [hw]; rfl, by rw [hw]; rfl, by rw [hw]; rfl, by rw [hw, size_putRow]; exact Nat.le_refl _, fun k hk hn => ?_, fun k c' eT' fr' hk hc' => ?_⟩ ?_
        · rw [hhp, if_neg]; intro e; exact hn (by rw [e])
        · rw [hhp] at hc'
          split at hc'
          · rename_i h; subst h
            injection hc' with hc'; injection hc' with e1 e2 e3
            exact ⟨c, eT, (0,0), hg, by rw [← e1, hpc]; exact Nat.le_refl _⟩
          · exact ⟨c', eT', fr', hc', Nat.le_refl _⟩
        · refine ⟨_, eT, by rw [hhp, if_pos rfl], by rw [hpc]; simpa [Ty.size] using hsz, fun i hi => ⟨[.int .u8 l.reverse[i]], rfl, fun j v hj => ?_⟩⟩
          have hi' : i < l.length := by simpa using hi
          cases j with
          | zero =>
            simp only [List.getElem?_cons_zero, Option.some.injEq] at hj
            subst hj
            have hic : i < c.size := by omega
            simp [Ty.size, putCells, hic, hi', encU]
          | succ j => simp at hj
  · cases hr
end Go.W

