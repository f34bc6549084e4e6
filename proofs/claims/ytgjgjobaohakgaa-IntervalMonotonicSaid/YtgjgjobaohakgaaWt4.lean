/- A part of the proof: texts P12, P13, P14, P15, P16, Sp2, Sp3, Sp4, Df2, P17, P18, P19, P20, Sp5, Df3, P21, P24, P25. What is proved in the end stands in the last file. -/
import Derived.Test.YtgjgjobaohakgaaWt3
set_option linter.unusedVariables false
set_option linter.unusedSimpArgs false
set_option linter.unusedSectionVars false
set_option linter.unusedVariables false
set_option linter.unusedSimpArgs false
namespace Go.W

/-! ### fractions -/
theorem divInt_eq0 {n d : Int} (hd : 0 < d) : Rat.divInt n d = 0 ↔ n = 0 := by
  constructor
  · intro h
    rw [← Rat.zero_divInt d, Rat.divInt_eq_divInt_iff (by omega) (by omega)] at h
    have : n * d = 0 := by omega
    rcases Int.mul_eq_zero.1 this with h | h
    · exact h
    · omega
  · intro h; rw [h, Rat.zero_divInt]
theorem dr_div {n d : Int} (hd : 0 < d) : dr (Rat.divInt n d) = (di (n / (Int.gcd n d : Int)), dn (d / (Int.gcd n d : Int))) := by
  unfold dr
  rw [Rat.num_divInt, Rat.den_divInt, if_neg (by omega), Int.sign_eq_one_of_pos hd, Int.one_mul, Int.gcd_comm d n]
  congr 2
  rw [Int.natCast_ediv]
  congr 1; omega
theorem num_div {n d : Int} (hd : 0 < d) : (Rat.divInt n d).num = n / (Int.gcd n d : Int) := by
  rw [Rat.num_divInt, Int.sign_eq_one_of_pos hd, Int.one_mul, Int.gcd_comm d n]
theorem den_div {n d : Int} (hd : 0 < d) : ((Rat.divInt n d).den : Int) = d / (Int.gcd n d : Int) := by
  rw [Rat.den_divInt, if_neg (by omega), Int.gcd_comm d n, Int.natCast_ediv]
  congr 1; omega
theorem divInt_le {n d m e : Int} (hd : 0 < d) (he : 0 < e) : Rat.divInt n d ≤ Rat.divInt m e ↔ n * e ≤ m * d := by
  rw [Rat.le_iff_sub_nonneg, Rat.divInt_sub_divInt _ _ (by omega) (by omega), Rat.divInt_nonneg_iff_of_pos_right (Int.mul_pos he hd)]
  omega
theorem divInt_lt {n d m e : Int} (hd : 0 < d) (he : 0 < e) : Rat.divInt n d < Rat.divInt m e ↔ n * e < m * d := by
  rw [← Rat.not_le, divInt_le he hd]; omega
theorem divInt_neg0 {n d : Int} (hd : 0 < d) : Rat.divInt n d < 0 ↔ n < 0 := by
  have := divInt_lt (n := n) (m := 0) hd (show (0 : Int) < 1 by decide)
  rw [Rat.zero_divInt] at this
  rw [this]; omega
theorem rsg_div {n d : Int} (hd : 0 < d) : rsg (Rat.divInt n d) = sg n := by
  unfold rsg sg
  simp only [divInt_neg0 hd, divInt_eq0 hd]
theorem rcm_div {n d m e : Int} (hd : 0 < d) (he : 0 < e) : rcm (Rat.divInt n d) (Rat.divInt m e) = cm (n * e) (m * d) := by
  unfold rcm cm
  simp only [divInt_lt hd he, divInt_lt he hd]

/-! ### rational -/
theorem Rn_rational_one : Run_rational_one := Ok.gif_const fun _ => by
  rw [T_rational_one, F_natural_Of, gif_bind (p := Bd 64 1) (by rw [Bd64]; omega)]
theorem Rn_rational_isOne : Run_rational_isOne := fun a => Ok.gif_const fun h => by
  have h0 : 0 ≤ nv a := gv_nonneg (by decide) (by rw [h]; exact gd_DV (by decide) _)
  rw [T_rational_isOne]
  by_cases h1 : a.length = 1
  · obtain ⟨x, rfl⟩ : ∃ x, a = [x] := by
      match a, h1 with
      | [x], _ => exact ⟨x, rfl⟩
    rw [if_pos (by simp), if_pos (by simp)]
    simp [nv, gv]
    rfl
  · rw [if_neg (by simp; omega)]
    congr 1
    rw [eq_comm, decide_eq_false_iff_not]
    intro hv
    rw [hv] at h
    rw [h] at h1
    have e : dn 1 = [1] := by
      have : dn 1 = 1 % 4294967296 :: dn (1 / 4294967296) := gd_pos (by decide) (by decide)
      rw [this, show (1 : Int) / 4294967296 = 0 by decide, dn_zero]; rfl
    rw [e] at h1
    simp at h1
theorem isOne_bind {σ : Type} {n : Int} (h : 0 ≤ n) {k : Bool → Option σ} : (F_rational_isOne (dn n)).bind k = k (decide (n = 1)) := by
  rw [F_rational_isOne, gif_bind (dn_norm h), nv_dn h]
theorem dr_zero : dr 0 = ((false, []), dn 1) := by
  unfold dr
  rw [show (0 : Rat).num = 0 from rfl, di_zero]; rfl
theorem Rn_rational_made : Run_rational_made := fun s hs n d => Ok.gif fun ⟨hn, hd⟩ => by
  have nd := hd.nonneg
  have na := NN.nonneg hn
  simp only [T_rational_made, F_natural_Normal, gif_bind hd, F_natural_IsZero, gif_bind (show NN n.2 from hn)]
  have zero : ∀ z, Ev (fun m => s m true (dn (nv d)) n z) (dr 0) := fun z => by
    refine Ev.step (t := fun _ => some (dr 0)) (fun m => ?_) Ev.ret
    rw [hs]; unfold S_rational_made_12
    rw [if_pos rfl, F_rational_one, gif_bind trivial, dr_zero]
  by_cases h0 : nv d = 0
  · simp only [h0, dn_zero, if_true]
    have := zero ((false, []), [])
    rw [h0, dn_zero] at this
    exact this
  have hl : (((dn (nv d)).length : Int) == 0) = false := by
    have : dn (nv d) ≠ [] := fun h => by have := dn_nil.1 h; omega
    simp; exact this
  simp only [hl, if_neg h0, Bool.false_eq_true, if_false]
  by_cases h1 : nv n.2 = 0
  · rw [(iv_zero hn).2 h1, Rat.zero_divInt]
    simp only [h1, decide_true]
    exact zero _
  simp only [h1, decide_false]
  have hdn : NN (dn (nv d)) := NN.dn hd.big (Nat.le_refl _)
  have vd : nv (dn (nv d)) = nv d := nv_dn nd
  refine Ev.step (t := fun _ => some (dr (Rat.divInt (iv n) (nv d)))) (fun m => ?_) Ev.ret
  rw [hs, S_rational_made_12, if_neg (show ¬ (false = true) by decide)]
  rw [isOne_bind nd, dr_div (by omega)]
  by_cases h2 : nv d = 1
  · rw [if_pos (decide_eq_true h2), F_integer_Normal, gif_bind hn, h2, Int.gcd_one]
    simp
  · have hdpos : 0 < nv d := by omega
    have hivd : iv (false, dn (nv d)) = nv d := by unfold iv; simp [vd]
    have hIId : II (di (nv d)) := II.di (k := 2199023255552) (by rw [show ab (nv d) = nv d by unfold ab; rw [if_neg (by omega)]]; exact hd.big) (Nat.le_refl _)
    rw [if_neg (by simpa using h2), From_bind hdn, hivd, F_division_Gcd, gif_bind ⟨hn, hIId⟩, iv_di]
    have hg0 : 0 < (Int.gcd (iv n) (nv d) : Int) := by
      have : Int.gcd (iv n) (nv d) ≠ 0 := fun h => by have := (Int.gcd_eq_zero_iff.1 h).2; omega
      omega
    have hgn := Int.gcd_dvd_left (a := iv n) (b := nv d)
    have hgd := Int.gcd_dvd_right (a := iv n) (b := nv d)
    have hgle : (Int.gcd (iv n) (nv d) : Int) ≤ nv d := Int.le_of_dvd hdpos hgd
    generalize (Int.gcd (iv n) (nv d) : Int) = g at *
    have hIIg : II (di g) := II.di (k := 2199023255552) (by rw [show ab g = g by unfold ab; rw [if_neg (by omega)]]; exact hd.big.le (by omega) hgle) (Nat.le_refl _)
    have hdg : (di g).2 = dn g := by unfold di; rw [show ab g = g by unfold ab; rw [if_neg (by omega)]]
    rw [hdg, isOne_bind (by omega)]
    by_cases h3 : g = 1
    · rw [if_pos (decide_eq_true h3), F_integer_Normal, gif_bind hn, h3]
      simp
    · rw [if_neg (by simpa using h3), F_division_Exact, gif_bind ⟨hn, hIIg⟩, F_division_Exact, gif_bind ⟨hIId, hIIg⟩]
      simp only [iv_di, show ¬ (g = 0) by omega, if_false, Int.tmod_eq_zero_of_dvd hgn, Int.tmod_eq_zero_of_dvd hgd, if_true, Int.tdiv_eq_ediv_of_dvd hgn, Int.tdiv_eq_ediv_of_dvd hgd]
      have : (di (nv d / g)).2 = dn (nv d / g) := by
        unfold di; rw [show ab (nv d / g) = nv d / g by unfold ab; rw [if_neg (by have := Int.ediv_nonneg nd (show 0 ≤ g by omega); omega)]]
      rw [this]
theorem made_div {σ : Type} {n : Bool × List Int} {d : List Int} (hn : II n) (hd : NN d) (h0 : 0 < nv d) {k : ((Bool × List Int) × List Int) → Option σ} : (F_rational_made n d).bind k = k (dr (Rat.divInt (iv n) (nv d))) := by
  rw [F_rational_made, gif_bind ⟨hn, hd⟩, if_neg (by omega)]

/-! ### sizes of fractions -/
theorem QD.nn {a : List Int} (h : QD a) : NN a := ⟨h.1, by have := h.2; omega⟩
theorem QD.bd {a : List Int} (h : QD a) : Bd 33554432 (nv a) := h.nn.val.mono (by have := h.2; omega)
theorem QD.dn {k : Nat} {n : Int} (h : Bd k n) (hk : k ≤ 33554432) : QD (Go.W.dn n) := ⟨gd_DV (by decide) n, dn_len (h.mono hk).2⟩
theorem QQ.i {q : (Bool × List Int) × List Int} (h : QQ q) : II q.1 := h.1.nn
theorem QQ.d {q : (Bool × List Int) × List Int} (h : QQ q) : NN q.2 := h.2.nn
theorem rd_pos {q : (Bool × List Int) × List Int} (h : QQ q) : 0 < rd q := by
  have := h.d.nonneg
  unfold rd; split <;> omega
theorem one_bd : Bd 33554432 1 := Bd.mono (j := 1) (by rw [Bd1]; omega) (by omega)
theorem rd_bd {q : (Bool × List Int) × List Int} (h : QQ q) : Bd 33554432 (rd q) := by
  unfold rd; split
  · exact one_bd
  · exact h.2.bd
theorem rn_bd {q : (Bool × List Int) × List Int} (h : QQ q) : Bd 33554432 (ab (rn q)) := by
  unfold rn; split
  · exact Bd.zero _
  · rw [iv_ab h.i]; exact h.1.bd
theorem QQ.dr {k : Nat} {r : Rat} (h : QB k r) (hk : k ≤ 33554432) : QQ (Go.W.dr r) := ⟨QD.dn h.1 hk, QD.dn h.2 hk⟩
theorem nv_den (r : Rat) : nv (dn r.den) = r.den := nv_dn (by omega)
theorem rn_dr (r : Rat) : rn (dr r) = r.num := by
  unfold rn dr
  dsimp only
  rw [nv_den, if_neg (by have := r.den_pos; omega), iv_di]
theorem rd_dr (r : Rat) : rd (dr r) = r.den := by
  unfold rd dr
  dsimp only
  rw [nv_den, if_neg (by have := r.den_pos; omega)]
theorem rv_dr (r : Rat) : rv (dr r) = r := by
  unfold rv
  rw [rn_dr, rd_dr, Rat.num_divInt_den]
theorem dr_inj {a b : Rat} (h : dr a = dr b) : a = b := by rw [← rv_dr a, ← rv_dr b, h]
theorem QB.mono {j k : Nat} {r : Rat} (h : QB j r) (hk : j ≤ k) : QB k r := ⟨h.1.mono hk, h.2.mono hk⟩
theorem ab_ediv_le (x : Int) {g : Int} (hg : 0 < g) (h : g ∣ x) : ab (x / g) ≤ ab x := by
  rw [← Int.tdiv_eq_ediv_of_dvd h]
  exact ab_tdiv_le x g
theorem QB.div {j k : Nat} {n d : Int} (hn : Bd j (ab n)) (hd : Bd k d) (h0 : 0 < d) : QB (max j k) (Rat.divInt n d) := by
  have hg0 : 0 < (Int.gcd n d : Int) := by
    have : Int.gcd n d ≠ 0 := fun h => by have := (Int.gcd_eq_zero_iff.1 h).2; omega
    omega
  constructor
  · rw [num_div h0]
    exact (hn.le (ab_nonneg _) (ab_ediv_le n hg0 (Int.gcd_dvd_left n d))).mono (Nat.le_max_left _ _)
  · rw [den_div h0]
    exact (hd.div (by omega)).mono (Nat.le_max_right _ _)
theorem QB.rv {q : (Bool × List Int) × List Int} (h : QQ q) : QB 33554432 (Go.W.rv q) := QB.mono (QB.div (rn_bd h) (rd_bd h) (rd_pos h)) (by simp)
theorem QB.as (r : Rat) : r = Rat.divInt r.num r.den := (Rat.num_divInt_den r).symm
theorem QB.add {j k : Nat} {a b : Rat} (ha : QB j a) (hb : QB k b) : QB (j + k + 1) (a + b) := by
  have h1 := a.den_pos
  have h2 := b.den_pos
  rw [QB.as a, QB.as b, Rat.divInt_add_divInt _ _ (by omega) (by omega)]
  refine QB.mono (QB.div ((ha.1.ab_mul (hb.2.le (ab_nonneg _) (by unfold ab; split <;> omega))).ab_add (hb.1.ab_mul (ha.2.le (ab_nonneg _) (by unfold ab; split <;> omega)))) (ha.2.mul hb.2) (Int.mul_pos (by omega) (by omega))) (by omega)
theorem QB.mul {j k : Nat} {a b : Rat} (ha : QB j a) (hb : QB k b) : QB (j + k) (a * b) := by
  have h1 := a.den_pos
  have h2 := b.den_pos
  rw [QB.as a, QB.as b, Rat.divInt_mul_divInt]
  exact QB.mono (QB.div (ha.1.ab_mul hb.1) (ha.2.mul hb.2) (Int.mul_pos (by omega) (by omega))) (by omega)
theorem QB.neg {k : Nat} {a : Rat} (ha : QB k a) : QB k (-a) := by
  constructor
  · rw [Rat.neg_num, ab_neg]; exact ha.1
  · rw [Rat.neg_den]; exact ha.2
theorem QB.sub {j k : Nat} {a b : Rat} (ha : QB j a) (hb : QB k b) : QB (j + k + 1) (a - b) := by
  rw [Rat.sub_eq_add_neg]; exact ha.add hb.neg
theorem QB.inv {k : Nat} {a : Rat} (ha : QB k a) (h0 : a ≠ 0) : QB k a⁻¹ := by
  have hn : a.num ≠ 0 := fun h => h0 (by rw [QB.as a, h, Rat.zero_divInt])
  have hp := a.den_pos
  have e : a⁻¹ = if 0 < a.num then Rat.divInt a.den a.num else Rat.divInt (-a.den) (-a.num) := by
    rw [Rat.inv_def]
    split
    · rfl
    · rw [Rat.neg_divInt_neg]
  rw [e]
  have hd := ha.2
  have hN := ha.1
  split
  · rename_i h
    exact QB.mono (QB.div (hd.le (ab_nonneg _) (by unfold ab; split <;> omega)) (by rwa [show ab a.num = a.num by unfold ab; rw [if_neg (by omega)]] at hN) h) (by omega)
  · rename_i h
    exact QB.mono (QB.div (hd.le (ab_nonneg _) (by unfold ab; split <;> omega)) (by rwa [show ab a.num = -a.num by unfold ab; rw [if_pos (by omega)]] at hN) (by omega)) (by omega)
theorem QB.int {k : Nat} {n : Int} (h : Bd k (ab n)) (hk : 1 ≤ k) : QB k (n : Rat) := by
  constructor
  · rw [Rat.num_intCast]; exact h
  · rw [Rat.den_intCast]; exact Bd.mono (j := 1) (by rw [show ((1 : Nat) : Int) = 1 from rfl, Bd1]; omega) hk
theorem QB.pow {k : Nat} {a : Rat} (ha : QB k a) (n : Nat) : QB (k * n + 1) (a ^ n) := by
  constructor
  · rw [Rat.num_pow, ab_pow]; exact ha.1.pow n
  · rw [Rat.den_pow, Int.natCast_pow]; exact ha.2.pow n
end Go.W

set_option linter.unusedVariables false
set_option linter.unusedSimpArgs false
namespace Go.W

theorem parts_ok {a : (Bool × List Int) × List Int} (h : QQ a) : ∃ p : (Bool × List Int) × Bool × List Int, F_rational_parts a = some p ∧ II p.1 ∧ II p.2 ∧ iv p.1 = rn a ∧ iv p.2 = rd a ∧ NN p.2.2 ∧ nv p.2.2 = rd a := by
  refine ⟨_, gif_pos h, ?_⟩
  unfold rn rd
  split
  · have h1 : Bd 1 (ab 1) := by simp [ab]; rw [Bd1]; omega
    have h2 : (di 1).2 = dn 1 := rfl
    refine ⟨NN.nil, II.di h1 (by omega), rfl, iv_di 1, ?_, ?_⟩
    · rw [h2]; exact NN.dn (k := 1) (by rw [Bd1]; omega) (by omega)
    · rw [h2]; exact nv_dn (by omega)
  · exact ⟨h.i, h.d, rfl, by unfold iv; simp, h.d, rfl⟩
theorem Rn_rational_parts : Run_rational_parts := fun a => Ok.gif_const fun h => by
  rw [T_rational_parts, F_natural_IsZero, gif_bind h.d]
  by_cases h0 : nv a.2 = 0
  · rw [if_pos (decide_eq_true h0), if_pos h0, F_integer_Of, gif_bind (by omega)]
  · rw [if_neg (by simpa using h0), if_neg h0]
theorem dr_int (n : Int) : dr (n : Rat) = (di n, dn 1) := by
  unfold dr; rw [Rat.num_intCast, Rat.den_intCast]; rfl
theorem Rn_rational_Of : Run_rational_Of := fun n => Ok.gif_const fun h => by
  rw [T_rational_Of, F_integer_Of, gif_bind h, F_rational_one, gif_bind trivial, dr_int]
theorem Rn_rational_From : Run_rational_From := fun n => Ok.gif_const fun h => by
  rw [T_rational_From, F_integer_Normal, gif_bind h, F_rational_one, gif_bind trivial, dr_int]
theorem II.neg {a : Bool × List Int} (h : II a) : II (Go.W.di (-(iv a))) := h.di_le (by rw [ab_neg]; exact Int.le_refl _)
theorem Rn_rational_Make : Run_rational_Make := fun n d => Ok.gif_const fun ⟨hn, hd⟩ => by
  have nd := NN.nonneg hd
  rw [T_rational_Make, F_natural_IsZero, gif_bind (p := NN d.2) hd]
  by_cases h0 : iv d = 0
  · rw [if_pos (decide_eq_true ((iv_zero hd).1 h0)), if_pos h0]
  · have hn0 : nv d.2 ≠ 0 := fun h => h0 ((iv_zero hd).2 h)
    rw [if_neg (by simpa using hn0), if_neg h0]
    by_cases h1 : d.1 = true
    · rw [if_pos h1, F_integer_Neg, gif_bind hn, made_div hn.neg hd (by omega), iv_di]
      have : iv d = -(nv d.2) := by unfold iv; rw [if_pos h1]
      rw [this, ← Rat.divInt_neg']
    · rw [if_neg h1, made_div hn hd (by omega)]
      have : iv d = nv d.2 := by unfold iv; rw [if_neg h1]
      rw [this]
theorem rv_eq (a : (Bool × List Int) × List Int) : rv a = if nv a.2 = 0 then 0 else Rat.divInt (iv a.1) (nv a.2) := by
  unfold rv rn rd
  split
  · rw [Rat.zero_divInt]
  · rfl
theorem Rn_rational_Normal : Run_rational_Normal := fun a => Ok.gif_const fun h => by
  rw [T_rational_Normal, F_rational_made, gif_bind ⟨h.i, h.d⟩, rv_eq]
theorem Rn_rational_Sign : Run_rational_Sign := fun a => Ok.gif_const fun h => by
  obtain ⟨p, hp, h1, h2, h3, h4, _⟩ := parts_ok h
  rw [T_rational_Sign, hp, Option.bind_some, F_integer_Sign, gif_bind h1, h3, rv, rsg_div (rd_pos h)]
theorem Rn_rational_Neg : Run_rational_Neg := fun a => Ok.gif_const fun h => by
  have nd := h.d.nonneg
  rw [T_rational_Neg, F_integer_Neg, gif_bind h.i, F_rational_made, gif_bind ⟨h.i.neg, h.d⟩, iv_di, rv_eq]
  split
  · simp
  · rw [Rat.neg_divInt]
theorem Rn_rational_Abs : Run_rational_Abs := fun a => Ok.gif_const fun h => by
  have nd := h.d.nonneg
  have hII : II (di (ab (iv a.1))) := h.i.di_le (by unfold ab; (repeat' split) <;> omega)
  rw [T_rational_Abs, F_integer_Abs, gif_bind h.i, F_rational_made, gif_bind ⟨hII, h.d⟩, iv_di, rv_eq]
  congr 2
  by_cases h0 : nv a.2 = 0
  · simp [h0]
  · simp only [if_neg h0, divInt_neg0 (show 0 < nv a.2 by omega)]
    unfold ab
    split
    · rw [Rat.neg_divInt]
    · rfl
theorem two25 : 33554432 + 33554432 ≤ 2199023255552 := by omega
theorem Rn_rational_Add : Run_rational_Add := fun a b => Ok.gif_const fun ⟨ha, hb⟩ => by
  obtain ⟨p, hp, p1, p2, p3, p4, p5, p6⟩ := parts_ok ha
  obtain ⟨q, hq, q1, q2, q3, q4, q5, q6⟩ := parts_ok hb
  have da := rd_pos ha
  have db := rd_pos hb
  have B1 : Bd (33554432 + 33554432) (ab (rn a * rd b)) := (rn_bd ha).ab_mul (by rw [show ab (rd b) = rd b by unfold ab; rw [if_neg (by omega)]]; exact rd_bd hb)
  have B2 : Bd (33554432 + 33554432) (ab (rn b * rd a)) := (rn_bd hb).ab_mul (by rw [show ab (rd a) = rd a by unfold ab; rw [if_neg (by omega)]]; exact rd_bd ha)
  have B3 := B1.ab_add B2
  have B4 := (rd_bd ha).mul (rd_bd hb)
  have hD := Int.mul_pos da db
  rw [T_rational_Add, hp, Option.bind_some, hq, Option.bind_some, F_integer_Mul, gif_bind ⟨p1, q2⟩, p3, q4, F_integer_Mul, gif_bind ⟨q1, p2⟩, q3, p4, F_integer_Add, gif_bind ⟨II.di B1 (by omega), II.di B2 (by omega)⟩, iv_di, iv_di, F_natural_Mul, gif_bind ⟨p5, q5⟩, p6, q6]
  rw [made_div (II.di B3 (by omega)) (NN.dn B4 (by omega)) (by rw [nv_dn (by omega)]; exact hD), iv_di, nv_dn (by omega)]
  unfold rv
  rw [Rat.divInt_add_divInt _ _ (by omega) (by omega)]
theorem Rn_rational_Mul : Run_rational_Mul := fun a b => Ok.gif_const fun ⟨ha, hb⟩ => by
  obtain ⟨p, hp, p1, p2, p3, p4, p5, p6⟩ := parts_ok ha
  obtain ⟨q, hq, q1, q2, q3, q4, q5, q6⟩ := parts_ok hb
  have da := rd_pos ha
  have db := rd_pos hb
  have B1 := (rn_bd ha).ab_mul (rn_bd hb)
  have B4 := (rd_bd ha).mul (rd_bd hb)
  have hD := Int.mul_pos da db
  rw [T_rational_Mul, hp, Option.bind_some, hq, Option.bind_some, F_integer_Mul, gif_bind ⟨p1, q1⟩, p3, q3, F_natural_Mul, gif_bind ⟨p5, q5⟩, p6, q6]
  rw [made_div (II.di B1 (by omega)) (NN.dn B4 (by omega)) (by rw [nv_dn (by omega)]; exact hD), iv_di, nv_dn (by omega)]
  unfold rv
  rw [Rat.divInt_mul_divInt]
theorem ab_pos {x : Int} (h : 0 ≤ x) : ab x = x := by unfold ab; rw [if_neg (by omega)]
theorem Rn_rational_Quo : Run_rational_Quo := fun a b => Ok.gif_const fun ⟨ha, hb⟩ => by
  obtain ⟨p, hp, p1, p2, p3, p4, p5, p6⟩ := parts_ok ha
  obtain ⟨q, hq, q1, q2, q3, q4, q5, q6⟩ := parts_ok hb
  have da := rd_pos ha
  have db := rd_pos hb
  have B1 := (rn_bd ha).ab_mul (show Bd 33554432 (ab (rd b)) by rw [ab_pos (by omega)]; exact rd_bd hb)
  have B2 := (show Bd 33554432 (ab (rd a)) by rw [ab_pos (by omega)]; exact rd_bd ha).ab_mul (rn_bd hb)
  rw [T_rational_Quo, hp, Option.bind_some, hq, Option.bind_some, F_integer_Mul, gif_bind ⟨p1, q2⟩, p3, q4, F_integer_Mul, gif_bind ⟨p2, q1⟩, p4, q3, F_rational_Make, gif_bind ⟨II.di B1 (by omega), II.di B2 (by omega)⟩, iv_di, iv_di]
  have hz : rv b = 0 ↔ rn b = 0 := divInt_eq0 db
  have hz2 : rd a * rn b = 0 ↔ rn b = 0 := by
    rw [Int.mul_eq_zero]; omega
  by_cases h0 : rn b = 0
  · rw [if_pos (hz2.2 h0), if_pos (hz.2 h0)]
  · rw [if_neg (fun h => h0 (hz2.1 h)), if_neg (fun h => h0 (hz.1 h))]
    congr 3
    unfold rv
    rw [Rat.div_def, Rat.inv_divInt, Rat.divInt_mul_divInt]
theorem Rn_rational_Cmp : Run_rational_Cmp := fun a b => Ok.gif_const fun ⟨ha, hb⟩ => by
  obtain ⟨p, hp, p1, p2, p3, p4, p5, p6⟩ := parts_ok ha
  obtain ⟨q, hq, q1, q2, q3, q4, q5, q6⟩ := parts_ok hb
  have da := rd_pos ha
  have db := rd_pos hb
  have B1 := (rn_bd ha).ab_mul (show Bd 33554432 (ab (rd b)) by rw [ab_pos (by omega)]; exact rd_bd hb)
  have B2 := (rn_bd hb).ab_mul (show Bd 33554432 (ab (rd a)) by rw [ab_pos (by omega)]; exact rd_bd ha)
  rw [T_rational_Cmp, hp, Option.bind_some, hq, Option.bind_some, F_integer_Sign, gif_bind p1, F_integer_Sign, gif_bind q1, p3, q3, F_integer_Mul, gif_bind ⟨p1, q2⟩, p3, q4, F_integer_Mul, gif_bind ⟨q1, p2⟩, q3, p4, F_integer_Cmp, gif_bind ⟨II.di B1 (by omega), II.di B2 (by omega)⟩, iv_di, iv_di]
  unfold rv
  rw [rcm_div da db]
  have s1 : ∀ {x y d e : Int}, 0 < d → 0 < e → sg x < sg y → x * e < y * d := fun {x y d e} hd he h => by
    unfold sg at h
    have a1 : x ≤ 0 := by (repeat' split at h) <;> omega
    have a2 : 0 ≤ y := by (repeat' split at h) <;> omega
    have a3 : x < 0 ∨ 0 < y := by (repeat' split at h) <;> omega
    have b1 : x * e ≤ 0 := Int.mul_nonpos_of_nonpos_of_nonneg a1 (by omega)
    have b2 : 0 ≤ y * d := Int.mul_nonneg a2 (by omega)
    rcases a3 with h1 | h1
    · have := Int.mul_neg_of_neg_of_pos h1 he; omega
    · have := Int.mul_pos h1 hd; omega
  by_cases h0 : sg (rn a) = sg (rn b)
  · rw [if_neg (by simpa using h0)]
  · rw [if_pos (by simpa using h0)]
    by_cases h1 : sg (rn b) < sg (rn a)
    · rw [if_pos (decide_eq_true h1), cm_of_gt (s1 db da h1)]
    · rw [if_neg (by simpa using h1), cm_of_lt (s1 da db (by omega))]
theorem QQ.neg {b : (Bool × List Int) × List Int} (h : QQ b) : QQ (di (-(iv b.1)), b.2) := by
  refine ⟨?_, h.2⟩
  show QD (dn (ab (-(iv b.1))))
  rw [ab_neg, iv_ab h.i]
  exact QD.dn h.1.bd (Nat.le_refl _)
theorem rv_neg {b : (Bool × List Int) × List Int} : rv (di (-(iv b.1)), b.2) = -(rv b) := by
  rw [rv_eq, rv_eq]
  dsimp only
  rw [iv_di]
  split
  · rfl
  · rw [Rat.neg_divInt]
theorem Rn_rational_Sub : Run_rational_Sub := fun a b => Ok.gif_const fun ⟨ha, hb⟩ => by
  rw [T_rational_Sub, F_integer_Neg, gif_bind hb.i, F_rational_Add, gif_bind ⟨ha, hb.neg⟩, rv_neg, Rat.sub_eq_add_neg]
theorem QB.rv' {q : (Bool × List Int) × List Int} (h : QQ q) {m : Nat} (h1 : q.1.2.length ≤ m) (h2 : q.2.length ≤ m) (hm : 1 ≤ m) : QB (32 * m) (Go.W.rv q) := by
  refine QB.mono (QB.div (j := 32 * m) (k := 32 * m) ?_ ?_ (rd_pos h)) (by simp)
  · unfold rn; split
    · exact Bd.zero _
    · rw [iv_ab h.i]; exact h.1.nn.val.mono (by omega)
  · unfold rd; split
    · exact Bd.mono (j := 1) (by rw [Bd1]; omega) (by omega)
    · exact h.2.nn.val.mono (by omega)
theorem half_ok : QQ (di 1, dn 2) ∧ rv (di 1, dn 2) = 1 / 2 := by
  constructor
  · exact ⟨QD.dn (k := 1) (by simp [ab]; rw [Bd1]; omega) (by omega), QD.dn (k := 2) (by constructor <;> decide) (by omega)⟩
  · rw [rv_eq]
    have : nv (dn 2) = 2 := nv_dn (by omega)
    rw [if_neg (by rw [this]; omega), iv_di, this, Rat.divInt_eq_div]
    rfl
theorem Rn_rational_Mid : Run_rational_Mid := fun a b => Ok.gif_const fun ⟨ha, hb, a1, a2, b1, b2⟩ => by
  have hq := (QB.rv' ha a1 a2 (by omega)).add (QB.rv' hb b1 b2 (by omega))
  rw [T_rational_Mid, F_rational_Add, gif_bind ⟨ha, hb⟩, F_integer_Of, gif_bind (by omega), F_natural_Of, gif_bind (p := Bd 64 2) (by rw [Bd64]; omega), F_rational_Mul, gif_bind ⟨QQ.dr hq (by omega), half_ok.1⟩, rv_dr, half_ok.2]
  congr 2
  grind
theorem floor_div {n d : Int} (hd : 0 < d) : (Rat.divInt n d).floor = n / d := by
  have hg0 : 0 < (Int.gcd n d : Int) := by
    have : Int.gcd n d ≠ 0 := fun h => by have := (Int.gcd_eq_zero_iff.1 h).2; omega
    omega
  rw [Rat.floor_def, num_div hd, den_div hd]
  obtain ⟨x, hx⟩ := Int.gcd_dvd_left n d
  obtain ⟨y, hy⟩ := Int.gcd_dvd_right n d
  generalize (Int.gcd n d : Int) = g at *
  subst hx hy
  rw [Int.mul_ediv_cancel_left _ (by omega), Int.mul_ediv_cancel_left _ (by omega), Int.mul_ediv_mul_of_pos _ _ hg0]
theorem Rn_rational_Floor : Run_rational_Floor := fun a => Ok.gif_const fun h => by
  obtain ⟨p, hp, p1, p2, p3, p4, _⟩ := parts_ok h
  have hd := rd_pos h
  rw [T_rational_Floor, hp, Option.bind_some, F_division_Floor, gif_bind ⟨p1, p2⟩, p3, p4, if_neg (by omega), rv, floor_div hd, Int.fdiv_eq_ediv_of_nonneg _ (by omega)]
theorem Rn_rational_Ceil : Run_rational_Ceil := fun a => Ok.gif_const fun h => by
  obtain ⟨p, hp, p1, p2, p3, p4, _⟩ := parts_ok h
  have hd := rd_pos h
  rw [T_rational_Ceil, hp, Option.bind_some, F_integer_Neg, gif_bind p1, p3, F_division_Floor, gif_bind ⟨by rw [← p3]; exact p1.neg, p2⟩, iv_di, p4, if_neg (by omega)]
  have hb : ab (-(rn a) / rd a) ≤ ab (rn a) := by
    unfold ab
    have h1 := Int.emod_add_mul_ediv (-(rn a)) (rd a)
    have h2 := Int.emod_nonneg (-(rn a)) (show rd a ≠ 0 by omega)
    have h3 := Int.emod_lt_of_pos (-(rn a)) hd
    generalize -(rn a) / rd a = q at *
    have : 0 ≤ q → q ≤ rd a * q := fun hq => by
      have : 1 * q ≤ rd a * q := Int.mul_le_mul_of_nonneg_right (by omega) hq
      omega
    have : q < 0 → rd a * q + rd a ≤ q + 1 := fun hq => by
      have h5 : rd a * (q + 1) ≤ 1 * (q + 1) := by
        have := Int.mul_le_mul_of_nonneg_right (show 1 ≤ rd a by omega) (show 0 ≤ -(q + 1) by omega)
        rw [Int.mul_neg, Int.mul_neg] at this
        omega
      rw [Int.mul_add] at h5
      omega
    split <;> split <;> omega
  rw [F_integer_Neg, Int.fdiv_eq_ediv_of_nonneg _ (by omega), gif_bind (by rw [← p3] at hb; rw [← p3]; exact p1.di_le hb), iv_di, rv, Rat.neg_divInt, floor_div hd]
theorem Rn_rational_Integer : Run_rational_Integer := fun a => Ok.gif_const fun h => by
  obtain ⟨p, hp, p1, p2, p3, p4, _⟩ := parts_ok h
  have hd := rd_pos h
  rw [T_rational_Integer, hp, Option.bind_some, F_division_Exact, gif_bind ⟨p1, p2⟩, p3, p4, if_neg (by omega)]
  have hden : (((rv a).den : Int) = 1) ↔ Int.tmod (rn a) (rd a) = 0 := by
    rw [rv, den_div hd]
    constructor
    · intro h1
      refine Int.tmod_eq_zero_of_dvd ?_
      have h2 := Int.mul_ediv_cancel' (Int.gcd_dvd_right (rn a) (rd a))
      rw [h1, Int.mul_one] at h2
      have h3 := Int.gcd_dvd_left (rn a) (rd a)
      rwa [h2] at h3
    · intro h1
      have h2 : rd a ∣ rn a := Int.dvd_of_tmod_eq_zero h1
      have : (Int.gcd (rn a) (rd a) : Int) = rd a := by
        rw [Int.gcd_comm, Int.gcd_eq_left (by omega) h2]
      rw [this, Int.ediv_self (by omega)]
  by_cases h0 : Int.tmod (rn a) (rd a) = 0
  · rw [if_pos h0, if_pos (by have := hden.2 h0; omega)]
    have h2 : rd a ∣ rn a := Int.dvd_of_tmod_eq_zero h0
    have hg : (Int.gcd (rn a) (rd a) : Int) = rd a := by rw [Int.gcd_comm, Int.gcd_eq_left (by omega) h2]
    rw [rv, num_div hd, hg, Int.tdiv_eq_ediv_of_dvd h2]
    rfl
  · rw [if_neg h0, if_neg (fun h => h0 (hden.1 (by omega)))]
    rfl
theorem Rn_rational_Pow : Run_rational_Pow := fun s hs a n => Ok.gif fun ⟨ha, h0, h1⟩ => by
  have hq := QB.rv ha
  have hQ := QQ.dr hq (Nat.le_refl _)
  simp only [T_rational_Pow, F_rational_Normal, gif_bind ha, F_rational_Sign, gif_bind hQ, rv_dr]
  generalize rv a = r at *
  have hsz : IntKind.wrap .u64 (0 - IntKind.wrap .u64 n) = if n < 0 then (n.natAbs : Int) else IntKind.wrap .u64 (0 - IntKind.wrap .u64 n) := by
    split
    · simp only [IntKind.wrap_u64]; omega
    · rfl
  have hd0 := r.den_pos
  have run : ¬ (n < 0 ∧ r = 0) → Ev (fun m => s m n (n.natAbs : Int) (dr r) ((false, []), [])) (if far r n.natAbs then (zQ, 8) else (dr (if n < 0 then (r ^ n.natAbs)⁻¹ else r ^ n.natAbs), 0)) := fun hz => by
    generalize hk : n.natAbs = k at *
    refine Ev.step (t := fun _ => some (if far r k then (zQ, 8) else (dr (if n < 0 then (r ^ k)⁻¹ else r ^ k), 0))) (fun m => ?_) Ev.ret
    rw [hs]; unfold S_rational_Pow_28
    by_cases hk1 : 16777216 < k
    · rw [if_pos (by simp; omega), if_pos (.inl hk1)]
    rw [if_neg (by simp; omega), i64w (by omega) (by omega)]
    have hI1 : II (dr r).1 := hQ.i
    have hI2 : II (false, (dr r).2) := hQ.d
    have v1 : iv (dr r).1 = r.num := iv_di _
    have v2 : iv (false, (dr r).2) = r.den := by unfold iv; simp only [Bool.false_eq_true, if_false]; exact nv_den r
    have hk2 : ¬ ((k : Int) < 0) := by omega
    rw [F_integer_Pow, gif_bind ⟨hI1, by omega, by omega⟩, F_integer_Pow, gif_bind ⟨hI2, by omega, by omega⟩, v1, v2]
    simp only [if_neg hk2, ab_pos (show (0 : Int) ≤ r.den by omega), Int.toNat_natCast]
    by_cases hn1 : 16777216 < (k : Int) * bl (ab r.num)
    · rw [if_pos (show far r k from .inr (.inl hn1))]
      simp only [if_pos hn1]
      rfl
    by_cases hn2 : 16777216 < (k : Int) * bl r.den
    · rw [if_pos (show far r k from .inr (.inr hn2))]
      simp only [if_neg hn1, if_pos hn2]
      rfl
    have hfar : ¬ far r k := by rintro (h | h | h) <;> omega
    simp only [if_neg hn1, if_neg hn2, if_neg hfar]
    rw [if_neg (by decide), if_neg (by decide)]
    have hpn := (Bd_bl (ab_nonneg r.num)).pow k
    have hpd := (Bd_bl (show (0 : Int) ≤ r.den by omega)).pow k
    have s1 : (bl (ab r.num)).toNat * k + 1 ≤ 16777217 := by
      have e : (((bl (ab r.num)).toNat * k : Nat) : Int) = bl (ab r.num) * k := by rw [Int.natCast_mul, Int.toNat_of_nonneg (bl_nonneg _)]
      rw [Int.mul_comm] at e; omega
    have s2 : (bl (r.den : Int)).toNat * k + 1 ≤ 16777217 := by
      have e : (((bl (r.den : Int)).toNat * k : Nat) : Int) = bl (r.den : Int) * k := by rw [Int.natCast_mul, Int.toNat_of_nonneg (bl_nonneg _)]
      rw [Int.mul_comm] at e; omega
    have hdp : (0 : Int) < (r.den : Int) ^ k := Int.pow_pos (by omega)
    by_cases hneg : n < 0
    · rw [if_pos (decide_eq_true hneg), if_pos hneg]
      have J1 : II (di ((r.den : Int) ^ k)) := II.di (by rw [ab_pos (by omega)]; exact hpd) (by omega)
      have J2 : II (di (r.num ^ k)) := II.di (by rw [ab_pow]; exact hpn) (by omega)
      have hr0 : r ≠ 0 := fun h => hz ⟨hneg, h⟩
      have hnum : r.num ≠ 0 := fun h => hr0 (by rw [QB.as r, h, Rat.zero_divInt])
      have hnp : r.num ^ k ≠ 0 := fun h => by
        have h3 := pow_pos' (B := ab r.num) (by unfold ab; split <;> omega) k
        rw [← ab_pow, h] at h3
        simp [ab] at h3
      rw [F_rational_Make, gif_bind ⟨J1, J2⟩, iv_di, iv_di, if_neg hnp, Rat.inv_def, Rat.num_pow, Rat.den_pow, Int.natCast_pow]
    · rw [if_neg (by simpa using hneg), if_neg hneg]
      congr 2
  by_cases hn : n < 0
  · simp only [decide_eq_true hn, if_true]
    rw [hsz, if_pos hn]
    by_cases hr : r = 0
    · subst hr
      rw [if_pos ⟨hn, rfl⟩]
      exact Ev.ret
    · rw [if_neg (fun h => hr h.2)]
      have : (rsg r == 0) = false := by
        unfold rsg
        by_cases h2 : r < 0
        · rw [if_pos h2]; rfl
        · rw [if_neg h2, if_neg hr]; rfl
      simp only [this]
      exact run (fun h => hr h.2)
  · simp only [decide_eq_false hn]
    rw [if_neg (fun h => hn h.1), u64w (n := n) (by omega) (by omega)]
    have := run (fun h => hn h.1)
    rw [show ((n.natAbs : Nat) : Int) = n by omega] at this
    exact this
end Go.W

set_option linter.unusedVariables false
set_option linter.unusedSimpArgs false
namespace Go.W

/-! ### the reference: bits -/
theorem BB.w {b : List Int} (h : BB b) : BW b := ⟨h.1, by have := h.2; omega⟩
theorem BW.nonneg {b : List Int} (h : BW b) : 0 ≤ bv b := gv_nonneg (by decide) h.1
theorem Rn_ref01_Few : Run_ref01_Few := fun s hs n l => Ok.gif fun h => by
  have key : ∀ (d i : Nat), i + d = l.length → Ev (fun m => s m n l (i : Int)) ((l.drop i).all fun a => decide ((a.length : Int) ≤ n)) := by
    intro d
    induction d with
    | zero =>
      intro i hi
      refine Ev.step (t := fun _ => some _) (fun m => ?_) Ev.ret
      rw [hs]; unfold S_ref01_Few_9
      rw [if_neg (by simp; omega), List.drop_eq_nil_of_le (by omega)]; rfl
    | succ d ih =>
      intro i hi
      have hg : (l.drop i) = l.getD i [] :: l.drop (i + 1) := by
        rw [List.drop_eq_getElem_cons (by omega), List.getD_eq_getElem?_getD, List.getElem?_eq_getElem (by omega)]; simp
      rw [hg, List.all_cons]
      by_cases hl : ((l.getD i []).length : Int) ≤ n
      · rw [decide_eq_true hl, Bool.true_and]
        refine Ev.step (fun m => ?_) (ih (i + 1) (by omega))
        rw [hs]; unfold S_ref01_Few_9
        rw [if_pos (by simp; omega), if_pos (by omega)]
        dsimp only
        rw [Int.toNat_natCast, if_neg (by rw [decide_eq_true_eq]; omega), i64w (by omega) (by omega)]
        simp
      · rw [decide_eq_false hl, Bool.false_and]
        refine Ev.step (t := fun _ => some false) (fun m => ?_) Ev.ret
        rw [hs]; unfold S_ref01_Few_9
        rw [if_pos (by simp; omega), if_pos (by omega)]
        dsimp only
        rw [Int.toNat_natCast, if_pos (by rw [decide_eq_true_eq]; omega)]
  have := key l.length 0 (by omega)
  rw [List.drop_zero] at this
  exact this
theorem Rn_ref01_Trim : Run_ref01_Trim := fun s hs a => Ok.gif fun h => by
  have hl := h.2
  have key : ∀ k : Nat, k ≤ a.length → gv 2 (a.drop k) = 0 → Ev (fun m => s m a (k : Int)) (bd (bv a)) := by
    intro k
    induction k with
    | zero =>
      intro _ hz
      rw [List.drop_zero] at hz
      have hz : bv a = 0 := hz
      refine Ev.step (t := fun _ => some (bd (bv a))) (fun m => ?_) Ev.ret
      rw [hs]; unfold S_ref01_Trim_9
      rw [if_neg (by simp), if_pos (by simp), hz, bd_zero]; rfl
    | succ k ih =>
      intro hk hz
      have e1 : IntKind.wrap .i64 (((k + 1 : Nat) : Int) - 1) = k := by rw [i64w] <;> omega
      by_cases hx : a.getD k 0 = 0
      · refine Ev.step (t := fun m => s m a (k : Int)) (fun m => ?_) (ih (by omega) (drop_zero_step hk hz hx))
        rw [hs]; unfold S_ref01_Trim_9
        rw [if_pos (by simp <;> omega), e1, if_pos (by omega)]
        dsimp only
        rw [Int.toNat_natCast, if_pos (by rw [hx]; rfl)]
      · refine Ev.step (t := fun _ => some (bd (bv a))) (fun m => ?_) Ev.ret
        rw [hs]; unfold S_ref01_Trim_9
        rw [if_pos (by simp <;> omega), e1, if_pos (by omega)]
        dsimp only
        rw [Int.toNat_natCast, if_neg (by simpa using hx), if_pos (by omega), Int.toNat_natCast, (trim_at (by decide) h.1 hk hz hx).1]
  exact key a.length (Nat.le_refl _) (by simp [gv])
theorem Rno_ref01_Trim : Runo_ref01_Trim := fun s hs a => Ok.gif fun h => by
  have hl := h.2
  have key : ∀ k : Nat, k ≤ a.length → gv 2 (a.drop k) = 0 → Ev (fun m => s m (k : Int) a) (a, some ((bd (bv a)).length : Int)) := by
    intro k
    induction k with
    | zero =>
      intro _ hz
      rw [List.drop_zero] at hz
      have hz : bv a = 0 := hz
      refine Ev.step (t := fun _ => some (a, some ((bd (bv a)).length : Int))) (fun m => ?_) Ev.ret
      rw [hs]; unfold So_ref01_Trim_9
      rw [if_neg (by simp), if_pos (by simp), hz, bd_zero]; rfl
    | succ k ih =>
      intro hk hz
      have e1 : IntKind.wrap .i64 (((k + 1 : Nat) : Int) - 1) = k := by rw [i64w] <;> omega
      by_cases hx : a.getD k 0 = 0
      · refine Ev.step (t := fun m => s m (k : Int) a) (fun m => ?_) (ih (by omega) (drop_zero_step hk hz hx))
        rw [hs]; unfold So_ref01_Trim_9
        rw [if_pos (by simp <;> omega), e1, if_pos (by omega)]
        dsimp only
        rw [Int.toNat_natCast, if_pos (by rw [hx]; rfl)]
      · refine Ev.step (t := fun _ => some (a, some ((bd (bv a)).length : Int))) (fun m => ?_) Ev.ret
        obtain ⟨h1, h2, h3⟩ := trim_at (by decide) h.1 hk hz hx
        rw [hs]; unfold So_ref01_Trim_9
        rw [if_pos (by simp <;> omega), e1, if_pos (by omega)]
        dsimp only
        have h2 : (bd (bv a)).length = k + 1 := h2
        rw [Int.toNat_natCast, if_neg (by simpa using hx), if_pos (by omega), h2]
  exact key a.length (Nat.le_refl _) (by simp [gv])
theorem btrim_end {l : List Int} (h : BW l) {T : Int} (hT : bv l = T) :
    ((O_ref01_Trim l).bind fun r => if sameLen false (.int .i64) l r.1 then optE r.2 (some ([] : List Int)) (fun n => some (List.take (Int.toNat n) (List.drop (Int.toNat 0) r.1))) else none) = some (bd T) := by
  subst hT
  rw [O_ref01_Trim, gif_bind h, if_pos (sameLen_self (e := .int .i64))]
  show some (List.take (Int.toNat ((bd (bv l)).length : Int)) (List.drop (Int.toNat 0) l)) = _
  rw [Int.toNat_natCast, show (Int.toNat 0) = 0 from rfl, List.drop_zero, take_norm (by decide) h.1]
theorem gv_snoc (B : Int) (l : List Int) (x : Int) : gv B (l ++ [x]) = gv B l + x * B ^ l.length := by
  rw [gv_append]; simp [gv]; grind
theorem DV.snoc {B : Int} {l : List Int} (h : DV B l) {x : Int} (hx : 0 ≤ x ∧ x < B) : DV B (l ++ [x]) := DV.append.2 ⟨h, by simp [DV]; exact hx⟩
/-- bit i of a number whose digits have W bits -/
theorem bit_of {W : Nat} (hW : 0 < W) {l : List Int} (h : DV (2 ^ W) l) {i : Nat} (hi : i / W < l.length) : gv (2 ^ W) l / 2 ^ i % 2 = l.getD (i / W) 0 / 2 ^ (i % W) % 2 := by
  have h1 := gv_split (2 ^ W) (i / W) l (by omega)
  have hp := two_pow_pos (W * (i / W))
  have e : ((2 : Int) ^ W) ^ (i / W) = 2 ^ (W * (i / W)) := by rw [Int.pow_mul]
  have h2 := gv_lt (two_pow_pos W) (h.take (i / W))
  have h3 := gv_nonneg (Int.le_of_lt (two_pow_pos W)) (h.take (i / W))
  rw [List.length_take, Nat.min_eq_left (by omega), e] at h2
  rw [e] at h1
  have hdm := Nat.div_add_mod i W
  have hq : gv (2 ^ W) l / 2 ^ i = gv (2 ^ W) (l.drop (i / W)) / 2 ^ (i % W) := by
    conv => lhs; rw [← hdm, Int.pow_add, ← Int.ediv_ediv_of_nonneg (Int.le_of_lt hp)]
    rw [h1, Int.add_mul_ediv_left _ _ (by omega), Int.ediv_eq_zero_of_lt h3 h2, Int.zero_add]
  rw [hq, gv_drop_succ _ hi]
  have hr : i % W < W := Nat.mod_lt _ hW
  have e2 : (2 : Int) ^ W = 2 ^ (i % W) * (2 * 2 ^ (W - i % W - 1)) := by
    rw [show (2 : Int) * 2 ^ (W - i % W - 1) = 2 ^ (W - i % W) by rw [show W - i % W = (W - i % W - 1) + 1 by omega, Int.pow_succ, Int.mul_comm]; simp, ← Int.pow_add]
    congr 1; omega
  rw [e2, Int.mul_assoc, Int.add_mul_ediv_left _ _ (Int.ne_of_gt (two_pow_pos _)), Int.mul_assoc, Int.add_mul_emod_self_left]
theorem mod_succ (N : Int) (i : Nat) : N % 2 ^ (i + 1) = N % 2 ^ i + N / 2 ^ i % 2 * 2 ^ i := by
  have hp := two_pow_pos i
  have h1 := Int.emod_add_mul_ediv N (2 ^ i)
  have h2 := Int.emod_add_mul_ediv (N / 2 ^ i) 2
  have h3 := Int.emod_nonneg N (show (2 : Int) ^ i ≠ 0 by omega)
  have h4 := Int.emod_lt_of_pos N hp
  have h5 := Int.emod_nonneg (N / 2 ^ i) (show (2 : Int) ≠ 0 by omega)
  have h6 := Int.emod_lt_of_pos (N / 2 ^ i) (show (0 : Int) < 2 by omega)
  generalize N / 2 ^ i % 2 = b at *
  generalize N / 2 ^ i / 2 = Q at *
  generalize N / 2 ^ i = M at *
  generalize N % 2 ^ i = r at *
  have e : N = (r + b * 2 ^ i) + 2 ^ (i + 1) * Q := by rw [Int.pow_succ, ← h1, ← h2]; grind
  have hlt : r + b * 2 ^ i < 2 ^ (i + 1) := by
    have : b * 2 ^ i ≤ 1 * 2 ^ i := Int.mul_le_mul_of_nonneg_right (by omega) (by omega)
    rw [Int.pow_succ]; omega
  have hnn : 0 ≤ b * 2 ^ i := Int.mul_nonneg h5 (by omega)
  rw [e, Int.add_mul_emod_self_left, Int.emod_eq_of_lt (by omega) hlt]
theorem fdiv_sh (a : Int) (r : Nat) (b : Nat) (hr : r ≤ b) : Int.fdiv a (2 ^ (min (Int.toNat (r : Int)) b)) = a / 2 ^ r := by
  rw [shr_eq, Int.toNat_natCast, Nat.min_eq_left hr]
theorem tdivn {x : Nat} {k : Nat} : Int.tdiv (x : Int) (k : Int) = ((x / k : Nat) : Int) := by
  rw [Int.tdiv_eq_ediv_of_nonneg (by omega), Int.natCast_ediv]
theorem tmodn {x : Nat} {k : Nat} : Int.tmod (x : Int) (k : Int) = ((x % k : Nat) : Int) := by
  rw [Int.tmod_eq_emod_of_nonneg (by omega), Int.natCast_emod]
theorem Rn_ref01_Of : Run_ref01_Of := fun s hs a => Ok.gif fun h => by
  have hl := h.2
  have na := h.nonneg
  have key : ∀ (d i : Nat) (o : List Int), i + d = 32 * a.length → o.length = i → DV 2 o → gv 2 o = nv a % 2 ^ i → Ev (fun m => s m a (i : Int) o) (bd (nv a)) := by
    intro d
    induction d with
    | zero =>
      intro i o hi hlo hd hg
      refine Ev.step (t := fun _ => some (bd (nv a))) (fun m => ?_) Ev.ret
      rw [hs]; unfold S_ref01_Of_13
      dsimp only
      rw [if_neg (by rw [i64w (by omega) (by omega)]; simp; omega)]
      refine btrim_end ⟨hd, by omega⟩ ?_
      have h1 := h.val.2
      rw [show 32 * a.length = i by omega] at h1
      show gv 2 o = _
      rw [hg, Int.emod_eq_of_lt na h1]
    | succ d ih =>
      intro i o hi hlo hd hg
      have hb := bit_of (W := 32) (by omega) (l := a) h.1 (i := i) (by omega)
      have hm : (32 : Int) = ((32 : Nat) : Int) := rfl
      have hx := h.1.get (by decide) (i / 32)
      have hq0 : 0 ≤ a.getD (i / 32) 0 / 2 ^ (i % 32) := Int.ediv_nonneg hx.1 (Int.le_of_lt (two_pow_pos _))
      refine Ev.step (fun m => ?_) (ih (i + 1) (o ++ [a.getD (i / 32) 0 / 2 ^ (i % 32) % 2]) (by omega) (by simp; omega) (hd.snoc (by omega)) ?_)
      · rw [hs]; unfold S_ref01_Of_13
        dsimp only
        rw [if_pos (by rw [i64w (by omega) (by omega)]; simp; omega), if_neg (by decide)]
        rw [hm, tdivn, tmodn, i64w (n := ((i / 32 : Nat) : Int)) (by omega) (by omega), if_pos (by omega), u64w (n := ((i % 32 : Nat) : Int)) (by omega) (by omega), if_neg (by decide), if_neg (by omega), if_neg (by decide), fdiv_sh _ _ _ (by rw [bits32]; omega), Int.toNat_natCast, Int.tmod_eq_emod_of_nonneg hq0, i64w (n := a.getD (i / 32) 0 / 2 ^ (i % 32) % 2) (by omega) (by omega), if_pos (by simp; omega), i64w (by omega) (by omega)]
        simp
      · rw [gv_snoc, hlo, hg, mod_succ, ← hb]; rfl
  exact key (32 * a.length) 0 [] (by omega) rfl .nil (by simp [gv])
theorem norm_of_ge {B : Int} (hB : 1 < B) {l : List Int} (h : DV B l) (hge : l = [] ∨ B ^ (l.length - 1) ≤ gv B l) : gd B (gv B l) = l := by
  rcases hge with rfl | hge
  · simp [gv, gd_zero]
  · have h1 := take_norm hB h
    have h2 := gd_len_lt hB (gv B l)
    have h3 : l.length ≤ (gd B (gv B l)).length := by
      by_cases hh : l.length ≤ (gd B (gv B l)).length
      · exact hh
      · exfalso
        have : B ^ (gd B (gv B l)).length ≤ B ^ (l.length - 1) := pow_le_pow' (by omega) (by omega)
        omega
    rw [List.take_of_length_le h3] at h1
    exact h1.symm
theorem get_le {B : Int} (hB : 0 < B) {l : List Int} (h : DV B l) {k : Nat} (hk : k < l.length) : l.getD k 0 * B ^ k ≤ gv B l := by
  have h1 := gv_split B k l (by omega)
  have h2 := gv_nonneg (Int.le_of_lt hB) (h.take k)
  have h3 := gv_nonneg (Int.le_of_lt hB) (h.drop (k + 1))
  rw [gv_drop_succ _ hk] at h1
  have h4 : 0 ≤ B ^ k * (B * gv B (l.drop (k + 1))) := Int.mul_nonneg (Int.le_of_lt (pow_pos' hB k)) (Int.mul_nonneg (Int.le_of_lt hB) h3)
  rw [Int.mul_add] at h1
  rw [Int.mul_comm]
  omega
/-- one more bit into the digits -/
theorem put_bit {W : Nat} (hW : 0 < W) {l : List Int} (h : DV (2 ^ W) l) {i : Nat} (hi : i / W < l.length) {b : Int} (hb : 0 ≤ b ∧ b < 2) (hlt : gv (2 ^ W) l < 2 ^ i) :
    0 ≤ l.getD (i / W) 0 + b * 2 ^ (i % W) ∧ l.getD (i / W) 0 + b * 2 ^ (i % W) < 2 ^ W ∧ gv (2 ^ W) (l.set (i / W) (l.getD (i / W) 0 + b * 2 ^ (i % W))) = gv (2 ^ W) l + b * 2 ^ i := by
  have hx := h.get (two_pow_pos W) (i / W)
  have hp := two_pow_pos (i % W)
  have hr : i % W < W := Nat.mod_lt _ hW
  have e : ((2 : Int) ^ W) ^ (i / W) * 2 ^ (i % W) = 2 ^ i := by rw [← Int.pow_mul, ← Int.pow_add, Nat.div_add_mod]
  have h1 := get_le (two_pow_pos W) h hi
  have h2 : l.getD (i / W) 0 < 2 ^ (i % W) := by
    have hk := pow_pos' (two_pow_pos W) (i / W)
    by_cases hh : l.getD (i / W) 0 < 2 ^ (i % W)
    · exact hh
    · exfalso
      have h3 : ((2 : Int) ^ W) ^ (i / W) * 2 ^ (i % W) ≤ ((2 : Int) ^ W) ^ (i / W) * l.getD (i / W) 0 := Int.mul_le_mul_of_nonneg_left (by omega) (by omega)
      rw [e, Int.mul_comm _ (l.getD (i / W) 0)] at h3
      omega
  have h3 := two_pow_le (show i % W + 1 ≤ W by omega)
  rw [Int.pow_succ] at h3
  have h4 : b * 2 ^ (i % W) ≤ 1 * 2 ^ (i % W) := Int.mul_le_mul_of_nonneg_right (by omega) (by omega)
  have h5 : 0 ≤ b * 2 ^ (i % W) := Int.mul_nonneg hb.1 (by omega)
  refine ⟨by omega, by omega, ?_⟩
  rw [gv_set _ hi]
  have : (l.getD (i / W) 0 + b * 2 ^ (i % W) - l.getD (i / W) 0) * ((2 : Int) ^ W) ^ (i / W) = b * 2 ^ i := by
    rw [← e]; grind
  rw [this]
theorem Rn_ref01_To : Run_ref01_To := fun s t hs ht b0 => Ok.gif fun h => by
  have nb := h.nonneg
  have hlen := len_norm (by decide) h.1
  have hbl := h.2
  simp only [T_ref01_To, F_ref01_Trim, gif_bind h.w]
  have hd0 : DV 2 (bd (bv b0)) := gd_DV (by decide) _
  have hv0 : gv 2 (bd (bv b0)) = bv b0 := gd_val (by decide) _ nb
  have hge : bd (bv b0) = [] ∨ 2 ^ ((bd (bv b0)).length - 1) ≤ bv b0 := by
    by_cases h0 : bv b0 = 0
    · left; rw [h0, bd_zero]
    · right; exact gd_len_ge (by decide) (by omega)
  have hlen : (bd (bv b0)).length ≤ b0.length := hlen
  generalize bd (bv b0) = b at *
  have w32 : (4294967296 : Int) = 2 ^ 32 := rfl
  have key : ∀ (d i : Nat) (o : List Int), i + d = b.length → o.length = (i + 31) / 32 → DV 4294967296 o → gv 4294967296 o = gv 2 (b.take i) → Ev (fun m => s m b (i : Int) o) (dn (bv b0)) := by
    intro d
    induction d with
    | zero =>
      intro i o hi hlo hd hg
      refine Ev.step (t := fun _ => some o) (fun m => ?_) ?_
      · rw [hs]; unfold S_ref01_To_17
        rw [if_neg (by simp; omega)]
      · rw [List.take_of_length_le (by omega), hv0] at hg
        have := norm_of_ge (B := 4294967296) (by decide) hd (by
          rcases hge with h1 | h1
          · left
            subst h1
            exact List.eq_nil_of_length_eq_zero (by rw [hlo]; simp at hi; omega)
          · by_cases ho : o = []
            · left; exact ho
            · right
              have : o.length ≠ 0 := fun h => ho (List.eq_nil_of_length_eq_zero h)
              rw [hg, pow32]
              exact Int.le_trans (two_pow_le (by omega)) h1)
        rw [hg] at this
        have this : dn (bv b0) = o := this
        rw [this]; exact Ev.ret
    | succ d ih =>
      intro i o hi hlo hd hg
      have hx := hd0.get (by decide) i
      have hm : (32 : Int) = ((32 : Nat) : Int) := rfl
      have hblt := gv_lt (B := 2) (by decide) (hd0.take i)
      rw [List.length_take, Nat.min_eq_left (by omega)] at hblt
      have next : ∀ o' : List Int, o'.length = (i + 1 + 31) / 32 → DV 4294967296 o' → gv 4294967296 o' = gv 2 (b.take i) → Ev (fun m => t m b (i : Int) o') (dn (bv b0)) := by
        intro o' hl' hd' hg'
        obtain ⟨p1, p2, p3⟩ := put_bit (W := 32) (by omega) (l := o') hd' (i := i) (by omega) hx (by rw [← w32, hg']; exact hblt)
        have hbp : 0 ≤ b.getD i 0 * 2 ^ (i % 32) := Int.mul_nonneg hx.1 (Int.le_of_lt (two_pow_pos _))
        have ho := hd'.get (by decide) (i / 32)
        rw [← w32] at p2 p3
        refine Ev.step (fun m => ?_) (ih (i + 1) (o'.set (i / 32) (o'.getD (i / 32) 0 + b.getD i 0 * 2 ^ (i % 32))) (by omega) (by simpa using hl') (hd'.set ⟨p1, p2⟩) ?_)
        · rw [ht]; unfold S_ref01_To_32
          dsimp only
          rw [hm, tdivn, tmodn, if_neg (by decide), i64w (n := ((i / 32 : Nat) : Int)) (by omega) (by omega), if_pos (by omega), if_pos (by omega), if_neg (by decide), u64w (n := ((i % 32 : Nat) : Int)) (by omega) (by omega), if_neg (by omega), if_pos (by omega), Int.toNat_natCast, Int.toNat_natCast, Int.toNat_natCast, Nat.min_eq_left (show i % 32 ≤ IntKind.bits .u32 by rw [bits32]; omega), u32w (n := b.getD i 0) (by omega) (by omega), u32w (n := b.getD i 0 * 2 ^ (i % 32)) (by omega) (by omega), u32w p1 p2, i64w (by omega) (by omega)]
          simp
        · rw [p3, hg', gv_take_succ _ (by omega)]
      by_cases hz : i % 32 = 0
      · refine Ev.step (fun m => ?_) (next (o ++ [0]) (by simp; omega) (hd.snoc (by omega)) (by rw [gv_snoc, hg]; simp))
        rw [hs]; unfold S_ref01_To_17
        rw [if_pos (by simp; omega), if_neg (by decide), hm, tmodn, if_pos (by rw [hz]; rfl), if_pos (by simp; omega)]
      · refine Ev.step (fun m => ?_) (next o (by omega) hd hg)
        rw [hs]; unfold S_ref01_To_17
        rw [if_pos (by simp; omega), if_neg (by decide), hm, tmodn, if_neg (by simp; omega)]
  exact key b.length 0 [] (by omega) rfl .nil (by simp [gv])
theorem Rn_ref01_Is : Run_ref01_Is := fun s hs a b => Ok.gif fun h => by
  simp only [T_ref01_Is, F_ref01_To, gif_bind h]
  have hlc : (dn (bv b)).length ≤ 2199023255552 := by
    have := dn_len (k := 2199023255552) (n := bv b) (Int.lt_of_lt_of_le h.val.2 (two_pow_le (by have := h.2; omega)))
    exact this
  generalize dn (bv b) = c at *
  by_cases hl : a.length = c.length
  · simp only [show ((a.length : Int) != (c.length : Int)) = false by simp; omega]
    have key : ∀ (d i : Nat), i + d = a.length → Ev (fun m => s m a c (i : Int)) (decide (a.drop i = c.drop i)) := by
      intro d
      induction d with
      | zero =>
        intro i hi
        refine Ev.step (t := fun _ => some _) (fun m => ?_) Ev.ret
        rw [hs]; unfold S_ref01_Is_21
        rw [if_neg (by simp; omega), List.drop_eq_nil_of_le (by omega), List.drop_eq_nil_of_le (by omega)]; rfl
      | succ d ih =>
        intro i hi
        have e : decide (a.drop i = c.drop i) = (decide (a.getD i 0 = c.getD i 0) && decide (a.drop (i + 1) = c.drop (i + 1))) := by
          rw [drop_cons' (show i < a.length by omega), drop_cons' (show i < c.length by omega)]; simp
        rw [e]
        by_cases hx : a.getD i 0 = c.getD i 0
        · rw [decide_eq_true hx, Bool.true_and]
          refine Ev.step (fun m => ?_) (ih (i + 1) (by omega))
          rw [hs]; unfold S_ref01_Is_21
          rw [if_pos (by simp; omega), if_pos (by omega), if_pos (by omega)]
          dsimp only
          rw [Int.toNat_natCast, if_neg (by rw [hx]; simp), i64w (by omega) (by omega)]
          simp
        · rw [decide_eq_false hx, Bool.false_and]
          refine Ev.step (t := fun _ => some false) (fun m => ?_) Ev.ret
          rw [hs]; unfold S_ref01_Is_21
          rw [if_pos (by simp; omega), if_pos (by omega), if_pos (by omega)]
          dsimp only
          rw [Int.toNat_natCast, if_pos (bne_iff_ne.2 hx)]
    have := key a.length 0 (by omega)
    rw [List.drop_zero, List.drop_zero] at this
    exact this
  · simp only [show ((a.length : Int) != (c.length : Int)) = true by simp; omega, if_true]
    rw [decide_eq_false (fun h => hl (by rw [h]))]
    exact Ev.ret
theorem Rn_ref01_bit : Run_ref01_bit := fun b i => Ok.gif_const fun h => by
  rw [T_ref01_bit]
  by_cases hi : i < (b.length : Int)
  · rw [if_pos (decide_eq_true hi), if_pos (by omega)]
  · rw [if_neg (by simpa using hi), List.getD_eq_getElem?_getD, List.getElem?_eq_none (by omega)]; rfl
theorem bit_bind {σ : Type} {b : List Int} {i : Nat} {k : Int → Option σ} : (F_ref01_bit b (i : Int)).bind k = k (b.getD i 0) := by
  rw [F_ref01_bit, gif_bind (by omega), Int.toNat_natCast]
theorem drop_bit (b : List Int) (k : Nat) : gv 2 (b.drop k) = b.getD k 0 + 2 * gv 2 (b.drop (k + 1)) := by
  by_cases h : k < b.length
  · exact gv_drop_succ _ h
  · rw [List.drop_eq_nil_of_le (by omega), List.drop_eq_nil_of_le (by omega), List.getD_eq_getElem?_getD, List.getElem?_eq_none (by omega)]; rfl
theorem bv_shift {b : List Int} (h : DV 2 b) (k : Nat) : ∃ r, 0 ≤ r ∧ r < 2 ^ k ∧ bv b = r + 2 ^ k * gv 2 (b.drop k) := by
  by_cases hk : k ≤ b.length
  · refine ⟨gv 2 (b.take k), gv_nonneg (by decide) (h.take k), ?_, gv_split 2 k b hk⟩
    have := gv_lt (B := 2) (by decide) (h.take k)
    rwa [List.length_take, Nat.min_eq_left hk] at this
  · refine ⟨bv b, gv_nonneg (by decide) h, Int.lt_of_lt_of_le (gv_lt (by decide) h) (two_pow_le (by omega)), ?_⟩
    rw [List.drop_eq_nil_of_le (by omega)]; simp [gv]
theorem shift_lt {a b : List Int} (ha : DV 2 a) (hb : DV 2 b) (k : Nat) (h : gv 2 (a.drop k) < gv 2 (b.drop k)) : bv a < bv b := by
  obtain ⟨r, h0, h1, h2⟩ := bv_shift ha k
  obtain ⟨r', h3, h4, h5⟩ := bv_shift hb k
  have : 2 ^ k * (gv 2 (a.drop k) + 1) ≤ 2 ^ k * gv 2 (b.drop k) := Int.mul_le_mul_of_nonneg_left (by omega) (Int.le_of_lt (two_pow_pos k))
  rw [Int.mul_add, Int.mul_one] at this
  omega
theorem Rn_ref01_Cmp : Run_ref01_Cmp := fun s hs a b => Ok.gif fun ⟨ha, hb⟩ => by
  have hA := ha.2
  have hB := hb.2
  have key : ∀ k : Nat, k ≤ 2199023255552 → gv 2 (a.drop k) = gv 2 (b.drop k) → Ev (fun m => s m a b ((k : Int) - 1)) (cm (bv a) (bv b)) := by
    intro k
    induction k with
    | zero =>
      intro _ hd
      rw [List.drop_zero, List.drop_zero] at hd
      refine Ev.step (t := fun _ => some (cm (bv a) (bv b))) (fun m => ?_) Ev.ret
      rw [hs]; unfold S_ref01_Cmp_9
      have hd : bv a = bv b := hd
      rw [if_neg (by simp), hd, cm_self]
    | succ k ih =>
      intro hk hd
      have e1 : ((k + 1 : Nat) : Int) - 1 = k := by omega
      have hx := ha.1.get (by decide) k
      have hy := hb.1.get (by decide) k
      have dx := drop_bit a k
      have dy := drop_bit b k
      rw [e1]
      by_cases heq : a.getD k 0 = b.getD k 0
      · refine Ev.step (t := fun m => s m a b ((k : Int) - 1)) (fun m => ?_) (ih (by omega) (by omega))
        rw [hs]; unfold S_ref01_Cmp_9
        rw [if_pos (by simp), bit_bind, bit_bind, if_neg (by rw [heq]; simp), i64w (by omega) (by omega)]
      · refine Ev.step (t := fun _ => some (cm (bv a) (bv b))) (fun m => ?_) Ev.ret
        rw [hs]; unfold S_ref01_Cmp_9
        rw [if_pos (by simp), bit_bind, bit_bind, if_pos (bne_iff_ne.2 heq), bit_bind, bit_bind, i64w (by omega) (by omega)]
        congr 1
        by_cases hlt : a.getD k 0 < b.getD k 0
        · rw [cm_of_lt (shift_lt ha.1 hb.1 k (by omega))]; omega
        · rw [cm_of_gt (shift_lt hb.1 ha.1 k (by omega))]; omega
  have hm : (if (b.length : Int) > (a.length : Int) then (b.length : Int) else (a.length : Int)) = ((max a.length b.length : Nat) : Int) := by split <;> omega
  have := key (max a.length b.length) (by omega) (by rw [List.drop_eq_nil_of_le (by omega), List.drop_eq_nil_of_le (by omega)])
  simp only [T_ref01_Cmp, hm]
  rw [i64w (by omega) (by omega)]
  exact this
end Go.W

set_option linter.unusedVariables false
set_option linter.unusedSimpArgs false
namespace Go.W

theorem BW.bd {k : Nat} {n : Int} (h : Bd k n) (hk : k ≤ 4398046511104) : BW (Go.W.bd n) := ⟨gd_DV (by decide) n, Nat.le_trans (gd_len (by decide) _ n h.2) (by omega)⟩
theorem Rn_ref01_Add : Run_ref01_Add := fun s t hs ht a b => Ok.gif fun ⟨ha, hb⟩ => by
  have hA := ha.2
  have hB := hb.2
  have key : ∀ (d i : Nat) (o : List Int) (c : Int), i + d = max a.length b.length + 1 → o.length = i → DV 2 o → 0 ≤ c → c ≤ 1 → (d = 0 → c = 0) → gv 2 o + (c + gv 2 (a.drop i) + gv 2 (b.drop i)) * 2 ^ i = bv a + bv b → Ev (fun m => s m a b c (i : Int) o) (bd (bv a + bv b)) := by
    intro d
    induction d with
    | zero =>
      intro i o c hi hl hd h0 h1 hc hg
      have hc := hc rfl
      subst hc
      refine Ev.step (t := fun _ => some (bd (bv a + bv b))) (fun m => ?_) Ev.ret
      rw [hs]; unfold S_ref01_Add_17
      rw [if_neg (by simp; omega), if_neg (by simp; omega), if_neg (by decide)]
      rw [List.drop_eq_nil_of_le (by omega), List.drop_eq_nil_of_le (by omega)] at hg
      refine btrim_end ⟨hd, by omega⟩ ?_
      simpa [gv] using hg
    | succ d ih =>
      intro i o c hi hl hd h0 h1 hc hg
      have dx := drop_bit a i
      have dy := drop_bit b i
      have hx := ha.1.get (by decide) i
      have hy := hb.1.get (by decide) i
      by_cases hstop : ¬ i < a.length ∧ ¬ i < b.length ∧ c = 0
      · obtain ⟨q1, q2, q3⟩ := hstop
        subst q3
        refine Ev.step (t := fun _ => some (bd (bv a + bv b))) (fun m => ?_) Ev.ret
        rw [hs]; unfold S_ref01_Add_17
        rw [if_neg (by simp; omega), if_neg (by simp; omega), if_neg (by decide)]
        rw [List.drop_eq_nil_of_le (by omega), List.drop_eq_nil_of_le (by omega)] at hg
        refine btrim_end ⟨hd, by omega⟩ ?_
        simpa [gv] using hg
      · have body : Ev (fun m => t m a b c (i : Int) o) (bd (bv a + bv b)) := by
          refine Ev.step (fun m => ?_) (ih (i + 1) (o ++ [(a.getD i 0 + b.getD i 0 + c) % 2]) ((a.getD i 0 + b.getD i 0 + c) / 2) (by omega) (by simp; omega) (hd.snoc (by omega)) (by omega) (by omega) (fun hd0 => ?_) ?_)
          · rw [ht]; unfold S_ref01_Add_24
            rw [bit_bind, bit_bind, if_neg (by decide)]
            dsimp only
            rw [i64w (n := a.getD i 0 + b.getD i 0) (by omega) (by omega), i64w (n := a.getD i 0 + b.getD i 0 + c) (by omega) (by omega), Int.tmod_eq_emod_of_nonneg (by omega), Int.tdiv_eq_ediv_of_nonneg (by omega), if_pos (by simp; omega), if_neg (by decide), i64w (n := (a.getD i 0 + b.getD i 0 + c) / 2) (by omega) (by omega), i64w (by omega) (by omega)]
            simp
          · have e1 : a.getD i 0 = 0 := by rw [List.getD_eq_getElem?_getD, List.getElem?_eq_none (by omega)]; rfl
            have e2 : b.getD i 0 = 0 := by rw [List.getD_eq_getElem?_getD, List.getElem?_eq_none (by omega)]; rfl
            omega
          · rw [gv_snoc, hl, ← hg, dx, dy, Int.pow_succ]
            have := Int.emod_add_mul_ediv (a.getD i 0 + b.getD i 0 + c) 2
            generalize (a.getD i 0 + b.getD i 0 + c) % 2 = u at *
            generalize (a.getD i 0 + b.getD i 0 + c) / 2 = v at *
            generalize gv 2 (a.drop (i + 1)) = X at *
            generalize gv 2 (b.drop (i + 1)) = Y at *
            grind
        refine Ev.step (fun m => ?_) body
        rw [hs]; unfold S_ref01_Add_17
        by_cases q1 : i < a.length
        · rw [if_pos (by simp; omega)]
        · rw [if_neg (by simp; omega)]
          by_cases q2 : i < b.length
          · rw [if_pos (by simp; omega)]
          · rw [if_neg (by simp; omega), if_pos (by simp; omega)]
  exact key (max a.length b.length + 1) 0 [] 0 (by omega) rfl .nil (by omega) (by omega) (by omega) (by simp [gv])
theorem Rn_ref01_Sub : Run_ref01_Sub := fun s hs a b => Ok.gif fun ⟨ha, hb, hle⟩ => by
  have hA := ha.2
  have hB := hb.2
  have key : ∀ (d i : Nat) (o : List Int) (c : Int), i + d = a.length → o.length = i → DV 2 o → 0 ≤ c → c ≤ 1 → gv 2 o + (gv 2 (a.drop i) - gv 2 (b.drop i) - c) * 2 ^ i = bv a - bv b → Ev (fun m => s m a b c (i : Int) o) (bd (bv a - bv b)) := by
    intro d
    induction d with
    | zero =>
      intro i o c hi hl hd h0 h1 hg
      refine Ev.step (t := fun _ => some (bd (bv a - bv b))) (fun m => ?_) Ev.ret
      rw [hs]; unfold S_ref01_Sub_17
      rw [if_neg (by simp; omega)]
      rw [List.drop_eq_nil_of_le (show a.length ≤ i by omega)] at hg
      have hb0 := gv_nonneg (B := 2) (by decide) (hb.1.drop i)
      have hlt := gv_lt (B := 2) (by decide) hd
      rw [hl] at hlt
      refine btrim_end ⟨hd, by omega⟩ ?_
      simp only [gv] at hg
      generalize hr : 0 - gv 2 (b.drop i) - c = r at hg
      by_cases hr0 : r = 0
      · subst hr0
        show gv 2 o = _
        omega
      · exfalso
        have : r * 2 ^ i ≤ (-1) * 2 ^ i := Int.mul_le_mul_of_nonneg_right (by omega) (Int.le_of_lt (two_pow_pos i))
        omega
    | succ d ih =>
      intro i o c hi hl hd h0 h1 hg
      have dx := drop_bit a i
      have dy := drop_bit b i
      have hx := ha.1.get (by decide) i
      have hy := hb.1.get (by decide) i
      refine Ev.step (fun m => ?_) (ih (i + 1) (o ++ [(a.getD i 0 - b.getD i 0 - c) % 2]) (if a.getD i 0 - b.getD i 0 - c < 0 then 1 else 0) (by omega) (by simp; omega) (hd.snoc (by omega)) (by split <;> omega) (by split <;> omega) ?_)
      · rw [hs]; unfold S_ref01_Sub_17
        rw [if_pos (by simp; omega), bit_bind, bit_bind]
        dsimp only
        rw [i64w (n := a.getD i 0 - b.getD i 0) (by omega) (by omega), i64w (n := a.getD i 0 - b.getD i 0 - c) (by omega) (by omega)]
        by_cases hneg : a.getD i 0 - b.getD i 0 - c < 0
        · rw [if_pos (decide_eq_true hneg), if_pos hneg, i64w (n := a.getD i 0 - b.getD i 0 - c + 2) (by omega) (by omega), if_pos (by simp; omega), i64w (by omega) (by omega), show a.getD i 0 - b.getD i 0 - c + 2 = (a.getD i 0 - b.getD i 0 - c) % 2 by omega]
          simp
        · rw [if_neg (by rw [decide_eq_true_eq]; omega), if_neg hneg, if_pos (by simp; omega), i64w (by omega) (by omega), show a.getD i 0 - b.getD i 0 - c = (a.getD i 0 - b.getD i 0 - c) % 2 by omega]
          simp
      · have e : (a.getD i 0 - b.getD i 0 - c) = (a.getD i 0 - b.getD i 0 - c) % 2 - 2 * (if a.getD i 0 - b.getD i 0 - c < 0 then 1 else 0) := by split <;> omega
        rw [gv_snoc, hl, ← hg, dx, dy, Int.pow_succ]
        generalize (if a.getD i 0 - b.getD i 0 - c < 0 then (1 : Int) else 0) = v at *
        generalize (a.getD i 0 - b.getD i 0 - c) % 2 = u at *
        generalize gv 2 (a.drop (i + 1)) = X at *
        generalize gv 2 (b.drop (i + 1)) = Y at *
        grind
  exact key a.length 0 [] 0 (by omega) rfl .nil (by omega) (by omega) (by simp [gv])

/-! words -/
theorem gdn_len (B : Int) : ∀ (k : Nat) (n : Int), (gdn B n k).length = k
  | 0, _ => rfl
  | k + 1, n => by simp [gdn, gdn_len B k]
theorem gdn_of {B : Int} (hB : 1 < B) : ∀ {l : List Int}, DV B l → gdn B (gv B l) l.length = l
  | [], _ => rfl
  | x :: l, h => by
    have hd := DV.cons.1 h
    simp only [gv, List.length_cons, gdn]
    rw [Int.add_mul_emod_self_left, Int.emod_eq_of_lt hd.1.1 hd.1.2, Int.add_mul_ediv_left _ _ (by omega), Int.ediv_eq_zero_of_lt hd.1.1 hd.1.2, Int.zero_add, gdn_of hB hd.2]
theorem gdn_DV {B : Int} (hB : 1 < B) : ∀ (k : Nat) (n : Int), DV B (gdn B n k)
  | 0, _ => .nil
  | k + 1, n => DV.cons.2 ⟨⟨Int.emod_nonneg _ (by omega), Int.emod_lt_of_pos _ (by omega)⟩, gdn_DV hB k _⟩
theorem gdn_val {B : Int} (hB : 1 < B) : ∀ (k : Nat) (n : Int), 0 ≤ n → n < B ^ k → gv B (gdn B n k) = n
  | 0, n, h0, h => by simp at h; simp [gdn, gv]; omega
  | k + 1, n, h0, h => by
    simp only [gdn, gv]
    rw [gdn_val hB k (n / B) (Int.ediv_nonneg h0 (by omega)) (Int.ediv_lt_of_lt_mul (by omega) (by rw [Int.pow_succ] at h; exact h))]
    exact Int.emod_add_mul_ediv n B
theorem Rn_ref01_words : Run_ref01_words := fun s hs b => Ok.gif fun h => by
  have hl := h.2
  have e15 : (15 : Int) = ((15 : Nat) : Int) := rfl
  have w15 : (32768 : Int) = 2 ^ 15 := rfl
  have key : ∀ (d i : Nat) (o : List Int), i + d = b.length → o.length = (b.length + 14) / 15 → DV 32768 o → gv 32768 o = gv 2 (b.take i) → Ev (fun m => s m b (i : Int) o) (gdn 32768 (bv b) ((b.length + 14) / 15)) := by
    intro d
    induction d with
    | zero =>
      intro i o hi hlo hd hg
      rw [List.take_of_length_le (by omega)] at hg
      refine Ev.step (t := fun _ => some o) (fun m => ?_) ?_
      · rw [hs]; unfold S_ref01_words_13
        rw [if_neg (by simp; omega)]
      · have := gdn_of (by decide) hd
        rw [hg, hlo] at this
        have this : gdn 32768 (bv b) ((b.length + 14) / 15) = o := this
        rw [this]; exact Ev.ret
    | succ d ih =>
      intro i o hi hlo hd hg
      have hx := h.1.get (by decide) i
      have hblt := gv_lt (B := 2) (by decide) (h.1.take i)
      rw [List.length_take, Nat.min_eq_left (by omega)] at hblt
      obtain ⟨p1, p2, p3⟩ := put_bit (W := 15) (by omega) (l := o) hd (i := i) (by omega) hx (by rw [← w15, hg]; exact hblt)
      have hbp : 0 ≤ b.getD i 0 * 2 ^ (i % 15) := Int.mul_nonneg hx.1 (Int.le_of_lt (two_pow_pos _))
      have ho := hd.get (by decide) (i / 15)
      rw [← w15] at p2 p3
      refine Ev.step (fun m => ?_) (ih (i + 1) (o.set (i / 15) (o.getD (i / 15) 0 + b.getD i 0 * 2 ^ (i % 15))) (by omega) (by simpa using hlo) (hd.set ⟨p1, p2⟩) ?_)
      · rw [hs]; unfold S_ref01_words_13
        dsimp only
        rw [if_pos (by simp; omega), e15, tdivn, tmodn, if_neg (by decide), i64w (n := ((i / 15 : Nat) : Int)) (by omega) (by omega), if_pos (by omega), if_pos (by omega), if_neg (by decide), u64w (n := ((i % 15 : Nat) : Int)) (by omega) (by omega), if_neg (by omega), if_pos (by omega), Int.toNat_natCast, Int.toNat_natCast, Int.toNat_natCast, Nat.min_eq_left (show i % 15 ≤ IntKind.bits .i64 by rw [bitsi64]; omega), i64w (n := b.getD i 0 * 2 ^ (i % 15)) (by omega) (by omega), i64w (n := o.getD (i / 15) 0 + b.getD i 0 * 2 ^ (i % 15)) (by omega) (by omega), i64w (by omega) (by omega)]
        simp
      · rw [p3, hg, gv_take_succ _ (by omega)]
  have := key b.length 0 (List.replicate ((b.length + 14) / 15) 0) (by omega) (by simp) (DV.replicate (by decide) _) (by rw [gv_replicate]; simp [gv])
  simp only [T_ref01_words]
  have e14 : (b.length : Int) + 14 = ((b.length + 14 : Nat) : Int) := by simp
  rw [i64w (n := (b.length : Int) + 14) (by omega) (by omega), e14, e15, tdivn, i64w (by omega) (by omega)]
  simp only [show ¬ (((15 : Nat) : Int) = 0) by decide, if_false, show (0 ≤ (((b.length + 14) / 15 : Nat) : Int) ∧ (((b.length + 14) / 15 : Nat) : Int) ≤ ((70368744177664 / 8 : Nat) : Int)) = True by simp; omega, if_true, Int.toNat_natCast]
  exact this
theorem Rn_ref01_bits : Run_ref01_bits := fun s hs w => Ok.gif fun ⟨h, hl⟩ => by
  have e15 : (15 : Int) = ((15 : Nat) : Int) := rfl
  have w15 : (32768 : Int) = 2 ^ 15 := rfl
  have hN := gv_nonneg (B := 32768) (by decide) h
  have key : ∀ (d i : Nat) (o : List Int), i + d = 15 * w.length → o.length = 15 * w.length → DV 2 o → gv 2 (o.take i) = gv 32768 w % 2 ^ i → Ev (fun m => s m w (i : Int) o) (bd (gv 32768 w)) := by
    intro d
    induction d with
    | zero =>
      intro i o hi hlo hd hg
      refine Ev.step (t := fun _ => some (bd (gv 32768 w))) (fun m => ?_) Ev.ret
      rw [hs]; unfold S_ref01_bits_13
      rw [if_neg (by simp; omega)]
      refine btrim_end ⟨hd, by omega⟩ ?_
      rw [List.take_of_length_le (by omega)] at hg
      show gv 2 o = _
      have hlt := gv_lt (B := 32768) (by decide) h
      rw [w15, ← Int.pow_mul, show 15 * w.length = i by omega] at hlt
      rw [hg]
      exact Int.emod_eq_of_lt hN hlt
    | succ d ih =>
      intro i o hi hlo hd hg
      have hb := bit_of (W := 15) (by omega) (l := w) h (i := i) (by omega)
      have hx := h.get (by decide) (i / 15)
      have hq0 : 0 ≤ w.getD (i / 15) 0 / 2 ^ (i % 15) := Int.ediv_nonneg hx.1 (Int.le_of_lt (two_pow_pos _))
      refine Ev.step (fun m => ?_) (ih (i + 1) (o.set i (w.getD (i / 15) 0 / 2 ^ (i % 15) % 2)) (by omega) (by simpa using hlo) (hd.set (by omega)) ?_)
      · rw [hs]; unfold S_ref01_bits_13
        dsimp only
        rw [if_pos (by simp; omega), if_neg (by decide), e15, tdivn, tmodn, i64w (n := ((i / 15 : Nat) : Int)) (by omega) (by omega), if_pos (by omega), if_neg (by decide), u64w (n := ((i % 15 : Nat) : Int)) (by omega) (by omega), if_neg (by omega), if_neg (by decide), if_pos (by omega), fdiv_sh _ _ _ (by rw [bitsi64]; omega), Int.toNat_natCast, Int.toNat_natCast, Int.tmod_eq_emod_of_nonneg hq0, i64w (by omega) (by omega)]
        simp
      · rw [gv_take_set _ (by omega), hg, mod_succ, ← hb]; rfl
  have := key (15 * w.length) 0 (List.replicate (15 * w.length) 0) (by omega) (by simp) (DV.replicate (by decide) _) (by simp [gv])
  simp only [T_ref01_bits]
  rw [i64w (by omega) (by omega), show (15 : Int) * (w.length : Int) = ((15 * w.length : Nat) : Int) by simp]
  simp only [show (0 ≤ ((15 * w.length : Nat) : Int) ∧ ((15 * w.length : Nat) : Int) ≤ ((70368744177664 / 8 : Nat) : Int)) = True by simp; omega, if_true, Int.toNat_natCast]
  exact this
theorem Rn_ref01_Mul : Run_ref01_Mul := fun s t hs ht a b => Ok.gif fun ⟨ha, hb⟩ => by
  have hA := ha.2
  have hB := hb.2
  have na := ha.nonneg
  have nb := hb.nonneg
  have w15 : (32768 : Int) = 2 ^ 15 := rfl
  have words : ∀ c : List Int, BB c → gv 32768 (gdn 32768 (bv c) ((c.length + 14) / 15)) = bv c := fun c hc => by
    refine gdn_val (by decide) _ _ hc.nonneg ?_
    rw [w15, ← Int.pow_mul]
    exact Int.lt_of_lt_of_le hc.val.2 (two_pow_le (by omega))
  have va := words a ha
  have vb := words b hb
  have la := gdn_len 32768 ((a.length + 14) / 15) (bv a)
  have lb := gdn_len 32768 ((b.length + 14) / 15) (bv b)
  have da := gdn_DV (B := 32768) (by decide) ((a.length + 14) / 15) (bv a)
  have db := gdn_DV (B := 32768) (by decide) ((b.length + 14) / 15) (bv b)
  simp only [T_ref01_Mul, F_ref01_words, gif_bind ha, gif_bind hb]
  generalize gdn 32768 (bv a) ((a.length + 14) / 15) = p at *
  generalize gdn 32768 (bv b) ((b.length + 14) / 15) = q at *
  rw [i64w (by omega) (by omega)]
  simp only [show (0 ≤ (p.length : Int) + (q.length : Int) ∧ (p.length : Int) + (q.length : Int) ≤ ((70368744177664 / 8 : Nat) : Int)) = True by simp; omega, if_true]
  rw [show Int.toNat ((p.length : Int) + (q.length : Int)) = p.length + q.length by omega]
  have outer : ∀ (d i : Nat) (out : List Int), i + d = p.length → out.length = p.length + q.length → DV 32768 out → gv 32768 (out.drop (i + q.length)) = 0 →
      gv 32768 (out.take (i + q.length)) = gv 32768 (p.take i) * bv b → Ev (fun m => s m (i : Int) p q out) (bd (bv a * bv b)) := by
    intro d
    induction d with
    | zero =>
      intro i out hi hl hd hz hT
      have hi' : i = p.length := by omega
      subst hi'
      refine Ev.step (t := fun _ => some (bd (bv a * bv b))) (fun m => ?_) Ev.ret
      rw [hs]; unfold S_ref01_Mul_17
      rw [List.take_of_length_le (by omega), List.take_of_length_le (by omega), va] at hT
      rw [if_neg (by simp), F_ref01_bits, gif_bind ⟨hd, by omega⟩, hT]
    | succ d ih =>
      intro i out hi hl hd hz hT
      have hx := da.get (by decide) i
      have hz' := gv_zero_split (by decide) hd (show i + q.length < out.length by omega) hz
      have inner : ∀ (e j : Nat) (o : List Int) (c : Int), j + e = q.length → o.length = p.length + q.length → DV 32768 o → 0 ≤ c → c < 32768 → o.drop (i + q.length) = out.drop (i + q.length) →
          gv 32768 (o.take (i + j)) + (c + gv 32768 ((o.take (i + q.length)).drop (i + j)) + p.getD i 0 * gv 32768 (q.drop j)) * 32768 ^ (i + j) = gv 32768 (p.take (i + 1)) * bv b →
          Ev (fun m => t m (i : Int) c (j : Int) p q o) (bd (bv a * bv b)) := by
        intro e
        induction e with
        | zero =>
          intro j o c hj hlo hdo hc0 hc1 hup hS
          have hj' : j = q.length := by omega
          subst hj'
          have hz0 : o.getD (i + q.length) 0 = 0 := by rw [getD_of_drop hup (Nat.le_refl _)]; exact hz'.1
          refine Ev.step (t := fun m => s m ((i + 1 : Nat) : Int) p q (o.set (i + q.length) c)) (fun m => ?_) (ih (i + 1) _ (by omega) (by simpa using hlo) (hdo.set ⟨hc0, hc1⟩) ?_ ?_)
          · rw [ht]; unfold S_ref01_Mul_33
            rw [if_neg (by simp), i64w (n := (i : Int) + (q.length : Int)) (by omega) (by omega), if_pos (by omega)]
            dsimp only
            rw [if_pos (by omega), show Int.toNat ((i : Int) + (q.length : Int)) = i + q.length by omega, hz0, Int.zero_add, i64w (n := c) (by omega) (by omega), i64w (by omega) (by omega)]
            simp
          · rw [show i + 1 + q.length = i + q.length + 1 by omega, drop_set_lt (by omega)]
            have := congrArg (List.drop 1) hup
            rw [List.drop_drop, List.drop_drop] at this
            rw [this]; exact hz'.2
          · rw [show i + 1 + q.length = i + q.length + 1 by omega, gv_take_set _ (by omega)]
            rw [List.drop_eq_nil_of_le (show (o.take (i + q.length)).length ≤ i + q.length by simp; omega), List.drop_eq_nil_of_le (Nat.le_refl q.length)] at hS
            simp only [gv] at hS
            rw [← hS]; simp
        | succ e ihe =>
          intro j o c hj hlo hdo hc0 hc1 hup hS
          have hy := db.get (by decide) j
          have hr := hdo.get (by decide) (i + j)
          have hm0 : 0 ≤ p.getD i 0 * q.getD j 0 := Int.mul_nonneg hx.1 hy.1
          have hm1 : p.getD i 0 * q.getD j 0 ≤ 1073676289 := by
            have h1 : p.getD i 0 * q.getD j 0 ≤ 32767 * q.getD j 0 := Int.mul_le_mul_of_nonneg_right (by omega) hy.1
            omega
          refine Ev.step (t := fun m => t m (i : Int) ((o.getD (i + j) 0 + p.getD i 0 * q.getD j 0 + c) / 32768) ((j + 1 : Nat) : Int) p q (o.set (i + j) ((o.getD (i + j) 0 + p.getD i 0 * q.getD j 0 + c) % 32768))) (fun m => ?_) (ihe (j + 1) _ _ (by omega) (by simpa using hlo) (hdo.set ⟨by omega, by omega⟩) (by omega) (by omega) (by rw [drop_set_lt (by omega)]; exact hup) ?_)
          · rw [ht]; unfold S_ref01_Mul_33
            have hij : Int.toNat ((i : Int) + (j : Int)) = i + j := by omega
            rw [if_pos (by simp <;> omega), i64w (n := (i : Int) + (j : Int)) (by omega) (by omega), if_pos (by omega), if_pos (by omega), if_pos (by omega)]
            dsimp only
            rw [if_neg (by decide), if_pos (by omega), if_neg (by decide), hij, Int.toNat_natCast, Int.toNat_natCast, i64w (n := p.getD i 0 * q.getD j 0) (by omega) (by omega), i64w (n := o.getD (i + j) 0 + p.getD i 0 * q.getD j 0) (by omega) (by omega), i64w (n := o.getD (i + j) 0 + p.getD i 0 * q.getD j 0 + c) (by omega) (by omega), Int.tmod_eq_emod_of_nonneg (by omega), Int.tdiv_eq_ediv_of_nonneg (by omega), i64w (n := (o.getD (i + j) 0 + p.getD i 0 * q.getD j 0 + c) / 32768) (by omega) (by omega), i64w (by omega) (by omega)]
            simp
          · rw [show i + (j + 1) = (i + j) + 1 by omega]
            refine dig_step _ (by omega) hS ?_
            rw [mid_succ (show i + j < i + q.length by omega) (by omega), gv_drop_succ _ (show j < q.length by omega), mid_set]
            have := Int.mul_ediv_add_emod (o.getD (i + j) 0 + p.getD i 0 * q.getD j 0 + c) 32768
            grind
      refine Ev.step (t := fun m => t m (i : Int) 0 ((0 : Nat) : Int) p q out) (fun m => ?_) (inner q.length 0 out 0 (by omega) hl hd (by omega) (by omega) rfl ?_)
      · rw [hs]; unfold S_ref01_Mul_17
        rw [if_pos (by simp <;> omega)]
        rfl
      · rw [List.drop_zero, Nat.add_zero, vb, gv_take_succ _ (show i < p.length by omega)]
        have h2 := gv_split 32768 i (out.take (i + q.length)) (by simp; omega)
        rw [List.take_take, Nat.min_eq_left (by omega), hT] at h2
        generalize gv 32768 ((out.take (i + q.length)).drop i) = D at *
        generalize gv 32768 (out.take i) = E at *
        generalize gv 32768 (p.take i) = G at *
        generalize (32768 : Int) ^ i = W at *
        generalize p.getD i 0 = x at *
        grind
  have := outer p.length 0 (List.replicate (p.length + q.length) 0) (by omega) (by simp) (DV.replicate (by decide) _) (by
      rw [List.drop_replicate]; exact gv_replicate _ _) (by
      rw [List.take_replicate, gv_replicate]; simp [gv])
  exact this
end Go.W

set_option linter.unusedVariables false
set_option linter.unusedSimpArgs false
namespace Go.W

theorem cmp_words {r d : List Int} (hr : DV 32768 r) (hd : DV 32768 d) {k : Nat} (hk : k < r.length) (hl : r.length = d.length) (he : r.drop (k + 1) = d.drop (k + 1)) :
    (r.getD k 0 < d.getD k 0 → gv 32768 r < gv 32768 d) ∧ (d.getD k 0 < r.getD k 0 → gv 32768 d < gv 32768 r) :=
  ⟨fun h => cmp_digit (by decide) hr hd hk hl he h, fun h => cmp_digit (by decide) hd hr (by omega) hl.symm he.symm h⟩

set_option maxHeartbeats 1000000 in
theorem Rn_ref01_DivMod : Run_ref01_DivMod := fun s1 s2 s3 s4 k1 k2 k3 k4 a b => Ok.gif fun ⟨ha, hb, hb0⟩ => by
  have hA := ha.2
  have hB := hb.2
  have na := ha.nonneg
  have nb := hb.nonneg
  have w15 : (32768 : Int) = 2 ^ 15 := rfl
  have vb : gv 32768 (gdn 32768 (bv b) ((b.length + 14) / 15)) = bv b := by
    refine gdn_val (by decide) _ _ hb.nonneg ?_
    rw [w15, ← Int.pow_mul]
    exact Int.lt_of_lt_of_le hb.val.2 (two_pow_le (by omega))
  have lb := gdn_len 32768 ((b.length + 14) / 15) (bv b)
  have db := gdn_DV (B := 32768) (by decide) ((b.length + 14) / 15) (bv b)
  have hlt := gv_lt (B := 32768) (by decide) db
  simp only [T_ref01_DivMod, F_ref01_words, gif_bind hb]
  generalize gdn 32768 (bv b) ((b.length + 14) / 15) = w at *
  rw [vb] at hlt
  rw [i64w (n := (w.length : Int) + 1) (by omega) (by omega), i64w (n := (a.length : Int) - 1) (by omega) (by omega)]
  simp only [show (0 ≤ (a.length : Int) ∧ (a.length : Int) ≤ ((70368744177664 / 8 : Nat) : Int)) = True by simp; omega, show (0 ≤ (w.length : Int) + 1 ∧ (w.length : Int) + 1 ≤ ((70368744177664 / 8 : Nat) : Int)) = True by simp; omega, show (w.length + ([(0 : Int)] : List Int).length ≤ 70368744177664 / 8) = True by simp; omega, if_true, Int.toNat_natCast]
  rw [show Int.toNat ((w.length : Int) + 1) = w.length + 1 by omega]
  -- the divisor's row
  have hD : DV 32768 (w ++ [0]) := db.snoc (by omega)
  have hDv : gv 32768 (w ++ [0]) = bv b := by rw [gv_snoc, vb]; simp
  have hDl : (w ++ [(0 : Int)]).length = w.length + 1 := by simp
  have hpw := pow_pos' (B := 32768) (by decide) w.length
  generalize hn : w.length + 1 = n at *
  have hn' : (w.length : Int) + 1 = (n : Int) := by omega
  rw [hn']
  have hp2 : (32768 : Int) ^ n = 32768 ^ w.length * 32768 := by rw [← hn, Int.pow_succ]
  generalize w ++ [(0 : Int)] = D at *
  have hpos : 0 < bv b := by omega
  have main : ∀ (k : Nat) (q r : List Int), k ≤ a.length → q.length = a.length → r.length = n → DV 2 q → DV 32768 r → (∀ j, j < k → q.getD j 0 = 0) → gv 32768 r < bv b → gv 2 (a.drop k) = bv b * gv 2 (q.drop k) + gv 32768 r →
      Ev (fun m => s1 m a (n : Int) ((k : Int) - 1) q D r) (bd (bv a / bv b), bd (bv a % bv b)) := by
    intro k
    induction k with
    | zero =>
      intro q r hk hq hr hdq hdr hqz hlt hE
      have hr0 := gv_nonneg (B := 32768) (by decide) hdr
      rw [List.drop_zero, List.drop_zero] at hE
      have hq1 : bv a / bv b = gv 2 q := by
        show gv 2 a / bv b = _
        rw [hE, Int.mul_add_ediv_left _ _ hb0, Int.ediv_eq_zero_of_lt hr0 hlt, Int.add_zero]
      have hr1 : bv a % bv b = gv 32768 r := by
        show gv 2 a % bv b = _
        rw [hE, Int.mul_add_emod_self_left, Int.emod_eq_of_lt hr0 hlt]
      refine Ev.step (t := fun _ => some (bd (bv a / bv b), bd (bv a % bv b))) (fun m => ?_) Ev.ret
      rw [k1]; unfold S_ref01_DivMod_29
      have hBq : BW q := ⟨hdq, by omega⟩
      rw [if_neg (by simp), O_ref01_Trim, gif_bind hBq, if_pos (sameLen_self (e := .int .i64))]
      show ((F_ref01_bits r).bind fun r4 => some (List.take (Int.toNat ((bd (bv q)).length : Int)) (List.drop (Int.toNat 0) q), r4)) = _
      rw [F_ref01_bits, gif_bind ⟨hdr, by omega⟩, Int.toNat_natCast, show (Int.toNat 0) = 0 from rfl, List.drop_zero, take_norm (by decide) hBq.1, hq1, hr1]
    | succ i ih =>
      intro q r hk hq hr hdq hdr hqz hlt hE
      have e1 : ((i + 1 : Nat) : Int) - 1 = i := by omega
      rw [e1]
      have hx := ha.1.get (by decide) i
      have hda := gv_drop_succ 2 (a := a) (i := i) (by omega)
      have hr0 := gv_nonneg (B := 32768) (by decide) hdr
      have next : ∀ (q' r2 : List Int) (bit : Int), q'.length = a.length → DV 2 q' → (∀ j, j < i → q'.getD j 0 = 0) → q'.getD i 0 = bit → q'.drop (i + 1) = q.drop (i + 1) → r2.length = n → DV 32768 r2 → gv 32768 r2 = 2 * gv 32768 r + a.getD i 0 - bit * bv b → gv 32768 r2 < bv b → Ev (fun m => s1 m a (n : Int) ((i : Int) - 1) q' D r2) (bd (bv a / bv b), bd (bv a % bv b)) := by
        intro q' r2 bit g1 g2 g3 g4 g5 h1 h2 h3 h4
        refine ih q' r2 (by omega) g1 h1 g2 h2 g3 h4 ?_
        rw [hda, hE, gv_drop_succ _ (show i < q'.length by omega), g4, g5, h3]
        grind
      -- the subtraction
      have sub : ∀ (d k : Nat) (r3 : List Int) (bw : Int) (q' : List Int), k + d = n → r3.length = n → DV 32768 r3 → 0 ≤ bw → bw ≤ 1 → q' = q.set i 1 →
          gv 32768 (r3.take k) + (gv 32768 (r3.drop k) - gv 32768 (D.drop k) - bw) * 32768 ^ k = 2 * gv 32768 r + a.getD i 0 - bv b → 0 ≤ 2 * gv 32768 r + a.getD i 0 - bv b →
          Ev (fun m => s4 m a (n : Int) (i : Int) bw (k : Int) q' D r3) (bd (bv a / bv b), bd (bv a % bv b)) := by
        intro d
        induction d with
        | zero =>
          intro k r3 bw q' hk' hl hd3 hb1 hb2 hq' hT hT0
          rw [List.drop_eq_nil_of_le (show r3.length ≤ k by omega), List.drop_eq_nil_of_le (show D.length ≤ k by omega), List.take_of_length_le (by omega)] at hT
          simp only [gv] at hT
          have hl3 := gv_lt (B := 32768) (by decide) hd3
          rw [hl, show n = k by omega] at hl3
          have hbw : bw = 0 := by
            by_cases h0 : bw = 0
            · exact h0
            · exfalso
              have : bw = 1 := by omega
              subst this
              omega
          subst hbw
          have hg : gv 32768 r3 = 2 * gv 32768 r + a.getD i 0 - 1 * bv b := by omega
          subst hq'
          refine Ev.step (fun m => ?_) (next (q.set i 1) r3 1 (by simpa using hq) (hdq.set (by omega)) (fun j hj => by rw [getD_set, if_neg (by omega)]; exact hqz j (by omega)) (by rw [getD_set, if_pos ⟨rfl, by omega⟩]) (drop_set_lt (by omega)) hl hd3 hg (by omega))
          rw [k4]; unfold S_ref01_DivMod_93
          rw [if_neg (by simp; omega), i64w (by omega) (by omega)]
        | succ d ihd =>
          intro k r3 bw q' hk' hl hd3 hb1 hb2 hq' hT hT0
          have hu := hd3.get (by decide) k
          have hv := hD.get (by decide) k
          refine Ev.step (fun m => ?_) (ihd (k + 1) (r3.set k ((r3.getD k 0 - D.getD k 0 - bw) % 32768)) (if r3.getD k 0 - D.getD k 0 - bw < 0 then 1 else 0) q' (by omega) (by simpa using hl) (hd3.set ⟨by omega, by omega⟩) (by split <;> omega) (by split <;> omega) hq' ?_ hT0)
          · rw [k4]; unfold S_ref01_DivMod_93
            rw [if_pos (by simp; omega), if_pos (by omega), if_pos (by omega)]
            dsimp only
            rw [Int.toNat_natCast, i64w (n := r3.getD k 0 - D.getD k 0) (by omega) (by omega), i64w (n := r3.getD k 0 - D.getD k 0 - bw) (by omega) (by omega)]
            by_cases hneg : r3.getD k 0 - D.getD k 0 - bw < 0
            · rw [if_pos (decide_eq_true hneg), if_pos hneg, if_pos (by omega), i64w (n := r3.getD k 0 - D.getD k 0 - bw + 32768) (by omega) (by omega), i64w (by omega) (by omega), show r3.getD k 0 - D.getD k 0 - bw + 32768 = (r3.getD k 0 - D.getD k 0 - bw) % 32768 by omega]
              simp
            · rw [if_neg (by rw [decide_eq_true_eq]; omega), if_neg hneg, if_pos (by omega), i64w (by omega) (by omega), show r3.getD k 0 - D.getD k 0 - bw = (r3.getD k 0 - D.getD k 0 - bw) % 32768 by omega]
              simp
          · rw [drop_set_lt (by omega)]
            refine dig_step _ (by omega) hT ?_
            rw [gv_drop_succ _ (show k < r3.length by omega), gv_drop_succ _ (show k < D.length by omega)]
            split <;> omega
      have hi : (i : Int) < q.length := by omega
      -- the comparison
      have less : ∀ r2 : List Int, r2.length = n → DV 32768 r2 → gv 32768 r2 = 2 * gv 32768 r + a.getD i 0 → gv 32768 r2 < bv b → Ev (fun m => s1 m a (n : Int) ((i : Int) - 1) q D r2) (bd (bv a / bv b), bd (bv a % bv b)) := fun r2 h1 h2 h3 h4 =>
        next q r2 0 hq hdq (fun j hj => hqz j (by omega)) (hqz i (by omega)) rfl h1 h2 (by omega) h4
      have more : ∀ r2 : List Int, r2.length = n → DV 32768 r2 → gv 32768 r2 = 2 * gv 32768 r + a.getD i 0 → ¬ gv 32768 r2 < bv b → Ev (fun m => s4 m a (n : Int) (i : Int) 0 0 (q.set i 1) D r2) (bd (bv a / bv b), bd (bv a % bv b)) := fun r2 h1 h2 h3 h4 => by
        have := sub n 0 r2 0 (q.set i 1) (by omega) h1 h2 (by omega) (by omega) rfl (by simp only [List.take_zero, List.drop_zero, gv, Int.pow_zero, hDv]; omega) (by omega)
        exact this
      have comp : ∀ (r2 : List Int), r2.length = n → DV 32768 r2 → gv 32768 r2 = 2 * gv 32768 r + a.getD i 0 → ∀ k : Nat, k < n → r2.drop (k + 1) = D.drop (k + 1) → Ev (fun m => s3 m a (n : Int) (i : Int) (k : Int) q D r2) (bd (bv a / bv b), bd (bv a % bv b)) := by
        intro r2 h1 h2 h3 k
        induction k with
        | zero =>
          intro hk' hdr2
          obtain ⟨c1, c2⟩ := cmp_words h2 hD (k := 0) (by omega) (by omega) hdr2
          rw [hDv] at c1 c2
          have hsame : r2.getD 0 0 = D.getD 0 0 → gv 32768 r2 = bv b := fun h => by
            have e1 := gv_drop_succ 32768 (a := r2) (i := 0) (by omega)
            have e2 := gv_drop_succ 32768 (a := D) (i := 0) (by omega)
            rw [List.drop_zero] at e1 e2
            rw [e1, ← hDv, e2, h, hdr2]
          by_cases hl : r2.getD 0 0 < D.getD 0 0
          · refine Ev.step (fun m => ?_) (less r2 h1 h2 h3 (c1 hl))
            rw [k3]; unfold S_ref01_DivMod_69
            rw [if_neg (by simp), if_pos (by omega), if_pos (by omega)]
            dsimp only
            rw [Int.toNat_natCast, if_pos (decide_eq_true hl), i64w (by omega) (by omega)]
          · have hge : ¬ gv 32768 r2 < bv b := fun h => by
              by_cases heq : r2.getD 0 0 = D.getD 0 0
              · have := hsame heq; omega
              · have := c2 (by omega); omega
            refine Ev.step (fun m => ?_) (more r2 h1 h2 h3 hge)
            rw [k3]; unfold S_ref01_DivMod_69
            rw [if_neg (by simp), if_pos (by omega), if_pos (by omega)]
            dsimp only
            rw [Int.toNat_natCast, if_neg (by rw [decide_eq_true_eq]; exact hl), if_pos (by omega), Int.toNat_natCast]
        | succ k ihk =>
          intro hk' hdr2
          obtain ⟨c1, c2⟩ := cmp_words h2 hD (k := k + 1) (by omega) (by omega) hdr2
          rw [hDv] at c1 c2
          by_cases heq : r2.getD (k + 1) 0 = D.getD (k + 1) 0
          · refine Ev.step (fun m => ?_) (ihk (by omega) (by rw [drop_cons' (show k + 1 < r2.length by omega), drop_cons' (show k + 1 < D.length by omega), heq, hdr2]))
            rw [k3]; unfold S_ref01_DivMod_69
            rw [if_pos (by simp <;> omega), if_pos (by omega), if_pos (by omega)]
            dsimp only
            rw [Int.toNat_natCast, if_pos (by rw [heq]; simp), i64w (by omega) (by omega)]
            simp
          · by_cases hl : r2.getD (k + 1) 0 < D.getD (k + 1) 0
            · refine Ev.step (fun m => ?_) (less r2 h1 h2 h3 (c1 hl))
              rw [k3]; unfold S_ref01_DivMod_69
              rw [if_pos (by simp <;> omega), if_pos (by omega), if_pos (by omega)]
              dsimp only
              rw [Int.toNat_natCast, if_neg (by rw [beq_iff_eq]; exact heq), if_pos (by omega), if_pos (by omega), if_pos (decide_eq_true hl), i64w (by omega) (by omega)]
            · refine Ev.step (fun m => ?_) (more r2 h1 h2 h3 (by have := c2 (by omega); omega))
              rw [k3]; unfold S_ref01_DivMod_69
              rw [if_pos (by simp <;> omega), if_pos (by omega), if_pos (by omega)]
              dsimp only
              rw [Int.toNat_natCast, if_neg (by rw [beq_iff_eq]; exact heq), if_pos (by omega), if_pos (by omega), if_neg (by rw [decide_eq_true_eq]; exact hl), if_pos (by omega), Int.toNat_natCast]
      -- the doubling
      have dbl : ∀ (d k : Nat) (r2 : List Int) (c : Int), k + d = n → r2.length = n → DV 32768 r2 → 0 ≤ c → c ≤ 1 → gv 32768 (r2.take k) + (c + 2 * gv 32768 (r2.drop k)) * 32768 ^ k = 2 * gv 32768 r + a.getD i 0 →
          Ev (fun m => s2 m a (n : Int) (i : Int) c (k : Int) q D r2) (bd (bv a / bv b), bd (bv a % bv b)) := by
        intro d
        induction d with
        | zero =>
          intro k r2 c hk' hl hd2 hc0 hc1 hT
          rw [List.drop_eq_nil_of_le (show r2.length ≤ k by omega), List.take_of_length_le (by omega), show k = n by omega] at hT
          simp only [gv] at hT
          have hc : c = 0 := by
            by_cases h0 : c = 0
            · exact h0
            · exfalso
              have : c = 1 := by omega
              subst this
              have := gv_nonneg (B := 32768) (by decide) hd2
              rw [hp2] at hT
              omega
          subst hc
          refine Ev.step (fun m => ?_) (comp r2 hl hd2 (by omega) (n - 1) (by omega) (by rw [List.drop_eq_nil_of_le (by omega), List.drop_eq_nil_of_le (by omega)]))
          rw [k2]; unfold S_ref01_DivMod_45
          rw [if_neg (by simp; omega), i64w (by omega) (by omega), show ((n - 1 : Nat) : Int) = (n : Int) - 1 by omega]
        | succ d ihd =>
          intro k r2 c hk' hl hd2 hc0 hc1 hT
          have hu := hd2.get (by decide) k
          refine Ev.step (fun m => ?_) (ihd (k + 1) (r2.set k ((2 * r2.getD k 0 + c) % 32768)) ((2 * r2.getD k 0 + c) / 32768) (by omega) (by simpa using hl) (hd2.set ⟨by omega, by omega⟩) (by omega) (by omega) ?_)
          · rw [k2]; unfold S_ref01_DivMod_45
            rw [if_pos (by simp; omega), if_pos (by omega)]
            dsimp only
            rw [if_neg (by decide), if_pos (by omega), if_neg (by decide), Int.toNat_natCast, i64w (n := 2 * r2.getD k 0) (by omega) (by omega), i64w (n := 2 * r2.getD k 0 + c) (by omega) (by omega), Int.tmod_eq_emod_of_nonneg (by omega), Int.tdiv_eq_ediv_of_nonneg (by omega), i64w (n := (2 * r2.getD k 0 + c) / 32768) (by omega) (by omega), i64w (by omega) (by omega)]
            simp
          · rw [drop_set_lt (by omega)]
            refine dig_step _ (by omega) hT ?_
            rw [gv_drop_succ _ (show k < r2.length by omega)]
            omega
      have hstart := dbl n 0 r (a.getD i 0) (by omega) hr hdr hx.1 (by omega) (by simp only [List.take_zero, List.drop_zero, gv, Int.pow_zero]; omega)
      refine Ev.step (fun m => ?_) hstart
      rw [k1]; unfold S_ref01_DivMod_29
      rw [if_pos (by simp), if_pos (by omega), Int.toNat_natCast]
      rfl
  have := main a.length (List.replicate a.length 0) (List.replicate n 0) (Nat.le_refl _) (by simp) (by simp) (DV.replicate (by decide) _) (DV.replicate (by decide) _) (fun j _ => by
      simp only [List.getD_eq_getElem?_getD, List.getElem?_replicate]; split <;> rfl) (by rw [gv_replicate]; exact hpos) (by
      rw [List.drop_eq_nil_of_le (Nat.le_refl _), List.drop_eq_nil_of_le (by simp), gv_replicate]; simp [gv])
  exact this
end Go.W

set_option linter.unusedVariables false
namespace Go.W
/-! ### the reference's integers and fractions -/
abbrev zZ : Int × List Int := (0, [])
noncomputable def F_ref02_Make (neg : Bool) (b : List Int) : Option (Int × List Int) := gif (BW b) (dz (if neg = true then -(bv b) else bv b))
noncomputable def F_ref02_Of (neg : Bool) (a : List Int) : Option (Int × List Int) := gif (NN a) (dz (iv (neg, a)))
noncomputable def F_ref02_Is (neg : Bool) (a : List Int) (z : Int × List Int) : Option Bool := gif (ZZ z) (decide ((neg, a) = di (zv z)))
noncomputable def F_ref02_Neg (z : Int × List Int) : Option (Int × List Int) := gif (ZZ z) (dz (-(zv z)))
noncomputable def F_ref02_Cmp (a b : Int × List Int) : Option Int := gif (ZZ a ∧ ZZ b) (cm (zv a) (zv b))
noncomputable def F_ref02_Add (a b : Int × List Int) : Option (Int × List Int) := gif (ZZ a ∧ ZZ b) (dz (zv a + zv b))
noncomputable def F_ref02_Mul (a b : Int × List Int) : Option (Int × List Int) := gif (ZZ a ∧ ZZ b) (dz (zv a * zv b))
noncomputable def F_ref02_Small (n : Int) : Option (Int × List Int) := gif (-9223372036854775807 ≤ n ∧ n ≤ 9223372036854775807) (dz n)
noncomputable def F_ref03_Quo (a b : Int × List Int) : Option ((Int × List Int) × Int × List Int) := gif (ZZ a ∧ ZZ b ∧ zv b ≠ 0) (dz (Int.tdiv (zv a) (zv b)), dz (Int.tmod (zv a) (zv b)))
noncomputable def F_ref03_Floor (a b : Int × List Int) : Option ((Int × List Int) × Int × List Int) := gif (ZZ a ∧ ZZ b ∧ zv b ≠ 0) (dz (Int.fdiv (zv a) (zv b)), dz (Int.fmod (zv a) (zv b)))
noncomputable def F_ref03_Abs (a : Int × List Int) : Option (Int × List Int) := gif (ZZ a) (dz (ab (zv a)))
noncomputable def F_ref03_Gcd (a b : Int × List Int) : Option (Int × List Int) := gif (ZZ a ∧ ZZ b) (dz (Int.gcd (zv a) (zv b) : Int))
noncomputable def F_ref03_Pow (a : Int × List Int) (n : Int) : Option (Int × List Int) := gif (ZZ a ∧ n ≤ 1000 ∧ Bd 1000 (ab (zv a))) (dz (zv a ^ n.toNat))
/-- the reference's fraction n/d -/
def mq (n d : Int) : (Int × List Int) × Int × List Int := (dz n, dz d)
def qn (q : (Int × List Int) × Int × List Int) : Int := zv q.1
def qd (q : (Int × List Int) × Int × List Int) : Int := zv q.2
def qv (q : (Int × List Int) × Int × List Int) : Rat := Rat.divInt (qn q) (qd q)
/-- fractions of at most k bits -/
def RQ (k : Nat) (q : (Int × List Int) × Int × List Int) : Prop := q = mq (qn q) (qd q) ∧ Bd k (ab (qn q)) ∧ Bd k (qd q) ∧ 0 < qd q
def RK : Nat := 1000000000
noncomputable def F_ref05_Of (neg : Bool) (n d : List Int) : Option ((Int × List Int) × Int × List Int) := gif (QD n ∧ QD d) (mq (rn ((neg, n), d)) (rd ((neg, n), d)))
noncomputable def F_ref05_Make (a b : Int × List Int) : Option ((Int × List Int) × Int × List Int) := gif (ZZ a ∧ ZZ b ∧ zv b ≠ 0) (if zv b < 0 then mq (-(zv a)) (-(zv b)) else mq (zv a) (zv b))
noncomputable def F_ref05_Reduced (a : (Int × List Int) × Int × List Int) : Option ((Int × List Int) × Int × List Int) := gif (RQ RK a) (mq (qv a).num (qv a).den)
noncomputable def F_ref05_Is (neg : Bool) (n d : List Int) (a : (Int × List Int) × Int × List Int) : Option Bool := gif (RQ RK a) (decide (((neg, n), d) = dr (qv a)))
noncomputable def F_ref05_Cmp (a b : (Int × List Int) × Int × List Int) : Option Int := gif (RQ RK a ∧ RQ RK b) (rcm (qv a) (qv b))
noncomputable def F_ref05_Neg (a : (Int × List Int) × Int × List Int) : Option ((Int × List Int) × Int × List Int) := gif (RQ RK a) (mq (-(qn a)) (qd a))
noncomputable def F_ref05_Add (a b : (Int × List Int) × Int × List Int) : Option ((Int × List Int) × Int × List Int) := gif (RQ RK a ∧ RQ RK b) (mq (qn a * qd b + qn b * qd a) (qd a * qd b))
noncomputable def F_ref05_Mul (a b : (Int × List Int) × Int × List Int) : Option ((Int × List Int) × Int × List Int) := gif (RQ RK a ∧ RQ RK b) (mq (qn a * qn b) (qd a * qd b))
noncomputable def F_ref05_Quo (a b : (Int × List Int) × Int × List Int) : Option ((Int × List Int) × Int × List Int) := gif (RQ RK a ∧ RQ RK b ∧ qn b ≠ 0) (if qn b < 0 then mq (-(qn a * qd b)) (-(qd a * qn b)) else mq (qn a * qd b) (qd a * qn b))
noncomputable def F_ref05_Floor (a : (Int × List Int) × Int × List Int) : Option (Int × List Int) := gif (RQ RK a) (dz (qv a).floor)
/-! ### the laws' helpers -/
noncomputable def F_law05_of (a : (Bool × List Int) × List Int) : Option ((Int × List Int) × Int × List Int) := gif (QQ a) (mq (rn a) (rd a))
noncomputable def F_law05_is (a : (Bool × List Int) × List Int) (b : (Int × List Int) × Int × List Int) : Option Bool := gif (RQ RK b) (decide (a = dr (qv b)))
noncomputable def F_law05_same (a b : (Bool × List Int) × List Int) : Option Bool := gif (QQ a ∧ QQ b) (decide (rv a = rv b))
noncomputable def F_law05_few (n : Int) (a b c : (Bool × List Int) × List Int) : Option Bool := gif True (decide ((a.1.2.length : Int) ≤ n ∧ (a.2.length : Int) ≤ n ∧ (b.1.2.length : Int) ≤ n ∧ (b.2.length : Int) ≤ n ∧ (c.1.2.length : Int) ≤ n ∧ (c.2.length : Int) ≤ n))
end Go.W

set_option linter.unusedVariables false
namespace Go.W
/-! ### texts -/
def decL (z : Int) : List Int := (if z < 0 then [45] else []) ++ ((gd 10 (ab z)).map fun d => 48 + d).reverse
def decS (z : Int) : ByteArray := if z = 0 then (ByteArray.mk #[48]) else ofB (decL z)
noncomputable def O_slices_Reverse (l : List Int) : Option (List Int × Unit) := gif (l.length ≤ 8796093022208) (l.reverse, ())
noncomputable def F_decimal_chunk (b : Int) : Option (Int × Int) := gif (b = 10) (1000000000, 9)
noncomputable def F_decimal_write (a : Bool × List Int) (b : Int) : Option ByteArray := gif (II a ∧ b = 10) (decS (iv a))
noncomputable def F_decimal_Format (a : Bool × List Int) : Option ByteArray := gif (II a) (decS (iv a))
def ratS (r : Rat) : ByteArray := if r.den = 1 then decS r.num else decS r.num ++ (ByteArray.mk #[47]) ++ decS r.den
noncomputable def F_rational_Format (a : (Bool × List Int) × List Int) : Option ByteArray := gif (QQ a) (ratS (rv a))
noncomputable def F_law05_awake : Option Bool := gif True true
end Go.W

set_option linter.unusedVariables false
namespace Go.W
/-! ### the laws -/
def DR (a : (Bool × List Int) × List Int) : Prop := DV 4294967296 a.1.2 ∧ DV 4294967296 a.2
noncomputable def F_law05_RationalPowers (a : (Bool × List Int) × List Int) (n : Int) : Option Bool := gif (DR a ∧ -128 ≤ n ∧ n ≤ 127) true
noncomputable def F_law05_RationalMakes (a b : Bool × List Int) : Option Bool := gif (DV 4294967296 a.2 ∧ DV 4294967296 b.2) true
noncomputable def F_law05_RationalQuotients (a b : (Bool × List Int) × List Int) : Option Bool := gif (DR a ∧ DR b) true
noncomputable def F_law05_RationalAdds (a b : (Bool × List Int) × List Int) : Option Bool := gif (DR a ∧ DR b) true
noncomputable def F_law05_RationalField (a b c : (Bool × List Int) × List Int) : Option Bool := gif (DR a ∧ DR b ∧ DR c) true
end Go.W

set_option linter.unusedVariables false
namespace Go.W
noncomputable section

/-! cylinder/decimal.chunk -/
def T_decimal_chunk (s9 : Int → Int → Int → Option ((Int × Int))) (a0 : Int) : Option (Int × Int) :=
  s9 a0 a0 (1 : Int)
def S_decimal_chunk_9 (s9 : Int → Int → Int → Option ((Int × Int))) (x0 : Int) (x4 : Int) (x5 : Int) : Option (Int × Int) :=
  let v1 : Bool := (decide ((IntKind.wrap .u64 ((IntKind.wrap .u64 x4) * (IntKind.wrap .u64 x0))) < (4294967296 : Int)))
  if v1 = true then
    s9 x0 (IntKind.wrap .u32 (x4 * x0)) (IntKind.wrap .i64 (x5 + (1 : Int)))
  else
    some (x4, x5)
def Run_decimal_chunk : Prop := ∀ s9 : Nat → Int → Int → Int → Option ((Int × Int)), (∀ m x0 x4 x5, s9 (m + 1) x0 x4 x5 = S_decimal_chunk_9 (s9 m) x0 x4 x5) → ∀ a0 : Int, Ok (F_decimal_chunk a0) (fun m => T_decimal_chunk (s9 m) a0)

/-! slices.Reverse[[]byte,byte] -/
def To_slices_Reverse (s5 : Int → Int → List Int → Option (((List Int) × (Unit)))) (l : List Int) : Option ((List Int) × (Unit)) :=
  s5 (0 : Int) (IntKind.wrap .i64 ((List.length l : Int) - (1 : Int))) l
def So_slices_Reverse_5 (s5 : Int → Int → List Int → Option (((List Int) × (Unit)))) (x2 : Int) (x3 : Int) (x0 : List Int) : Option ((List Int) × (Unit)) :=
  if (decide (x2 < x3)) = true then
    if 0 ≤ x3 ∧ x3 < (List.length x0 : Int) then
      if 0 ≤ x2 ∧ x2 < (List.length x0 : Int) then
        if 0 ≤ x2 ∧ x2 < (List.length x0 : Int) then
          if 0 ≤ x3 ∧ x3 < (List.length (List.set x0 (Int.toNat x2) (List.getD x0 (Int.toNat x3) (0 : Int))) : Int) then
            let v1 : List Int := (List.set (List.set x0 (Int.toNat x2) (List.getD x0 (Int.toNat x3) (0 : Int))) (Int.toNat x3) (List.getD x0 (Int.toNat x2) (0 : Int)))
            s5 (IntKind.wrap .i64 (x2 + (1 : Int))) (IntKind.wrap .i64 (x3 - (1 : Int))) v1
          else none
        else none
      else none
    else none
  else
    some (x0, ())
def Runo_slices_Reverse : Prop := ∀ s5 : Nat → Int → Int → List Int → Option (((List Int) × (Unit))), (∀ m x2 x3 x0, s5 (m + 1) x2 x3 x0 = So_slices_Reverse_5 (s5 m) x2 x3 x0) → ∀ l : List Int, Ok (O_slices_Reverse l) (fun m => To_slices_Reverse (s5 m) l)

/-! cylinder/decimal.write -/
def T_decimal_write (s17 : Int → List Int → Int → Int → (Bool × List Int) → List Int → Option ByteArray) (s33 : Int → List Int → Int → Int → Int → Int → (Bool × List Int) → List Int → Option ByteArray) (s40 : Int → List Int → Int → Int → Int → Int → Int → Bool → Bool → Bool → (Bool × List Int) → List Int → Option ByteArray) (a0 : Bool × List Int) (a1 : Int) : Option ByteArray :=
  (F_natural_Normal a0.2).bind fun r1 =>
  (F_decimal_chunk a1).bind fun r2 =>
  s17 a1 r1 r2.1 r2.2 a0 ([] : List Int)
def S_decimal_write_17 (s17 : Int → List Int → Int → Int → (Bool × List Int) → List Int → Option ByteArray) (s33 : Int → List Int → Int → Int → Int → Int → (Bool × List Int) → List Int → Option ByteArray) (s40 : Int → List Int → Int → Int → Int → Int → Int → Bool → Bool → Bool → (Bool × List Int) → List Int → Option ByteArray) (x1 : Int) (x5 : List Int) (x6 : Int) (x7 : Int) (x2 : Bool × List Int) (x8 : List Int) : Option ByteArray :=
  if (decide ((List.length x5 : Int) > (0 : Int))) = true then
    (F_natural_DivSmall x5 x6).bind fun r1 =>
    s33 x1 r1.1 x6 x7 r1.2.1 (0 : Int) x2 x8
  else
    if ((List.length x8 : Int) == (0 : Int)) = true then
      some ((ByteArray.mk #[48]))
    else
      if x2.1 = true then
        if List.length x8 + List.length ([(45 : Int)] : List Int) ≤ 70368744177664 / 1 then
          (O_slices_Reverse (x8 ++ ([(45 : Int)] : List Int))).bind fun r2 =>
          if Go.W.sameLen false (.int .u8) (x8 ++ ([(45 : Int)] : List Int)) r2.1 then
            some ((Go.W.ofB r2.1))
          else none
        else none
      else
        (O_slices_Reverse x8).bind fun r3 =>
        if Go.W.sameLen false (.int .u8) x8 r3.1 then
          some ((Go.W.ofB r3.1))
        else none
def S_decimal_write_33 (s17 : Int → List Int → Int → Int → (Bool × List Int) → List Int → Option ByteArray) (s33 : Int → List Int → Int → Int → Int → Int → (Bool × List Int) → List Int → Option ByteArray) (s40 : Int → List Int → Int → Int → Int → Int → Int → Bool → Bool → Bool → (Bool × List Int) → List Int → Option ByteArray) (x1 : Int) (x5 : List Int) (x6 : Int) (x7 : Int) (x10 : Int) (x12 : Int) (x2 : Bool × List Int) (x8 : List Int) : Option ByteArray :=
  if (decide (x12 < x7)) = true then
    if (decide (x10 > (0 : Int))) = true then
      s40 x1 x5 x6 x7 x10 x12 x10 (decide (x10 > (0 : Int))) true true x2 x8
    else
      if (decide ((List.length x5 : Int) > (0 : Int))) = true then
        s40 x1 x5 x6 x7 x10 x12 x10 (decide (x10 > (0 : Int))) false (decide ((List.length x5 : Int) > (0 : Int))) x2 x8
      else
        s17 x1 x5 x6 x7 x2 x8
  else
    s17 x1 x5 x6 x7 x2 x8
def S_decimal_write_40 (s17 : Int → List Int → Int → Int → (Bool × List Int) → List Int → Option ByteArray) (s33 : Int → List Int → Int → Int → Int → Int → (Bool × List Int) → List Int → Option ByteArray) (s40 : Int → List Int → Int → Int → Int → Int → Int → Bool → Bool → Bool → (Bool × List Int) → List Int → Option ByteArray) (x1 : Int) (x5 : List Int) (x6 : Int) (x7 : Int) (x10 : Int) (x12 : Int) (x36 : Int) (x37 : Bool) (x38 : Bool) (x42 : Bool) (x2 : Bool × List Int) (x8 : List Int) : Option ByteArray :=
  if x1 = 0 then none else
  if 0 ≤ (Int.tmod x10 x1) ∧ (Int.tmod x10 x1) < ((ByteArray.size (ByteArray.mk #[48, 49, 50, 51, 52, 53, 54, 55, 56, 57, 97, 98, 99, 100, 101, 102, 103, 104, 105, 106, 107, 108, 109, 110, 111, 112, 113, 114, 115, 116, 117, 118, 119, 120, 121, 122])) : Int) then
    let v1 : Int := (Go.W.bt (ByteArray.mk #[48, 49, 50, 51, 52, 53, 54, 55, 56, 57, 97, 98, 99, 100, 101, 102, 103, 104, 105, 106, 107, 108, 109, 110, 111, 112, 113, 114, 115, 116, 117, 118, 119, 120, 121, 122]) (Int.tmod x10 x1))
    if List.length x8 + List.length ([v1] : List Int) ≤ 70368744177664 / 1 then
      if x1 = 0 then none else
      s33 x1 x5 x6 x7 (IntKind.wrap .u32 (Int.tdiv x10 x1)) (IntKind.wrap .i64 (x12 + (1 : Int))) x2 (x8 ++ ([v1] : List Int))
    else none
  else none
def Run_decimal_write : Prop := ∀ s17 : Nat → Int → List Int → Int → Int → (Bool × List Int) → List Int → Option ByteArray, ∀ s33 : Nat → Int → List Int → Int → Int → Int → Int → (Bool × List Int) → List Int → Option ByteArray, ∀ s40 : Nat → Int → List Int → Int → Int → Int → Int → Int → Bool → Bool → Bool → (Bool × List Int) → List Int → Option ByteArray, (∀ m x1 x5 x6 x7 x2 x8, s17 (m + 1) x1 x5 x6 x7 x2 x8 = S_decimal_write_17 (s17 m) (s33 m) (s40 m) x1 x5 x6 x7 x2 x8) → (∀ m x1 x5 x6 x7 x10 x12 x2 x8, s33 (m + 1) x1 x5 x6 x7 x10 x12 x2 x8 = S_decimal_write_33 (s17 m) (s33 m) (s40 m) x1 x5 x6 x7 x10 x12 x2 x8) → (∀ m x1 x5 x6 x7 x10 x12 x36 x37 x38 x42 x2 x8, s40 (m + 1) x1 x5 x6 x7 x10 x12 x36 x37 x38 x42 x2 x8 = S_decimal_write_40 (s17 m) (s33 m) (s40 m) x1 x5 x6 x7 x10 x12 x36 x37 x38 x42 x2 x8) → ∀ a0 : Bool × List Int, ∀ a1 : Int, Ok (F_decimal_write a0 a1) (fun m => T_decimal_write (s17 m) (s33 m) (s40 m) a0 a1)

/-! cylinder/decimal.Format -/
def T_decimal_Format (a0 : Bool × List Int) : Option ByteArray :=
  (F_decimal_write a0 (10 : Int)).bind fun r1 =>
  some r1
def Run_decimal_Format : Prop := ∀ a0 : Bool × List Int, Ok (F_decimal_Format a0) (fun _ => T_decimal_Format a0)

/-! cylinder/rational.Format -/
def T_rational_Format (a0 : (Bool × List Int) × List Int) : Option ByteArray :=
  (F_rational_Normal a0).bind fun r1 =>
  (F_rational_isOne r1.2).bind fun r2 =>
  if r2 = true then
    (F_decimal_Format r1.1).bind fun r3 =>
    some r3
  else
    (F_decimal_Format r1.1).bind fun r4 =>
    if ByteArray.size r4 + ByteArray.size (ByteArray.mk #[47]) ≤ 9223372036854775807 then
      (F_decimal_Format (false, r1.2)).bind fun r5 =>
      if ByteArray.size (r4 ++ (ByteArray.mk #[47])) + ByteArray.size r5 ≤ 9223372036854775807 then
        some (((r4 ++ (ByteArray.mk #[47])) ++ r5))
      else none
    else none
def Run_rational_Format : Prop := ∀ a0 : (Bool × List Int) × List Int, Ok (F_rational_Format a0) (fun _ => T_rational_Format a0)

/-! cylinder/cylinderlaw05.awake -/
def T_law05_awake : Option Bool :=
  (F_integer_Of (6 : Int)).bind fun r1 =>
  (F_integer_Of (-4 : Int)).bind fun r2 =>
  (F_rational_Make r1 r2).bind fun r3 =>
  if (r3.2 == (0 : Int)) = true then
    (F_rational_Format r3.1).bind fun r4 =>
    let v5 : Bool := (ByteArray.toList r4 == ByteArray.toList (ByteArray.mk #[45, 51, 47, 50]))
    if v5 = true then
      some r3.1.1.1
    else
      some false
  else
    some false
def Run_law05_awake : Prop := Ok (F_law05_awake) (fun _ => T_law05_awake)

/-! cylinder/cylinderlaw05.few -/
def T_law05_few (a0 : Int) (a1 : (Bool × List Int) × List Int) (a2 : (Bool × List Int) × List Int) (a3 : (Bool × List Int) × List Int) : Option Bool :=
  (F_ref01_Few a0 ([a1.1.2, a1.2, a2.1.2] : List (List Int))).bind fun r1 =>
  if r1 = true then
    (F_ref01_Few a0 ([a2.2, a3.1.2, a3.2] : List (List Int))).bind fun r2 =>
    some r2
  else
    some false
def Run_law05_few : Prop := ∀ a0 : Int, ∀ a1 : (Bool × List Int) × List Int, ∀ a2 : (Bool × List Int) × List Int, ∀ a3 : (Bool × List Int) × List Int, Ok (F_law05_few a0 a1 a2 a3) (fun _ => T_law05_few a0 a1 a2 a3)

/-! cylinder/cylinderref02.Make -/
def T_ref02_Make (a0 : Bool) (a1 : List Int) : Option (Int × List Int) :=
  (F_ref01_Trim a1).bind fun r1 =>
  if ((List.length r1 : Int) == (0 : Int)) = true then
    some (((0 : Int), ([] : List Int)))
  else
    if a0 = true then
      some (((-1 : Int), r1))
    else
      some (((1 : Int), r1))
def Run_ref02_Make : Prop := ∀ a0 : Bool, ∀ a1 : List Int, Ok (F_ref02_Make a0 a1) (fun _ => T_ref02_Make a0 a1)

/-! cylinder/cylinderref02.Small -/
def T_ref02_Small (s21 : Int → Bool → (Int × List Int) → List Int → Option ((Int × List Int))) (a0 : Int) : Option (Int × List Int) :=
  if (decide (a0 < (0 : Int))) = true then
    s21 (IntKind.wrap .i64 ((0 : Int) - a0)) (decide (a0 < (0 : Int))) ((0 : Int), ([] : List Int)) ([] : List Int)
  else
    s21 a0 (decide (a0 < (0 : Int))) ((0 : Int), ([] : List Int)) ([] : List Int)
def S_ref02_Small_21 (s21 : Int → Bool → (Int × List Int) → List Int → Option ((Int × List Int))) (x0 : Int) (x3 : Bool) (x2 : Int × List Int) (x4 : List Int) : Option (Int × List Int) :=
  if (decide (x0 > (0 : Int))) = true then
    if (2 : Int) = 0 then none else
    if List.length x4 + List.length ([(Int.tmod x0 (2 : Int))] : List Int) ≤ 70368744177664 / 8 then
      if (2 : Int) = 0 then none else
      s21 (IntKind.wrap .i64 (Int.tdiv x0 (2 : Int))) x3 x2 (x4 ++ ([(Int.tmod x0 (2 : Int))] : List Int))
    else none
  else
    (F_ref02_Make x3 x4).bind fun r1 =>
    some r1
def Run_ref02_Small : Prop := ∀ s21 : Nat → Int → Bool → (Int × List Int) → List Int → Option ((Int × List Int)), (∀ m x0 x3 x2 x4, s21 (m + 1) x0 x3 x2 x4 = S_ref02_Small_21 (s21 m) x0 x3 x2 x4) → ∀ a0 : Int, Ok (F_ref02_Small a0) (fun m => T_ref02_Small (s21 m) a0)

/-! cylinder/cylinderref02.Of -/
def T_ref02_Of (a0 : Bool) (a1 : List Int) : Option (Int × List Int) :=
  (F_ref01_Of a1).bind fun r1 =>
  (F_ref02_Make a0 r1).bind fun r2 =>
  some r2
def Run_ref02_Of : Prop := ∀ a0 : Bool, ∀ a1 : List Int, Ok (F_ref02_Of a0 a1) (fun _ => T_ref02_Of a0 a1)

/-! cylinder/cylinderref05.Of -/
def T_ref05_Of (a0 : Bool) (a1 : List Int) (a2 : List Int) : Option ((Int × List Int) × Int × List Int) :=
  (F_ref02_Of false a2).bind fun r1 =>
  if (r1.1 == (0 : Int)) = true then
    (F_ref02_Small (1 : Int)).bind fun r2 =>
    some ((((0 : Int), ([] : List Int)), r2))
  else
    (F_ref02_Of a0 a1).bind fun r3 =>
    some ((r3, r1))
def Run_ref05_Of : Prop := ∀ a0 : Bool, ∀ a1 : List Int, ∀ a2 : List Int, Ok (F_ref05_Of a0 a1 a2) (fun _ => T_ref05_Of a0 a1 a2)

/-! cylinder/cylinderlaw05.of -/
def T_law05_of (a0 : (Bool × List Int) × List Int) : Option ((Int × List Int) × Int × List Int) :=
  (F_ref05_Of a0.1.1 a0.1.2 a0.2).bind fun r1 =>
  some r1
def Run_law05_of : Prop := ∀ a0 : (Bool × List Int) × List Int, Ok (F_law05_of a0) (fun _ => T_law05_of a0)

/-! cylinder/cylinderref02.Neg -/
def T_ref02_Neg (a0 : Int × List Int) : Option (Int × List Int) :=
  some (((IntKind.wrap .i64 ((0 : Int) - a0.1)), a0.2))
def Run_ref02_Neg : Prop := ∀ a0 : Int × List Int, Ok (F_ref02_Neg a0) (fun _ => T_ref02_Neg a0)

/-! cylinder/cylinderref05.Make -/
def T_ref05_Make (a0 : Int × List Int) (a1 : Int × List Int) : Option ((Int × List Int) × Int × List Int) :=
  if (decide (a1.1 < (0 : Int))) = true then
    (F_ref02_Neg a0).bind fun r1 =>
    (F_ref02_Neg a1).bind fun r2 =>
    some ((r1, r2))
  else
    some ((a0, a1))
def Run_ref05_Make : Prop := ∀ a0 : Int × List Int, ∀ a1 : Int × List Int, Ok (F_ref05_Make a0 a1) (fun _ => T_ref05_Make a0 a1)

/-! cylinder/cylinderref02.Mul -/
def T_ref02_Mul (a0 : Int × List Int) (a1 : Int × List Int) : Option (Int × List Int) :=
  (F_ref01_Mul a0.2 a1.2).bind fun r1 =>
  (F_ref02_Make (decide ((IntKind.wrap .i64 (a0.1 * a1.1)) < (0 : Int))) r1).bind fun r2 =>
  some r2
def Run_ref02_Mul : Prop := ∀ a0 : Int × List Int, ∀ a1 : Int × List Int, Ok (F_ref02_Mul a0 a1) (fun _ => T_ref02_Mul a0 a1)

/-! cylinder/cylinderref05.Quo -/
def T_ref05_Quo (a0 : (Int × List Int) × Int × List Int) (a1 : (Int × List Int) × Int × List Int) : Option ((Int × List Int) × Int × List Int) :=
  (F_ref02_Mul a0.1 a1.2).bind fun r1 =>
  (F_ref02_Mul a0.2 a1.1).bind fun r2 =>
  (F_ref05_Make r1 r2).bind fun r3 =>
  some r3
def Run_ref05_Quo : Prop := ∀ a0 : (Int × List Int) × Int × List Int, ∀ a1 : (Int × List Int) × Int × List Int, Ok (F_ref05_Quo a0 a1) (fun _ => T_ref05_Quo a0 a1)

/-! cylinder/cylinderref05.Mul -/
def T_ref05_Mul (a0 : (Int × List Int) × Int × List Int) (a1 : (Int × List Int) × Int × List Int) : Option ((Int × List Int) × Int × List Int) :=
  (F_ref02_Mul a0.1 a1.1).bind fun r1 =>
  (F_ref02_Mul a0.2 a1.2).bind fun r2 =>
  some ((r1, r2))
def Run_ref05_Mul : Prop := ∀ a0 : (Int × List Int) × Int × List Int, ∀ a1 : (Int × List Int) × Int × List Int, Ok (F_ref05_Mul a0 a1) (fun _ => T_ref05_Mul a0 a1)

/-! cylinder/cylinderref02.Is -/
def T_ref02_Is (a0 : Bool) (a1 : List Int) (a2 : Int × List Int) : Option Bool :=
  if (a0 == (decide (a2.1 < (0 : Int)))) = true then
    (F_ref01_Is a1 a2.2).bind fun r1 =>
    some r1
  else
    some false
def Run_ref02_Is : Prop := ∀ a0 : Bool, ∀ a1 : List Int, ∀ a2 : Int × List Int, Ok (F_ref02_Is a0 a1 a2) (fun _ => T_ref02_Is a0 a1 a2)

/-! cylinder/cylinderref03.Quo -/
def T_ref03_Quo (a0 : Int × List Int) (a1 : Int × List Int) : Option ((Int × List Int) × Int × List Int) :=
  (F_ref01_DivMod a0.2 a1.2).bind fun r1 =>
  (F_ref02_Make (decide ((IntKind.wrap .i64 (a0.1 * a1.1)) < (0 : Int))) r1.1).bind fun r2 =>
  (F_ref02_Make (decide (a0.1 < (0 : Int))) r1.2).bind fun r3 =>
  some (r2, r3)
def Run_ref03_Quo : Prop := ∀ a0 : Int × List Int, ∀ a1 : Int × List Int, Ok (F_ref03_Quo a0 a1) (fun _ => T_ref03_Quo a0 a1)

/-! cylinder/cylinderref03.Abs -/
def T_ref03_Abs (a0 : Int × List Int) : Option (Int × List Int) :=
  (F_ref02_Make false a0.2).bind fun r1 =>
  some r1
def Run_ref03_Abs : Prop := ∀ a0 : Int × List Int, Ok (F_ref03_Abs a0) (fun _ => T_ref03_Abs a0)

/-! cylinder/cylinderref03.Gcd -/
def T_ref03_Gcd (s9 : (Int × List Int) → (Int × List Int) → (Int × List Int) → Option ((Int × List Int))) (a0 : Int × List Int) (a1 : Int × List Int) : Option (Int × List Int) :=
  (F_ref03_Abs a0).bind fun r1 =>
  (F_ref03_Abs a1).bind fun r2 =>
  s9 ((0 : Int), ([] : List Int)) r1 r2
def S_ref03_Gcd_9 (s9 : (Int × List Int) → (Int × List Int) → (Int × List Int) → Option ((Int × List Int))) (x4 : Int × List Int) (x5 : Int × List Int) (x6 : Int × List Int) : Option (Int × List Int) :=
  if (x6.1 != (0 : Int)) = true then
    (F_ref03_Quo x5 x6).bind fun r1 =>
    s9 x4 x6 r1.2
  else
    some x5
def Run_ref03_Gcd : Prop := ∀ s9 : Nat → (Int × List Int) → (Int × List Int) → (Int × List Int) → Option ((Int × List Int)), (∀ m x4 x5 x6, s9 (m + 1) x4 x5 x6 = S_ref03_Gcd_9 (s9 m) x4 x5 x6) → ∀ a0 : Int × List Int, ∀ a1 : Int × List Int, Ok (F_ref03_Gcd a0 a1) (fun m => T_ref03_Gcd (s9 m) a0 a1)

/-! cylinder/cylinderref05.Reduced -/
def T_ref05_Reduced (a0 : (Int × List Int) × Int × List Int) : Option ((Int × List Int) × Int × List Int) :=
  (F_ref03_Gcd a0.1 a0.2).bind fun r1 =>
  (F_ref03_Quo a0.1 r1).bind fun r2 =>
  (F_ref03_Quo a0.2 r1).bind fun r3 =>
  some ((r2.1, r3.1))
def Run_ref05_Reduced : Prop := ∀ a0 : (Int × List Int) × Int × List Int, Ok (F_ref05_Reduced a0) (fun _ => T_ref05_Reduced a0)

/-! cylinder/cylinderref05.Is -/
def T_ref05_Is (a0 : Bool) (a1 : List Int) (a2 : List Int) (a3 : (Int × List Int) × Int × List Int) : Option Bool :=
  (F_ref05_Reduced a3).bind fun r1 =>
  (F_ref02_Is a0 a1 r1.1).bind fun r2 =>
  if r2 = true then
    (F_ref02_Is false a2 r1.2).bind fun r3 =>
    some r3
  else
    some false
def Run_ref05_Is : Prop := ∀ a0 : Bool, ∀ a1 : List Int, ∀ a2 : List Int, ∀ a3 : (Int × List Int) × Int × List Int, Ok (F_ref05_Is a0 a1 a2 a3) (fun _ => T_ref05_Is a0 a1 a2 a3)

/-! cylinder/cylinderlaw05.is -/
def T_law05_is (a0 : (Bool × List Int) × List Int) (a1 : (Int × List Int) × Int × List Int) : Option Bool :=
  (F_ref05_Is a0.1.1 a0.1.2 a0.2 a1).bind fun r1 =>
  some r1
def Run_law05_is : Prop := ∀ a0 : (Bool × List Int) × List Int, ∀ a1 : (Int × List Int) × Int × List Int, Ok (F_law05_is a0 a1) (fun _ => T_law05_is a0 a1)

/-! cylinder/cylinderlaw05.RationalPowers -/
def T_law05_RationalPowers (s8 : Int → Bool → ((Bool × List Int) × List Int) → Option Bool) (s28 : Int → Int → Bool → ((Bool × List Int) × List Int) → ((Int × List Int) × Int × List Int) → Option Bool) (s53 : Int → Int → Int → ((Bool × List Int) × List Int) → ((Int × List Int) × Int × List Int) → ((Int × List Int) × Int × List Int) → Option Bool) (a0 : (Bool × List Int) × List Int) (a1 : Int) : Option Bool :=
  (F_law05_awake).bind fun r1 =>
  if (!r1) = true then
    s8 a1 true a0
  else
    (F_law05_few (2 : Int) a0 a0 a0).bind fun r2 =>
    s8 a1 (!r2) a0
def S_law05_RationalPowers_8 (s8 : Int → Bool → ((Bool × List Int) × List Int) → Option Bool) (s28 : Int → Int → Bool → ((Bool × List Int) × List Int) → ((Int × List Int) × Int × List Int) → Option Bool) (s53 : Int → Int → Int → ((Bool × List Int) × List Int) → ((Int × List Int) × Int × List Int) → ((Int × List Int) × Int × List Int) → Option Bool) (x1 : Int) (x21 : Bool) (x2 : (Bool × List Int) × List Int) : Option Bool :=
  if x21 = true then
    (F_law05_awake).bind fun r1 =>
    some r1
  else
    if (13 : Int) = 0 then none else
    (F_rational_Pow x2 (IntKind.wrap .i64 (Int.tmod x1 (13 : Int)))).bind fun r2 =>
    (F_law05_of x2).bind fun r3 =>
    if (r3.1.1 == (0 : Int)) = true then
      s28 (IntKind.wrap .i64 (Int.tmod x1 (13 : Int))) r2.2 (decide ((IntKind.wrap .i64 (Int.tmod x1 (13 : Int))) < (0 : Int))) r2.1 r3
    else
      s28 (IntKind.wrap .i64 (Int.tmod x1 (13 : Int))) r2.2 false r2.1 r3
def S_law05_RationalPowers_28 (s8 : Int → Bool → ((Bool × List Int) × List Int) → Option Bool) (s28 : Int → Int → Bool → ((Bool × List Int) × List Int) → ((Int × List Int) × Int × List Int) → Option Bool) (s53 : Int → Int → Int → ((Bool × List Int) × List Int) → ((Int × List Int) × Int × List Int) → ((Int × List Int) × Int × List Int) → Option Bool) (x5 : Int) (x7 : Int) (x41 : Bool) (x6 : (Bool × List Int) × List Int) (x8 : (Int × List Int) × Int × List Int) : Option Bool :=
  if x41 = true then
    if (x7 == (2 : Int)) = true then
      (F_rational_Sign x6).bind fun r1 =>
      some ((r1 == (0 : Int)))
    else
      some false
  else
    if (decide (x5 < (0 : Int))) = true then
      (F_ref02_Small (1 : Int)).bind fun r2 =>
      (F_ref02_Small (1 : Int)).bind fun r3 =>
      (F_ref05_Quo (r2, r3) x8).bind fun r4 =>
      (F_ref02_Small (1 : Int)).bind fun r5 =>
      (F_ref02_Small (1 : Int)).bind fun r6 =>
      s53 (IntKind.wrap .i64 ((0 : Int) - x5)) x7 (0 : Int) x6 r4 (r5, r6)
    else
      (F_ref02_Small (1 : Int)).bind fun r7 =>
      (F_ref02_Small (1 : Int)).bind fun r8 =>
      s53 x5 x7 (0 : Int) x6 x8 (r7, r8)
def S_law05_RationalPowers_53 (s8 : Int → Bool → ((Bool × List Int) × List Int) → Option Bool) (s28 : Int → Int → Bool → ((Bool × List Int) × List Int) → ((Int × List Int) × Int × List Int) → Option Bool) (s53 : Int → Int → Int → ((Bool × List Int) × List Int) → ((Int × List Int) × Int × List Int) → ((Int × List Int) × Int × List Int) → Option Bool) (x5 : Int) (x7 : Int) (x10 : Int) (x6 : (Bool × List Int) × List Int) (x8 : (Int × List Int) × Int × List Int) (x9 : (Int × List Int) × Int × List Int) : Option Bool :=
  if (decide (x10 < x5)) = true then
    (F_ref05_Mul x9 x8).bind fun r1 =>
    s53 x5 x7 (IntKind.wrap .i64 (x10 + (1 : Int))) x6 x8 r1
  else
    (F_rational_Of (3 : Int)).bind fun r2 =>
    (F_rational_Pow r2 (16777216 : Int)).bind fun r3 =>
    if (x7 == (0 : Int)) = true then
      (F_law05_is x6 x9).bind fun r4 =>
      if r4 = true then
        some ((r3.2 == (8 : Int)))
      else
        some false
    else
      some false
def Run_law05_RationalPowers : Prop := ∀ s8 : Nat → Int → Bool → ((Bool × List Int) × List Int) → Option Bool, ∀ s28 : Nat → Int → Int → Bool → ((Bool × List Int) × List Int) → ((Int × List Int) × Int × List Int) → Option Bool, ∀ s53 : Nat → Int → Int → Int → ((Bool × List Int) × List Int) → ((Int × List Int) × Int × List Int) → ((Int × List Int) × Int × List Int) → Option Bool, (∀ m x1 x21 x2, s8 (m + 1) x1 x21 x2 = S_law05_RationalPowers_8 (s8 m) (s28 m) (s53 m) x1 x21 x2) → (∀ m x5 x7 x41 x6 x8, s28 (m + 1) x5 x7 x41 x6 x8 = S_law05_RationalPowers_28 (s8 m) (s28 m) (s53 m) x5 x7 x41 x6 x8) → (∀ m x5 x7 x10 x6 x8 x9, s53 (m + 1) x5 x7 x10 x6 x8 x9 = S_law05_RationalPowers_53 (s8 m) (s28 m) (s53 m) x5 x7 x10 x6 x8 x9) → ∀ a0 : (Bool × List Int) × List Int, ∀ a1 : Int, Ok (F_law05_RationalPowers a0 a1) (fun m => T_law05_RationalPowers (s8 m) (s28 m) (s53 m) a0 a1)

/-! cylinder/cylinderref02.Cmp -/
def T_ref02_Cmp (a0 : Int × List Int) (a1 : Int × List Int) : Option Int :=
  if (a0.1 != a1.1) = true then
    if (decide (a0.1 < a1.1)) = true then
      some ((-1 : Int))
    else
      some ((1 : Int))
  else
    (F_ref01_Cmp a0.2 a1.2).bind fun r1 =>
    some ((IntKind.wrap .i64 (a0.1 * r1)))
def Run_ref02_Cmp : Prop := ∀ a0 : Int × List Int, ∀ a1 : Int × List Int, Ok (F_ref02_Cmp a0 a1) (fun _ => T_ref02_Cmp a0 a1)

/-! cylinder/cylinderref02.Add -/
def T_ref02_Add (a0 : Int × List Int) (a1 : Int × List Int) : Option (Int × List Int) :=
  if (decide ((IntKind.wrap .i64 (a0.1 * a1.1)) ≥ (0 : Int))) = true then
    (F_ref01_Add a0.2 a1.2).bind fun r1 =>
    (F_ref02_Make (decide ((IntKind.wrap .i64 (a0.1 + a1.1)) < (0 : Int))) r1).bind fun r2 =>
    some r2
  else
    (F_ref01_Cmp a0.2 a1.2).bind fun r3 =>
    if (decide (r3 ≥ (0 : Int))) = true then
      (F_ref01_Sub a0.2 a1.2).bind fun r4 =>
      (F_ref02_Make (decide (a0.1 < (0 : Int))) r4).bind fun r5 =>
      some r5
    else
      (F_ref01_Sub a1.2 a0.2).bind fun r6 =>
      (F_ref02_Make (decide (a1.1 < (0 : Int))) r6).bind fun r7 =>
      some r7
def Run_ref02_Add : Prop := ∀ a0 : Int × List Int, ∀ a1 : Int × List Int, Ok (F_ref02_Add a0 a1) (fun _ => T_ref02_Add a0 a1)

/-! cylinder/cylinderref03.Floor -/
def T_ref03_Floor (a0 : Int × List Int) (a1 : Int × List Int) : Option ((Int × List Int) × Int × List Int) :=
  (F_ref03_Quo a0 a1).bind fun r1 =>
  if (r1.2.1 != (0 : Int)) = true then
    if (r1.2.1 != a1.1) = true then
      (F_ref02_Small (-1 : Int)).bind fun r2 =>
      (F_ref02_Add r1.1 r2).bind fun r3 =>
      (F_ref02_Add r1.2 a1).bind fun r4 =>
      some (r3, r4)
    else
      some (r1.1, r1.2)
  else
    some (r1.1, r1.2)
def Run_ref03_Floor : Prop := ∀ a0 : Int × List Int, ∀ a1 : Int × List Int, Ok (F_ref03_Floor a0 a1) (fun _ => T_ref03_Floor a0 a1)

/-! cylinder/cylinderref03.Pow -/
def T_ref03_Pow (s13 : Int → Int → (Int × List Int) → (Int × List Int) → (Int × List Int) → Option ((Int × List Int))) (a0 : Int × List Int) (a1 : Int) : Option (Int × List Int) :=
  (F_ref02_Small (1 : Int)).bind fun r1 =>
  s13 a1 (0 : Int) a0 ((0 : Int), ([] : List Int)) r1
def S_ref03_Pow_13 (s13 : Int → Int → (Int × List Int) → (Int × List Int) → (Int × List Int) → Option ((Int × List Int))) (x1 : Int) (x6 : Int) (x2 : Int × List Int) (x4 : Int × List Int) (x5 : Int × List Int) : Option (Int × List Int) :=
  if (decide (x6 < x1)) = true then
    (F_ref02_Mul x5 x2).bind fun r1 =>
    s13 x1 (IntKind.wrap .i64 (x6 + (1 : Int))) x2 x4 r1
  else
    some x5
def Run_ref03_Pow : Prop := ∀ s13 : Nat → Int → Int → (Int × List Int) → (Int × List Int) → (Int × List Int) → Option ((Int × List Int)), (∀ m x1 x6 x2 x4 x5, s13 (m + 1) x1 x6 x2 x4 x5 = S_ref03_Pow_13 (s13 m) x1 x6 x2 x4 x5) → ∀ a0 : Int × List Int, ∀ a1 : Int, Ok (F_ref03_Pow a0 a1) (fun m => T_ref03_Pow (s13 m) a0 a1)

/-! cylinder/cylinderref05.Neg -/
def T_ref05_Neg (a0 : (Int × List Int) × Int × List Int) : Option ((Int × List Int) × Int × List Int) :=
  (F_ref02_Neg a0.1).bind fun r1 =>
  some ((r1, a0.2))
def Run_ref05_Neg : Prop := ∀ a0 : (Int × List Int) × Int × List Int, Ok (F_ref05_Neg a0) (fun _ => T_ref05_Neg a0)

/-! cylinder/cylinderref05.Add -/
def T_ref05_Add (a0 : (Int × List Int) × Int × List Int) (a1 : (Int × List Int) × Int × List Int) : Option ((Int × List Int) × Int × List Int) :=
  (F_ref02_Mul a0.1 a1.2).bind fun r1 =>
  (F_ref02_Mul a1.1 a0.2).bind fun r2 =>
  (F_ref02_Add r1 r2).bind fun r3 =>
  (F_ref02_Mul a0.2 a1.2).bind fun r4 =>
  some ((r3, r4))
def Run_ref05_Add : Prop := ∀ a0 : (Int × List Int) × Int × List Int, ∀ a1 : (Int × List Int) × Int × List Int, Ok (F_ref05_Add a0 a1) (fun _ => T_ref05_Add a0 a1)

/-! cylinder/cylinderref05.Cmp -/
def T_ref05_Cmp (a0 : (Int × List Int) × Int × List Int) (a1 : (Int × List Int) × Int × List Int) : Option Int :=
  (F_ref02_Mul a0.1 a1.2).bind fun r1 =>
  (F_ref02_Mul a1.1 a0.2).bind fun r2 =>
  (F_ref02_Cmp r1 r2).bind fun r3 =>
  some r3
def Run_ref05_Cmp : Prop := ∀ a0 : (Int × List Int) × Int × List Int, ∀ a1 : (Int × List Int) × Int × List Int, Ok (F_ref05_Cmp a0 a1) (fun _ => T_ref05_Cmp a0 a1)

/-! cylinder/cylinderref05.Floor -/
def T_ref05_Floor (a0 : (Int × List Int) × Int × List Int) : Option (Int × List Int) :=
  (F_ref03_Floor a0.1 a0.2).bind fun r1 =>
  some r1.1
def Run_ref05_Floor : Prop := ∀ a0 : (Int × List Int) × Int × List Int, Ok (F_ref05_Floor a0) (fun _ => T_ref05_Floor a0)

/-! cylinder/cylinderlaw05.same -/
def T_law05_same (a0 : (Bool × List Int) × List Int) (a1 : (Bool × List Int) × List Int) : Option Bool :=
  (F_rational_Cmp a0 a1).bind fun r1 =>
  some ((r1 == (0 : Int)))
def Run_law05_same : Prop := ∀ a0 : (Bool × List Int) × List Int, ∀ a1 : (Bool × List Int) × List Int, Ok (F_law05_same a0 a1) (fun _ => T_law05_same a0 a1)
end
end Go.W

set_option linter.unusedVariables false
set_option linter.unusedSimpArgs false
namespace Go.W

/-! ### the reference's integers -/
theorem zv_dz (v : Int) : zv (dz v) = v := by
  unfold zv dz
  dsimp only
  rw [bv_bd (ab_nonneg v)]
  unfold sg ab; (repeat' split) <;> omega
theorem ZZ.dz {v : Int} (h : Bd 2199023255552 (ab v)) : ZZ (Go.W.dz v) := ⟨by rw [zv_dz]; exact h, by rw [zv_dz]⟩
theorem ZZ.bb {z : Int × List Int} (h : ZZ z) : BB z.2 := by
  rw [h.2]; exact BB.bd h.1 (Nat.le_refl _)
theorem ZZ.sign {z : Int × List Int} (h : ZZ z) : z.1 = sg (zv z) := by
  have := congrArg Prod.fst h.2
  exact this
theorem ZZ.bits {z : Int × List Int} (h : ZZ z) : bv z.2 = ab (zv z) := by
  have := congrArg Prod.snd h.2
  have e : z.2 = bd (ab (zv z)) := this
  rw [e, bv_bd (ab_nonneg _)]
theorem bd_nil {n : Int} : bd n = [] ↔ n ≤ 0 := gd_nil (by decide)
theorem dz_zero : dz 0 = (0, []) := by unfold dz; simp [sg, ab, bd_zero]
theorem Rn_ref02_Make : Run_ref02_Make := fun neg b => Ok.gif_const fun h => by
  have nb := h.nonneg
  rw [T_ref02_Make, F_ref01_Trim, gif_bind h]
  by_cases h0 : bv b = 0
  · rw [h0, bd_zero, if_pos (by decide)]
    simp [dz_zero]
  · have : bd (bv b) ≠ [] := fun h => by have := bd_nil.1 h; omega
    rw [if_neg (by simp; exact this)]
    unfold dz
    cases neg with
    | true => simp only [if_true]; rw [sg_neg (by omega), ab_neg, ab_pos nb]
    | false => simp only [Bool.false_eq_true, if_false]; rw [sg_pos (by omega), ab_pos nb]
theorem Make_bind {σ : Type} {neg : Bool} {n : Int} (h : 0 ≤ n) {k : Nat} (hb : Bd k n) (hk : k ≤ 4398046511104) {f : Int × List Int → Option σ} : (F_ref02_Make neg (bd n)).bind f = f (dz (if neg = true then -n else n)) := by
  rw [F_ref02_Make, gif_bind (BW.bd hb hk), bv_bd h]
theorem Rn_ref02_Of : Run_ref02_Of := fun neg a => Ok.gif_const fun h => by
  rw [T_ref02_Of, F_ref01_Of, gif_bind h, Make_bind h.nonneg h.big (by omega)]
  rfl
theorem Rn_ref02_Is : Run_ref02_Is := fun neg a z => Ok.gif_const fun h => by
  rw [T_ref02_Is, F_ref01_Is, gif_bind h.bb, h.sign, h.bits]
  have e : decide (sg (zv z) < 0) = decide (zv z < 0) := by
    congr 1; exact propext sg_lt0
  rw [e]
  unfold di
  by_cases h1 : neg = decide (zv z < 0)
  · rw [if_pos (by simp [h1])]
    congr 1
    simp [Prod.ext_iff, h1]
  · rw [if_neg (by simpa using h1)]
    congr 1
    simp [Prod.ext_iff, h1]
theorem sg_range (v : Int) : -1 ≤ sg v ∧ sg v ≤ 1 := by unfold sg; (repeat' split) <;> omega
theorem Rn_ref02_Neg : Run_ref02_Neg := fun z => Ok.gif_const fun h => by
  have hs := sg_range (zv z)
  rw [T_ref02_Neg, h.sign, i64w (by omega) (by omega)]
  have e : z.2 = bd (ab (zv z)) := congrArg Prod.snd h.2
  unfold dz
  rw [ab_neg, ← e]
  congr 2
  unfold sg; (repeat' split) <;> omega
theorem Rn_ref02_Cmp : Run_ref02_Cmp := fun a b => Ok.gif_const fun ⟨ha, hb⟩ => by
  rw [T_ref02_Cmp, F_ref01_Cmp, gif_bind ⟨ha.bb, hb.bb⟩, ha.sign, hb.sign, ha.bits, hb.bits]
  by_cases h0 : sg (zv a) = sg (zv b)
  · rw [if_neg (by simpa using h0)]
    congr 1
    have h1 := sg_eq h0
    unfold sg at h0 ⊢
    unfold cm ab
    (repeat' split at h0) <;> (repeat' split) <;> first | rfl | (exfalso; omega)
  · rw [if_pos (by simpa using h0)]
    by_cases h1 : sg (zv a) < sg (zv b)
    · rw [if_pos (decide_eq_true h1), cm_of_lt (sg_lt h1)]
    · rw [if_neg (by simpa using h1), cm_of_gt (sg_lt (by omega))]
theorem sg_mul (x y : Int) : sg x * sg y = sg (x * y) := by
  by_cases h1 : x = 0
  · subst h1; simp [sg]
  by_cases h2 : y = 0
  · subst h2; simp [sg]
  by_cases h3 : x < 0 <;> by_cases h4 : y < 0
  · have := Int.mul_pos_of_neg_of_neg h3 h4
    rw [sg_neg h3, sg_neg h4, sg_pos this]; rfl
  · have := Int.mul_neg_of_neg_of_pos h3 (show 0 < y by omega)
    rw [sg_neg h3, sg_pos (show 0 < y by omega), sg_neg this]; rfl
  · have := Int.mul_neg_of_pos_of_neg (show 0 < x by omega) h4
    rw [sg_pos (show 0 < x by omega), sg_neg h4, sg_neg this]; rfl
  · have := Int.mul_pos (show 0 < x by omega) (show 0 < y by omega)
    rw [sg_pos (show 0 < x by omega), sg_pos (show 0 < y by omega), sg_pos this]; rfl
theorem big2 : max 2199023255552 2199023255552 + 1 ≤ 4398046511104 := by omega
theorem cm_ge0 {x y : Int} : decide (cm x y ≥ 0) = decide (y ≤ x) := by
  unfold cm; (repeat' split) <;> simp <;> omega
theorem Rn_ref02_Add : Run_ref02_Add := fun a b => Ok.gif_const fun ⟨ha, hb⟩ => by
  have sa := sg_range (zv a)
  have sb := sg_range (zv b)
  have hA := ha.1
  have hB := hb.1
  have na := ab_nonneg (zv a)
  have nb := ab_nonneg (zv b)
  have e1 : IntKind.wrap .i64 (a.1 * b.1) = sg (zv a * zv b) := by
    rw [ha.sign, hb.sign, sg_mul]
    have := sg_range (zv a * zv b)
    exact i64w (by omega) (by omega)
  rw [T_ref02_Add, e1, F_ref01_Add, gif_bind ⟨ha.bb, hb.bb⟩, ha.bits, hb.bits, Make_bind (by omega) (hA.add hB) big2, F_ref01_Cmp, gif_bind ⟨ha.bb, hb.bb⟩, ha.bits, hb.bits, cm_ge0, ha.sign, hb.sign, i64w (n := sg (zv a) + sg (zv b)) (by omega) (by omega)]
  have hs : decide (sg (zv a * zv b) ≥ 0) = decide (0 ≤ sg (zv a) * sg (zv b)) := by rw [sg_mul]
  rw [hs]
  by_cases h0 : 0 ≤ sg (zv a) * sg (zv b)
  · rw [if_pos (decide_eq_true h0)]
    congr 2
    unfold sg at h0 ⊢
    unfold ab
    (repeat' split at h0) <;> simp at h0 ⊢ <;> (repeat' split) <;> omega
  · rw [if_neg (by simpa using h0)]
    by_cases h1 : ab (zv b) ≤ ab (zv a)
    · rw [if_pos (decide_eq_true h1), F_ref01_Sub, gif_bind ⟨ha.bb, hb.bb, by rw [ha.bits, hb.bits]; exact h1⟩, ha.bits, hb.bits, Make_bind (by omega) (hA.le (by omega) (show ab (zv a) - ab (zv b) ≤ ab (zv a) by omega)) (by omega)]
      congr 2
      unfold sg at h0 ⊢
      unfold ab at h1 ⊢
      (repeat' split at h0) <;> simp at h0 ⊢ <;> (repeat' split) <;> (repeat' split at h1) <;> omega
    · rw [if_neg (by simpa using h1), F_ref01_Sub, gif_bind ⟨hb.bb, ha.bb, by rw [ha.bits, hb.bits]; omega⟩, ha.bits, hb.bits, Make_bind (by omega) (hB.le (by omega) (show ab (zv b) - ab (zv a) ≤ ab (zv b) by omega)) (by omega)]
      congr 2
      unfold sg at h0 ⊢
      unfold ab at h1 ⊢
      (repeat' split at h0) <;> simp at h0 ⊢ <;> (repeat' split) <;> (repeat' split at h1) <;> omega
theorem Rn_ref02_Mul : Run_ref02_Mul := fun a b => Ok.gif_const fun ⟨ha, hb⟩ => by
  have na := ab_nonneg (zv a)
  have nb := ab_nonneg (zv b)
  have e1 : IntKind.wrap .i64 (a.1 * b.1) = sg (zv a * zv b) := by
    rw [ha.sign, hb.sign, sg_mul]
    have := sg_range (zv a * zv b)
    exact i64w (by omega) (by omega)
  rw [T_ref02_Mul, e1, F_ref01_Mul, gif_bind ⟨ha.bb, hb.bb⟩, ha.bits, hb.bits, Make_bind (Int.mul_nonneg na nb) (ha.1.mul hb.1) (by omega), ← ab_mul]
  congr 2
  unfold sg ab
  (repeat' split) <;> simp at * <;> omega
theorem Rn_ref02_Small : Run_ref02_Small := fun s hs n => Ok.gif fun ⟨h0, h1⟩ => by
  have key : ∀ (d : Nat) (x : Int) (o : List Int) (neg : Bool) (z : Int × List Int) (N : Int), 0 ≤ x → x < 2 ^ d → d + o.length = 64 → DV 2 o → gv 2 o + x * 2 ^ o.length = N → Ev (fun m => s m x neg z o) (dz (if neg = true then -N else N)) := by
    intro d
    induction d with
    | zero =>
      intro x o neg z N hx0 hx hl hd hN
      have hx : x = 0 := by simp at hx; omega
      subst hx
      have hN : bv o = N := by simp at hN; exact hN
      refine Ev.step (t := fun _ => some (dz (if neg = true then -N else N))) (fun m => ?_) Ev.ret
      rw [hs]; unfold S_ref02_Small_21
      rw [if_neg (by decide), F_ref02_Make, gif_bind ⟨hd, by omega⟩, hN]
    | succ d ih =>
      intro x o neg z N hx0 hx hl hd hN
      by_cases h0 : x = 0
      · subst h0
        have hN : bv o = N := by simp at hN; exact hN
        refine Ev.step (t := fun _ => some (dz (if neg = true then -N else N))) (fun m => ?_) Ev.ret
        rw [hs]; unfold S_ref02_Small_21
        rw [if_neg (by decide), F_ref02_Make, gif_bind ⟨hd, by omega⟩, hN]
      · have hxb : x < 18446744073709551616 := by
          have := two_pow_le (show d + 1 ≤ 64 by omega)
          have e : (2 : Int) ^ 64 = 18446744073709551616 := rfl
          omega
        have hb64 : x / 2 ≤ 9223372036854775807 := by omega
        refine Ev.step (fun m => ?_) (ih (x / 2) (o ++ [x % 2]) neg z N (by omega) (by rw [Int.pow_succ] at hx; omega) (by simp; omega) (hd.snoc (by omega)) (by
          rw [gv_snoc, ← hN, List.length_append]
          have := Int.emod_add_mul_ediv x 2
          simp only [List.length_cons, List.length_nil, Int.pow_succ]
          generalize x % 2 = u at *
          generalize x / 2 = v at *
          grind))
        rw [hs]; unfold S_ref02_Small_21
        rw [if_pos (by simp; omega), if_neg (by decide), Int.tmod_eq_emod_of_nonneg hx0, Int.tdiv_eq_ediv_of_nonneg hx0, if_pos (by simp; omega), if_neg (by decide), i64w (by omega) (by omega)]
  by_cases hn : n < 0
  · simp only [T_ref02_Small, decide_eq_true hn, if_true]
    rw [i64w (by omega) (by omega)]
    have := key 64 (0 - n) [] true (0, []) (-n) (by omega) (by have e : (2 : Int) ^ 64 = 18446744073709551616 := rfl; omega) rfl .nil (by simp [gv])
    simp only [if_true, Int.neg_neg] at this
    exact this
  · simp only [T_ref02_Small, decide_eq_false hn]
    have := key 64 n [] false (0, []) n (by omega) (by have e : (2 : Int) ^ 64 = 18446744073709551616 := rfl; omega) rfl .nil (by simp [gv])
    simp only [Bool.false_eq_true, if_false] at this
    exact this

/-! ### division -/
theorem Rn_ref03_Abs : Run_ref03_Abs := fun a => Ok.gif_const fun h => by
  have := h.bb
  rw [T_ref03_Abs, F_ref02_Make, gif_bind h.bb.w, h.bits]
  rfl
theorem ab_zero {x : Int} : ab x = 0 ↔ x = 0 := by unfold ab; split <;> omega
theorem tdiv_ab (x y : Int) : ab (Int.tdiv x y) = ab x / ab y := by
  rw [ab_eq, ab_eq, ab_eq, Int.natAbs_tdiv]; exact Int.natCast_ediv _ _
theorem tmod_ab (x y : Int) : ab (Int.tmod x y) = ab x % ab y := by
  rw [ab_eq, ab_eq, ab_eq, Int.natAbs_tmod]; exact Int.natCast_emod _ _
theorem tdiv_sign {x y : Int} (h : Int.tdiv x y ≠ 0) : (sg (x * y) < 0) ↔ Int.tdiv x y < 0 := by
  have hy : y ≠ 0 := fun hy => h (by rw [hy, Int.tdiv_zero])
  rw [sg_lt0]
  have e := Int.mul_tdiv_add_tmod x y
  by_cases h1 : 0 ≤ x <;> by_cases h2 : 0 < y
  · have := Int.mul_nonneg h1 (Int.le_of_lt h2)
    have := Int.tdiv_nonneg h1 (Int.le_of_lt h2)
    omega
  · have h3 : y < 0 := by omega
    have h4 : Int.tdiv x y = -(Int.tdiv x (-y)) := by rw [Int.tdiv_neg, Int.neg_neg]
    have h5 := Int.tdiv_nonneg h1 (show 0 ≤ -y by omega)
    have hx : 0 < x := by
      by_cases hx : x = 0
      · exfalso; exact h (by rw [hx, Int.zero_tdiv])
      · omega
    have := Int.mul_neg_of_pos_of_neg hx h3
    omega
  · have h4 : Int.tdiv x y = -(Int.tdiv (-x) y) := by rw [Int.neg_tdiv, Int.neg_neg]
    have h5 := Int.tdiv_nonneg (show 0 ≤ -x by omega) (Int.le_of_lt h2)
    have := Int.mul_neg_of_neg_of_pos (show x < 0 by omega) h2
    omega
  · have h3 : y < 0 := by omega
    have h4 : Int.tdiv x y = Int.tdiv (-x) (-y) := by rw [Int.neg_tdiv, Int.tdiv_neg, Int.neg_neg]
    have h5 := Int.tdiv_nonneg (show 0 ≤ -x by omega) (show 0 ≤ -y by omega)
    have := Int.mul_pos_of_neg_of_neg (show x < 0 by omega) h3
    omega
theorem Rn_ref03_Quo : Run_ref03_Quo := fun a b => Ok.gif_const fun ⟨ha, hb, h0⟩ => by
  have na := ab_nonneg (zv a)
  have nb := ab_nonneg (zv b)
  have hb0 : ab (zv b) ≠ 0 := fun h => h0 (ab_zero.1 h)
  have e1 : IntKind.wrap .i64 (a.1 * b.1) = sg (zv a * zv b) := by
    rw [ha.sign, hb.sign, sg_mul]
    have := sg_range (zv a * zv b)
    exact i64w (by omega) (by omega)
  have hq := ha.1.div nb
  have hr := ha.1.emod (show 0 < ab (zv b) by omega)
  rw [T_ref03_Quo, e1, F_ref01_DivMod, gif_bind ⟨ha.bb, hb.bb, by rw [hb.bits]; exact hb0⟩, ha.bits, hb.bits, Make_bind hq.1 hq (by omega), Make_bind hr.1 hr (by omega), ha.sign]
  have hQ := tdiv_ab (zv a) (zv b)
  have hR := tmod_ab (zv a) (zv b)
  have hS := @tdiv_sign (zv a) (zv b)
  have hM := tmod_facts (zv a) (zv b) h0
  rw [← hQ, ← hR]
  congr 3
  · by_cases h1 : Int.tdiv (zv a) (zv b) = 0
    · simp [h1, ab]
    · have := hS h1
      unfold ab
      simp only [decide_eq_true_eq]
      split <;> split <;> omega
  · congr 1
    simp only [decide_eq_true_eq, sg_lt0]
    unfold ab at hM ⊢
    split <;> split <;> omega
theorem Rn_ref03_Floor : Run_ref03_Floor := fun a b => Ok.gif_const fun ⟨ha, hb, h0⟩ => by
  have heq : zv a = zv b * Int.tdiv (zv a) (zv b) + Int.tmod (zv a) (zv b) := (Int.mul_tdiv_add_tmod _ _).symm
  have hf := tmod_facts (zv a) (zv b) h0
  have hQ : Bd 2199023255552 (ab (Int.tdiv (zv a) (zv b))) := ha.1.le (ab_nonneg _) (ab_tdiv_le _ _)
  have hR : Bd 2199023255552 (ab (Int.tmod (zv a) (zv b))) := ha.1.le (ab_nonneg _) (ab_tmod_le _ _)
  have h1' : Bd 2199023255552 (ab (-1)) := Bd.mono (j := 1) (by simp [ab]; rw [Bd1]; omega) (by omega)
  rw [T_ref03_Floor, F_ref03_Quo, gif_bind ⟨ha, hb, h0⟩]
  dsimp only
  rw [show (dz (Int.tmod (zv a) (zv b))).1 = sg (Int.tmod (zv a) (zv b)) from rfl, hb.sign, F_ref02_Small, gif_bind (by omega), F_ref02_Add, gif_bind ⟨ZZ.dz hQ, ZZ.dz h1'⟩, F_ref02_Add, gif_bind ⟨ZZ.dz hR, hb⟩]
  simp only [zv_dz]
  generalize Int.tdiv (zv a) (zv b) = q at *
  generalize Int.tmod (zv a) (zv b) = r at *
  by_cases h1 : r = 0
  · subst h1
    have := floor_unique (q := q) (r := 0) heq (by omega)
    rw [if_neg (by decide), this.1, this.2]
  · have hr0 : sg r ≠ 0 := by unfold sg; (repeat' split) <;> omega
    rw [if_pos (bne_iff_ne.2 hr0)]
    by_cases h2 : (r < 0 ↔ zv b < 0)
    · have e : sg r = sg (zv b) := by unfold sg; (repeat' split) <;> omega
      rw [if_neg (by rw [e]; simp)]
      have := floor_unique (q := q) (r := r) heq (by unfold ab at hf; split at hf <;> omega)
      rw [this.1, this.2]
    · have e : sg r ≠ sg (zv b) := by unfold sg; (repeat' split) <;> omega
      rw [if_pos (bne_iff_ne.2 e)]
      have := floor_unique (q := q - 1) (r := r + zv b) (a := zv a) (b := zv b) (by rw [Int.mul_sub]; omega) (by unfold ab at hf; split at hf <;> omega)
      rw [this.1, this.2]
      rfl
theorem Rn_ref03_Gcd : Run_ref03_Gcd := fun s hs a b => Ok.gif fun ⟨ha, hb⟩ => by
  have key : ∀ (k : Nat) (x y : Int) (z : Int × List Int), y.toNat ≤ k → 0 ≤ y → 0 ≤ x → Bd 2199023255552 x → Bd 2199023255552 y → Ev (fun m => s m z (dz x) (dz y)) (dz (Int.gcd x y : Int)) := by
    intro k
    induction k using Nat.strongRecOn with
    | ind k ih =>
    intro x y z hk hy0 hx0 hx hy
    by_cases h0 : y = 0
    · subst h0
      refine Ev.step (t := fun _ => some (dz (Int.gcd x 0 : Int))) (fun m => ?_) Ev.ret
      rw [hs]; unfold S_ref03_Gcd_9
      rw [if_neg (by decide), gcd_zero' hx0]
    · have hm0 := Int.emod_nonneg x h0
      have hm1 := Int.emod_lt_of_pos x (show 0 < y by omega)
      rw [gcd_step hx0 hy0]
      refine Ev.step (fun m => ?_) (ih (x % y).toNat (by omega) y (x % y) z (Nat.le_refl _) hm0 hy0 hy (hx.emod (by omega)))
      have hy1 : (dz y).1 ≠ 0 := by show sg y ≠ 0; rw [sg_pos (by omega)]; omega
      rw [hs]; unfold S_ref03_Gcd_9
      rw [if_pos (bne_iff_ne.2 hy1), F_ref03_Quo, gif_bind ⟨ZZ.dz (by rw [ab_pos hx0]; exact hx), ZZ.dz (by rw [ab_pos hy0]; exact hy), by rw [zv_dz]; exact h0⟩, zv_dz, zv_dz, Int.tmod_eq_emod_of_nonneg hx0]
  simp only [T_ref03_Gcd, F_ref03_Abs, gif_bind ha, gif_bind hb]
  have := key (ab (zv b)).toNat (ab (zv a)) (ab (zv b)) (0, []) (Nat.le_refl _) (ab_nonneg _) (ab_nonneg _) ha.1 hb.1
  have e : Int.gcd (zv a) (zv b) = Int.gcd (ab (zv a)) (ab (zv b)) := by
    rw [ab_eq, ab_eq]; simp [Int.gcd]
  rw [e]
  exact this
end Go.W

set_option linter.unusedVariables false
set_option linter.unusedSimpArgs false
namespace Go.W

theorem ZZ.dz' {k : Nat} {v : Int} (h : Bd k (ab v)) (hk : k ≤ 2199023255552) : ZZ (Go.W.dz v) := ZZ.dz (h.mono hk)
theorem Rn_ref03_Pow : Run_ref03_Pow := fun s hs a n => Ok.gif fun ⟨ha, hn, hb⟩ => by
  simp only [T_ref03_Pow, F_ref02_Small, gif_bind (show (-9223372036854775807 : Int) ≤ 1 ∧ (1 : Int) ≤ 9223372036854775807 by omega)]
  have key : ∀ (d i : Nat) (z : Int × List Int), i + d = n.toNat → Ev (fun m => s m n (i : Int) a z (dz (zv a ^ i))) (dz (zv a ^ n.toNat)) := by
    intro d
    induction d with
    | zero =>
      intro i z hi
      refine Ev.step (t := fun _ => some (dz (zv a ^ n.toNat))) (fun m => ?_) Ev.ret
      rw [hs]; unfold S_ref03_Pow_13
      rw [if_neg (by simp; omega), show i = n.toNat by omega]
    | succ d ih =>
      intro i z hi
      have hp := hb.pow i
      have hi1000 : i ≤ 1000 := by omega
      have hle : 1000 * i + 1 ≤ 2199023255552 := by
        have := Nat.mul_le_mul_left 1000 hi1000
        omega
      refine Ev.step (fun m => ?_) (ih (i + 1) z (by omega))
      rw [hs]; unfold S_ref03_Pow_13
      rw [if_pos (by simp; omega), F_ref02_Mul, gif_bind ⟨ZZ.dz' (by rw [ab_pow]; exact hp) hle, ha⟩, zv_dz, i64w (by omega) (by omega), Int.pow_succ]
      simp
  have := key n.toNat 0 (0, []) (by omega)
  rw [Int.pow_zero] at this
  exact this
theorem RK_le : RK = 1000000000 := rfl
theorem RQ.z1 {k : Nat} {a : (Int × List Int) × Int × List Int} (h : RQ k a) (hk : k ≤ 2199023255552) : ZZ a.1 := by
  have e : a.1 = dz (qn a) := congrArg Prod.fst h.1
  rw [e]; exact ZZ.dz' h.2.1 hk
theorem RQ.z2 {k : Nat} {a : (Int × List Int) × Int × List Int} (h : RQ k a) (hk : k ≤ 2199023255552) : ZZ a.2 := by
  have e : a.2 = dz (qd a) := congrArg Prod.snd h.1
  have := h.2.2.2
  rw [e]; exact ZZ.dz' (by rw [ab_pos (by omega)]; exact h.2.2.1) hk
theorem qn_mq (n d : Int) : qn (mq n d) = n := zv_dz n
theorem qd_mq (n d : Int) : qd (mq n d) = d := zv_dz d
theorem qv_mq (n d : Int) : qv (mq n d) = Rat.divInt n d := by unfold qv; rw [qn_mq, qd_mq]
theorem RQ.mq {k : Nat} {n d : Int} (h1 : Bd k (ab n)) (h2 : Bd k d) (h3 : 0 < d) : RQ k (Go.W.mq n d) := ⟨by rw [qn_mq, qd_mq], by rw [qn_mq]; exact h1, by rw [qd_mq]; exact h2, by rw [qd_mq]; exact h3⟩
theorem RQ.mono {j k : Nat} {a : (Int × List Int) × Int × List Int} (h : RQ j a) (hk : j ≤ k) : RQ k a := ⟨h.1, h.2.1.mono hk, h.2.2.1.mono hk, h.2.2.2⟩
theorem Rn_ref05_Of : Run_ref05_Of := fun neg n d => Ok.gif_const fun ⟨hn, hd⟩ => by
  have nd := hd.nn.nonneg
  rw [T_ref05_Of, F_ref02_Of, gif_bind hd.nn, F_ref02_Of, gif_bind hn.nn]
  have e : iv (false, d) = nv d := by unfold iv; simp
  rw [e]
  unfold rn rd
  dsimp only
  by_cases h0 : nv d = 0
  · rw [h0, if_pos (by decide), if_pos rfl, if_pos rfl, F_ref02_Small, gif_bind (by omega)]
    unfold mq; rw [dz_zero]
  · have : ((dz (nv d)).1 == 0) = false := by
      show (sg (nv d) == 0) = false
      rw [sg_pos (by omega)]; rfl
    rw [this, if_neg (by decide), if_neg h0, if_neg h0]
    rfl
theorem Rn_ref05_Make : Run_ref05_Make := fun a b => Ok.gif_const fun ⟨ha, hb, h0⟩ => by
  rw [T_ref05_Make, F_ref02_Neg, gif_bind ha, F_ref02_Neg, gif_bind hb, hb.sign]
  by_cases h1 : zv b < 0
  · rw [if_pos (decide_eq_true (sg_lt0.2 h1)), if_pos h1]; rfl
  · rw [if_neg (by simp; have := sg_lt0 (x := zv b); omega), if_neg h1]
    unfold mq; rw [← ha.2, ← hb.2]
theorem Rn_ref05_Quo : Run_ref05_Quo := fun a b => Ok.gif_const fun ⟨ha, hb, h0⟩ => by
  have a1 := ha.z1 (by rw [RK_le]; omega)
  have a2 := ha.z2 (by rw [RK_le]; omega)
  have b1 := hb.z1 (by rw [RK_le]; omega)
  have b2 := hb.z2 (by rw [RK_le]; omega)
  have da := ha.2.2.2
  have db := hb.2.2.2
  have s1 : Bd (RK + RK) (ab (qn a * qd b)) := ha.2.1.ab_mul (by rw [ab_pos (by omega)]; exact hb.2.2.1)
  have s2 : Bd (RK + RK) (ab (qd a * qn b)) := (show Bd RK (ab (qd a)) by rw [ab_pos (by omega)]; exact ha.2.2.1).ab_mul hb.2.1
  have hne : qd a * qn b ≠ 0 := fun h => by rcases Int.mul_eq_zero.1 h with h | h <;> omega
  have hiff : qd a * qn b < 0 ↔ qn b < 0 := by
    constructor
    · intro h
      by_cases h1 : qn b < 0
      · exact h1
      · have := Int.mul_nonneg (Int.le_of_lt da) (show 0 ≤ qn b by omega); omega
    · intro h; exact Int.mul_neg_of_pos_of_neg da h
  rw [T_ref05_Quo, F_ref02_Mul, gif_bind ⟨a1, b2⟩, F_ref02_Mul, gif_bind ⟨a2, b1⟩]
  have e1 : zv a.1 = qn a := rfl
  have e2 : zv a.2 = qd a := rfl
  have e3 : zv b.1 = qn b := rfl
  have e4 : zv b.2 = qd b := rfl
  rw [e1, e2, e3, e4, F_ref05_Make, gif_bind ⟨ZZ.dz' s1 (by rw [RK_le]; omega), ZZ.dz' s2 (by rw [RK_le]; omega), by rw [zv_dz]; exact hne⟩, zv_dz, zv_dz]
  by_cases h : qn b < 0
  · rw [if_pos (hiff.2 h), if_pos h]
  · rw [if_neg (fun h' => h (hiff.1 h')), if_neg h]
theorem Rn_ref05_Mul : Run_ref05_Mul := fun a b => Ok.gif_const fun ⟨ha, hb⟩ => by
  rw [T_ref05_Mul, F_ref02_Mul, gif_bind ⟨ha.z1 (by rw [RK_le]; omega), hb.z1 (by rw [RK_le]; omega)⟩, F_ref02_Mul, gif_bind ⟨ha.z2 (by rw [RK_le]; omega), hb.z2 (by rw [RK_le]; omega)⟩]
  rfl
theorem Rn_ref05_Neg : Run_ref05_Neg := fun a => Ok.gif_const fun ha => by
  have e : a.2 = dz (qd a) := congrArg Prod.snd ha.1
  rw [T_ref05_Neg, F_ref02_Neg, gif_bind (ha.z1 (by rw [RK_le]; omega))]
  conv => lhs; rw [e]
  rfl
theorem Rn_ref05_Add : Run_ref05_Add := fun a b => Ok.gif_const fun ⟨ha, hb⟩ => by
  have a1 := ha.z1 (by rw [RK_le]; omega)
  have a2 := ha.z2 (by rw [RK_le]; omega)
  have b1 := hb.z1 (by rw [RK_le]; omega)
  have b2 := hb.z2 (by rw [RK_le]; omega)
  have da := ha.2.2.2
  have db := hb.2.2.2
  have s1 : Bd (RK + RK) (ab (qn a * qd b)) := ha.2.1.ab_mul (by rw [ab_pos (by omega)]; exact hb.2.2.1)
  have s2 : Bd (RK + RK) (ab (qn b * qd a)) := hb.2.1.ab_mul (by rw [ab_pos (by omega)]; exact ha.2.2.1)
  have e1 : zv a.1 = qn a := rfl
  have e2 : zv a.2 = qd a := rfl
  have e3 : zv b.1 = qn b := rfl
  have e4 : zv b.2 = qd b := rfl
  rw [T_ref05_Add, F_ref02_Mul, gif_bind ⟨a1, b2⟩, F_ref02_Mul, gif_bind ⟨b1, a2⟩, e1, e2, e3, e4, F_ref02_Add, gif_bind ⟨ZZ.dz' s1 (by rw [RK_le]; omega), ZZ.dz' s2 (by rw [RK_le]; omega)⟩, zv_dz, zv_dz, F_ref02_Mul, gif_bind ⟨a2, b2⟩]
  rfl
theorem Rn_ref05_Cmp : Run_ref05_Cmp := fun a b => Ok.gif_const fun ⟨ha, hb⟩ => by
  have a1 := ha.z1 (by rw [RK_le]; omega)
  have a2 := ha.z2 (by rw [RK_le]; omega)
  have b1 := hb.z1 (by rw [RK_le]; omega)
  have b2 := hb.z2 (by rw [RK_le]; omega)
  have da := ha.2.2.2
  have db := hb.2.2.2
  have s1 : Bd (RK + RK) (ab (qn a * qd b)) := ha.2.1.ab_mul (by rw [ab_pos (by omega)]; exact hb.2.2.1)
  have s2 : Bd (RK + RK) (ab (qn b * qd a)) := hb.2.1.ab_mul (by rw [ab_pos (by omega)]; exact ha.2.2.1)
  have e1 : zv a.1 = qn a := rfl
  have e2 : zv a.2 = qd a := rfl
  have e3 : zv b.1 = qn b := rfl
  have e4 : zv b.2 = qd b := rfl
  rw [T_ref05_Cmp, F_ref02_Mul, gif_bind ⟨a1, b2⟩, F_ref02_Mul, gif_bind ⟨b1, a2⟩, e1, e2, e3, e4, F_ref02_Cmp, gif_bind ⟨ZZ.dz' s1 (by rw [RK_le]; omega), ZZ.dz' s2 (by rw [RK_le]; omega)⟩, zv_dz, zv_dz]
  unfold qv
  rw [rcm_div da db]
theorem Rn_ref05_Reduced : Run_ref05_Reduced := fun a => Ok.gif_const fun ha => by
  have a1 := ha.z1 (by rw [RK_le]; omega)
  have a2 := ha.z2 (by rw [RK_le]; omega)
  have da := ha.2.2.2
  have e1 : zv a.1 = qn a := rfl
  have e2 : zv a.2 = qd a := rfl
  have hg0 : 0 < (Int.gcd (qn a) (qd a) : Int) := by
    have : Int.gcd (qn a) (qd a) ≠ 0 := fun h => by have := (Int.gcd_eq_zero_iff.1 h).2; omega
    omega
  have hgn := Int.gcd_dvd_left (qn a) (qd a)
  have hgd := Int.gcd_dvd_right (qn a) (qd a)
  have hgle := Int.le_of_dvd da hgd
  have hg : ZZ (dz (Int.gcd (qn a) (qd a) : Int)) := ZZ.dz' (k := RK) (by rw [ab_pos (by omega)]; exact ha.2.2.1.le (by omega) hgle) (by rw [RK_le]; omega)
  rw [T_ref05_Reduced, F_ref03_Gcd, gif_bind ⟨a1, a2⟩, e1, e2, F_ref03_Quo, gif_bind ⟨a1, hg, by rw [zv_dz]; omega⟩, F_ref03_Quo, gif_bind ⟨a2, hg, by rw [zv_dz]; omega⟩, e1, e2, zv_dz]
  unfold qv
  rw [num_div da, den_div da, Int.tdiv_eq_ediv_of_dvd hgn, Int.tdiv_eq_ediv_of_dvd hgd]
  rfl
theorem Rn_ref05_Is : Run_ref05_Is := fun neg n d a => Ok.gif_const fun ha => by
  have hb := QB.div (j := RK) (k := RK) ha.2.1 ha.2.2.1 ha.2.2.2
  have hq : QB RK (qv a) := QB.mono hb (by simp)
  have hdp := (qv a).den_pos
  have z1 : ZZ (mq (qv a).num (qv a).den).1 := ZZ.dz' hq.1 (by rw [RK_le]; omega)
  have z2 : ZZ (mq (qv a).num (qv a).den).2 := ZZ.dz' (by rw [ab_pos (by omega)]; exact hq.2) (by rw [RK_le]; omega)
  have v1 : zv (mq (qv a).num (qv a).den).1 = (qv a).num := zv_dz _
  have v2 : zv (mq (qv a).num (qv a).den).2 = (qv a).den := zv_dz _
  rw [T_ref05_Is, F_ref05_Reduced, gif_bind ha, F_ref02_Is, gif_bind z1, F_ref02_Is, gif_bind z2, v1, v2]
  have e : di ((qv a).den : Int) = (false, dn (qv a).den) := by
    unfold di
    rw [ab_pos (by omega), decide_eq_false (by omega)]
  rw [e]
  unfold dr
  by_cases h1 : (neg, n) = di (qv a).num
  · rw [if_pos (decide_eq_true h1), h1]
    congr 1
    simp [Prod.ext_iff]
  · rw [if_neg (by simpa using h1)]
    congr 1
    simp only [Prod.mk.injEq, h1, false_and, decide_false]
theorem Rn_ref05_Floor : Run_ref05_Floor := fun a => Ok.gif_const fun ha => by
  have a1 := ha.z1 (by rw [RK_le]; omega)
  have a2 := ha.z2 (by rw [RK_le]; omega)
  have da := ha.2.2.2
  have e1 : zv a.1 = qn a := rfl
  have e2 : zv a.2 = qd a := rfl
  rw [T_ref05_Floor, F_ref03_Floor, gif_bind ⟨a1, a2, by rw [e2]; omega⟩, e1, e2]
  unfold qv
  rw [floor_div da, Int.fdiv_eq_ediv_of_nonneg _ (by omega)]

/-! ### the laws' helpers -/
theorem Rn_law05_of : Run_law05_of := fun a => Ok.gif_const fun h => by
  rw [T_law05_of, F_ref05_Of, gif_bind (p := QD a.1.2 ∧ QD a.2) h]
theorem Rn_law05_is : Run_law05_is := fun a b => Ok.gif_const fun h => by
  rw [T_law05_is, F_ref05_Is, gif_bind h]
theorem Rn_law05_same : Run_law05_same := fun a b => Ok.gif_const fun h => by
  rw [T_law05_same, F_rational_Cmp, gif_bind h]
  congr 1
  unfold rcm
  by_cases h1 : rv b < rv a
  · have : ¬ rv a = rv b := fun he => by rw [he] at h1; exact Rat.lt_irrefl h1
    rw [if_pos h1, decide_eq_false this]; rfl
  · rw [if_neg h1]
    by_cases h2 : rv a < rv b
    · have : ¬ rv a = rv b := fun he => by rw [he] at h2; exact Rat.lt_irrefl h2
      rw [if_pos h2, decide_eq_false this]; rfl
    · have : rv a = rv b := Rat.le_antisymm (Rat.not_lt.1 h1) (Rat.not_lt.1 h2)
      rw [if_neg h2, decide_eq_true this]; rfl
theorem Rn_law05_few : Run_law05_few := fun n a b c => Ok.gif_const fun _ => by
  rw [T_law05_few, F_ref01_Few, gif_bind (by simp), F_ref01_Few, gif_bind (by simp)]
  simp only [List.all_cons, List.all_nil, Bool.and_true]
  by_cases h1 : (a.1.2.length : Int) ≤ n <;> by_cases h2 : (a.2.length : Int) ≤ n <;> by_cases h3 : (b.1.2.length : Int) ≤ n <;> by_cases h4 : (b.2.length : Int) ≤ n <;> by_cases h5 : (c.1.2.length : Int) ≤ n <;> by_cases h6 : (c.2.length : Int) ≤ n <;> simp [h1, h2, h3, h4, h5, h6]
end Go.W

set_option linter.unusedVariables false
set_option linter.unusedSimpArgs false
namespace Go.W

/-! ### decimal -/
theorem Rn_decimal_chunk : Run_decimal_chunk := fun s hs b => Ok.gif fun h => by
  subst h
  have st : ∀ (x n : Int), x * 10 < 4294967296 → 0 ≤ x → 0 ≤ n → n < 100 → Ev (fun m => s m 10 (x * 10) (n + 1)) (1000000000, 9) → Ev (fun m => s m 10 x n) (1000000000, 9) := fun x n h1 h0 h2 h3 h => by
    refine Ev.step (fun m => ?_) h
    rw [hs]; unfold S_decimal_chunk_9
    dsimp only
    rw [u64w (n := x) (by omega) (by omega), u64w (n := 10) (by omega) (by omega), u64w (n := x * 10) (by omega) (by omega), if_pos (decide_eq_true h1), u32w (by omega) h1, i64w (by omega) (by omega)]
  refine st 10 1 (by omega) (by omega) (by omega) (by omega) ?_
  refine st (10 * 10) 2 (by omega) (by omega) (by omega) (by omega) ?_
  refine st (10 * 10 * 10) 3 (by omega) (by omega) (by omega) (by omega) ?_
  refine st (10 * 10 * 10 * 10) 4 (by omega) (by omega) (by omega) (by omega) ?_
  refine st (10 * 10 * 10 * 10 * 10) 5 (by omega) (by omega) (by omega) (by omega) ?_
  refine st (10 * 10 * 10 * 10 * 10 * 10) 6 (by omega) (by omega) (by omega) (by omega) ?_
  refine st (10 * 10 * 10 * 10 * 10 * 10 * 10) 7 (by omega) (by omega) (by omega) (by omega) ?_
  refine st (10 * 10 * 10 * 10 * 10 * 10 * 10 * 10) 8 (by omega) (by omega) (by omega) (by omega) ?_
  refine Ev.step (t := fun _ => some (1000000000, 9)) (fun m => ?_) Ev.ret
  rw [hs]; unfold S_decimal_chunk_9
  rfl
def digTab : ByteArray := (ByteArray.mk #[48, 49, 50, 51, 52, 53, 54, 55, 56, 57, 97, 98, 99, 100, 101, 102, 103, 104, 105, 106, 107, 108, 109, 110, 111, 112, 113, 114, 115, 116, 117, 118, 119, 120, 121, 122])
theorem digTab_ok : (List.range 10).all (fun n => decide (bt digTab (n : Int) = 48 + (n : Int))) = true := by decide +kernel
theorem digTab_size : ByteArray.size digTab = 36 := by decide +kernel
theorem digTab_get {d : Int} (h : 0 ≤ d) (h' : d < 10) : bt digTab d = 48 + d := by
  obtain ⟨n, rfl⟩ := Int.eq_ofNat_of_zero_le h
  exact of_decide_eq_true (List.all_eq_true.1 digTab_ok n (by simp; omega))
theorem dec_len {k n : Nat} {N : Int} (h : Bd k N) (hn : n = 0 ∨ 10 ^ (n - 1) ≤ N) : n ≤ k + 1 := by
  rcases hn with rfl | hn
  · omega
  · have h1 : (2 : Int) ^ (n - 1) ≤ 10 ^ (n - 1) := by
      have : ∀ j : Nat, (2 : Int) ^ j ≤ 10 ^ j := fun j => by
        induction j with
        | zero => simp
        | succ j ih =>
          rw [Int.pow_succ, Int.pow_succ]
          have := two_pow_pos j
          omega
      exact this _
    have := pow_lt_imp (j := n - 1) (k := k) (Int.lt_of_le_of_lt (Int.le_trans h1 hn) h.2)
    omega
theorem chunk_bind {σ : Type} {k : Int × Int → Option σ} : (F_decimal_chunk 10).bind k = k (1000000000, 9) := gif_bind rfl
theorem Rn_decimal_write : Run_decimal_write := fun s1 s2 s3 k1 k2 k3 a b => Ok.gif fun ⟨ha, hb⟩ => by
  subst hb
  have hN := NN.big ha
  have nN := NN.nonneg ha
  simp only [T_decimal_write, F_natural_Normal, gif_bind (show NN a.2 from ha), chunk_bind]
  -- the end
  have fin : ∀ D : List Int, DV 10 D → gv 10 D = nv a.2 → (D.length = 0 ∨ 10 ^ (D.length - 1) ≤ nv a.2) → Ev (fun m => s1 m 10 [] 1000000000 9 a (D.map fun d => 48 + d)) (decS (iv a)) := by
    intro D hD hg hl
    have hlen := dec_len hN hl
    have hnorm := norm_of_ge (B := 10) (by decide) hD (by
      rcases hl with h | h
      · left; exact List.eq_nil_of_length_eq_zero h
      · right; rw [hg]; exact h)
    rw [hg] at hnorm
    refine Ev.step (t := fun _ => some (decS (iv a))) (fun m => ?_) Ev.ret
    rw [k1]; unfold S_decimal_write_17
    rw [if_neg (by simp)]
    unfold decS
    by_cases h0 : nv a.2 = 0
    · have : D = [] := by rw [← hnorm, h0]; exact gd_zero 10
      rw [if_pos ((iv_zero ha).2 h0), this, if_pos (by simp)]
    · have hne : D ≠ [] := fun h => by rw [h] at hg; simp [gv] at hg; omega
      rw [if_neg (fun h => h0 ((iv_zero ha).1 h)), if_neg (by simp; exact hne)]
      unfold decL
      rw [iv_ab ha, hnorm]
      by_cases hs : a.1 = true
      · have hlt : iv a < 0 := by unfold iv; rw [if_pos hs]; omega
        rw [if_pos hs, if_pos (by simp; omega), O_slices_Reverse, gif_bind (by simp; omega), if_pos (sameLen_of (by simp)), if_pos hlt]
        simp
      · have hlt : ¬ iv a < 0 := by unfold iv; rw [if_neg hs]; omega
        rw [if_neg hs, O_slices_Reverse, gif_bind (by simp; omega), if_pos (sameLen_of (by simp)), if_neg hlt]
        simp
  -- the loops
  have main : ∀ (R : Nat) (rest : Int) (D : List Int), rest.toNat ≤ R → 0 ≤ rest → NN (dn rest) → DV 10 D → gv 10 D + rest * 10 ^ D.length = nv a.2 → (D.length = 0 ∨ 10 ^ (D.length - 1) ≤ nv a.2) →
      Ev (fun m => s1 m 10 (dn rest) 1000000000 9 a (D.map fun d => 48 + d)) (decS (iv a)) := by
    intro R
    induction R using Nat.strongRecOn with
    | ind R ih =>
    intro rest D hR hr0 hnn hD hg hl
    by_cases h0 : rest = 0
    · subst h0
      rw [dn_zero]
      exact fin D hD (by omega) hl
    · have vr := nv_dn hr0
      have hq0 : 0 ≤ rest / 1000000000 := by omega
      have hnq : NN (dn (rest / 1000000000)) := by have := hnn.quo (d := 1000000000) (by omega); rwa [vr] at this
      have inner : ∀ (d i : Nat) (low : Int) (E : List Int), i + d = 9 → 0 ≤ low → low < 10 ^ d → DV 10 E → gv 10 E + (low + 10 ^ d * (rest / 1000000000)) * 10 ^ E.length = nv a.2 → (E.length = 0 ∨ 10 ^ (E.length - 1) ≤ nv a.2) →
          Ev (fun m => s2 m 10 (dn (rest / 1000000000)) 1000000000 9 low (i : Int) a (E.map fun d => 48 + d)) (decS (iv a)) := by
        intro d
        induction d with
        | zero =>
          intro i low E hi hlow0 hlow hE hgE hlE
          have hlow : low = 0 := by simp at hlow; omega
          subst hlow
          refine Ev.step (fun m => ?_) (ih (rest / 1000000000).toNat (by omega) (rest / 1000000000) E (Nat.le_refl _) hq0 hnq hE (by simpa using hgE) hlE)
          rw [k2]; unfold S_decimal_write_33
          rw [if_neg (by simp; omega)]
        | succ d ihd =>
          intro i low E hi hlow0 hlow hE hgE hlE
          by_cases hz : low = 0 ∧ rest / 1000000000 = 0
          · obtain ⟨z1, z2⟩ := hz
            subst z1
            rw [z2] at hgE ⊢
            rw [dn_zero]
            refine Ev.step (fun m => ?_) (fin E hE (by simpa using hgE) hlE)
            rw [k2]; unfold S_decimal_write_33
            rw [if_pos (by simp; omega), if_neg (by simp), if_neg (by simp)]
          · have hp := pow_pos' (B := 10) (by decide) (d + 1)
            have hpE := pow_pos' (B := 10) (by decide) E.length
            have hRp : 1 ≤ low + 10 ^ (d + 1) * (rest / 1000000000) := by
              by_cases h1 : rest / 1000000000 = 0
              · rw [h1, Int.mul_zero]; omega
              · have : 1 * 1 ≤ 10 ^ (d + 1) * (rest / 1000000000) := Int.mul_le_mul (by omega) (by omega) (by omega) (by omega)
                omega
            have hgE0 := gv_nonneg (B := 10) (by decide) hE
            have hEl : 10 ^ E.length ≤ nv a.2 := by
              have : 1 * 10 ^ E.length ≤ (low + 10 ^ (d + 1) * (rest / 1000000000)) * 10 ^ E.length := Int.mul_le_mul_of_nonneg_right hRp (by omega)
              omega
            have hlen := dec_len hN hlE
            have hlowB : low < 1000000000 := by
              have : (10 : Int) ^ (d + 1) ≤ 10 ^ 9 := pow_le_pow' (by decide) (by omega)
              have e9 : (10 : Int) ^ 9 = 1000000000 := rfl
              omega
            have hstep := ihd (i + 1) (low / 10) (E ++ [low % 10]) (by omega) (by omega) (by rw [Int.pow_succ] at hlow; omega) (hE.snoc (by omega)) (by
              rw [gv_snoc, List.length_append, ← hgE]
              simp only [List.length_cons, List.length_nil, Int.pow_succ]
              have := Int.emod_add_mul_ediv low 10
              generalize low % 10 = u at *
              generalize low / 10 = v at *
              grind) (by right; simp; exact hEl)
            have three : ∀ (w : Int) (p q r : Bool), Ev (fun m => s3 m 10 (dn (rest / 1000000000)) 1000000000 9 low (i : Int) w p q r a (E.map fun d => 48 + d)) (decS (iv a)) := fun w p q r => by
              refine Ev.step (fun m => ?_) hstep
              rw [k3]; unfold S_decimal_write_40
              have hsz := digTab_size
              have hgt := digTab_get (d := low % 10) (by omega) (by omega)
              show (if (10 : Int) = 0 then none else if 0 ≤ Int.tmod low 10 ∧ Int.tmod low 10 < (ByteArray.size digTab : Int) then
                if (E.map fun d => 48 + d).length + ([bt digTab (Int.tmod low 10)] : List Int).length ≤ 70368744177664 / 1 then
                  if (10 : Int) = 0 then none else s2 m 10 (dn (rest / 1000000000)) 1000000000 9 (IntKind.wrap .u32 (Int.tdiv low 10)) (IntKind.wrap .i64 ((i : Int) + 1)) a ((E.map fun d => 48 + d) ++ [bt digTab (Int.tmod low 10)]) else none else none) = _
              rw [Int.tmod_eq_emod_of_nonneg hlow0, Int.tdiv_eq_ediv_of_nonneg hlow0, hsz, hgt, if_neg (by decide), if_pos (by omega), if_pos (by simp; omega), if_neg (by decide), u32w (by omega) (by omega), i64w (by omega) (by omega)]
              simp
            by_cases hl0 : low > 0
            · refine Ev.step (fun m => ?_) (three low (decide (low > 0)) true true)
              rw [k2]; unfold S_decimal_write_33
              rw [if_pos (by simp; omega), if_pos (decide_eq_true hl0)]
            · refine Ev.step (fun m => ?_) (three low (decide (low > 0)) false (decide (((dn (rest / 1000000000)).length : Int) > 0)))
              rw [k2]; unfold S_decimal_write_33
              have hlq : (dn (rest / 1000000000)).length ≠ 0 := fun h => by
                have := dn_nil.1 (List.eq_nil_of_length_eq_zero h); omega
              rw [if_pos (by simp; omega), if_neg (by simpa using hl0), if_pos (decide_eq_true (by omega))]
      have hrem : rest % 1000000000 < 10 ^ 9 := by
        have e9 : (10 : Int) ^ 9 = 1000000000 := rfl
        omega
      have := inner 9 0 (rest % 1000000000) D rfl (by omega) hrem hD (by
        have e9 : (10 : Int) ^ 9 = 1000000000 := rfl
        rw [e9, show rest % 1000000000 + 1000000000 * (rest / 1000000000) = rest by omega]; exact hg) hl
      refine Ev.step (fun m => ?_) this
      have hlr : (dn rest).length ≠ 0 := fun h => by
        have := dn_nil.1 (List.eq_nil_of_length_eq_zero h); omega
      rw [k1]; unfold S_decimal_write_17
      rw [if_pos (decide_eq_true (by omega)), F_natural_DivSmall, gif_bind ⟨hnn, by rw [Bd32]; omega⟩, vr, if_neg (by decide)]
      rfl
  have := main (nv a.2).toNat (nv a.2) [] (Nat.le_refl _) nN (NN.dn hN (Nat.le_refl _)) .nil (by simp [gv]) (.inl rfl)
  exact this
theorem Rn_decimal_Format : Run_decimal_Format := fun a => Ok.gif_const fun h => by
  rw [T_decimal_Format, F_decimal_write, gif_bind ⟨h, rfl⟩]
theorem ofB_size (l : List Int) : ByteArray.size (ofB l) = l.length := by
  simp [ofB, ByteArray.size]
theorem gd10_len {k : Nat} {n : Int} (h : Bd k n) : (gd 10 n).length ≤ k + 1 := by
  refine dec_len h ?_
  by_cases h0 : 0 < n
  · right; exact gd_len_ge (by decide) h0
  · left; rw [gd_neg (by omega)]; rfl
theorem decS_size {k : Nat} {z : Int} (h : Bd k (ab z)) : ByteArray.size (decS z) ≤ k + 2 := by
  unfold decS
  split
  · show 1 ≤ _; omega
  · rw [ofB_size]
    have := gd10_len h
    unfold decL
    split <;> simp <;> omega
theorem Rn_rational_Format : Run_rational_Format := fun a => Ok.gif_const fun h => by
  have hq := QB.rv h
  have hQ := QQ.dr hq (Nat.le_refl _)
  rw [T_rational_Format, F_rational_Normal, gif_bind h]
  generalize rv a = r at *
  have hd := r.den_pos
  have e1 : (dr r).2 = dn r.den := rfl
  have v1 : iv (dr r).1 = r.num := iv_di _
  have v2 : iv (false, (dr r).2) = r.den := by unfold iv; simp only [Bool.false_eq_true, if_false]; exact nv_den r
  have f1 : ∀ {σ : Type} {k : ByteArray → Option σ}, (F_decimal_Format (dr r).1).bind k = k (decS r.num) := fun {σ k} => by rw [F_decimal_Format, gif_bind (p := II (dr r).1) hQ.i, v1]
  have f2 : ∀ {σ : Type} {k : ByteArray → Option σ}, (F_decimal_Format (false, (dr r).2)).bind k = k (decS r.den) := fun {σ k} => by rw [F_decimal_Format, gif_bind (p := II (false, (dr r).2)) hQ.d, v2]
  rw [f1, f1, e1, isOne_bind (by omega), ← e1]
  unfold ratS
  have s1 := decS_size hq.1
  have s2 := decS_size (z := (r.den : Int)) (k := 33554432) (by rw [ab_pos (by omega)]; exact hq.2)
  by_cases h1 : r.den = 1
  · rw [if_pos (decide_eq_true (by omega)), if_pos h1]
  · have h2 : ¬ ((r.den : Int) = 1) := by omega
    have e2 : ByteArray.size (ByteArray.mk #[47]) = 1 := rfl
    rw [if_neg (by simpa using h2), if_neg h1, e2, if_pos (by omega), f2, ByteArray.size_append, e2, if_pos (by omega)]
theorem Rn_law05_awake : Run_law05_awake := Ok.gif_const fun _ => by
  have i6 : II (di 6) := II.di (k := 3) (by constructor <;> decide) (by omega)
  have i4 : II (di (-4)) := II.di (k := 3) (by constructor <;> decide) (by omega)
  have hr : Rat.divInt 6 (-4) = Rat.divInt (-3) 2 := by decide +kernel
  have hq : QB 3 (Rat.divInt (-3) 2) := QB.mono (QB.div (j := 2) (k := 2) (by constructor <;> decide) (by constructor <;> decide) (by decide)) (by omega)
  have hn : (Rat.divInt (-3) 2).num = -3 := by decide +kernel
  have hd : (Rat.divInt (-3) 2).den = 2 := by decide +kernel
  have g3 : gd 10 3 = [3] := by rw [gd_pos (by decide) (by decide), show (3 : Int) / 10 = 0 by decide, gd_zero]; rfl
  have g2 : gd 10 2 = [2] := by rw [gd_pos (by decide) (by decide), show (2 : Int) / 10 = 0 by decide, gd_zero]; rfl
  have hs : ratS (Rat.divInt (-3) 2) = ByteArray.mk #[45, 51, 47, 50] := by
    have d3 : decS (-3) = ofB [45, 51] := by
      unfold decS decL
      rw [if_neg (show ¬ ((-3 : Int) = 0) by decide), if_pos (show (-3 : Int) < 0 by decide), show ab (-3) = 3 by decide, g3]; rfl
    have d2 : decS ((2 : Nat) : Int) = ofB [50] := by
      unfold decS decL
      rw [if_neg (show ¬ (((2 : Nat) : Int) = 0) by decide), if_neg (show ¬ (((2 : Nat) : Int) < 0) by decide), show ab ((2 : Nat) : Int) = 2 by decide, g2]; rfl
    unfold ratS
    rw [hn, hd, if_neg (by decide), d3, d2]
    decide +kernel
  rw [T_law05_awake, F_integer_Of, gif_bind (by omega), F_integer_Of, gif_bind (by omega), F_rational_Make, gif_bind ⟨i6, i4⟩, iv_di, iv_di, if_neg (show ¬ ((-4 : Int) = 0) by decide), hr]
  dsimp only
  rw [if_pos (by decide), F_rational_Format, gif_bind (QQ.dr hq (by omega)), rv_dr, hs, if_pos (by simp)]
  show some (decide ((Rat.divInt (-3) 2).num < 0)) = some true
  rw [hn]; rfl
end Go.W

set_option linter.unusedVariables false
set_option linter.unusedSimpArgs false
namespace Go.W

theorem awake_bind {σ : Type} {k : Bool → Option σ} : (F_law05_awake).bind k = k true := gif_bind trivial
theorem few_bind {σ : Type} {n : Int} {a b c : (Bool × List Int) × List Int} {k : Bool → Option σ} : (F_law05_few n a b c).bind k = k (decide ((a.1.2.length : Int) ≤ n ∧ (a.2.length : Int) ≤ n ∧ (b.1.2.length : Int) ≤ n ∧ (b.2.length : Int) ≤ n ∧ (c.1.2.length : Int) ≤ n ∧ (c.2.length : Int) ≤ n)) := gif_bind trivial
theorem small_bind {σ : Type} {n : Int} (h : -9223372036854775807 ≤ n ∧ n ≤ 9223372036854775807) {k : Int × List Int → Option σ} : (F_ref02_Small n).bind k = k (dz n) := gif_bind h
theorem DR.qq {a : (Bool × List Int) × List Int} (h : DR a) {m : Int} (h1 : (a.1.2.length : Int) ≤ m) (h2 : (a.2.length : Int) ≤ m) (hm : m ≤ 1048576) : QQ a := ⟨⟨h.1, by omega⟩, ⟨h.2, by omega⟩⟩
/-- the reference's fraction of a number that came in -/
theorem of_rq {a : (Bool × List Int) × List Int} (h : QQ a) {m : Nat} (h1 : a.1.2.length ≤ m) (h2 : a.2.length ≤ m) (hm : 1 ≤ m) : RQ (32 * m) (mq (rn a) (rd a)) := by
  refine RQ.mq ?_ ?_ (rd_pos h)
  · unfold rn; split
    · exact Bd.zero _
    · rw [iv_ab h.i]; exact h.1.nn.val.mono (by omega)
  · unfold rd; split
    · exact Bd.mono (j := 1) (by rw [Bd1]; omega) (by omega)
    · exact h.2.nn.val.mono (by omega)
theorem of_v (a : (Bool × List Int) × List Int) : qv (mq (rn a) (rd a)) = rv a := by rw [qv_mq]; rfl
theorem divInt_pow (n d : Int) : ∀ k : Nat, (Rat.divInt n d) ^ k = Rat.divInt (n ^ k) (d ^ k)
  | 0 => by simp; rfl
  | k + 1 => by rw [Rat.pow_succ, divInt_pow n d k, Rat.divInt_mul_divInt, Int.pow_succ, Int.pow_succ]
theorem zQ_ok : QQ zQ ∧ rv zQ = 0 := ⟨⟨⟨.nil, by simp⟩, ⟨.nil, by simp⟩⟩, by rw [rv_eq]; rfl⟩
theorem Of_bind {σ : Type} {n : Int} (h : -9223372036854775808 ≤ n ∧ n ≤ 9223372036854775807) {k : ((Bool × List Int) × List Int) → Option σ} : (F_rational_Of n).bind k = k (dr (n : Rat)) := gif_bind h
theorem not_far {r : Rat} {j k : Nat} (h : QB j r) (hk : k ≤ 16777216) (hj : k * j ≤ 16777216) : ¬ far r k := by
  have h1 := bl_Bd h.1
  have h2 := bl_Bd h.2
  have n1 := bl_nonneg (ab r.num)
  have n2 := bl_nonneg (r.den : Int)
  have e : ((k * j : Nat) : Int) = (k : Int) * j := by simp
  have m1 : (k : Int) * bl (ab r.num) ≤ (k : Int) * j := Int.mul_le_mul_of_nonneg_left h1 (by omega)
  have m2 : (k : Int) * bl r.den ≤ (k : Int) * j := Int.mul_le_mul_of_nonneg_left h2 (by omega)
  rintro (h | h | h) <;> omega

theorem far3_bind {σ : Type} {k : ((Bool × List Int) × List Int) × Int → Option σ} : (F_rational_Pow (dr ((3 : Int) : Rat)) 16777216).bind k = k (zQ, 8) := by
  have b3 : QB 2 ((3 : Int) : Rat) := QB.int (by constructor <;> decide) (by omega)
  have f3 : far ((3 : Int) : Rat) (Int.natAbs 16777216) := by
    right; left
    rw [Rat.num_intCast, show ab 3 = 3 by decide, bl_eq (n := 3) (k := 1) (by decide) (by decide)]
    decide
  rw [F_rational_Pow, gif_bind ⟨QQ.dr b3 (by omega), by omega, by omega⟩, rv_dr, if_neg (show ¬ ((16777216 : Int) < 0 ∧ ((3 : Int) : Rat) = 0) by rintro ⟨h, _⟩; omega), if_pos f3]
theorem Rn_law05_RationalPowers : Run_law05_RationalPowers := fun s1 s2 s3 k1 k2 k3 a n => Ok.gif fun ⟨hD, n0, n1⟩ => by
  simp only [T_law05_RationalPowers, awake_bind, few_bind, Bool.not_true, Bool.false_eq_true, if_false]
  by_cases hf : ((a.1.2.length : Int) ≤ 2 ∧ (a.2.length : Int) ≤ 2 ∧ (a.1.2.length : Int) ≤ 2 ∧ (a.2.length : Int) ≤ 2 ∧ (a.1.2.length : Int) ≤ 2 ∧ (a.2.length : Int) ≤ 2)
  · have hQ := hD.qq hf.1 hf.2.1 (by omega)
    have hr := QB.rv' hQ (m := 2) (by omega) (by omega) (by omega)
    have hrq := of_rq hQ (m := 2) (by omega) (by omega) (by omega)
    rw [decide_eq_true hf]
    have ht := tmod_facts n 13 (by decide)
    rw [show ab 13 = 13 by decide] at ht
    -- the end of the law
    have fin : ∀ (k : Nat) (p : (Bool × List Int) × List Int) (N Dn : Int), k ≤ 12 → Bd 64 (ab N) → Bd 64 Dn → 0 < Dn → p = dr ((Rat.divInt N Dn) ^ k) → ∀ x7 : Int, x7 = 0 →
        Ev (fun m => s3 m (k : Int) x7 0 p (mq N Dn) (mq 1 1)) true := by
      intro k p N Dn hk hN hDn hpos hp x7 h7
      subst h7
      have loop : ∀ (d i : Nat), i + d = k → Ev (fun m => s3 m (k : Int) 0 (i : Int) p (mq N Dn) (mq (N ^ i) (Dn ^ i))) true := by
        intro d
        induction d with
        | zero =>
          intro i hi
          have hik : i = k := by omega
          subst hik
          refine Ev.step (t := fun _ => some true) (fun m => ?_) Ev.ret
          rw [k3]; unfold S_law05_RationalPowers_53
          have hw : RQ RK (mq (N ^ i) (Dn ^ i)) := RQ.mq (k := RK) (by rw [ab_pow]; exact (hN.pow i).mono (by rw [RK_le]; omega)) ((hDn.pow i).mono (by rw [RK_le]; omega)) (pow_pos' hpos i)
          rw [if_neg (by simp), Of_bind (by omega), far3_bind, if_pos (by decide), F_law05_is, gif_bind hw, qv_mq, hp, divInt_pow, if_pos (by simp)]
          rfl
        | succ d ih =>
          intro i hi
          have hw : RQ RK (mq (N ^ i) (Dn ^ i)) := RQ.mq (k := RK) (by rw [ab_pow]; exact (hN.pow i).mono (by rw [RK_le]; omega)) ((hDn.pow i).mono (by rw [RK_le]; omega)) (pow_pos' hpos i)
          have hx : RQ RK (mq N Dn) := RQ.mq (hN.mono (by rw [RK_le]; omega)) (hDn.mono (by rw [RK_le]; omega)) hpos
          refine Ev.step (fun m => ?_) (ih (i + 1) (by omega))
          rw [k3]; unfold S_law05_RationalPowers_53
          rw [if_pos (by simp; omega), F_ref05_Mul, gif_bind ⟨hw, hx⟩, qn_mq, qn_mq, qd_mq, qd_mq, i64w (by omega) (by omega), Int.pow_succ, Int.pow_succ]
          simp
      have := loop k 0 (by omega)
      rw [Int.pow_zero, Int.pow_zero] at this
      exact this
    have hk13 : IntKind.wrap .i64 (Int.tmod n 13) = Int.tmod n 13 := i64w (by omega) (by omega)
    have hone : RQ RK (mq 1 1) := RQ.mq (Bd.mono (j := 1) (by simp [ab]; rw [Bd1]; omega) (by rw [RK_le]; omega)) (Bd.mono (j := 1) (by rw [Bd1]; omega) (by rw [RK_le]; omega)) (by omega)
    have hrq' : RQ RK (mq (rn a) (rd a)) := hrq.mono (by rw [RK_le]; omega)
    have hnf : ¬ far (rv a) (Int.tmod n 13).natAbs := by
      have h12 : (Int.tmod n 13).natAbs ≤ 12 := by omega
      refine not_far hr (by omega) ?_
      have := Nat.mul_le_mul_right 64 h12
      omega
    have hz : rn a = 0 ↔ rv a = 0 := (divInt_eq0 (rd_pos hQ)).symm
    have hsz : (((mq (rn a) (rd a)).1.1 == 0) = true) ↔ rv a = 0 := by
      show ((sg (rn a) == 0) = true) ↔ _
      rw [beq_iff_eq, ← hz]
      unfold sg; (repeat' split) <;> omega
    refine Ev.step (fun m => ?_) (?_ : Ev (fun m => s2 m (Int.tmod n 13) (if Int.tmod n 13 < 0 ∧ rv a = 0 then (zQ, (2 : Int)) else (dr (if Int.tmod n 13 < 0 then ((rv a) ^ (Int.tmod n 13).natAbs)⁻¹ else (rv a) ^ (Int.tmod n 13).natAbs), 0)).2 (decide (Int.tmod n 13 < 0 ∧ rv a = 0)) (if Int.tmod n 13 < 0 ∧ rv a = 0 then (zQ, (2 : Int)) else (dr (if Int.tmod n 13 < 0 then ((rv a) ^ (Int.tmod n 13).natAbs)⁻¹ else (rv a) ^ (Int.tmod n 13).natAbs), 0)).1 (mq (rn a) (rd a))) true)
    · rw [k1]; unfold S_law05_RationalPowers_8
      rw [if_neg (by decide), if_neg (by decide), hk13, F_rational_Pow, gif_bind ⟨hQ, by omega, by omega⟩, if_neg hnf, F_law05_of, gif_bind hQ]
      by_cases h0 : rv a = 0
      · rw [if_pos (hsz.2 h0)]; simp [h0]
      · rw [if_neg (fun h => h0 (hsz.1 h))]; simp [h0]
    · by_cases hc : Int.tmod n 13 < 0 ∧ rv a = 0
      · rw [if_pos hc, decide_eq_true hc]
        refine Ev.step (t := fun _ => some true) (fun m => ?_) Ev.ret
        rw [k2]; unfold S_law05_RationalPowers_28
        rw [if_pos rfl, if_pos (by decide), F_rational_Sign, gif_bind zQ_ok.1, zQ_ok.2]
        rfl
      · rw [if_neg hc, decide_eq_false hc]
        by_cases hneg : Int.tmod n 13 < 0
        · have hr0 : rv a ≠ 0 := fun h => hc ⟨hneg, h⟩
          have hn0 : rn a ≠ 0 := fun h => hr0 (hz.1 h)
          have dpos := rd_pos hQ
          have hN : Bd 64 (ab (rn a)) := by have := hrq.2.1; rwa [qn_mq] at this
          have hDn : Bd 64 (rd a) := by have := hrq.2.2.1; rwa [qd_mq] at this
          rw [if_pos hneg]
          have step : Ev (fun m => s3 m (((Int.tmod n 13).natAbs : Nat) : Int) 0 0 (dr ((rv a) ^ (Int.tmod n 13).natAbs)⁻¹) (if qn (mq (rn a) (rd a)) < 0 then mq (-(qn (mq 1 1) * qd (mq (rn a) (rd a)))) (-(qd (mq 1 1) * qn (mq (rn a) (rd a)))) else mq (qn (mq 1 1) * qd (mq (rn a) (rd a))) (qd (mq 1 1) * qn (mq (rn a) (rd a)))) (mq 1 1)) true := by
            rw [qn_mq, qn_mq, qd_mq, qd_mq, Int.one_mul, Int.one_mul]
            by_cases h1 : rn a < 0
            · rw [if_pos h1]
              refine fin (Int.tmod n 13).natAbs _ (-(rd a)) (-(rn a)) (by omega) (by rw [ab_neg, ab_pos (by omega)]; exact hDn) (by have := hN; rwa [show ab (rn a) = -(rn a) by unfold ab; rw [if_pos h1]] at this) (by omega) ?_ 0 rfl
              rw [Rat.neg_divInt_neg, divInt_pow]
              show dr ((Rat.divInt (rn a) (rd a)) ^ _)⁻¹ = _
              rw [divInt_pow, Rat.inv_divInt]
            · rw [if_neg h1]
              refine fin (Int.tmod n 13).natAbs _ (rd a) (rn a) (by omega) (by rw [ab_pos (by omega)]; exact hDn) (by have := hN; rwa [ab_pos (by omega)] at this) (by omega) ?_ 0 rfl
              rw [divInt_pow]
              show dr ((Rat.divInt (rn a) (rd a)) ^ _)⁻¹ = _
              rw [divInt_pow, Rat.inv_divInt]
          refine Ev.step (fun m => ?_) step
          rw [k2]; unfold S_law05_RationalPowers_28
          rw [if_neg (by decide), if_pos (decide_eq_true hneg), small_bind (by omega), small_bind (by omega)]
          have e11 : (dz 1, dz 1) = mq 1 1 := rfl
          rw [e11, F_ref05_Quo, gif_bind ⟨hone, hrq', by rw [qn_mq]; exact hn0⟩, small_bind (by omega), small_bind (by omega), e11, i64w (by omega) (by omega), show (0 : Int) - Int.tmod n 13 = (((Int.tmod n 13).natAbs : Nat) : Int) by omega]
        · rw [if_neg hneg]
          have hN : Bd 64 (ab (rn a)) := by have := hrq.2.1; rwa [qn_mq] at this
          have hDn : Bd 64 (rd a) := by have := hrq.2.2.1; rwa [qd_mq] at this
          have := fin (Int.tmod n 13).natAbs _ (rn a) (rd a) (by omega) hN hDn (rd_pos hQ) (show _ = dr (rv a ^ (Int.tmod n 13).natAbs) from rfl) 0 rfl
          refine Ev.step (fun m => ?_) this
          rw [k2]; unfold S_law05_RationalPowers_28
          rw [if_neg (by decide), if_neg (by rw [decide_eq_true_eq]; exact hneg), small_bind (by omega), small_bind (by omega)]
          have e11 : (dz 1, dz 1) = mq 1 1 := rfl
          rw [e11, show (((Int.tmod n 13).natAbs : Nat) : Int) = Int.tmod n 13 by omega]
  · rw [decide_eq_false hf]
    refine Ev.step (t := fun _ => some true) (fun m => ?_) Ev.ret
    rw [k1]; unfold S_law05_RationalPowers_8
    rw [if_pos (show (!false) = true from rfl), awake_bind]
end Go.W

set_option linter.unusedVariables false
namespace Go.W
/-! ### intervals -/
abbrev NQ := (Bool × List Int) × List Int
abbrev FQ := (Int × List Int) × Int × List Int
abbrev NI := ((Bool × List Int) × List Int) × (Bool × List Int) × List Int
abbrev FI := ((Int × List Int) × Int × List Int) × (Int × List Int) × Int × List Int
def rmin (x y : Rat) : Rat := if y < x then y else x
def rmax (x y : Rat) : Rat := if x < y then y else x
def QI (k : Nat) (a : NI) : Prop := QQ a.1 ∧ QQ a.2 ∧ QB k (rv a.1) ∧ QB k (rv a.2)
def Q2 (a : NI) : Prop := QQ a.1 ∧ QQ a.2
def dI (p : Rat × Rat) : NI := (dr p.1, dr p.2)
def lo (a : NI) : Rat := rmin (rv a.1) (rv a.2)
def hi (a : NI) : Rat := rmax (rv a.1) (rv a.2)
def BI : Nat := 1000000
abbrev zI : NI := (((false, []), []), ((false, []), []))
def mn4 (a b c d : Rat) : Rat := rmin (rmin (rmin a b) c) d
def mx4 (a b c d : Rat) : Rat := rmax (rmax (rmax a b) c) d
def mulI (x y u v : Rat) : Rat × Rat := (mn4 (x * u) (x * v) (y * u) (y * v), mx4 (x * u) (x * v) (y * u) (y * v))
noncomputable def F_interval_least (a b : NQ) : Option NQ := gif (QQ a ∧ QQ b) (if rv b < rv a then b else a)
noncomputable def F_interval_greatest (a b : NQ) : Option NQ := gif (QQ a ∧ QQ b) (if rv a < rv b then b else a)
noncomputable def F_interval_Normal (a : NI) : Option NI := gif (Q2 a) (dI (lo a, hi a))
noncomputable def F_interval_Mul (a b : NI) : Option NI := gif (QI BI a ∧ QI BI b) (dI (mulI (rv a.1) (rv a.2) (rv b.1) (rv b.2)))
noncomputable def F_interval_Add (a b : NI) : Option NI := gif (QI BI a ∧ QI BI b) (dI (lo a + lo b, hi a + hi b))
noncomputable def F_interval_Sign (a : NI) : Option (Int × Bool) := gif (Q2 a) (if rsg (rv a.1) = rsg (rv a.2) then (rsg (rv a.1), true) else (0, false))
noncomputable def F_interval_Contains (a : NI) (x : NQ) : Option Bool := gif (Q2 a ∧ QQ x) (decide (lo a ≤ rv x ∧ rv x ≤ hi a))
noncomputable def F_interval_Within (a b : NI) : Option Bool := gif (Q2 a ∧ Q2 b) (decide ((lo b ≤ rv a.1 ∧ rv a.1 ≤ hi b) ∧ lo b ≤ rv a.2 ∧ rv a.2 ≤ hi b))
noncomputable def F_interval_Quo (a b : NI) : Option (NI × Int) := gif (QI BI a ∧ QI BI b) (if lo b ≤ 0 ∧ 0 ≤ hi b then (zI, 2) else (dI (mulI (rv a.1) (rv a.2) (1 / rv b.1) (1 / rv b.2)), 0))
noncomputable def F_law06_awake : Option Bool := gif True true
noncomputable def F_law06_small (n : Int) (a : NQ) : Option Bool := gif True (decide ((a.1.2.length : Int) ≤ n ∧ (a.2.length : Int) ≤ n))
noncomputable def F_law06_few (n : Int) (a b : NI) : Option Bool := gif True (decide (((a.1.1.2.length : Int) ≤ n ∧ (a.1.2.length : Int) ≤ n) ∧ ((a.2.1.2.length : Int) ≤ n ∧ (a.2.2.length : Int) ≤ n) ∧ ((b.1.1.2.length : Int) ≤ n ∧ (b.1.2.length : Int) ≤ n) ∧ (b.2.1.2.length : Int) ≤ n ∧ (b.2.2.length : Int) ≤ n))
noncomputable def F_law06_q (a : NQ) : Option FQ := gif (QQ a) (mq (rn a) (rd a))
noncomputable def F_law06_of (a : NI) : Option FI := gif (Q2 a) (if rv a.2 < rv a.1 then (mq (rn a.2) (rd a.2), mq (rn a.1) (rd a.1)) else (mq (rn a.1) (rd a.1), mq (rn a.2) (rd a.2)))
noncomputable def F_law06_none (a : NI) : Option Bool := gif (Q2 a) (decide (rv a.1 = 0 ∧ rv a.2 = 0))
noncomputable def F_law06_equal (a b : NI) : Option Bool := gif (Q2 a ∧ Q2 b) (decide (((lo b ≤ rv a.1 ∧ rv a.1 ≤ hi b) ∧ lo b ≤ rv a.2 ∧ rv a.2 ≤ hi b) ∧ (lo a ≤ rv b.1 ∧ rv b.1 ≤ hi a) ∧ lo a ≤ rv b.2 ∧ rv b.2 ≤ hi a))
noncomputable def F_law06_is (a : NI) (b : FI) : Option Bool := gif (RQ RK b.1 ∧ RQ RK b.2) (decide (a = dI (qv b.1, qv b.2)))
noncomputable def F_ref06_Make (p q : FQ) : Option FI := gif (RQ RK p ∧ RQ RK q) (if qv q < qv p then (q, p) else (p, q))
noncomputable def F_ref06_Point (p : FQ) : Option FI := gif True (p, p)
def lowL (m : FQ) (l : List FQ) : FQ := l.foldl (fun m x => if qv x < qv m then x else m) m
def hiL (m : FQ) (l : List FQ) : FQ := l.foldl (fun m x => if qv m < qv x then x else m) m
def hullL : List FQ → FI
  | [] => (((0, []), (0, [])), ((0, []), (0, [])))
  | m :: l => (lowL m l, hiL m l)
noncomputable def F_ref06_Hull (l : List FQ) : Option FI := gif (l ≠ [] ∧ l.length ≤ 1000 ∧ ∀ q ∈ l, RQ RK q) (hullL l)
def mulq (a b : FQ) : FQ := mq (qn a * qn b) (qd a * qd b)
noncomputable def F_ref06_Mul (p q : FI) : Option FI := gif (RQ 1000000 p.1 ∧ RQ 1000000 p.2 ∧ RQ 1000000 q.1 ∧ RQ 1000000 q.2) (hullL [mulq p.1 q.1, mulq p.1 q.2, mulq p.2 q.1, mulq p.2 q.2])
noncomputable def F_ref06_Number (n : Int) : Option FQ := gif (-9223372036854775807 ≤ n ∧ n ≤ 9223372036854775807) (mq n 1)
def invq (b : FQ) : FQ := if qn b < 0 then mq (-(1 * qd b)) (-(1 * qn b)) else mq (1 * qd b) (1 * qn b)
noncomputable def F_ref06_Inverse (p : FI) : Option FI := gif (RQ 1000000 p.1 ∧ RQ 1000000 p.2 ∧ qn p.1 ≠ 0 ∧ qn p.2 ≠ 0) (invq p.2, invq p.1)
def DI (a : NI) : Prop := DR a.1 ∧ DR a.2
noncomputable def F_law06_IntervalQuotients (a b : NI) : Option Bool := gif (DI a ∧ DI b) true
noncomputable def F_law06_IntervalRules (a b c : NI) : Option Bool := gif (DI a ∧ DI b ∧ DI c) true
noncomputable def F_interval_Pow (a : NI) (n : Int) : Option (NI × Int) := gif (QI 1000 a ∧ -9223372036854775808 ≤ n ∧ n ≤ 9223372036854775807 ∧ (n ≤ 1000 ∨ far (rv a.1) n.natAbs ∨ far (rv a.2) n.natAbs))
  (if n < 0 then (zI, 1) else if far (rv a.1) n.natAbs ∨ far (rv a.2) n.natAbs then (zI, 8) else (dI (if (0 < n ∧ Int.tmod n 2 = 0) ∧ lo a ≤ 0 ∧ 0 ≤ hi a then 0 else rmin (rv a.1 ^ n.natAbs) (rv a.2 ^ n.natAbs), rmax (rv a.1 ^ n.natAbs) (rv a.2 ^ n.natAbs)), 0))
def powq (q : FQ) (n : Nat) : FQ := mq (qn q ^ n) (qd q ^ n)
noncomputable def F_ref06_power (q : FQ) (n : Int) : Option FQ := gif (RQ 1000 q ∧ n ≤ 1000) (powq q n.toNat)
noncomputable def F_ref06_Contains (p : FI) (q : FQ) : Option Bool := gif (RQ RK p.1 ∧ RQ RK p.2 ∧ RQ RK q) (decide (qv p.1 ≤ qv q ∧ qv q ≤ qv p.2))
noncomputable def F_ref06_Pow (p : FI) (n : Int) : Option FI := gif (RQ 1000 p.1 ∧ RQ 1000 p.2 ∧ n ≤ 1000) (hullL (if 0 < n ∧ qv p.1 ≤ 0 ∧ 0 ≤ qv p.2 then [powq p.1 n.toNat, powq p.2 n.toNat, mq 0 1] else [powq p.1 n.toNat, powq p.2 n.toNat]))
noncomputable def F_law06_IntervalPowers (a : NI) (n : Int) : Option Bool := gif (DI a ∧ -9223372036854775808 ≤ n ∧ n ≤ 9223372036854775807) true
noncomputable def F_interval_Hull (a b : NI) : Option NI := gif (Q2 a ∧ Q2 b) (dI (rmin (lo a) (lo b), rmax (hi a) (hi b)))
noncomputable def F_interval_Point (a : NQ) : Option NI := gif (QQ a) (dI (rv a, rv a))
/-- Horner's rule over intervals -/
def evI (x y : Rat) : List Rat → Rat × Rat
  | [] => (0, 0)
  | c :: l => ((mulI (evI x y l).1 (evI x y l).2 x y).1 + c, (mulI (evI x y l).1 (evI x y l).2 x y).2 + c)
noncomputable def F_interval_Eval (l : List NQ) (a : NI) : Option NI := gif (QI 1000 a ∧ l.length ≤ 100 ∧ ∀ c ∈ l, QQ c ∧ QB 1000 (rv c)) (dI (evI (rv a.1) (rv a.2) (l.map rv)))
noncomputable def F_law06_clamp (a : NI) (x : NQ) : Option NQ := gif (Q2 a ∧ QQ x) (if rv x < lo a then dr (lo a) else if hi a < rv x then dr (hi a) else x)
noncomputable def F_interval_Neg (a : NI) : Option NI := gif (Q2 a) (dI (-(hi a), -(lo a)))
noncomputable def F_interval_Sub (a b : NI) : Option NI := gif (QI BI a ∧ QI BI b) (dI (lo a - hi b, hi a - lo b))
noncomputable def F_law06_IntervalMonotonic (a b c : NI) : Option Bool := gif (DI a ∧ DI b ∧ DI c) true
noncomputable def F_law06_IntervalElements (a b : NI) (l : List NQ) : Option Bool := gif (DI a ∧ DI b ∧ l.length = 2 ∧ ∀ c ∈ l, DR c) true
end Go.W

set_option linter.unusedVariables false
namespace Go.W
noncomputable section

/-! cylinder/interval.Add -/
def T_interval_Add (a0 : ((Bool × List Int) × List Int) × (Bool × List Int) × List Int) (a1 : ((Bool × List Int) × List Int) × (Bool × List Int) × List Int) : Option (((Bool × List Int) × List Int) × (Bool × List Int) × List Int) :=
  (F_interval_Normal a0).bind fun r1 =>
  (F_interval_Normal a1).bind fun r2 =>
  (F_rational_Add r1.1 r2.1).bind fun r3 =>
  (F_rational_Add r1.2 r2.2).bind fun r4 =>
  some ((r3, r4))
def Run_interval_Add : Prop := ∀ a0 : ((Bool × List Int) × List Int) × (Bool × List Int) × List Int, ∀ a1 : ((Bool × List Int) × List Int) × (Bool × List Int) × List Int, Ok (F_interval_Add a0 a1) (fun _ => T_interval_Add a0 a1)

/-! cylinder/interval.Contains -/
def T_interval_Contains (a0 : ((Bool × List Int) × List Int) × (Bool × List Int) × List Int) (a1 : (Bool × List Int) × List Int) : Option Bool :=
  (F_interval_least a0.1 a0.2).bind fun r1 =>
  (F_rational_Cmp r1 a1).bind fun r2 =>
  if (decide (r2 ≤ (0 : Int))) = true then
    (F_interval_greatest a0.1 a0.2).bind fun r3 =>
    (F_rational_Cmp a1 r3).bind fun r4 =>
    some ((decide (r4 ≤ (0 : Int))))
  else
    some false
def Run_interval_Contains : Prop := ∀ a0 : ((Bool × List Int) × List Int) × (Bool × List Int) × List Int, ∀ a1 : (Bool × List Int) × List Int, Ok (F_interval_Contains a0 a1) (fun _ => T_interval_Contains a0 a1)

/-! cylinder/interval.Eval -/
def T_interval_Eval (s13 : (List ((Bool × List Int) × List Int)) → Int → (((Bool × List Int) × List Int) × (Bool × List Int) × List Int) → (((Bool × List Int) × List Int) × (Bool × List Int) × List Int) → (((Bool × List Int) × List Int) × (Bool × List Int) × List Int) → Option ((((Bool × List Int) × List Int) × (Bool × List Int) × List Int))) (a0 : List ((Bool × List Int) × List Int)) (a1 : ((Bool × List Int) × List Int) × (Bool × List Int) × List Int) : Option (((Bool × List Int) × List Int) × (Bool × List Int) × List Int) :=
  (F_rational_Of (0 : Int)).bind fun r1 =>
  (F_interval_Point r1).bind fun r2 =>
  s13 a0 (IntKind.wrap .i64 ((List.length a0 : Int) - (1 : Int))) a1 (((false, ([] : List Int)), ([] : List Int)), ((false, ([] : List Int)), ([] : List Int))) r2
def S_interval_Eval_13 (s13 : (List ((Bool × List Int) × List Int)) → Int → (((Bool × List Int) × List Int) × (Bool × List Int) × List Int) → (((Bool × List Int) × List Int) × (Bool × List Int) × List Int) → (((Bool × List Int) × List Int) × (Bool × List Int) × List Int) → Option ((((Bool × List Int) × List Int) × (Bool × List Int) × List Int))) (x0 : List ((Bool × List Int) × List Int)) (x6 : Int) (x3 : ((Bool × List Int) × List Int) × (Bool × List Int) × List Int) (x4 : ((Bool × List Int) × List Int) × (Bool × List Int) × List Int) (x5 : ((Bool × List Int) × List Int) × (Bool × List Int) × List Int) : Option (((Bool × List Int) × List Int) × (Bool × List Int) × List Int) :=
  if (decide (x6 ≥ (0 : Int))) = true then
    (F_interval_Mul x5 x3).bind fun r1 =>
    if 0 ≤ x6 ∧ x6 < (List.length x0 : Int) then
      let v2 : (Bool × List Int) × List Int := (List.getD x0 (Int.toNat x6) ((false, ([] : List Int)), ([] : List Int)))
      (F_interval_Point v2).bind fun r3 =>
      (F_interval_Add r1 r3).bind fun r4 =>
      s13 x0 (IntKind.wrap .i64 (x6 - (1 : Int))) x3 x4 r4
    else none
  else
    some x5
def Run_interval_Eval : Prop := ∀ s13 : Nat → (List ((Bool × List Int) × List Int)) → Int → (((Bool × List Int) × List Int) × (Bool × List Int) × List Int) → (((Bool × List Int) × List Int) × (Bool × List Int) × List Int) → (((Bool × List Int) × List Int) × (Bool × List Int) × List Int) → Option ((((Bool × List Int) × List Int) × (Bool × List Int) × List Int)), (∀ m x0 x6 x3 x4 x5, s13 (m + 1) x0 x6 x3 x4 x5 = S_interval_Eval_13 (s13 m) x0 x6 x3 x4 x5) → ∀ a0 : List ((Bool × List Int) × List Int), ∀ a1 : ((Bool × List Int) × List Int) × (Bool × List Int) × List Int, Ok (F_interval_Eval a0 a1) (fun m => T_interval_Eval (s13 m) a0 a1)

/-! cylinder/interval.Hull -/
def T_interval_Hull (a0 : ((Bool × List Int) × List Int) × (Bool × List Int) × List Int) (a1 : ((Bool × List Int) × List Int) × (Bool × List Int) × List Int) : Option (((Bool × List Int) × List Int) × (Bool × List Int) × List Int) :=
  (F_interval_Normal a0).bind fun r1 =>
  (F_interval_Normal a1).bind fun r2 =>
  (F_interval_least r1.1 r2.1).bind fun r3 =>
  (F_interval_greatest r1.2 r2.2).bind fun r4 =>
  some ((r3, r4))
def Run_interval_Hull : Prop := ∀ a0 : ((Bool × List Int) × List Int) × (Bool × List Int) × List Int, ∀ a1 : ((Bool × List Int) × List Int) × (Bool × List Int) × List Int, Ok (F_interval_Hull a0 a1) (fun _ => T_interval_Hull a0 a1)

/-! cylinder/interval.Mul -/
def T_interval_Mul (s17 : (List ((Bool × List Int) × List Int)) → Int → (((Bool × List Int) × List Int) × (Bool × List Int) × List Int) → (((Bool × List Int) × List Int) × (Bool × List Int) × List Int) → Option ((((Bool × List Int) × List Int) × (Bool × List Int) × List Int))) (a0 : ((Bool × List Int) × List Int) × (Bool × List Int) × List Int) (a1 : ((Bool × List Int) × List Int) × (Bool × List Int) × List Int) : Option (((Bool × List Int) × List Int) × (Bool × List Int) × List Int) :=
  (F_rational_Mul a0.1 a1.1).bind fun r1 =>
  (F_rational_Mul a0.1 a1.2).bind fun r2 =>
  (F_rational_Mul a0.2 a1.1).bind fun r3 =>
  (F_rational_Mul a0.2 a1.2).bind fun r4 =>
  s17 ([r2, r3, r4] : List ((Bool × List Int) × List Int)) (0 : Int) (((false, ([] : List Int)), ([] : List Int)), ((false, ([] : List Int)), ([] : List Int))) (r1, r1)
def S_interval_Mul_17 (s17 : (List ((Bool × List Int) × List Int)) → Int → (((Bool × List Int) × List Int) × (Bool × List Int) × List Int) → (((Bool × List Int) × List Int) × (Bool × List Int) × List Int) → Option ((((Bool × List Int) × List Int) × (Bool × List Int) × List Int))) (x32 : List ((Bool × List Int) × List Int)) (x33 : Int) (x4 : ((Bool × List Int) × List Int) × (Bool × List Int) × List Int) (x6 : ((Bool × List Int) × List Int) × (Bool × List Int) × List Int) : Option (((Bool × List Int) × List Int) × (Bool × List Int) × List Int) :=
  if (decide (x33 < (3 : Int))) = true then
    if 0 ≤ x33 ∧ x33 < ((3 : Nat) : Int) then
      let v1 : (Bool × List Int) × List Int := (List.getD x32 (Int.toNat x33) ((false, ([] : List Int)), ([] : List Int)))
      (F_interval_least x6.1 v1).bind fun r2 =>
      (F_interval_greatest x6.2 v1).bind fun r3 =>
      s17 x32 (IntKind.wrap .i64 (x33 + (1 : Int))) x4 (r2, r3)
    else none
  else
    (F_interval_Normal x6).bind fun r4 =>
    some r4
def Run_interval_Mul : Prop := ∀ s17 : Nat → (List ((Bool × List Int) × List Int)) → Int → (((Bool × List Int) × List Int) × (Bool × List Int) × List Int) → (((Bool × List Int) × List Int) × (Bool × List Int) × List Int) → Option ((((Bool × List Int) × List Int) × (Bool × List Int) × List Int)), (∀ m x32 x33 x4 x6, s17 (m + 1) x32 x33 x4 x6 = S_interval_Mul_17 (s17 m) x32 x33 x4 x6) → ∀ a0 : ((Bool × List Int) × List Int) × (Bool × List Int) × List Int, ∀ a1 : ((Bool × List Int) × List Int) × (Bool × List Int) × List Int, Ok (F_interval_Mul a0 a1) (fun m => T_interval_Mul (s17 m) a0 a1)

/-! cylinder/interval.Neg -/
def T_interval_Neg (a0 : ((Bool × List Int) × List Int) × (Bool × List Int) × List Int) : Option (((Bool × List Int) × List Int) × (Bool × List Int) × List Int) :=
  (F_rational_Neg a0.1).bind fun r1 =>
  (F_rational_Neg a0.2).bind fun r2 =>
  (F_interval_Normal (r1, r2)).bind fun r3 =>
  some r3
def Run_interval_Neg : Prop := ∀ a0 : ((Bool × List Int) × List Int) × (Bool × List Int) × List Int, Ok (F_interval_Neg a0) (fun _ => T_interval_Neg a0)

/-! cylinder/interval.Normal -/
def T_interval_Normal (a0 : ((Bool × List Int) × List Int) × (Bool × List Int) × List Int) : Option (((Bool × List Int) × List Int) × (Bool × List Int) × List Int) :=
  (F_interval_least a0.1 a0.2).bind fun r1 =>
  (F_rational_Normal r1).bind fun r2 =>
  (F_interval_greatest a0.1 a0.2).bind fun r3 =>
  (F_rational_Normal r3).bind fun r4 =>
  some ((r2, r4))
def Run_interval_Normal : Prop := ∀ a0 : ((Bool × List Int) × List Int) × (Bool × List Int) × List Int, Ok (F_interval_Normal a0) (fun _ => T_interval_Normal a0)

/-! cylinder/interval.Point -/
def T_interval_Point (a0 : (Bool × List Int) × List Int) : Option (((Bool × List Int) × List Int) × (Bool × List Int) × List Int) :=
  (F_rational_Normal a0).bind fun r1 =>
  (F_rational_Normal a0).bind fun r2 =>
  some ((r1, r2))
def Run_interval_Point : Prop := ∀ a0 : (Bool × List Int) × List Int, Ok (F_interval_Point a0) (fun _ => T_interval_Point a0)

/-! cylinder/interval.Pow -/
def T_interval_Pow (s24 : Int → Bool → (((Bool × List Int) × List Int) × (Bool × List Int) × List Int) → (((Bool × List Int) × List Int) × (Bool × List Int) × List Int) → ((Bool × List Int) × List Int) → ((Bool × List Int) × List Int) → Option (((((Bool × List Int) × List Int) × (Bool × List Int) × List Int) × Int))) (a0 : ((Bool × List Int) × List Int) × (Bool × List Int) × List Int) (a1 : Int) : Option ((((Bool × List Int) × List Int) × (Bool × List Int) × List Int) × Int) :=
  if (decide (a1 < (0 : Int))) = true then
    some ((((false, ([] : List Int)), ([] : List Int)), ((false, ([] : List Int)), ([] : List Int))), (1 : Int))
  else
    (F_rational_Pow a0.1 a1).bind fun r1 =>
    (F_rational_Pow a0.2 a1).bind fun r2 =>
    if (r1.2 != (0 : Int)) = true then
      s24 a1 true a0 (((false, ([] : List Int)), ([] : List Int)), ((false, ([] : List Int)), ([] : List Int))) r1.1 r2.1
    else
      s24 a1 (r2.2 != (0 : Int)) a0 (((false, ([] : List Int)), ([] : List Int)), ((false, ([] : List Int)), ([] : List Int))) r1.1 r2.1
def S_interval_Pow_24 (s24 : Int → Bool → (((Bool × List Int) × List Int) × (Bool × List Int) × List Int) → (((Bool × List Int) × List Int) × (Bool × List Int) × List Int) → ((Bool × List Int) × List Int) → ((Bool × List Int) × List Int) → Option (((((Bool × List Int) × List Int) × (Bool × List Int) × List Int) × Int))) (x1 : Int) (x33 : Bool) (x2 : ((Bool × List Int) × List Int) × (Bool × List Int) × List Int) (x4 : ((Bool × List Int) × List Int) × (Bool × List Int) × List Int) (x6 : (Bool × List Int) × List Int) (x8 : (Bool × List Int) × List Int) : Option ((((Bool × List Int) × List Int) × (Bool × List Int) × List Int) × Int) :=
  if x33 = true then
    some ((((false, ([] : List Int)), ([] : List Int)), ((false, ([] : List Int)), ([] : List Int))), (8 : Int))
  else
    (F_interval_Normal (x6, x8)).bind fun r1 =>
    if (decide (x1 > (0 : Int))) = true then
      if (2 : Int) = 0 then none else
      if ((Int.tmod x1 (2 : Int)) == (0 : Int)) = true then
        (F_rational_Of (0 : Int)).bind fun r2 =>
        (F_interval_Contains x2 r2).bind fun r3 =>
        if r3 = true then
          (F_rational_Of (0 : Int)).bind fun r4 =>
          some ((r4, r1.2), (0 : Int))
        else
          some (r1, (0 : Int))
      else
        some (r1, (0 : Int))
    else
      some (r1, (0 : Int))
def Run_interval_Pow : Prop := ∀ s24 : Nat → Int → Bool → (((Bool × List Int) × List Int) × (Bool × List Int) × List Int) → (((Bool × List Int) × List Int) × (Bool × List Int) × List Int) → ((Bool × List Int) × List Int) → ((Bool × List Int) × List Int) → Option (((((Bool × List Int) × List Int) × (Bool × List Int) × List Int) × Int)), (∀ m x1 x33 x2 x4 x6 x8, s24 (m + 1) x1 x33 x2 x4 x6 x8 = S_interval_Pow_24 (s24 m) x1 x33 x2 x4 x6 x8) → ∀ a0 : ((Bool × List Int) × List Int) × (Bool × List Int) × List Int, ∀ a1 : Int, Ok (F_interval_Pow a0 a1) (fun m => T_interval_Pow (s24 m) a0 a1)

/-! cylinder/interval.Quo -/
def T_interval_Quo (a0 : ((Bool × List Int) × List Int) × (Bool × List Int) × List Int) (a1 : ((Bool × List Int) × List Int) × (Bool × List Int) × List Int) : Option ((((Bool × List Int) × List Int) × (Bool × List Int) × List Int) × Int) :=
  (F_rational_Of (0 : Int)).bind fun r1 =>
  (F_interval_Contains a1 r1).bind fun r2 =>
  if r2 = true then
    some ((((false, ([] : List Int)), ([] : List Int)), ((false, ([] : List Int)), ([] : List Int))), (2 : Int))
  else
    (F_rational_Of (1 : Int)).bind fun r3 =>
    (F_rational_Quo r3 a1.1).bind fun r4 =>
    (F_rational_Of (1 : Int)).bind fun r5 =>
    (F_rational_Quo r5 a1.2).bind fun r6 =>
    (F_interval_Mul a0 (r4.1, r6.1)).bind fun r7 =>
    some (r7, (0 : Int))
def Run_interval_Quo : Prop := ∀ a0 : ((Bool × List Int) × List Int) × (Bool × List Int) × List Int, ∀ a1 : ((Bool × List Int) × List Int) × (Bool × List Int) × List Int, Ok (F_interval_Quo a0 a1) (fun _ => T_interval_Quo a0 a1)

/-! cylinder/interval.Sign -/
def T_interval_Sign (a0 : ((Bool × List Int) × List Int) × (Bool × List Int) × List Int) : Option (Int × Bool) :=
  (F_rational_Sign a0.1).bind fun r1 =>
  (F_rational_Sign a0.2).bind fun r2 =>
  if (r1 != r2) = true then
    some ((0 : Int), false)
  else
    some (r1, true)
def Run_interval_Sign : Prop := ∀ a0 : ((Bool × List Int) × List Int) × (Bool × List Int) × List Int, Ok (F_interval_Sign a0) (fun _ => T_interval_Sign a0)

/-! cylinder/interval.Sub -/
def T_interval_Sub (a0 : ((Bool × List Int) × List Int) × (Bool × List Int) × List Int) (a1 : ((Bool × List Int) × List Int) × (Bool × List Int) × List Int) : Option (((Bool × List Int) × List Int) × (Bool × List Int) × List Int) :=
  (F_interval_Neg a1).bind fun r1 =>
  (F_interval_Add a0 r1).bind fun r2 =>
  some r2
def Run_interval_Sub : Prop := ∀ a0 : ((Bool × List Int) × List Int) × (Bool × List Int) × List Int, ∀ a1 : ((Bool × List Int) × List Int) × (Bool × List Int) × List Int, Ok (F_interval_Sub a0 a1) (fun _ => T_interval_Sub a0 a1)

/-! cylinder/interval.Within -/
def T_interval_Within (a0 : ((Bool × List Int) × List Int) × (Bool × List Int) × List Int) (a1 : ((Bool × List Int) × List Int) × (Bool × List Int) × List Int) : Option Bool :=
  (F_interval_Contains a1 a0.1).bind fun r1 =>
  if r1 = true then
    (F_interval_Contains a1 a0.2).bind fun r2 =>
    some r2
  else
    some false
def Run_interval_Within : Prop := ∀ a0 : ((Bool × List Int) × List Int) × (Bool × List Int) × List Int, ∀ a1 : ((Bool × List Int) × List Int) × (Bool × List Int) × List Int, Ok (F_interval_Within a0 a1) (fun _ => T_interval_Within a0 a1)

/-! cylinder/interval.greatest -/
def T_interval_greatest (a0 : (Bool × List Int) × List Int) (a1 : (Bool × List Int) × List Int) : Option ((Bool × List Int) × List Int) :=
  (F_rational_Cmp a0 a1).bind fun r1 =>
  if (decide (r1 < (0 : Int))) = true then
    some a1
  else
    some a0
def Run_interval_greatest : Prop := ∀ a0 : (Bool × List Int) × List Int, ∀ a1 : (Bool × List Int) × List Int, Ok (F_interval_greatest a0 a1) (fun _ => T_interval_greatest a0 a1)

/-! cylinder/interval.least -/
def T_interval_least (a0 : (Bool × List Int) × List Int) (a1 : (Bool × List Int) × List Int) : Option ((Bool × List Int) × List Int) :=
  (F_rational_Cmp a0 a1).bind fun r1 =>
  if (decide (r1 > (0 : Int))) = true then
    some a1
  else
    some a0
def Run_interval_least : Prop := ∀ a0 : (Bool × List Int) × List Int, ∀ a1 : (Bool × List Int) × List Int, Ok (F_interval_least a0 a1) (fun _ => T_interval_least a0 a1)

/-! cylinder/cylinderlaw05.RationalAdds -/
def T_law05_RationalAdds (s8 : Bool → ((Bool × List Int) × List Int) → ((Bool × List Int) × List Int) → Option Bool) (s28 : ((Bool × List Int) × List Int) → ((Bool × List Int) × List Int) → ((Int × List Int) × Int × List Int) → ((Int × List Int) × Int × List Int) → ((Int × List Int) × Int × List Int) → Option Bool) (s32 : Bool → ((Bool × List Int) × List Int) → ((Bool × List Int) × List Int) → ((Int × List Int) × Int × List Int) → ((Int × List Int) × Int × List Int) → ((Int × List Int) × Int × List Int) → Option Bool) (a0 : (Bool × List Int) × List Int) (a1 : (Bool × List Int) × List Int) : Option Bool :=
  (F_law05_awake).bind fun r1 =>
  if (!r1) = true then
    s8 true a0 a1
  else
    (F_law05_few (6 : Int) a0 a1 a0).bind fun r2 =>
    s8 (!r2) a0 a1
def S_law05_RationalAdds_8 (s8 : Bool → ((Bool × List Int) × List Int) → ((Bool × List Int) × List Int) → Option Bool) (s28 : ((Bool × List Int) × List Int) → ((Bool × List Int) × List Int) → ((Int × List Int) × Int × List Int) → ((Int × List Int) × Int × List Int) → ((Int × List Int) × Int × List Int) → Option Bool) (s32 : Bool → ((Bool × List Int) × List Int) → ((Bool × List Int) × List Int) → ((Int × List Int) × Int × List Int) → ((Int × List Int) × Int × List Int) → ((Int × List Int) × Int × List Int) → Option Bool) (x16 : Bool) (x2 : (Bool × List Int) × List Int) (x3 : (Bool × List Int) × List Int) : Option Bool :=
  if x16 = true then
    (F_law05_awake).bind fun r1 =>
    some r1
  else
    (F_law05_of x2).bind fun r2 =>
    (F_law05_of x3).bind fun r3 =>
    if (decide (r2.1.1 < (0 : Int))) = true then
      (F_ref05_Neg r2).bind fun r4 =>
      s28 x2 x3 r2 r3 r4
    else
      s28 x2 x3 r2 r3 r2
def S_law05_RationalAdds_28 (s8 : Bool → ((Bool × List Int) × List Int) → ((Bool × List Int) × List Int) → Option Bool) (s28 : ((Bool × List Int) × List Int) → ((Bool × List Int) × List Int) → ((Int × List Int) × Int × List Int) → ((Int × List Int) × Int × List Int) → ((Int × List Int) × Int × List Int) → Option Bool) (s32 : Bool → ((Bool × List Int) × List Int) → ((Bool × List Int) × List Int) → ((Int × List Int) × Int × List Int) → ((Int × List Int) × Int × List Int) → ((Int × List Int) × Int × List Int) → Option Bool) (x2 : (Bool × List Int) × List Int) (x3 : (Bool × List Int) × List Int) (x5 : (Int × List Int) × Int × List Int) (x6 : (Int × List Int) × Int × List Int) (x7 : (Int × List Int) × Int × List Int) : Option Bool :=
  (F_rational_Add x2 x3).bind fun r1 =>
  (F_ref05_Add x5 x6).bind fun r2 =>
  (F_law05_is r1 r2).bind fun r3 =>
  if (!r3) = true then
    s32 true x2 x3 x5 x6 x7
  else
    (F_rational_Sub x2 x3).bind fun r4 =>
    (F_ref05_Neg x6).bind fun r5 =>
    (F_ref05_Add x5 r5).bind fun r6 =>
    (F_law05_is r4 r6).bind fun r7 =>
    if (!r7) = true then
      s32 true x2 x3 x5 x6 x7
    else
      (F_rational_Mul x2 x3).bind fun r8 =>
      (F_ref05_Mul x5 x6).bind fun r9 =>
      (F_law05_is r8 r9).bind fun r10 =>
      s32 (!r10) x2 x3 x5 x6 x7
def S_law05_RationalAdds_32 (s8 : Bool → ((Bool × List Int) × List Int) → ((Bool × List Int) × List Int) → Option Bool) (s28 : ((Bool × List Int) × List Int) → ((Bool × List Int) × List Int) → ((Int × List Int) × Int × List Int) → ((Int × List Int) × Int × List Int) → ((Int × List Int) × Int × List Int) → Option Bool) (s32 : Bool → ((Bool × List Int) × List Int) → ((Bool × List Int) × List Int) → ((Int × List Int) × Int × List Int) → ((Int × List Int) × Int × List Int) → ((Int × List Int) × Int × List Int) → Option Bool) (x57 : Bool) (x2 : (Bool × List Int) × List Int) (x3 : (Bool × List Int) × List Int) (x5 : (Int × List Int) × Int × List Int) (x6 : (Int × List Int) × Int × List Int) (x7 : (Int × List Int) × Int × List Int) : Option Bool :=
  if x57 = true then
    some false
  else
    (F_rational_Neg x2).bind fun r1 =>
    (F_ref05_Neg x5).bind fun r2 =>
    (F_law05_is r1 r2).bind fun r3 =>
    if r3 = true then
      (F_rational_Abs x2).bind fun r4 =>
      (F_law05_is r4 x7).bind fun r5 =>
      if r5 = true then
        (F_rational_Normal x2).bind fun r6 =>
        (F_law05_is r6 x5).bind fun r7 =>
        if r7 = true then
          (F_rational_Sign x2).bind fun r8 =>
          if (r8 == x5.1.1) = true then
            (F_rational_Cmp x2 x3).bind fun r9 =>
            (F_ref05_Cmp x5 x6).bind fun r10 =>
            some ((r9 == r10))
          else
            some false
        else
          some false
      else
        some false
    else
      some false
def Run_law05_RationalAdds : Prop := ∀ s8 : Nat → Bool → ((Bool × List Int) × List Int) → ((Bool × List Int) × List Int) → Option Bool, ∀ s28 : Nat → ((Bool × List Int) × List Int) → ((Bool × List Int) × List Int) → ((Int × List Int) × Int × List Int) → ((Int × List Int) × Int × List Int) → ((Int × List Int) × Int × List Int) → Option Bool, ∀ s32 : Nat → Bool → ((Bool × List Int) × List Int) → ((Bool × List Int) × List Int) → ((Int × List Int) × Int × List Int) → ((Int × List Int) × Int × List Int) → ((Int × List Int) × Int × List Int) → Option Bool, (∀ m x16 x2 x3, s8 (m + 1) x16 x2 x3 = S_law05_RationalAdds_8 (s8 m) (s28 m) (s32 m) x16 x2 x3) → (∀ m x2 x3 x5 x6 x7, s28 (m + 1) x2 x3 x5 x6 x7 = S_law05_RationalAdds_28 (s8 m) (s28 m) (s32 m) x2 x3 x5 x6 x7) → (∀ m x57 x2 x3 x5 x6 x7, s32 (m + 1) x57 x2 x3 x5 x6 x7 = S_law05_RationalAdds_32 (s8 m) (s28 m) (s32 m) x57 x2 x3 x5 x6 x7) → ∀ a0 : (Bool × List Int) × List Int, ∀ a1 : (Bool × List Int) × List Int, Ok (F_law05_RationalAdds a0 a1) (fun m => T_law05_RationalAdds (s8 m) (s28 m) (s32 m) a0 a1)

/-! cylinder/cylinderlaw05.RationalField -/
def T_law05_RationalField (s8 : Bool → ((Bool × List Int) × List Int) → ((Bool × List Int) × List Int) → ((Bool × List Int) × List Int) → Option Bool) (s28 : Int → Bool → ((Bool × List Int) × List Int) → ((Bool × List Int) × List Int) → ((Bool × List Int) × List Int) → ((Bool × List Int) × List Int) → Option Bool) (s36 : Bool → ((Bool × List Int) × List Int) → ((Bool × List Int) × List Int) → ((Bool × List Int) × List Int) → Option Bool) (a0 : (Bool × List Int) × List Int) (a1 : (Bool × List Int) × List Int) (a2 : (Bool × List Int) × List Int) : Option Bool :=
  (F_law05_awake).bind fun r1 =>
  if (!r1) = true then
    s8 true a0 a1 a2
  else
    (F_law05_few (3 : Int) a0 a1 a2).bind fun r2 =>
    s8 (!r2) a0 a1 a2
def S_law05_RationalField_8 (s8 : Bool → ((Bool × List Int) × List Int) → ((Bool × List Int) × List Int) → ((Bool × List Int) × List Int) → Option Bool) (s28 : Int → Bool → ((Bool × List Int) × List Int) → ((Bool × List Int) × List Int) → ((Bool × List Int) × List Int) → ((Bool × List Int) × List Int) → Option Bool) (s36 : Bool → ((Bool × List Int) × List Int) → ((Bool × List Int) × List Int) → ((Bool × List Int) × List Int) → Option Bool) (x20 : Bool) (x3 : (Bool × List Int) × List Int) (x4 : (Bool × List Int) × List Int) (x5 : (Bool × List Int) × List Int) : Option Bool :=
  if x20 = true then
    (F_law05_awake).bind fun r1 =>
    some r1
  else
    (F_rational_Add x4 x5).bind fun r2 =>
    (F_rational_Mul x3 r2).bind fun r3 =>
    (F_rational_Mul x3 x4).bind fun r4 =>
    (F_rational_Mul x3 x5).bind fun r5 =>
    (F_rational_Add r4 r5).bind fun r6 =>
    (F_rational_Quo x3 x4).bind fun r7 =>
    (F_law05_same r3 r6).bind fun r8 =>
    if (!r8) = true then
      s28 r7.2 true x3 x4 x5 r7.1
    else
      (F_rational_Add x4 x5).bind fun r9 =>
      (F_rational_Add x3 r9).bind fun r10 =>
      (F_rational_Add x3 x4).bind fun r11 =>
      (F_rational_Add r11 x5).bind fun r12 =>
      (F_law05_same r10 r12).bind fun r13 =>
      if (!r13) = true then
        s28 r7.2 true x3 x4 x5 r7.1
      else
        (F_rational_Mul x4 x5).bind fun r14 =>
        (F_rational_Mul x3 r14).bind fun r15 =>
        (F_rational_Mul x3 x4).bind fun r16 =>
        (F_rational_Mul r16 x5).bind fun r17 =>
        (F_law05_same r15 r17).bind fun r18 =>
        s28 r7.2 (!r18) x3 x4 x5 r7.1
def S_law05_RationalField_28 (s8 : Bool → ((Bool × List Int) × List Int) → ((Bool × List Int) × List Int) → ((Bool × List Int) × List Int) → Option Bool) (s28 : Int → Bool → ((Bool × List Int) × List Int) → ((Bool × List Int) × List Int) → ((Bool × List Int) × List Int) → ((Bool × List Int) × List Int) → Option Bool) (s36 : Bool → ((Bool × List Int) × List Int) → ((Bool × List Int) × List Int) → ((Bool × List Int) × List Int) → Option Bool) (x10 : Int) (x71 : Bool) (x3 : (Bool × List Int) × List Int) (x4 : (Bool × List Int) × List Int) (x5 : (Bool × List Int) × List Int) (x9 : (Bool × List Int) × List Int) : Option Bool :=
  if x71 = true then
    some false
  else
    (F_rational_Sign x4).bind fun r1 =>
    if (!((x10 == (0 : Int)) == (r1 != (0 : Int)))) = true then
      s36 true x3 x4 x5
    else
      if (x10 == (0 : Int)) = true then
        (F_rational_Mul x9 x4).bind fun r2 =>
        (F_law05_same r2 x3).bind fun r3 =>
        s36 (!r3) x3 x4 x5
      else
        s36 false x3 x4 x5
def S_law05_RationalField_36 (s8 : Bool → ((Bool × List Int) × List Int) → ((Bool × List Int) × List Int) → ((Bool × List Int) × List Int) → Option Bool) (s28 : Int → Bool → ((Bool × List Int) × List Int) → ((Bool × List Int) × List Int) → ((Bool × List Int) × List Int) → ((Bool × List Int) × List Int) → Option Bool) (s36 : Bool → ((Bool × List Int) × List Int) → ((Bool × List Int) × List Int) → ((Bool × List Int) × List Int) → Option Bool) (x89 : Bool) (x3 : (Bool × List Int) × List Int) (x4 : (Bool × List Int) × List Int) (x5 : (Bool × List Int) × List Int) : Option Bool :=
  if x89 = true then
    some false
  else
    (F_rational_Cmp x3 x4).bind fun r1 =>
    (F_rational_Add x3 x5).bind fun r2 =>
    (F_rational_Add x4 x5).bind fun r3 =>
    (F_rational_Cmp r2 r3).bind fun r4 =>
    if (r4 == r1) = true then
      (F_rational_Mul x3 x5).bind fun r5 =>
      (F_rational_Mul x4 x5).bind fun r6 =>
      (F_rational_Cmp r5 r6).bind fun r7 =>
      (F_rational_Sign x5).bind fun r8 =>
      if (r7 == (IntKind.wrap .i64 (r1 * r8))) = true then
        (F_rational_Sub x3 x4).bind fun r9 =>
        (F_rational_Sign r9).bind fun r10 =>
        some ((r10 == r1))
      else
        some false
    else
      some false
def Run_law05_RationalField : Prop := ∀ s8 : Nat → Bool → ((Bool × List Int) × List Int) → ((Bool × List Int) × List Int) → ((Bool × List Int) × List Int) → Option Bool, ∀ s28 : Nat → Int → Bool → ((Bool × List Int) × List Int) → ((Bool × List Int) × List Int) → ((Bool × List Int) × List Int) → ((Bool × List Int) × List Int) → Option Bool, ∀ s36 : Nat → Bool → ((Bool × List Int) × List Int) → ((Bool × List Int) × List Int) → ((Bool × List Int) × List Int) → Option Bool, (∀ m x20 x3 x4 x5, s8 (m + 1) x20 x3 x4 x5 = S_law05_RationalField_8 (s8 m) (s28 m) (s36 m) x20 x3 x4 x5) → (∀ m x10 x71 x3 x4 x5 x9, s28 (m + 1) x10 x71 x3 x4 x5 x9 = S_law05_RationalField_28 (s8 m) (s28 m) (s36 m) x10 x71 x3 x4 x5 x9) → (∀ m x89 x3 x4 x5, s36 (m + 1) x89 x3 x4 x5 = S_law05_RationalField_36 (s8 m) (s28 m) (s36 m) x89 x3 x4 x5) → ∀ a0 : (Bool × List Int) × List Int, ∀ a1 : (Bool × List Int) × List Int, ∀ a2 : (Bool × List Int) × List Int, Ok (F_law05_RationalField a0 a1 a2) (fun m => T_law05_RationalField (s8 m) (s28 m) (s36 m) a0 a1 a2)

/-! cylinder/cylinderlaw05.RationalMakes -/
def T_law05_RationalMakes (s8 : Bool → (Bool × List Int) → (Bool × List Int) → Option Bool) (s68 : Bool → Bool → (Bool × List Int) → (Bool × List Int) → Option Bool) (a0 : Bool × List Int) (a1 : Bool × List Int) : Option Bool :=
  (F_law05_awake).bind fun r1 =>
  if (!r1) = true then
    s8 true a0 a1
  else
    (F_ref01_Few (6 : Int) ([a0.2, a1.2] : List (List Int))).bind fun r2 =>
    s8 (!r2) a0 a1
def S_law05_RationalMakes_8 (s8 : Bool → (Bool × List Int) → (Bool × List Int) → Option Bool) (s68 : Bool → Bool → (Bool × List Int) → (Bool × List Int) → Option Bool) (x28 : Bool) (x2 : Bool × List Int) (x3 : Bool × List Int) : Option Bool :=
  if x28 = true then
    (F_law05_awake).bind fun r1 =>
    some r1
  else
    (F_ref02_Of x2.1 x2.2).bind fun r2 =>
    (F_ref02_Of x3.1 x3.2).bind fun r3 =>
    (F_rational_Make x2 x3).bind fun r4 =>
    (F_ref02_Small (1 : Int)).bind fun r5 =>
    (F_rational_From x2).bind fun r6 =>
    (F_law05_is r6 (r2, r5)).bind fun r7 =>
    if (!r7) = true then
      some false
    else
      if (r3.1 == (0 : Int)) = true then
        if (r4.2 == (2 : Int)) = true then
          (F_rational_Sign r4.1).bind fun r8 =>
          some ((r8 == (0 : Int)))
        else
          some false
      else
        (F_ref05_Make r2 r3).bind fun r9 =>
        (F_rational_Floor r4.1).bind fun r10 =>
        (F_rational_Ceil r4.1).bind fun r11 =>
        (F_rational_Integer r4.1).bind fun r12 =>
        (F_ref05_Floor r9).bind fun r13 =>
        (F_ref05_Neg r9).bind fun r14 =>
        (F_ref05_Floor r14).bind fun r15 =>
        (F_ref02_Neg r15).bind fun r16 =>
        (F_ref02_Cmp r13 r16).bind fun r17 =>
        if (r4.2 != (0 : Int)) = true then
          s68 (r17 == (0 : Int)) true r10 r12.1
        else
          (F_law05_is r4.1 r9).bind fun r18 =>
          if (!r18) = true then
            s68 (r17 == (0 : Int)) true r10 r12.1
          else
            if (!(r12.2 == (r17 == (0 : Int)))) = true then
              s68 (r17 == (0 : Int)) true r10 r12.1
            else
              (F_ref02_Is r10.1 r10.2 r13).bind fun r19 =>
              if (!r19) = true then
                s68 (r17 == (0 : Int)) true r10 r12.1
              else
                (F_ref02_Is r11.1 r11.2 r16).bind fun r20 =>
                s68 (r17 == (0 : Int)) (!r20) r10 r12.1
def S_law05_RationalMakes_68 (s8 : Bool → (Bool × List Int) → (Bool × List Int) → Option Bool) (s68 : Bool → Bool → (Bool × List Int) → (Bool × List Int) → Option Bool) (x17 : Bool) (x116 : Bool) (x11 : Bool × List Int) (x13 : Bool × List Int) : Option Bool :=
  if x116 = true then
    some false
  else
    if (!x17) = true then
      (F_integer_Sign x13).bind fun r1 =>
      if (r1 == (0 : Int)) = true then
        some true
      else
        if x17 = true then
          (F_integer_Same x13 x11).bind fun r2 =>
          some r2
        else
          some false
    else
      if x17 = true then
        (F_integer_Same x13 x11).bind fun r3 =>
        some r3
      else
        some false
def Run_law05_RationalMakes : Prop := ∀ s8 : Nat → Bool → (Bool × List Int) → (Bool × List Int) → Option Bool, ∀ s68 : Nat → Bool → Bool → (Bool × List Int) → (Bool × List Int) → Option Bool, (∀ m x28 x2 x3, s8 (m + 1) x28 x2 x3 = S_law05_RationalMakes_8 (s8 m) (s68 m) x28 x2 x3) → (∀ m x17 x116 x11 x13, s68 (m + 1) x17 x116 x11 x13 = S_law05_RationalMakes_68 (s8 m) (s68 m) x17 x116 x11 x13) → ∀ a0 : Bool × List Int, ∀ a1 : Bool × List Int, Ok (F_law05_RationalMakes a0 a1) (fun m => T_law05_RationalMakes (s8 m) (s68 m) a0 a1)

/-! cylinder/cylinderlaw05.RationalQuotients -/
def T_law05_RationalQuotients (s8 : Bool → ((Bool × List Int) × List Int) → ((Bool × List Int) × List Int) → Option Bool) (a0 : (Bool × List Int) × List Int) (a1 : (Bool × List Int) × List Int) : Option Bool :=
  (F_law05_awake).bind fun r1 =>
  if (!r1) = true then
    s8 true a0 a1
  else
    (F_law05_few (6 : Int) a0 a1 a0).bind fun r2 =>
    s8 (!r2) a0 a1
def S_law05_RationalQuotients_8 (s8 : Bool → ((Bool × List Int) × List Int) → ((Bool × List Int) × List Int) → Option Bool) (x19 : Bool) (x2 : (Bool × List Int) × List Int) (x3 : (Bool × List Int) × List Int) : Option Bool :=
  if x19 = true then
    (F_law05_awake).bind fun r1 =>
    some r1
  else
    (F_law05_of x2).bind fun r2 =>
    (F_law05_of x3).bind fun r3 =>
    (F_rational_Quo x2 x3).bind fun r4 =>
    (F_ref02_Small (1 : Int)).bind fun r5 =>
    (F_ref02_Small (2 : Int)).bind fun r6 =>
    (F_ref02_Small (1 : Int)).bind fun r7 =>
    (F_rational_Mid x2 x3).bind fun r8 =>
    (F_ref05_Add r2 r3).bind fun r9 =>
    (F_ref05_Mul (r5, r6) r9).bind fun r10 =>
    (F_law05_is r8 r10).bind fun r11 =>
    if (!r11) = true then
      some false
    else
      if (r3.1.1 == (0 : Int)) = true then
        if (r4.2 == (2 : Int)) = true then
          (F_rational_Sign r4.1).bind fun r12 =>
          some ((r12 == (0 : Int)))
        else
          some false
      else
        if (r4.2 == (0 : Int)) = true then
          (F_ref05_Quo r2 r3).bind fun r13 =>
          (F_law05_is r4.1 r13).bind fun r14 =>
          if r14 = true then
            (F_law05_is r4.1 (((0 : Int), ([] : List Int)), r7)).bind fun r15 =>
            some (((!r15) == (r2.1.1 != (0 : Int))))
          else
            some false
        else
          some false
def Run_law05_RationalQuotients : Prop := ∀ s8 : Nat → Bool → ((Bool × List Int) × List Int) → ((Bool × List Int) × List Int) → Option Bool, (∀ m x19 x2 x3, s8 (m + 1) x19 x2 x3 = S_law05_RationalQuotients_8 (s8 m) x19 x2 x3) → ∀ a0 : (Bool × List Int) × List Int, ∀ a1 : (Bool × List Int) × List Int, Ok (F_law05_RationalQuotients a0 a1) (fun m => T_law05_RationalQuotients (s8 m) a0 a1)

/-! cylinder/cylinderlaw06.IntervalElements -/
def T_law06_IntervalElements (s8 : Bool → (((Bool × List Int) × List Int) × (Bool × List Int) × List Int) → (((Bool × List Int) × List Int) × (Bool × List Int) × List Int) → (List ((Bool × List Int) × List Int)) → Option Bool) (s24 : Bool → (((Bool × List Int) × List Int) × (Bool × List Int) × List Int) → (((Bool × List Int) × List Int) × (Bool × List Int) × List Int) → ((Bool × List Int) × List Int) → ((Bool × List Int) × List Int) → Option Bool) (s40 : Bool → (((Bool × List Int) × List Int) × (Bool × List Int) × List Int) → ((Bool × List Int) × List Int) → Option Bool) (a0 : ((Bool × List Int) × List Int) × (Bool × List Int) × List Int) (a1 : ((Bool × List Int) × List Int) × (Bool × List Int) × List Int) (a2 : List ((Bool × List Int) × List Int)) : Option Bool :=
  (F_law06_awake).bind fun r1 =>
  if (!r1) = true then
    s8 true a0 a1 a2
  else
    (F_law06_few (3 : Int) a0 a1).bind fun r2 =>
    if (!r2) = true then
      s8 true a0 a1 a2
    else
      if 0 ≤ (0 : Int) ∧ (0 : Int) < ((2 : Nat) : Int) then
        let v3 : (Bool × List Int) × List Int := (List.getD a2 (Int.toNat (0 : Int)) ((false, ([] : List Int)), ([] : List Int)))
        (F_law06_small (3 : Int) v3).bind fun r4 =>
        if (!r4) = true then
          s8 true a0 a1 a2
        else
          if 0 ≤ (1 : Int) ∧ (1 : Int) < ((2 : Nat) : Int) then
            let v5 : (Bool × List Int) × List Int := (List.getD a2 (Int.toNat (1 : Int)) ((false, ([] : List Int)), ([] : List Int)))
            (F_law06_small (3 : Int) v5).bind fun r6 =>
            s8 (!r6) a0 a1 a2
          else none
      else none
def S_law06_IntervalElements_8 (s8 : Bool → (((Bool × List Int) × List Int) × (Bool × List Int) × List Int) → (((Bool × List Int) × List Int) × (Bool × List Int) × List Int) → (List ((Bool × List Int) × List Int)) → Option Bool) (s24 : Bool → (((Bool × List Int) × List Int) × (Bool × List Int) × List Int) → (((Bool × List Int) × List Int) × (Bool × List Int) × List Int) → ((Bool × List Int) × List Int) → ((Bool × List Int) × List Int) → Option Bool) (s40 : Bool → (((Bool × List Int) × List Int) × (Bool × List Int) × List Int) → ((Bool × List Int) × List Int) → Option Bool) (x36 : Bool) (x3 : ((Bool × List Int) × List Int) × (Bool × List Int) × List Int) (x4 : ((Bool × List Int) × List Int) × (Bool × List Int) × List Int) (x5 : List ((Bool × List Int) × List Int)) : Option Bool :=
  if x36 = true then
    (F_law06_awake).bind fun r1 =>
    some r1
  else
    if 0 ≤ (0 : Int) ∧ (0 : Int) < ((2 : Nat) : Int) then
      let v2 : (Bool × List Int) × List Int := (List.getD x5 (Int.toNat (0 : Int)) ((false, ([] : List Int)), ([] : List Int)))
      (F_law06_clamp x3 v2).bind fun r3 =>
      if 0 ≤ (1 : Int) ∧ (1 : Int) < ((2 : Nat) : Int) then
        let v4 : (Bool × List Int) × List Int := (List.getD x5 (Int.toNat (1 : Int)) ((false, ([] : List Int)), ([] : List Int)))
        (F_law06_clamp x4 v4).bind fun r5 =>
        (F_interval_Add x3 x4).bind fun r6 =>
        (F_rational_Add r3 r5).bind fun r7 =>
        (F_interval_Contains r6 r7).bind fun r8 =>
        if (!r8) = true then
          s24 true x3 x4 r3 r5
        else
          (F_interval_Sub x3 x4).bind fun r9 =>
          (F_rational_Sub r3 r5).bind fun r10 =>
          (F_interval_Contains r9 r10).bind fun r11 =>
          if (!r11) = true then
            s24 true x3 x4 r3 r5
          else
            (F_interval_Mul x3 x4).bind fun r12 =>
            (F_rational_Mul r3 r5).bind fun r13 =>
            (F_interval_Contains r12 r13).bind fun r14 =>
            s24 (!r14) x3 x4 r3 r5
      else none
    else none
def S_law06_IntervalElements_24 (s8 : Bool → (((Bool × List Int) × List Int) × (Bool × List Int) × List Int) → (((Bool × List Int) × List Int) × (Bool × List Int) × List Int) → (List ((Bool × List Int) × List Int)) → Option Bool) (s24 : Bool → (((Bool × List Int) × List Int) × (Bool × List Int) × List Int) → (((Bool × List Int) × List Int) × (Bool × List Int) × List Int) → ((Bool × List Int) × List Int) → ((Bool × List Int) × List Int) → Option Bool) (s40 : Bool → (((Bool × List Int) × List Int) × (Bool × List Int) × List Int) → ((Bool × List Int) × List Int) → Option Bool) (x73 : Bool) (x3 : ((Bool × List Int) × List Int) × (Bool × List Int) × List Int) (x4 : ((Bool × List Int) × List Int) × (Bool × List Int) × List Int) (x7 : (Bool × List Int) × List Int) (x8 : (Bool × List Int) × List Int) : Option Bool :=
  if x73 = true then
    some false
  else
    (F_interval_Quo x3 x4).bind fun r1 =>
    (F_rational_Quo x7 x8).bind fun r2 =>
    if (r1.2 == (0 : Int)) = true then
      if (r2.2 != (0 : Int)) = true then
        s40 true x3 x7
      else
        (F_interval_Contains r1.1 r2.1).bind fun r3 =>
        s40 (!r3) x3 x7
    else
      s40 false x3 x7
def S_law06_IntervalElements_40 (s8 : Bool → (((Bool × List Int) × List Int) × (Bool × List Int) × List Int) → (((Bool × List Int) × List Int) × (Bool × List Int) × List Int) → (List ((Bool × List Int) × List Int)) → Option Bool) (s24 : Bool → (((Bool × List Int) × List Int) × (Bool × List Int) × List Int) → (((Bool × List Int) × List Int) × (Bool × List Int) × List Int) → ((Bool × List Int) × List Int) → ((Bool × List Int) × List Int) → Option Bool) (s40 : Bool → (((Bool × List Int) × List Int) × (Bool × List Int) × List Int) → ((Bool × List Int) × List Int) → Option Bool) (x97 : Bool) (x3 : ((Bool × List Int) × List Int) × (Bool × List Int) × List Int) (x7 : (Bool × List Int) × List Int) : Option Bool :=
  if x97 = true then
    some false
  else
    (F_interval_Pow x3 (4 : Int)).bind fun r1 =>
    (F_rational_Pow x7 (4 : Int)).bind fun r2 =>
    if (r1.2 == (0 : Int)) = true then
      if (r2.2 == (0 : Int)) = true then
        (F_interval_Contains r1.1 r2.1).bind fun r3 =>
        some r3
      else
        some false
    else
      some false
def Run_law06_IntervalElements : Prop := ∀ s8 : Nat → Bool → (((Bool × List Int) × List Int) × (Bool × List Int) × List Int) → (((Bool × List Int) × List Int) × (Bool × List Int) × List Int) → (List ((Bool × List Int) × List Int)) → Option Bool, ∀ s24 : Nat → Bool → (((Bool × List Int) × List Int) × (Bool × List Int) × List Int) → (((Bool × List Int) × List Int) × (Bool × List Int) × List Int) → ((Bool × List Int) × List Int) → ((Bool × List Int) × List Int) → Option Bool, ∀ s40 : Nat → Bool → (((Bool × List Int) × List Int) × (Bool × List Int) × List Int) → ((Bool × List Int) × List Int) → Option Bool, (∀ m x36 x3 x4 x5, s8 (m + 1) x36 x3 x4 x5 = S_law06_IntervalElements_8 (s8 m) (s24 m) (s40 m) x36 x3 x4 x5) → (∀ m x73 x3 x4 x7 x8, s24 (m + 1) x73 x3 x4 x7 x8 = S_law06_IntervalElements_24 (s8 m) (s24 m) (s40 m) x73 x3 x4 x7 x8) → (∀ m x97 x3 x7, s40 (m + 1) x97 x3 x7 = S_law06_IntervalElements_40 (s8 m) (s24 m) (s40 m) x97 x3 x7) → ∀ a0 : ((Bool × List Int) × List Int) × (Bool × List Int) × List Int, ∀ a1 : ((Bool × List Int) × List Int) × (Bool × List Int) × List Int, ∀ a2 : List ((Bool × List Int) × List Int), Ok (F_law06_IntervalElements a0 a1 a2) (fun m => T_law06_IntervalElements (s8 m) (s24 m) (s40 m) a0 a1 a2)

/-! cylinder/cylinderlaw06.IntervalMonotonic -/
def T_law06_IntervalMonotonic (s20 : (List ((Bool × List Int) × List Int)) → (((Bool × List Int) × List Int) × (Bool × List Int) × List Int) → (((Bool × List Int) × List Int) × (Bool × List Int) × List Int) → (((Bool × List Int) × List Int) × (Bool × List Int) × List Int) → Option Bool) (a0 : ((Bool × List Int) × List Int) × (Bool × List Int) × List Int) (a1 : ((Bool × List Int) × List Int) × (Bool × List Int) × List Int) (a2 : ((Bool × List Int) × List Int) × (Bool × List Int) × List Int) : Option Bool :=
  (F_law06_awake).bind fun r1 =>
  if (!r1) = true then
    (F_law06_awake).bind fun r2 =>
    some r2
  else
    (F_law06_few (3 : Int) a0 a1).bind fun r3 =>
    if (!r3) = true then
      (F_law06_awake).bind fun r4 =>
      some r4
    else
      (F_law06_few (3 : Int) a2 a2).bind fun r5 =>
      if (!r5) = true then
        (F_law06_awake).bind fun r6 =>
        some r6
      else
        (F_interval_Hull a0 a2).bind fun r7 =>
        s20 ([a1.1, a1.2, a2.1] : List ((Bool × List Int) × List Int)) a0 a1 r7
def S_law06_IntervalMonotonic_20 (s20 : (List ((Bool × List Int) × List Int)) → (((Bool × List Int) × List Int) × (Bool × List Int) × List Int) → (((Bool × List Int) × List Int) × (Bool × List Int) × List Int) → (((Bool × List Int) × List Int) × (Bool × List Int) × List Int) → Option Bool) (x8 : List ((Bool × List Int) × List Int)) (x3 : ((Bool × List Int) × List Int) × (Bool × List Int) × List Int) (x4 : ((Bool × List Int) × List Int) × (Bool × List Int) × List Int) (x7 : ((Bool × List Int) × List Int) × (Bool × List Int) × List Int) : Option Bool :=
  (F_interval_Pow x3 (3 : Int)).bind fun r1 =>
  (F_interval_Pow x7 (3 : Int)).bind fun r2 =>
  (F_interval_Within x3 x7).bind fun r3 =>
  if r3 = true then
    (F_interval_Add x3 x4).bind fun r4 =>
    (F_interval_Add x7 x4).bind fun r5 =>
    (F_interval_Within r4 r5).bind fun r6 =>
    if r6 = true then
      (F_interval_Mul x3 x4).bind fun r7 =>
      (F_interval_Mul x7 x4).bind fun r8 =>
      (F_interval_Within r7 r8).bind fun r9 =>
      if r9 = true then
        (F_interval_Eval x8 x3).bind fun r10 =>
        (F_interval_Eval x8 x7).bind fun r11 =>
        (F_interval_Within r10 r11).bind fun r12 =>
        if r12 = true then
          if (r1.2 == (0 : Int)) = true then
            if (r2.2 == (0 : Int)) = true then
              (F_interval_Within r1.1 r2.1).bind fun r13 =>
              some r13
            else
              some false
          else
            some false
        else
          some false
      else
        some false
    else
      some false
  else
    some false
def Run_law06_IntervalMonotonic : Prop := ∀ s20 : Nat → (List ((Bool × List Int) × List Int)) → (((Bool × List Int) × List Int) × (Bool × List Int) × List Int) → (((Bool × List Int) × List Int) × (Bool × List Int) × List Int) → (((Bool × List Int) × List Int) × (Bool × List Int) × List Int) → Option Bool, (∀ m x8 x3 x4 x7, s20 (m + 1) x8 x3 x4 x7 = S_law06_IntervalMonotonic_20 (s20 m) x8 x3 x4 x7) → ∀ a0 : ((Bool × List Int) × List Int) × (Bool × List Int) × List Int, ∀ a1 : ((Bool × List Int) × List Int) × (Bool × List Int) × List Int, ∀ a2 : ((Bool × List Int) × List Int) × (Bool × List Int) × List Int, Ok (F_law06_IntervalMonotonic a0 a1 a2) (fun m => T_law06_IntervalMonotonic (s20 m) a0 a1 a2)

/-! cylinder/cylinderlaw06.IntervalPowers -/
def T_law06_IntervalPowers (s8 : Int → Bool → (((Bool × List Int) × List Int) × (Bool × List Int) × List Int) → Option Bool) (a0 : ((Bool × List Int) × List Int) × (Bool × List Int) × List Int) (a1 : Int) : Option Bool :=
  (F_law06_awake).bind fun r1 =>
  if (!r1) = true then
    s8 a1 true a0
  else
    (F_law06_few (2 : Int) a0 a0).bind fun r2 =>
    if (!r2) = true then
      s8 a1 true a0
    else
      s8 a1 (decide (a1 > (12 : Int))) a0
def S_law06_IntervalPowers_8 (s8 : Int → Bool → (((Bool × List Int) × List Int) × (Bool × List Int) × List Int) → Option Bool) (x1 : Int) (x21 : Bool) (x2 : ((Bool × List Int) × List Int) × (Bool × List Int) × List Int) : Option Bool :=
  if x21 = true then
    (F_law06_awake).bind fun r1 =>
    some r1
  else
    (F_interval_Pow x2 x1).bind fun r2 =>
    (F_rational_Of (1 : Int)).bind fun r3 =>
    (F_rational_Of (2 : Int)).bind fun r4 =>
    (F_interval_Pow (r3, r4) (16777216 : Int)).bind fun r5 =>
    if (r5.2 != (8 : Int)) = true then
      some false
    else
      if (decide (x1 < (0 : Int))) = true then
        if (r2.2 == (1 : Int)) = true then
          (F_law06_none r2.1).bind fun r6 =>
          some r6
        else
          some false
      else
        if (r2.2 == (0 : Int)) = true then
          (F_law06_of x2).bind fun r7 =>
          (F_ref06_Pow r7 x1).bind fun r8 =>
          (F_law06_is r2.1 r8).bind fun r9 =>
          some r9
        else
          some false
def Run_law06_IntervalPowers : Prop := ∀ s8 : Nat → Int → Bool → (((Bool × List Int) × List Int) × (Bool × List Int) × List Int) → Option Bool, (∀ m x1 x21 x2, s8 (m + 1) x1 x21 x2 = S_law06_IntervalPowers_8 (s8 m) x1 x21 x2) → ∀ a0 : ((Bool × List Int) × List Int) × (Bool × List Int) × List Int, ∀ a1 : Int, Ok (F_law06_IntervalPowers a0 a1) (fun m => T_law06_IntervalPowers (s8 m) a0 a1)

/-! cylinder/cylinderlaw06.IntervalQuotients -/
def T_law06_IntervalQuotients (s8 : Bool → (((Bool × List Int) × List Int) × (Bool × List Int) × List Int) → (((Bool × List Int) × List Int) × (Bool × List Int) × List Int) → Option Bool) (s28 : Int → Int → Bool → (((Bool × List Int) × List Int) × (Bool × List Int) × List Int) → (((Bool × List Int) × List Int) × (Bool × List Int) × List Int) → (((Int × List Int) × Int × List Int) × (Int × List Int) × Int × List Int) → (((Int × List Int) × Int × List Int) × (Int × List Int) × Int × List Int) → Option Bool) (a0 : ((Bool × List Int) × List Int) × (Bool × List Int) × List Int) (a1 : ((Bool × List Int) × List Int) × (Bool × List Int) × List Int) : Option Bool :=
  (F_law06_awake).bind fun r1 =>
  if (!r1) = true then
    s8 true a0 a1
  else
    (F_law06_few (4 : Int) a0 a1).bind fun r2 =>
    s8 (!r2) a0 a1
def S_law06_IntervalQuotients_8 (s8 : Bool → (((Bool × List Int) × List Int) × (Bool × List Int) × List Int) → (((Bool × List Int) × List Int) × (Bool × List Int) × List Int) → Option Bool) (s28 : Int → Int → Bool → (((Bool × List Int) × List Int) × (Bool × List Int) × List Int) → (((Bool × List Int) × List Int) × (Bool × List Int) × List Int) → (((Int × List Int) × Int × List Int) × (Int × List Int) × Int × List Int) → (((Int × List Int) × Int × List Int) × (Int × List Int) × Int × List Int) → Option Bool) (x20 : Bool) (x2 : ((Bool × List Int) × List Int) × (Bool × List Int) × List Int) (x3 : ((Bool × List Int) × List Int) × (Bool × List Int) × List Int) : Option Bool :=
  if x20 = true then
    (F_law06_awake).bind fun r1 =>
    some r1
  else
    (F_law06_of x2).bind fun r2 =>
    (F_law06_of x3).bind fun r3 =>
    (F_interval_Sign x3).bind fun r4 =>
    if (!(r4.2 == (r3.1.1.1 == r3.2.1.1))) = true then
      s28 r3.1.1.1 r3.2.1.1 true x2 x3 r2 r3
    else
      if r4.2 = true then
        if (r4.1 != r3.1.1.1) = true then
          s28 r3.1.1.1 r3.2.1.1 true x2 x3 r2 r3
        else
          if (!r4.2) = true then
            s28 r3.1.1.1 r3.2.1.1 (r4.1 != (0 : Int)) x2 x3 r2 r3
          else
            s28 r3.1.1.1 r3.2.1.1 false x2 x3 r2 r3
      else
        if (!r4.2) = true then
          s28 r3.1.1.1 r3.2.1.1 (r4.1 != (0 : Int)) x2 x3 r2 r3
        else
          s28 r3.1.1.1 r3.2.1.1 false x2 x3 r2 r3
def S_law06_IntervalQuotients_28 (s8 : Bool → (((Bool × List Int) × List Int) × (Bool × List Int) × List Int) → (((Bool × List Int) × List Int) × (Bool × List Int) × List Int) → Option Bool) (s28 : Int → Int → Bool → (((Bool × List Int) × List Int) × (Bool × List Int) × List Int) → (((Bool × List Int) × List Int) × (Bool × List Int) × List Int) → (((Int × List Int) × Int × List Int) × (Int × List Int) × Int × List Int) → (((Int × List Int) × Int × List Int) × (Int × List Int) × Int × List Int) → Option Bool) (x9 : Int) (x10 : Int) (x59 : Bool) (x2 : ((Bool × List Int) × List Int) × (Bool × List Int) × List Int) (x3 : ((Bool × List Int) × List Int) × (Bool × List Int) × List Int) (x5 : ((Int × List Int) × Int × List Int) × (Int × List Int) × Int × List Int) (x6 : ((Int × List Int) × Int × List Int) × (Int × List Int) × Int × List Int) : Option Bool :=
  if x59 = true then
    some false
  else
    (F_interval_Quo x2 x3).bind fun r1 =>
    if (decide (x9 ≤ (0 : Int))) = true then
      if (decide (x10 ≥ (0 : Int))) = true then
        if (r1.2 == (2 : Int)) = true then
          (F_law06_none r1.1).bind fun r2 =>
          some r2
        else
          some false
      else
        if (r1.2 == (0 : Int)) = true then
          (F_ref06_Inverse x6).bind fun r3 =>
          (F_ref06_Mul x5 r3).bind fun r4 =>
          (F_law06_is r1.1 r4).bind fun r5 =>
          some r5
        else
          some false
    else
      if (r1.2 == (0 : Int)) = true then
        (F_ref06_Inverse x6).bind fun r6 =>
        (F_ref06_Mul x5 r6).bind fun r7 =>
        (F_law06_is r1.1 r7).bind fun r8 =>
        some r8
      else
        some false
def Run_law06_IntervalQuotients : Prop := ∀ s8 : Nat → Bool → (((Bool × List Int) × List Int) × (Bool × List Int) × List Int) → (((Bool × List Int) × List Int) × (Bool × List Int) × List Int) → Option Bool, ∀ s28 : Nat → Int → Int → Bool → (((Bool × List Int) × List Int) × (Bool × List Int) × List Int) → (((Bool × List Int) × List Int) × (Bool × List Int) × List Int) → (((Int × List Int) × Int × List Int) × (Int × List Int) × Int × List Int) → (((Int × List Int) × Int × List Int) × (Int × List Int) × Int × List Int) → Option Bool, (∀ m x20 x2 x3, s8 (m + 1) x20 x2 x3 = S_law06_IntervalQuotients_8 (s8 m) (s28 m) x20 x2 x3) → (∀ m x9 x10 x59 x2 x3 x5 x6, s28 (m + 1) x9 x10 x59 x2 x3 x5 x6 = S_law06_IntervalQuotients_28 (s8 m) (s28 m) x9 x10 x59 x2 x3 x5 x6) → ∀ a0 : ((Bool × List Int) × List Int) × (Bool × List Int) × List Int, ∀ a1 : ((Bool × List Int) × List Int) × (Bool × List Int) × List Int, Ok (F_law06_IntervalQuotients a0 a1) (fun m => T_law06_IntervalQuotients (s8 m) (s28 m) a0 a1)

/-! cylinder/cylinderlaw06.IntervalRules -/
def T_law06_IntervalRules (s8 : Bool → (((Bool × List Int) × List Int) × (Bool × List Int) × List Int) → (((Bool × List Int) × List Int) × (Bool × List Int) × List Int) → (((Bool × List Int) × List Int) × (Bool × List Int) × List Int) → Option Bool) (a0 : ((Bool × List Int) × List Int) × (Bool × List Int) × List Int) (a1 : ((Bool × List Int) × List Int) × (Bool × List Int) × List Int) (a2 : ((Bool × List Int) × List Int) × (Bool × List Int) × List Int) : Option Bool :=
  (F_law06_awake).bind fun r1 =>
  if (!r1) = true then
    s8 true a0 a1 a2
  else
    (F_law06_few (3 : Int) a0 a1).bind fun r2 =>
    if (!r2) = true then
      s8 true a0 a1 a2
    else
      (F_law06_few (3 : Int) a2 a2).bind fun r3 =>
      s8 (!r3) a0 a1 a2
def S_law06_IntervalRules_8 (s8 : Bool → (((Bool × List Int) × List Int) × (Bool × List Int) × List Int) → (((Bool × List Int) × List Int) × (Bool × List Int) × List Int) → (((Bool × List Int) × List Int) × (Bool × List Int) × List Int) → Option Bool) (x22 : Bool) (x3 : ((Bool × List Int) × List Int) × (Bool × List Int) × List Int) (x4 : ((Bool × List Int) × List Int) × (Bool × List Int) × List Int) (x5 : ((Bool × List Int) × List Int) × (Bool × List Int) × List Int) : Option Bool :=
  if x22 = true then
    (F_law06_awake).bind fun r1 =>
    some r1
  else
    (F_interval_Add x4 x5).bind fun r2 =>
    (F_interval_Mul x3 r2).bind fun r3 =>
    (F_interval_Mul x3 x4).bind fun r4 =>
    (F_interval_Mul x3 x5).bind fun r5 =>
    (F_interval_Add r4 r5).bind fun r6 =>
    (F_interval_Within r3 r6).bind fun r7 =>
    if r7 = true then
      (F_interval_Add x3 x4).bind fun r8 =>
      (F_interval_Add x4 x3).bind fun r9 =>
      (F_law06_equal r8 r9).bind fun r10 =>
      if r10 = true then
        (F_interval_Mul x3 x4).bind fun r11 =>
        (F_interval_Mul x4 x3).bind fun r12 =>
        (F_law06_equal r11 r12).bind fun r13 =>
        if r13 = true then
          (F_interval_Mul x4 x5).bind fun r14 =>
          (F_interval_Mul x3 r14).bind fun r15 =>
          (F_interval_Mul x3 x4).bind fun r16 =>
          (F_interval_Mul r16 x5).bind fun r17 =>
          (F_law06_equal r15 r17).bind fun r18 =>
          if r18 = true then
            (F_interval_Add x4 x5).bind fun r19 =>
            (F_interval_Add x3 r19).bind fun r20 =>
            (F_interval_Add x3 x4).bind fun r21 =>
            (F_interval_Add r21 x5).bind fun r22 =>
            (F_law06_equal r20 r22).bind fun r23 =>
            some r23
          else
            some false
        else
          some false
      else
        some false
    else
      some false
def Run_law06_IntervalRules : Prop := ∀ s8 : Nat → Bool → (((Bool × List Int) × List Int) × (Bool × List Int) × List Int) → (((Bool × List Int) × List Int) × (Bool × List Int) × List Int) → (((Bool × List Int) × List Int) × (Bool × List Int) × List Int) → Option Bool, (∀ m x22 x3 x4 x5, s8 (m + 1) x22 x3 x4 x5 = S_law06_IntervalRules_8 (s8 m) x22 x3 x4 x5) → ∀ a0 : ((Bool × List Int) × List Int) × (Bool × List Int) × List Int, ∀ a1 : ((Bool × List Int) × List Int) × (Bool × List Int) × List Int, ∀ a2 : ((Bool × List Int) × List Int) × (Bool × List Int) × List Int, Ok (F_law06_IntervalRules a0 a1 a2) (fun m => T_law06_IntervalRules (s8 m) a0 a1 a2)

/-! cylinder/cylinderlaw06.awake -/
def T_law06_awake : Option Bool :=
  (F_rational_Of (-1 : Int)).bind fun r1 =>
  (F_rational_Of (2 : Int)).bind fun r2 =>
  (F_rational_Of (3 : Int)).bind fun r3 =>
  (F_rational_Of (4 : Int)).bind fun r4 =>
  (F_interval_Mul (r1, r2) (r3, r4)).bind fun r5 =>
  (F_rational_Format r5.1).bind fun r6 =>
  if (ByteArray.toList r6 == ByteArray.toList (ByteArray.mk #[45, 52])) = true then
    (F_rational_Format r5.2).bind fun r7 =>
    some ((ByteArray.toList r7 == ByteArray.toList (ByteArray.mk #[56])))
  else
    some false
def Run_law06_awake : Prop := Ok (F_law06_awake) (fun _ => T_law06_awake)

/-! cylinder/cylinderlaw06.clamp -/
def T_law06_clamp (a0 : ((Bool × List Int) × List Int) × (Bool × List Int) × List Int) (a1 : (Bool × List Int) × List Int) : Option ((Bool × List Int) × List Int) :=
  (F_interval_Normal a0).bind fun r1 =>
  (F_rational_Cmp a1 r1.1).bind fun r2 =>
  if (decide (r2 < (0 : Int))) = true then
    some r1.1
  else
    (F_rational_Cmp a1 r1.2).bind fun r3 =>
    if (decide (r3 > (0 : Int))) = true then
      some r1.2
    else
      some a1
def Run_law06_clamp : Prop := ∀ a0 : ((Bool × List Int) × List Int) × (Bool × List Int) × List Int, ∀ a1 : (Bool × List Int) × List Int, Ok (F_law06_clamp a0 a1) (fun _ => T_law06_clamp a0 a1)

/-! cylinder/cylinderlaw06.equal -/
def T_law06_equal (a0 : ((Bool × List Int) × List Int) × (Bool × List Int) × List Int) (a1 : ((Bool × List Int) × List Int) × (Bool × List Int) × List Int) : Option Bool :=
  (F_interval_Within a0 a1).bind fun r1 =>
  if r1 = true then
    (F_interval_Within a1 a0).bind fun r2 =>
    some r2
  else
    some false
def Run_law06_equal : Prop := ∀ a0 : ((Bool × List Int) × List Int) × (Bool × List Int) × List Int, ∀ a1 : ((Bool × List Int) × List Int) × (Bool × List Int) × List Int, Ok (F_law06_equal a0 a1) (fun _ => T_law06_equal a0 a1)

/-! cylinder/cylinderlaw06.few -/
def T_law06_few (a0 : Int) (a1 : ((Bool × List Int) × List Int) × (Bool × List Int) × List Int) (a2 : ((Bool × List Int) × List Int) × (Bool × List Int) × List Int) : Option Bool :=
  (F_law06_small a0 a1.1).bind fun r1 =>
  if r1 = true then
    (F_law06_small a0 a1.2).bind fun r2 =>
    if r2 = true then
      (F_law06_small a0 a2.1).bind fun r3 =>
      if r3 = true then
        (F_law06_small a0 a2.2).bind fun r4 =>
        some r4
      else
        some false
    else
      some false
  else
    some false
def Run_law06_few : Prop := ∀ a0 : Int, ∀ a1 : ((Bool × List Int) × List Int) × (Bool × List Int) × List Int, ∀ a2 : ((Bool × List Int) × List Int) × (Bool × List Int) × List Int, Ok (F_law06_few a0 a1 a2) (fun _ => T_law06_few a0 a1 a2)

/-! cylinder/cylinderlaw06.is -/
def T_law06_is (a0 : ((Bool × List Int) × List Int) × (Bool × List Int) × List Int) (a1 : ((Int × List Int) × Int × List Int) × (Int × List Int) × Int × List Int) : Option Bool :=
  (F_ref05_Is a0.1.1.1 a0.1.1.2 a0.1.2 a1.1).bind fun r1 =>
  if r1 = true then
    (F_ref05_Is a0.2.1.1 a0.2.1.2 a0.2.2 a1.2).bind fun r2 =>
    some r2
  else
    some false
def Run_law06_is : Prop := ∀ a0 : ((Bool × List Int) × List Int) × (Bool × List Int) × List Int, ∀ a1 : ((Int × List Int) × Int × List Int) × (Int × List Int) × Int × List Int, Ok (F_law06_is a0 a1) (fun _ => T_law06_is a0 a1)

/-! cylinder/cylinderlaw06.none -/
def T_law06_none (a0 : ((Bool × List Int) × List Int) × (Bool × List Int) × List Int) : Option Bool :=
  (F_rational_Sign a0.1).bind fun r1 =>
  if (r1 == (0 : Int)) = true then
    (F_rational_Sign a0.2).bind fun r2 =>
    some ((r2 == (0 : Int)))
  else
    some false
def Run_law06_none : Prop := ∀ a0 : ((Bool × List Int) × List Int) × (Bool × List Int) × List Int, Ok (F_law06_none a0) (fun _ => T_law06_none a0)

/-! cylinder/cylinderlaw06.of -/
def T_law06_of (a0 : ((Bool × List Int) × List Int) × (Bool × List Int) × List Int) : Option (((Int × List Int) × Int × List Int) × (Int × List Int) × Int × List Int) :=
  (F_law06_q a0.1).bind fun r1 =>
  (F_law06_q a0.2).bind fun r2 =>
  (F_ref06_Make r1 r2).bind fun r3 =>
  some r3
def Run_law06_of : Prop := ∀ a0 : ((Bool × List Int) × List Int) × (Bool × List Int) × List Int, Ok (F_law06_of a0) (fun _ => T_law06_of a0)

/-! cylinder/cylinderlaw06.q -/
def T_law06_q (a0 : (Bool × List Int) × List Int) : Option ((Int × List Int) × Int × List Int) :=
  (F_ref05_Of a0.1.1 a0.1.2 a0.2).bind fun r1 =>
  some r1
def Run_law06_q : Prop := ∀ a0 : (Bool × List Int) × List Int, Ok (F_law06_q a0) (fun _ => T_law06_q a0)

/-! cylinder/cylinderlaw06.small -/
def T_law06_small (a0 : Int) (a1 : (Bool × List Int) × List Int) : Option Bool :=
  (F_ref01_Few a0 ([a1.1.2, a1.2] : List (List Int))).bind fun r1 =>
  some r1
def Run_law06_small : Prop := ∀ a0 : Int, ∀ a1 : (Bool × List Int) × List Int, Ok (F_law06_small a0 a1) (fun _ => T_law06_small a0 a1)

/-! cylinder/cylinderref06.Contains -/
def T_ref06_Contains (a0 : ((Int × List Int) × Int × List Int) × (Int × List Int) × Int × List Int) (a1 : (Int × List Int) × Int × List Int) : Option Bool :=
  (F_ref05_Cmp a0.1 a1).bind fun r1 =>
  if (decide (r1 ≤ (0 : Int))) = true then
    (F_ref05_Cmp a1 a0.2).bind fun r2 =>
    some ((decide (r2 ≤ (0 : Int))))
  else
    some false
def Run_ref06_Contains : Prop := ∀ a0 : ((Int × List Int) × Int × List Int) × (Int × List Int) × Int × List Int, ∀ a1 : (Int × List Int) × Int × List Int, Ok (F_ref06_Contains a0 a1) (fun _ => T_ref06_Contains a0 a1)

/-! cylinder/cylinderref06.Hull -/
def T_ref06_Hull (s13 : (List ((Int × List Int) × Int × List Int)) → Int → (((Int × List Int) × Int × List Int) × (Int × List Int) × Int × List Int) → (((Int × List Int) × Int × List Int) × (Int × List Int) × Int × List Int) → Option ((((Int × List Int) × Int × List Int) × (Int × List Int) × Int × List Int))) (s28 : (List ((Int × List Int) × Int × List Int)) → Int → (((Int × List Int) × Int × List Int) × (Int × List Int) × Int × List Int) → (((Int × List Int) × Int × List Int) × (Int × List Int) × Int × List Int) → Option ((((Int × List Int) × Int × List Int) × (Int × List Int) × Int × List Int))) (a0 : List ((Int × List Int) × Int × List Int)) : Option (((Int × List Int) × Int × List Int) × (Int × List Int) × Int × List Int) :=
  if 0 ≤ (0 : Int) ∧ (0 : Int) < (List.length a0 : Int) then
    let v1 : (Int × List Int) × Int × List Int := (List.getD a0 (Int.toNat (0 : Int)) (((0 : Int), ([] : List Int)), ((0 : Int), ([] : List Int))))
    (F_ref06_Point v1).bind fun r2 =>
    s13 a0 (1 : Int) ((((0 : Int), ([] : List Int)), ((0 : Int), ([] : List Int))), (((0 : Int), ([] : List Int)), ((0 : Int), ([] : List Int)))) r2
  else none
def S_ref06_Hull_13 (s13 : (List ((Int × List Int) × Int × List Int)) → Int → (((Int × List Int) × Int × List Int) × (Int × List Int) × Int × List Int) → (((Int × List Int) × Int × List Int) × (Int × List Int) × Int × List Int) → Option ((((Int × List Int) × Int × List Int) × (Int × List Int) × Int × List Int))) (s28 : (List ((Int × List Int) × Int × List Int)) → Int → (((Int × List Int) × Int × List Int) × (Int × List Int) × Int × List Int) → (((Int × List Int) × Int × List Int) × (Int × List Int) × Int × List Int) → Option ((((Int × List Int) × Int × List Int) × (Int × List Int) × Int × List Int))) (x0 : List ((Int × List Int) × Int × List Int)) (x4 : Int) (x2 : ((Int × List Int) × Int × List Int) × (Int × List Int) × Int × List Int) (x3 : ((Int × List Int) × Int × List Int) × (Int × List Int) × Int × List Int) : Option (((Int × List Int) × Int × List Int) × (Int × List Int) × Int × List Int) :=
  if (decide (x4 < (List.length x0 : Int))) = true then
    if 0 ≤ x4 ∧ x4 < (List.length x0 : Int) then
      let v1 : (Int × List Int) × Int × List Int := (List.getD x0 (Int.toNat x4) (((0 : Int), ([] : List Int)), ((0 : Int), ([] : List Int))))
      (F_ref05_Cmp v1 x3.1).bind fun r2 =>
      if (decide (r2 < (0 : Int))) = true then
        if 0 ≤ x4 ∧ x4 < (List.length x0 : Int) then
          let v3 : (Int × List Int) × Int × List Int := (List.getD x0 (Int.toNat x4) (((0 : Int), ([] : List Int)), ((0 : Int), ([] : List Int))))
          s28 x0 x4 x2 (v3, x3.2)
        else none
      else
        s28 x0 x4 x2 x3
    else none
  else
    some x3
def S_ref06_Hull_28 (s13 : (List ((Int × List Int) × Int × List Int)) → Int → (((Int × List Int) × Int × List Int) × (Int × List Int) × Int × List Int) → (((Int × List Int) × Int × List Int) × (Int × List Int) × Int × List Int) → Option ((((Int × List Int) × Int × List Int) × (Int × List Int) × Int × List Int))) (s28 : (List ((Int × List Int) × Int × List Int)) → Int → (((Int × List Int) × Int × List Int) × (Int × List Int) × Int × List Int) → (((Int × List Int) × Int × List Int) × (Int × List Int) × Int × List Int) → Option ((((Int × List Int) × Int × List Int) × (Int × List Int) × Int × List Int))) (x0 : List ((Int × List Int) × Int × List Int)) (x4 : Int) (x2 : ((Int × List Int) × Int × List Int) × (Int × List Int) × Int × List Int) (x3 : ((Int × List Int) × Int × List Int) × (Int × List Int) × Int × List Int) : Option (((Int × List Int) × Int × List Int) × (Int × List Int) × Int × List Int) :=
  if 0 ≤ x4 ∧ x4 < (List.length x0 : Int) then
    let v1 : (Int × List Int) × Int × List Int := (List.getD x0 (Int.toNat x4) (((0 : Int), ([] : List Int)), ((0 : Int), ([] : List Int))))
    (F_ref05_Cmp v1 x3.2).bind fun r2 =>
    if (decide (r2 > (0 : Int))) = true then
      if 0 ≤ x4 ∧ x4 < (List.length x0 : Int) then
        let v3 : (Int × List Int) × Int × List Int := (List.getD x0 (Int.toNat x4) (((0 : Int), ([] : List Int)), ((0 : Int), ([] : List Int))))
        s13 x0 (IntKind.wrap .i64 (x4 + (1 : Int))) x2 (x3.1, v3)
      else none
    else
      s13 x0 (IntKind.wrap .i64 (x4 + (1 : Int))) x2 x3
  else none
def Run_ref06_Hull : Prop := ∀ s13 : Nat → (List ((Int × List Int) × Int × List Int)) → Int → (((Int × List Int) × Int × List Int) × (Int × List Int) × Int × List Int) → (((Int × List Int) × Int × List Int) × (Int × List Int) × Int × List Int) → Option ((((Int × List Int) × Int × List Int) × (Int × List Int) × Int × List Int)), ∀ s28 : Nat → (List ((Int × List Int) × Int × List Int)) → Int → (((Int × List Int) × Int × List Int) × (Int × List Int) × Int × List Int) → (((Int × List Int) × Int × List Int) × (Int × List Int) × Int × List Int) → Option ((((Int × List Int) × Int × List Int) × (Int × List Int) × Int × List Int)), (∀ m x0 x4 x2 x3, s13 (m + 1) x0 x4 x2 x3 = S_ref06_Hull_13 (s13 m) (s28 m) x0 x4 x2 x3) → (∀ m x0 x4 x2 x3, s28 (m + 1) x0 x4 x2 x3 = S_ref06_Hull_28 (s13 m) (s28 m) x0 x4 x2 x3) → ∀ a0 : List ((Int × List Int) × Int × List Int), Ok (F_ref06_Hull a0) (fun m => T_ref06_Hull (s13 m) (s28 m) a0)

/-! cylinder/cylinderref06.Inverse -/
def T_ref06_Inverse (a0 : ((Int × List Int) × Int × List Int) × (Int × List Int) × Int × List Int) : Option (((Int × List Int) × Int × List Int) × (Int × List Int) × Int × List Int) :=
  (F_ref06_Number (1 : Int)).bind fun r1 =>
  (F_ref05_Quo r1 a0.2).bind fun r2 =>
  (F_ref05_Quo r1 a0.1).bind fun r3 =>
  some ((r2, r3))
def Run_ref06_Inverse : Prop := ∀ a0 : ((Int × List Int) × Int × List Int) × (Int × List Int) × Int × List Int, Ok (F_ref06_Inverse a0) (fun _ => T_ref06_Inverse a0)

/-! cylinder/cylinderref06.Make -/
def T_ref06_Make (a0 : (Int × List Int) × Int × List Int) (a1 : (Int × List Int) × Int × List Int) : Option (((Int × List Int) × Int × List Int) × (Int × List Int) × Int × List Int) :=
  (F_ref05_Cmp a0 a1).bind fun r1 =>
  if (decide (r1 > (0 : Int))) = true then
    some ((a1, a0))
  else
    some ((a0, a1))
def Run_ref06_Make : Prop := ∀ a0 : (Int × List Int) × Int × List Int, ∀ a1 : (Int × List Int) × Int × List Int, Ok (F_ref06_Make a0 a1) (fun _ => T_ref06_Make a0 a1)

/-! cylinder/cylinderref06.Mul -/
def T_ref06_Mul (a0 : ((Int × List Int) × Int × List Int) × (Int × List Int) × Int × List Int) (a1 : ((Int × List Int) × Int × List Int) × (Int × List Int) × Int × List Int) : Option (((Int × List Int) × Int × List Int) × (Int × List Int) × Int × List Int) :=
  (F_ref05_Mul a0.1 a1.1).bind fun r1 =>
  (F_ref05_Mul a0.1 a1.2).bind fun r2 =>
  (F_ref05_Mul a0.2 a1.1).bind fun r3 =>
  (F_ref05_Mul a0.2 a1.2).bind fun r4 =>
  (F_ref06_Hull ([r1, r2, r3, r4] : List ((Int × List Int) × Int × List Int))).bind fun r5 =>
  some r5
def Run_ref06_Mul : Prop := ∀ a0 : ((Int × List Int) × Int × List Int) × (Int × List Int) × Int × List Int, ∀ a1 : ((Int × List Int) × Int × List Int) × (Int × List Int) × Int × List Int, Ok (F_ref06_Mul a0 a1) (fun _ => T_ref06_Mul a0 a1)

/-! cylinder/cylinderref06.Number -/
def T_ref06_Number (a0 : Int) : Option ((Int × List Int) × Int × List Int) :=
  (F_ref02_Small a0).bind fun r1 =>
  (F_ref02_Small (1 : Int)).bind fun r2 =>
  some ((r1, r2))
def Run_ref06_Number : Prop := ∀ a0 : Int, Ok (F_ref06_Number a0) (fun _ => T_ref06_Number a0)

/-! cylinder/cylinderref06.Point -/
def T_ref06_Point (a0 : (Int × List Int) × Int × List Int) : Option (((Int × List Int) × Int × List Int) × (Int × List Int) × Int × List Int) :=
  some ((a0, a0))
def Run_ref06_Point : Prop := ∀ a0 : (Int × List Int) × Int × List Int, Ok (F_ref06_Point a0) (fun _ => T_ref06_Point a0)

/-! cylinder/cylinderref06.Pow -/
def T_ref06_Pow (s12 : Bool → (((Int × List Int) × Int × List Int) × (Int × List Int) × Int × List Int) → (List ((Int × List Int) × Int × List Int)) → Option ((((Int × List Int) × Int × List Int) × (Int × List Int) × Int × List Int))) (a0 : ((Int × List Int) × Int × List Int) × (Int × List Int) × Int × List Int) (a1 : Int) : Option (((Int × List Int) × Int × List Int) × (Int × List Int) × Int × List Int) :=
  (F_ref06_power a0.1 a1).bind fun r1 =>
  (F_ref06_power a0.2 a1).bind fun r2 =>
  if (decide (a1 > (0 : Int))) = true then
    (F_ref06_Number (0 : Int)).bind fun r3 =>
    (F_ref06_Contains a0 r3).bind fun r4 =>
    s12 r4 ((((0 : Int), ([] : List Int)), ((0 : Int), ([] : List Int))), (((0 : Int), ([] : List Int)), ((0 : Int), ([] : List Int)))) ([r1, r2] : List ((Int × List Int) × Int × List Int))
  else
    s12 false ((((0 : Int), ([] : List Int)), ((0 : Int), ([] : List Int))), (((0 : Int), ([] : List Int)), ((0 : Int), ([] : List Int)))) ([r1, r2] : List ((Int × List Int) × Int × List Int))
def S_ref06_Pow_12 (s12 : Bool → (((Int × List Int) × Int × List Int) × (Int × List Int) × Int × List Int) → (List ((Int × List Int) × Int × List Int)) → Option ((((Int × List Int) × Int × List Int) × (Int × List Int) × Int × List Int))) (x21 : Bool) (x4 : ((Int × List Int) × Int × List Int) × (Int × List Int) × Int × List Int) (x5 : List ((Int × List Int) × Int × List Int)) : Option (((Int × List Int) × Int × List Int) × (Int × List Int) × Int × List Int) :=
  if x21 = true then
    (F_ref06_Number (0 : Int)).bind fun r1 =>
    if List.length x5 + List.length ([r1] : List ((Int × List Int) × Int × List Int)) ≤ 70368744177664 / 64 then
      (F_ref06_Hull (x5 ++ ([r1] : List ((Int × List Int) × Int × List Int)))).bind fun r2 =>
      some r2
    else none
  else
    (F_ref06_Hull x5).bind fun r3 =>
    some r3
def Run_ref06_Pow : Prop := ∀ s12 : Nat → Bool → (((Int × List Int) × Int × List Int) × (Int × List Int) × Int × List Int) → (List ((Int × List Int) × Int × List Int)) → Option ((((Int × List Int) × Int × List Int) × (Int × List Int) × Int × List Int)), (∀ m x21 x4 x5, s12 (m + 1) x21 x4 x5 = S_ref06_Pow_12 (s12 m) x21 x4 x5) → ∀ a0 : ((Int × List Int) × Int × List Int) × (Int × List Int) × Int × List Int, ∀ a1 : Int, Ok (F_ref06_Pow a0 a1) (fun m => T_ref06_Pow (s12 m) a0 a1)

/-! cylinder/cylinderref06.power -/
def T_ref06_power (s13 : Int → Int → ((Int × List Int) × Int × List Int) → ((Int × List Int) × Int × List Int) → ((Int × List Int) × Int × List Int) → Option (((Int × List Int) × Int × List Int))) (a0 : (Int × List Int) × Int × List Int) (a1 : Int) : Option ((Int × List Int) × Int × List Int) :=
  (F_ref06_Number (1 : Int)).bind fun r1 =>
  s13 a1 (0 : Int) a0 (((0 : Int), ([] : List Int)), ((0 : Int), ([] : List Int))) r1
def S_ref06_power_13 (s13 : Int → Int → ((Int × List Int) × Int × List Int) → ((Int × List Int) × Int × List Int) → ((Int × List Int) × Int × List Int) → Option (((Int × List Int) × Int × List Int))) (x1 : Int) (x6 : Int) (x2 : (Int × List Int) × Int × List Int) (x4 : (Int × List Int) × Int × List Int) (x5 : (Int × List Int) × Int × List Int) : Option ((Int × List Int) × Int × List Int) :=
  if (decide (x6 < x1)) = true then
    (F_ref05_Mul x5 x2).bind fun r1 =>
    s13 x1 (IntKind.wrap .i64 (x6 + (1 : Int))) x2 x4 r1
  else
    some x5
def Run_ref06_power : Prop := ∀ s13 : Nat → Int → Int → ((Int × List Int) × Int × List Int) → ((Int × List Int) × Int × List Int) → ((Int × List Int) × Int × List Int) → Option (((Int × List Int) × Int × List Int)), (∀ m x1 x6 x2 x4 x5, s13 (m + 1) x1 x6 x2 x4 x5 = S_ref06_power_13 (s13 m) x1 x6 x2 x4 x5) → ∀ a0 : (Int × List Int) × Int × List Int, ∀ a1 : Int, Ok (F_ref06_power a0 a1) (fun m => T_ref06_power (s13 m) a0 a1)
end
end Go.W

set_option linter.unusedVariables false
set_option linter.unusedSimpArgs false
namespace Go.W

/-! ### Numbers by their values -/
/-- a has the value r, of at most k bits -/
def QV (k : Nat) (a : NQ) (r : Rat) : Prop := QQ a ∧ rv a = r ∧ QB k r
/-- the reference's q has the value r, of at most k bits -/
def QR (k : Nat) (q : FQ) (r : Rat) : Prop := RQ k q ∧ qv q = r
theorem QV.dr {k : Nat} {r : Rat} (h : QB k r) (hk : k ≤ 33554432) : QV k (Go.W.dr r) r := ⟨QQ.dr h hk, rv_dr r, h⟩
theorem QV.of {a : NQ} (h : QQ a) {m : Nat} (h1 : a.1.2.length ≤ m) (h2 : a.2.length ≤ m) (hm : 1 ≤ m) : QV (32 * m) a (rv a) := ⟨h, rfl, QB.rv' h h1 h2 hm⟩

theorem V.add {j k : Nat} {a b : NQ} {r s : Rat} (ha : QV j a r) (hb : QV k b s) : F_rational_Add a b = some (dr (r + s)) := by rw [F_rational_Add, gif_pos ⟨ha.1, hb.1⟩, ha.2.1, hb.2.1]
theorem V.sub {j k : Nat} {a b : NQ} {r s : Rat} (ha : QV j a r) (hb : QV k b s) : F_rational_Sub a b = some (dr (r - s)) := by rw [F_rational_Sub, gif_pos ⟨ha.1, hb.1⟩, ha.2.1, hb.2.1]
theorem V.mul {j k : Nat} {a b : NQ} {r s : Rat} (ha : QV j a r) (hb : QV k b s) : F_rational_Mul a b = some (dr (r * s)) := by rw [F_rational_Mul, gif_pos ⟨ha.1, hb.1⟩, ha.2.1, hb.2.1]
theorem V.quo {j k : Nat} {a b : NQ} {r s : Rat} (ha : QV j a r) (hb : QV k b s) : F_rational_Quo a b = some (if s = 0 then (zQ, 2) else (dr (r / s), 0)) := by rw [F_rational_Quo, gif_pos ⟨ha.1, hb.1⟩, ha.2.1, hb.2.1]
theorem V.quo' {j k : Nat} {a b : NQ} {r s : Rat} (ha : QV j a r) (hb : QV k b s) (h : s ≠ 0) : F_rational_Quo a b = some (dr (r / s), 0) := by rw [V.quo ha hb, if_neg h]
theorem V.neg {j : Nat} {a : NQ} {r : Rat} (ha : QV j a r) : F_rational_Neg a = some (dr (-r)) := by rw [F_rational_Neg, gif_pos ha.1, ha.2.1]
theorem V.abs {j : Nat} {a : NQ} {r : Rat} (ha : QV j a r) : F_rational_Abs a = some (dr (if r < 0 then -r else r)) := by rw [F_rational_Abs, gif_pos ha.1, ha.2.1]
theorem V.normal {j : Nat} {a : NQ} {r : Rat} (ha : QV j a r) : F_rational_Normal a = some (dr r) := by rw [F_rational_Normal, gif_pos ha.1, ha.2.1]
theorem V.sign {j : Nat} {a : NQ} {r : Rat} (ha : QV j a r) : F_rational_Sign a = some (rsg r) := by rw [F_rational_Sign, gif_pos ha.1, ha.2.1]
theorem V.cmp {j k : Nat} {a b : NQ} {r s : Rat} (ha : QV j a r) (hb : QV k b s) : F_rational_Cmp a b = some (rcm r s) := by rw [F_rational_Cmp, gif_pos ⟨ha.1, hb.1⟩, ha.2.1, hb.2.1]
theorem V.floor {j : Nat} {a : NQ} {r : Rat} (ha : QV j a r) : F_rational_Floor a = some (di r.floor) := by rw [F_rational_Floor, gif_pos ha.1, ha.2.1]
theorem V.ceil {j : Nat} {a : NQ} {r : Rat} (ha : QV j a r) : F_rational_Ceil a = some (di (-(-r).floor)) := by rw [F_rational_Ceil, gif_pos ha.1, ha.2.1]
theorem V.same {j k : Nat} {a b : NQ} {r s : Rat} (ha : QV j a r) (hb : QV k b s) : F_law05_same a b = some (decide (r = s)) := by rw [F_law05_same, gif_pos ⟨ha.1, hb.1⟩, ha.2.1, hb.2.1]

theorem R.of {a : NQ} (h : QQ a) {m : Nat} (h1 : a.1.2.length ≤ m) (h2 : a.2.length ≤ m) (hm : 1 ≤ m) : ∃ q, F_law05_of a = some q ∧ QR (32 * m) q (rv a) :=
  ⟨_, by rw [F_law05_of, gif_pos h], of_rq h h1 h2 hm, of_v a⟩
theorem RQ.pos {k : Nat} {q : FQ} (h : RQ k q) : 0 < qd q := h.2.2.2
theorem RQ.k {k : Nat} {q : FQ} (h : RQ k q) (hk : k ≤ 1000000000) : RQ RK q := h.mono (by rw [RK_le]; exact hk)
theorem R.add {j k : Nat} {a b : FQ} {r s : Rat} (ha : QR j a r) (hb : QR k b s) (hj : j ≤ 1000000000 ∧ k ≤ 1000000000) : ∃ q, F_ref05_Add a b = some q ∧ QR (j + k + 1) q (r + s) := by
  refine ⟨_, by rw [F_ref05_Add, gif_pos ⟨ha.1.k hj.1, hb.1.k hj.2⟩], RQ.mq ?_ ?_ (Int.mul_pos ha.1.pos hb.1.pos), ?_⟩
  · exact (((ha.1.2.1).ab_mul (by rw [ab_pos (Int.le_of_lt hb.1.pos)]; exact hb.1.2.2.1)).ab_add ((hb.1.2.1).ab_mul (by rw [ab_pos (Int.le_of_lt ha.1.pos)]; exact ha.1.2.2.1))).mono (by omega)
  · exact (ha.1.2.2.1.mul hb.1.2.2.1).mono (by omega)
  · rw [qv_mq, ← ha.2, ← hb.2]
    exact (Rat.divInt_add_divInt _ _ (by have := ha.1.pos; omega) (by have := hb.1.pos; omega)).symm
theorem R.mul {j k : Nat} {a b : FQ} {r s : Rat} (ha : QR j a r) (hb : QR k b s) (hj : j ≤ 1000000000 ∧ k ≤ 1000000000) : ∃ q, F_ref05_Mul a b = some q ∧ QR (j + k) q (r * s) := by
  refine ⟨_, by rw [F_ref05_Mul, gif_pos ⟨ha.1.k hj.1, hb.1.k hj.2⟩], RQ.mq (ha.1.2.1.ab_mul hb.1.2.1) (ha.1.2.2.1.mul hb.1.2.2.1) (Int.mul_pos ha.1.pos hb.1.pos), ?_⟩
  rw [qv_mq, ← ha.2, ← hb.2]
  exact (Rat.divInt_mul_divInt _ _).symm
theorem R.neg {j : Nat} {a : FQ} {r : Rat} (ha : QR j a r) (hj : j ≤ 1000000000) : ∃ q, F_ref05_Neg a = some q ∧ QR j q (-r) := by
  refine ⟨_, by rw [F_ref05_Neg, gif_pos (ha.1.k hj)], RQ.mq (by rw [ab_neg]; exact ha.1.2.1) ha.1.2.2.1 ha.1.pos, ?_⟩
  rw [qv_mq, ← ha.2]
  exact (Rat.neg_divInt _ _).symm
theorem QR.zero {j : Nat} {a : FQ} {r : Rat} (ha : QR j a r) : qn a = 0 ↔ r = 0 := by
  rw [← ha.2]; exact (divInt_eq0 ha.1.pos).symm
theorem R.quo {j k : Nat} {a b : FQ} {r s : Rat} (ha : QR j a r) (hb : QR k b s) (hj : j ≤ 1000000000 ∧ k ≤ 1000000000) (h0 : s ≠ 0) : ∃ q, F_ref05_Quo a b = some q ∧ QR (j + k) q (r / s) := by
  have hn : qn b ≠ 0 := fun h => h0 (hb.zero.1 h)
  have e : r / s = Rat.divInt (qn a * qd b) (qd a * qn b) := by
    rw [← ha.2, ← hb.2, Rat.div_def]
    unfold qv
    rw [Rat.inv_divInt, Rat.divInt_mul_divInt]
  have b1 : Bd (j + k) (ab (qn a * qd b)) := (ha.1.2.1).ab_mul (by rw [ab_pos (Int.le_of_lt hb.1.pos)]; exact hb.1.2.2.1)
  have b2 : Bd (j + k) (ab (qd a * qn b)) := by
    have := (show Bd j (ab (qd a)) by rw [ab_pos (Int.le_of_lt ha.1.pos)]; exact ha.1.2.2.1).ab_mul hb.1.2.1
    exact this
  refine ⟨_, by rw [F_ref05_Quo, gif_pos ⟨ha.1.k hj.1, hb.1.k hj.2, hn⟩], ?_⟩
  by_cases h1 : qn b < 0
  · have h2 : qd a * qn b < 0 := Int.mul_neg_of_pos_of_neg ha.1.pos h1
    rw [if_pos h1]
    refine ⟨RQ.mq (by rw [ab_neg]; exact b1) ?_ (by omega), ?_⟩
    · rw [show ab (qd a * qn b) = -(qd a * qn b) by unfold ab; rw [if_pos h2]] at b2; exact b2
    · rw [qv_mq, Rat.neg_divInt_neg, e]
  · have h2 : 0 < qd a * qn b := Int.mul_pos ha.1.pos (by omega)
    rw [if_neg h1]
    refine ⟨RQ.mq b1 ?_ h2, ?_⟩
    · rw [ab_pos (Int.le_of_lt h2)] at b2; exact b2
    · rw [qv_mq, e]
theorem R.is {j : Nat} {q : FQ} {r : Rat} (h : QR j q r) (hj : j ≤ 1000000000) (a : NQ) : F_law05_is a q = some (decide (a = dr r)) := by rw [F_law05_is, gif_pos (h.1.k hj), h.2]
theorem R.is' {j : Nat} {q : FQ} {r : Rat} (h : QR j q r) (hj : j ≤ 1000000000) (s : Rat) : F_law05_is (dr s) q = some (decide (s = r)) := by
  rw [R.is h hj]; congr 1; rw [decide_eq_decide]; exact ⟨fun h => dr_inj h, fun h => by rw [h]⟩
theorem R.cmp {j k : Nat} {a b : FQ} {r s : Rat} (ha : QR j a r) (hb : QR k b s) (hj : j ≤ 1000000000 ∧ k ≤ 1000000000) : F_ref05_Cmp a b = some (rcm r s) := by
  rw [F_ref05_Cmp, gif_pos ⟨ha.1.k hj.1, hb.1.k hj.2⟩, ha.2, hb.2]
theorem R.floor {j : Nat} {a : FQ} {r : Rat} (ha : QR j a r) (hj : j ≤ 1000000000) : F_ref05_Floor a = some (dz r.floor) := by
  rw [F_ref05_Floor, gif_pos (ha.1.k hj), ha.2]
theorem QR.sign {j : Nat} {a : FQ} {r : Rat} (ha : QR j a r) : a.1.1 = rsg r := by
  have e : a.1 = dz (qn a) := congrArg Prod.fst ha.1.1
  rw [e, ← ha.2]
  exact (rsg_div ha.1.pos).symm
theorem rsg0 {r : Rat} : rsg r = 0 ↔ r = 0 := by
  unfold rsg
  (repeat' split) <;> rename_i h1 <;> simp_all
  intro h; subst h; exact absurd h1 (Rat.lt_irrefl)
theorem small_some {n : Int} (h : -9223372036854775807 ≤ n ∧ n ≤ 9223372036854775807) : F_ref02_Small n = some (dz n) := gif_pos h
theorem awake_some : F_law05_awake = some true := gif_pos trivial
end Go.W

set_option linter.unusedVariables false
set_option linter.unusedSimpArgs false
namespace Go.W

theorem rcm_pos {x y : Rat} : rcm x y > 0 ↔ y < x := by
  unfold rcm
  by_cases h : y < x
  · rw [if_pos h]; simp [h]
  · rw [if_neg h]; by_cases h2 : x < y
    · rw [if_pos h2]; simp [h]
    · rw [if_neg h2]; simp [h]
theorem rcm_neg {x y : Rat} : rcm x y < 0 ↔ x < y := by
  unfold rcm
  by_cases h : y < x
  · rw [if_pos h]; constructor
    · intro h'; omega
    · intro h'; grind
  · rw [if_neg h]; by_cases h2 : x < y
    · rw [if_pos h2]; simp [h2]
    · rw [if_neg h2]; simp [h2]
theorem rcm_le0 {x y : Rat} : rcm x y ≤ 0 ↔ x ≤ y := by
  have := rcm_pos (x := x) (y := y)
  constructor
  · intro h; have : ¬ y < x := fun h' => by have := this.2 h'; omega
    grind
  · intro h; have h1 : ¬ (rcm x y > 0) := fun h' => by have := this.1 h'; grind
    omega

theorem Rn_interval_least : Run_interval_least := fun a b => Ok.gif_const fun ⟨hA, hB⟩ => by
  rw [T_interval_least, F_rational_Cmp, gif_bind ⟨hA, hB⟩]
  by_cases h : rv b < rv a
  · rw [if_pos (decide_eq_true (rcm_pos.2 h)), if_pos h]
  · rw [if_neg (by rw [decide_eq_true_eq]; exact fun x => h (rcm_pos.1 x)), if_neg h]
theorem Rn_interval_greatest : Run_interval_greatest := fun a b => Ok.gif_const fun ⟨hA, hB⟩ => by
  rw [T_interval_greatest, F_rational_Cmp, gif_bind ⟨hA, hB⟩]
  by_cases h : rv a < rv b
  · rw [if_pos (decide_eq_true (rcm_neg.2 h)), if_pos h]
  · rw [if_neg (by rw [decide_eq_true_eq]; exact fun x => h (rcm_neg.1 x)), if_neg h]

/-! values -/
theorem I.least {j k : Nat} {a b : NQ} {x y : Rat} (va : QV j a x) (vb : QV k b y) : ∃ q, F_interval_least a b = some q ∧ QV (max j k) q (rmin x y) ∧ (q = a ∨ q = b) := by
  refine ⟨_, gif_pos ⟨va.1, vb.1⟩, ?_⟩
  rw [va.2.1, vb.2.1]; unfold rmin
  split
  · exact ⟨⟨vb.1, vb.2.1, vb.2.2.mono (Nat.le_max_right _ _)⟩, .inr rfl⟩
  · exact ⟨⟨va.1, va.2.1, va.2.2.mono (Nat.le_max_left _ _)⟩, .inl rfl⟩
theorem I.greatest {j k : Nat} {a b : NQ} {x y : Rat} (va : QV j a x) (vb : QV k b y) : ∃ q, F_interval_greatest a b = some q ∧ QV (max j k) q (rmax x y) ∧ (q = a ∨ q = b) := by
  refine ⟨_, gif_pos ⟨va.1, vb.1⟩, ?_⟩
  rw [va.2.1, vb.2.1]; unfold rmax
  split
  · exact ⟨⟨vb.1, vb.2.1, vb.2.2.mono (Nat.le_max_right _ _)⟩, .inr rfl⟩
  · exact ⟨⟨va.1, va.2.1, va.2.2.mono (Nat.le_max_left _ _)⟩, .inl rfl⟩
theorem QQ.v {a : NQ} (h : QQ a) : QV 33554432 a (rv a) := ⟨h, rfl, QB.rv h⟩
theorem QB.rmin {k : Nat} {x y : Rat} (h : QB k x) (h' : QB k y) : QB k (Go.W.rmin x y) := by unfold Go.W.rmin; split <;> assumption
theorem QB.rmax {k : Nat} {x y : Rat} (h : QB k x) (h' : QB k y) : QB k (Go.W.rmax x y) := by unfold Go.W.rmax; split <;> assumption

theorem Rn_interval_Normal : Run_interval_Normal := fun a => Ok.gif_const fun ⟨h1, h2⟩ => by
  obtain ⟨p, ep, vp, _⟩ := I.least h1.v h2.v
  obtain ⟨q, eq, vq, _⟩ := I.greatest h1.v h2.v
  rw [T_interval_Normal, ep, Option.bind_some, V.normal vp, Option.bind_some, eq, Option.bind_some, V.normal vq]
  rfl
theorem I.normal {j : Nat} {a b : NQ} {x y : Rat} (va : QV j a x) (vb : QV j b y) : F_interval_Normal (a, b) = some (dI (rmin x y, rmax x y)) := by
  rw [F_interval_Normal, gif_pos ⟨va.1, vb.1⟩]; unfold lo hi; rw [va.2.1, vb.2.1]

theorem Rn_interval_Add : Run_interval_Add := fun a b => Ok.gif_const fun ⟨ha, hb⟩ => by
  have wa := QV.dr (ha.2.2.1.rmin ha.2.2.2) (by decide)
  have wb := QV.dr (ha.2.2.1.rmax ha.2.2.2) (by decide)
  have wc := QV.dr (hb.2.2.1.rmin hb.2.2.2) (by decide)
  have wd := QV.dr (hb.2.2.1.rmax hb.2.2.2) (by decide)
  rw [T_interval_Add, F_interval_Normal, gif_bind ⟨ha.1, ha.2.1⟩, F_interval_Normal, gif_bind ⟨hb.1, hb.2.1⟩]
  unfold dI lo hi
  rw [V.add wa wc, Option.bind_some, V.add wb wd]
  rfl

theorem Rn_interval_Sign : Run_interval_Sign := fun a => Ok.gif_const fun ⟨h1, h2⟩ => by
  rw [T_interval_Sign, V.sign h1.v, Option.bind_some, V.sign h2.v, Option.bind_some]
  by_cases h : rsg (rv a.1) = rsg (rv a.2)
  · rw [if_pos h, if_neg (by simp [h])]
  · rw [if_neg h, if_pos (by simp [h])]

theorem Rn_interval_Contains : Run_interval_Contains := fun a x => Ok.gif_const fun ⟨⟨h1, h2⟩, h3⟩ => by
  obtain ⟨p, ep, vp, _⟩ := I.least h1.v h2.v
  obtain ⟨q, eq, vq, _⟩ := I.greatest h1.v h2.v
  rw [T_interval_Contains, ep, Option.bind_some, V.cmp vp h3.v, Option.bind_some]
  show _ = some (decide (rmin (rv a.1) (rv a.2) ≤ rv x ∧ rv x ≤ rmax (rv a.1) (rv a.2)))
  by_cases h : rmin (rv a.1) (rv a.2) ≤ rv x
  · rw [if_pos (decide_eq_true (rcm_le0.2 h)), eq, Option.bind_some, V.cmp h3.v vq, Option.bind_some]
    congr 1
    rw [decide_eq_decide, rcm_le0]; exact ⟨fun x => ⟨h, x⟩, fun x => x.2⟩
  · rw [if_neg (by rw [decide_eq_true_eq]; exact fun x => h (rcm_le0.1 x)), decide_eq_false (fun x => h x.1)]
theorem Rn_interval_Within : Run_interval_Within := fun a b => Ok.gif_const fun ⟨ha, hb⟩ => by
  rw [T_interval_Within, F_interval_Contains, gif_bind ⟨hb, ha.1⟩]
  by_cases h : lo b ≤ rv a.1 ∧ rv a.1 ≤ hi b
  · rw [if_pos (decide_eq_true h), F_interval_Contains, gif_bind ⟨hb, ha.2⟩]
    congr 1; rw [decide_eq_decide]; exact ⟨fun x => ⟨h, x⟩, fun x => x.2⟩
  · rw [if_neg (by rw [decide_eq_true_eq]; exact h), decide_eq_false (fun x => h x.1)]
theorem Rn_law06_equal : Run_law06_equal := fun a b => Ok.gif_const fun ⟨ha, hb⟩ => by
  rw [T_law06_equal, F_interval_Within, gif_bind ⟨ha, hb⟩]
  by_cases h : (lo b ≤ rv a.1 ∧ rv a.1 ≤ hi b) ∧ lo b ≤ rv a.2 ∧ rv a.2 ≤ hi b
  · rw [if_pos (decide_eq_true h), F_interval_Within, gif_bind ⟨hb, ha⟩]
    congr 1; rw [decide_eq_decide]; exact ⟨fun x => ⟨h, x⟩, fun x => x.2⟩
  · rw [if_neg (by rw [decide_eq_true_eq]; exact h), decide_eq_false (fun x => h x.1)]

/-! the product -/
theorem rmin_le_rmax4 (a b c d : Rat) : ¬ (mx4 a b c d < mn4 a b c d) := by
  unfold mx4 mn4 rmin rmax; (repeat' split) <;> grind
theorem QV.mono {j k : Nat} {a : NQ} {r : Rat} (h : QV j a r) (hk : j ≤ k) : QV k a r := ⟨h.1, h.2.1, h.2.2.mono hk⟩
theorem Rn_interval_Mul : Run_interval_Mul := fun s k1 a b => Ok.gif fun ⟨⟨a1, a2, a3, a4⟩, b1, b2, b3, b4⟩ => by
  have va1 : QV BI a.1 (rv a.1) := ⟨a1, rfl, a3⟩
  have va2 : QV BI a.2 (rv a.2) := ⟨a2, rfl, a4⟩
  have vb1 : QV BI b.1 (rv b.1) := ⟨b1, rfl, b3⟩
  have vb2 : QV BI b.2 (rv b.2) := ⟨b2, rfl, b4⟩
  have p1 := QV.dr (a3.mul b3) (by decide)
  have p2 := QV.dr (a3.mul b4) (by decide)
  have p3 := QV.dr (a4.mul b3) (by decide)
  have p4 := QV.dr (a4.mul b4) (by decide)
  obtain ⟨q1, e1, v1, _⟩ := I.least p1 p2
  obtain ⟨g1, f1, w1, _⟩ := I.greatest p1 p2
  obtain ⟨q2, e2, v2, _⟩ := I.least v1 p3
  obtain ⟨g2, f2, w2, _⟩ := I.greatest w1 p3
  obtain ⟨q3, e3, v3, _⟩ := I.least v2 p4
  obtain ⟨g3, f3, w3, _⟩ := I.greatest w2 p4
  simp only [T_interval_Mul, V.mul va1 vb1, V.mul va1 vb2, V.mul va2 vb1, V.mul va2 vb2, Option.bind_some]
  refine Ev.step (t := fun m => s m [dr (rv a.1 * rv b.2), dr (rv a.2 * rv b.1), dr (rv a.2 * rv b.2)] 1 zI (q1, g1)) (fun m => ?_) (Ev.step (t := fun m => s m [dr (rv a.1 * rv b.2), dr (rv a.2 * rv b.1), dr (rv a.2 * rv b.2)] 2 zI (q2, g2)) (fun m => ?_)
    (Ev.step (t := fun m => s m [dr (rv a.1 * rv b.2), dr (rv a.2 * rv b.1), dr (rv a.2 * rv b.2)] 3 zI (q3, g3)) (fun m => ?_) (Ev.step (t := fun m => some (dI (mulI (rv a.1) (rv a.2) (rv b.1) (rv b.2)))) (fun m => ?_) Ev.ret)))
  · rw [k1]; unfold S_interval_Mul_17
    rw [if_pos (by decide), if_pos (by decide)]
    show (F_interval_least _ (dr (rv a.1 * rv b.2))).bind _ = _
    rw [e1, Option.bind_some]
    show (F_interval_greatest _ (dr (rv a.1 * rv b.2))).bind _ = _
    rw [f1, Option.bind_some]; rfl
  · rw [k1]; unfold S_interval_Mul_17
    rw [if_pos (by decide), if_pos (by decide)]
    show (F_interval_least _ (dr (rv a.2 * rv b.1))).bind _ = _
    rw [e2, Option.bind_some]
    show (F_interval_greatest _ (dr (rv a.2 * rv b.1))).bind _ = _
    rw [f2, Option.bind_some]; rfl
  · rw [k1]; unfold S_interval_Mul_17
    rw [if_pos (by decide), if_pos (by decide)]
    show (F_interval_least _ (dr (rv a.2 * rv b.2))).bind _ = _
    rw [e3, Option.bind_some]
    show (F_interval_greatest _ (dr (rv a.2 * rv b.2))).bind _ = _
    rw [f3, Option.bind_some]; rfl
  · rw [k1]; unfold S_interval_Mul_17
    rw [if_neg (by decide), I.normal (v3.mono (Nat.le_refl _)) (w3.mono (Nat.le_refl _)), Option.bind_some]
    have h := rmin_le_rmax4 (rv a.1 * rv b.1) (rv a.1 * rv b.2) (rv a.2 * rv b.1) (rv a.2 * rv b.2)
    unfold mulI
    rw [show rmin (rmin (rmin (rv a.1 * rv b.1) (rv a.1 * rv b.2)) (rv a.2 * rv b.1)) (rv a.2 * rv b.2) = mn4 (rv a.1 * rv b.1) (rv a.1 * rv b.2) (rv a.2 * rv b.1) (rv a.2 * rv b.2) from rfl,
      show rmax (rmax (rmax (rv a.1 * rv b.1) (rv a.1 * rv b.2)) (rv a.2 * rv b.1)) (rv a.2 * rv b.2) = mx4 (rv a.1 * rv b.1) (rv a.1 * rv b.2) (rv a.2 * rv b.1) (rv a.2 * rv b.2) from rfl]
    congr 2
    unfold rmin rmax
    rw [if_neg h]
    by_cases h' : mn4 (rv a.1 * rv b.1) (rv a.1 * rv b.2) (rv a.2 * rv b.1) (rv a.2 * rv b.2) < mx4 (rv a.1 * rv b.1) (rv a.1 * rv b.2) (rv a.2 * rv b.1) (rv a.2 * rv b.2)
    · rw [if_pos h']
    · rw [if_neg h']; congr 1; grind
theorem I.mul {j k : Nat} {a b : NI} {x y u v : Rat} (va : QV j a.1 x) (va' : QV j a.2 y) (vb : QV k b.1 u) (vb' : QV k b.2 v) (hj : j ≤ 1000000) (hk : k ≤ 1000000) : F_interval_Mul a b = some (dI (mulI x y u v)) := by
  rw [F_interval_Mul, gif_pos ⟨⟨va.1, va'.1, by rw [va.2.1]; exact va.2.2.mono hj, by rw [va'.2.1]; exact va'.2.2.mono hj⟩, vb.1, vb'.1, by rw [vb.2.1]; exact vb.2.2.mono hk, by rw [vb'.2.1]; exact vb'.2.2.mono hk⟩, va.2.1, va'.2.1, vb.2.1, vb'.2.1]
theorem mulI_bd {j k : Nat} {x y u v : Rat} (hx : QB j x) (hy : QB j y) (hu : QB k u) (hv : QB k v) : QB (j + k) (mulI x y u v).1 ∧ QB (j + k) (mulI x y u v).2 :=
  ⟨(((hx.mul hu).rmin (hx.mul hv)).rmin (hy.mul hu)).rmin (hy.mul hv), (((hx.mul hu).rmax (hx.mul hv)).rmax (hy.mul hu)).rmax (hy.mul hv)⟩

theorem Rn_interval_Quo : Run_interval_Quo := fun a b => Ok.gif_const fun ⟨⟨a1, a2, a3, a4⟩, b1, b2, b3, b4⟩ => by
  have v0 : QV 1 (dr ((0 : Int) : Rat)) ((0 : Int) : Rat) := QV.dr (QB.int (by constructor <;> decide) (by omega)) (by omega)
  have v1 : QV 1 (dr ((1 : Int) : Rat)) ((1 : Int) : Rat) := QV.dr (QB.int (by constructor <;> decide) (by omega)) (by omega)
  have vb1 : QV BI b.1 (rv b.1) := ⟨b1, rfl, b3⟩
  have vb2 : QV BI b.2 (rv b.2) := ⟨b2, rfl, b4⟩
  have e0 : ((0 : Int) : Rat) = 0 := rfl
  have e1 : ((1 : Int) : Rat) = 1 := rfl
  rw [T_interval_Quo, Of_bind (by omega), F_interval_Contains, gif_bind ⟨⟨b1, b2⟩, v0.1⟩, v0.2.1, e0]
  by_cases h : lo b ≤ 0 ∧ 0 ≤ hi b
  · rw [if_pos (decide_eq_true h), if_pos h]
  · have h1 : rv b.1 ≠ 0 := fun hz => h (by unfold lo hi rmin rmax; rw [hz]; constructor <;> split <;> grind)
    have h2 : rv b.2 ≠ 0 := fun hz => h (by unfold lo hi rmin rmax; rw [hz]; constructor <;> split <;> grind)
    rw [if_neg (by rw [decide_eq_true_eq]; exact h), if_neg h, Of_bind (by omega), V.quo' v1 vb1 h1, Option.bind_some, Of_bind (by omega), V.quo' v1 vb2 h2, Option.bind_some, e1]
    have i1 : QB BI (1 / rv b.1) := by rw [Rat.div_def, Rat.one_mul]; exact b3.inv h1
    have i2 : QB BI (1 / rv b.2) := by rw [Rat.div_def, Rat.one_mul]; exact b4.inv h2
    rw [I.mul (a := a) (j := BI) (k := BI) ⟨a1, rfl, a3⟩ ⟨a2, rfl, a4⟩ (b := (dr (1 / rv b.1), dr (1 / rv b.2))) (QV.dr i1 (by decide)) (QV.dr i2 (by decide)) (by decide) (by decide)]
    rfl
end Go.W

set_option linter.unusedVariables false
set_option linter.unusedSimpArgs false
namespace Go.W

theorem Rn_law06_small : Run_law06_small := fun n a => Ok.gif_const fun _ => by
  rw [T_law06_small, F_ref01_Few, gif_bind (by simp)]
  congr 1
  rw [Bool.eq_iff_iff]; simp
theorem Rn_law06_few : Run_law06_few := fun n a b => Ok.gif_const fun _ => by
  have e : ∀ x : NQ, F_law06_small n x = some (decide ((x.1.2.length : Int) ≤ n ∧ (x.2.length : Int) ≤ n)) := fun x => gif_pos trivial
  simp only [T_law06_few, e, Option.bind_some]
  by_cases h1 : (a.1.1.2.length : Int) ≤ n ∧ (a.1.2.length : Int) ≤ n
  · rw [decide_eq_true h1, if_pos rfl]
    by_cases h2 : (a.2.1.2.length : Int) ≤ n ∧ (a.2.2.length : Int) ≤ n
    · rw [decide_eq_true h2, if_pos rfl]
      by_cases h3 : (b.1.1.2.length : Int) ≤ n ∧ (b.1.2.length : Int) ≤ n
      · rw [decide_eq_true h3, if_pos rfl]
        congr 1; rw [decide_eq_decide]; exact ⟨fun h => ⟨h1, h2, h3, h⟩, fun h => h.2.2.2⟩
      · rw [decide_eq_false h3, if_neg (by simp), decide_eq_false (fun h => h3 h.2.2.1)]
    · rw [decide_eq_false h2, if_neg (by simp), decide_eq_false (fun h => h2 h.2.1)]
  · rw [decide_eq_false h1, if_neg (by simp), decide_eq_false (fun h => h1 h.1)]
theorem Rn_law06_q : Run_law06_q := fun a => Ok.gif_const fun h => by
  rw [T_law06_q, F_ref05_Of, gif_bind (p := QD a.1.2 ∧ QD a.2) h]
theorem Rn_ref06_Make : Run_ref06_Make := fun p q => Ok.gif_const fun ⟨h1, h2⟩ => by
  rw [T_ref06_Make, F_ref05_Cmp, gif_bind ⟨h1, h2⟩]
  by_cases h : qv q < qv p
  · rw [if_pos (decide_eq_true (rcm_pos.2 h)), if_pos h]
  · rw [if_neg (by rw [decide_eq_true_eq]; exact fun x => h (rcm_pos.1 x)), if_neg h]
theorem mq_RQ {a : NQ} (h : QQ a) : QR 33554432 (mq (rn a) (rd a)) (rv a) := ⟨RQ.mq (rn_bd h) (rd_bd h) (rd_pos h), of_v a⟩
theorem Rn_law06_of : Run_law06_of := fun a => Ok.gif_const fun ⟨h1, h2⟩ => by
  rw [T_law06_of, F_law06_q, gif_bind h1, F_law06_q, gif_bind h2, F_ref06_Make, gif_bind ⟨(mq_RQ h1).1.k (by omega), (mq_RQ h2).1.k (by omega)⟩, (mq_RQ h1).2, (mq_RQ h2).2]
theorem Rn_law06_none : Run_law06_none := fun a => Ok.gif_const fun ⟨h1, h2⟩ => by
  rw [T_law06_none, V.sign h1.v, Option.bind_some]
  by_cases h : rv a.1 = 0
  · rw [if_pos (by rw [beq_iff_eq]; exact rsg0.2 h), V.sign h2.v, Option.bind_some]
    congr 1
    rw [Bool.eq_iff_iff, beq_iff_eq, decide_eq_true_eq, rsg0]; exact ⟨fun x => ⟨h, x⟩, fun x => x.2⟩
  · rw [if_neg (by rw [beq_iff_eq, rsg0]; exact h), decide_eq_false (fun x => h x.1)]
theorem Rn_law06_is : Run_law06_is := fun a b => Ok.gif_const fun ⟨h1, h2⟩ => by
  rw [T_law06_is, F_ref05_Is, gif_bind h1]
  have e : (a = dI (qv b.1, qv b.2)) ↔ a.1 = dr (qv b.1) ∧ a.2 = dr (qv b.2) := by
    unfold dI; rw [Prod.ext_iff]
  by_cases h : a.1 = dr (qv b.1)
  · rw [if_pos (decide_eq_true h), F_ref05_Is, gif_bind h2]
    congr 1; rw [decide_eq_decide, e]; exact ⟨fun x => ⟨h, x⟩, fun x => x.2⟩
  · rw [if_neg (by rw [decide_eq_true_eq]; exact h), decide_eq_false (fun x => h (e.1 x).1)]
theorem Rn_ref06_Point : Run_ref06_Point := fun p => Ok.gif_const fun _ => by rw [T_ref06_Point]
theorem Rn_ref06_Number : Run_ref06_Number := fun n => Ok.gif_const fun h => by
  rw [T_ref06_Number, small_some h, Option.bind_some, small_some (by decide), Option.bind_some]; rfl
theorem one_RQ : QR 1 (mq 1 1) 1 := ⟨RQ.mq (by constructor <;> decide) (by constructor <;> decide) (by decide), by rw [qv_mq]; decide +kernel⟩
theorem Rn_ref06_Inverse : Run_ref06_Inverse := fun p => Ok.gif_const fun ⟨h1, h2, n1, n2⟩ => by
  have hk : ∀ {q : FQ}, RQ 1000000 q → RQ RK q := fun h => h.k (by omega)
  rw [T_ref06_Inverse, F_ref06_Number, gif_bind (by omega), F_ref05_Quo, gif_bind ⟨one_RQ.1.k (by omega), hk h2, n2⟩, F_ref05_Quo, gif_bind ⟨one_RQ.1.k (by omega), hk h1, n1⟩]
  simp only [qn_mq, qd_mq]
  rfl
theorem mulq_R {j k : Nat} {a b : FQ} {r s : Rat} (ha : QR j a r) (hb : QR k b s) (hj : j ≤ 1000000000 ∧ k ≤ 1000000000) : F_ref05_Mul a b = some (mulq a b) ∧ QR (j + k) (mulq a b) (r * s) := by
  obtain ⟨q, e, h⟩ := R.mul ha hb hj
  have e2 : F_ref05_Mul a b = some (mulq a b) := gif_pos ⟨ha.1.k hj.1, hb.1.k hj.2⟩
  rw [e2] at e; injection e with e
  subst e
  exact ⟨e2, h⟩
theorem QR.self {j : Nat} {q : FQ} (h : RQ j q) : QR j q (qv q) := ⟨h, rfl⟩
theorem Rn_ref06_Mul : Run_ref06_Mul := fun p q => Ok.gif_const fun ⟨p1, p2, q1, q2⟩ => by
  obtain ⟨e1, r1⟩ := mulq_R (QR.self p1) (QR.self q1) (by omega)
  obtain ⟨e2, r2⟩ := mulq_R (QR.self p1) (QR.self q2) (by omega)
  obtain ⟨e3, r3⟩ := mulq_R (QR.self p2) (QR.self q1) (by omega)
  obtain ⟨e4, r4⟩ := mulq_R (QR.self p2) (QR.self q2) (by omega)
  have hh : F_ref06_Hull [mulq p.1 q.1, mulq p.1 q.2, mulq p.2 q.1, mulq p.2 q.2] = some (hullL [mulq p.1 q.1, mulq p.1 q.2, mulq p.2 q.1, mulq p.2 q.2]) := gif_pos ⟨by simp, by simp, fun x hx => by
    simp only [List.mem_cons, List.not_mem_nil, or_false] at hx
    rcases hx with rfl | rfl | rfl | rfl
    · exact r1.1.k (by omega)
    · exact r2.1.k (by omega)
    · exact r3.1.k (by omega)
    · exact r4.1.k (by omega)⟩
  rw [T_ref06_Mul, e1, Option.bind_some, e2, Option.bind_some, e3, Option.bind_some, e4, Option.bind_some, hh, Option.bind_some]

theorem Rn_ref06_Hull : Run_ref06_Hull := fun s1 s2 k1 k2 l => Ok.gif fun ⟨h0, h1, h2⟩ => by
  match l, h0 with
  | m :: l, _ =>
  have hl : ((m :: l).length : Int) = l.length + 1 := by simp
  have h1' : l.length + 1 ≤ 1000 := by simpa using h1
  have loop : ∀ (d i : Nat) (x y : FQ), i + d = l.length → RQ RK x → RQ RK y → Ev (fun m' => s1 m' (m :: l) ((i : Int) + 1) ((((0 : Int), ([] : List Int)), ((0 : Int), ([] : List Int))), (((0 : Int), ([] : List Int)), ((0 : Int), ([] : List Int)))) (x, y)) (lowL x (l.drop i), hiL y (l.drop i)) := by
    intro d
    induction d with
    | zero =>
      intro i x y hi hx hy
      refine Ev.step (t := fun _ => some (x, y)) (fun m' => ?_) ?_
      · rw [k1]; unfold S_ref06_Hull_13
        rw [if_neg (by rw [decide_eq_true_eq, hl]; omega)]
      · rw [List.drop_of_length_le (by omega)]; exact Ev.ret
    | succ d ih =>
      intro i x y hi hx hy
      have hil : i < l.length := by omega
      have hv : RQ RK l[i] := h2 _ (List.mem_cons_of_mem _ (List.getElem_mem hil))
      have hg : (m :: l).getD (Int.toNat ((i : Int) + 1)) ((((0 : Int), ([] : List Int)), ((0 : Int), ([] : List Int)))) = l[i] := by
        rw [show Int.toNat ((i : Int) + 1) = i + 1 by omega]
        simp [List.getD, hil]
      rw [List.drop_eq_getElem_cons hil]
      have hr : (0 : Int) ≤ (i : Int) + 1 ∧ (i : Int) + 1 < ((m :: l).length : Int) := by rw [hl]; omega
      have hx' : RQ RK (if qv l[i] < qv x then l[i] else x) := by split <;> assumption
      have hy' : RQ RK (if qv y < qv l[i] then l[i] else y) := by split <;> assumption
      have := ih (i + 1) _ _ (by omega) hx' hy'
      refine Ev.step (t := fun m' => s2 m' (m :: l) ((i : Int) + 1) ((((0 : Int), ([] : List Int)), ((0 : Int), ([] : List Int))), (((0 : Int), ([] : List Int)), ((0 : Int), ([] : List Int)))) ((if qv l[i] < qv x then l[i] else x), y)) (fun m' => ?_) (Ev.step (fun m' => ?_) this)
      · rw [k1]; unfold S_ref06_Hull_13
        rw [if_pos (by rw [decide_eq_true_eq]; exact hr.2), if_pos hr]
        simp only [hg]
        rw [F_ref05_Cmp, gif_bind ⟨hv, hx⟩]
        by_cases hc : qv l[i] < qv x
        · rw [if_pos (decide_eq_true (rcm_neg.2 hc)), if_pos hr, if_pos hc]
        · rw [if_neg (by rw [decide_eq_true_eq]; exact fun z => hc (rcm_neg.1 z)), if_neg hc]
      · rw [k2]; unfold S_ref06_Hull_28
        rw [if_pos hr]
        simp only [hg]
        rw [F_ref05_Cmp, gif_bind ⟨hv, hy⟩, i64w (by omega) (by omega)]
        by_cases hc : qv y < qv l[i]
        · rw [if_pos (decide_eq_true (rcm_pos.2 hc)), if_pos hr, if_pos hc]; simp
        · rw [if_neg (by rw [decide_eq_true_eq]; exact fun z => hc (rcm_pos.1 z)), if_neg hc]; simp
  have hm : RQ RK m := h2 _ (by simp)
  have := loop l.length 0 m m (by omega) hm hm
  simp only [T_ref06_Hull]
  refine Ev.congr (fun m' => ?_) this
  rw [if_pos (by rw [hl]; omega)]
  show (F_ref06_Point ((m :: l).getD 0 _)).bind _ = _
  rw [F_ref06_Point, gif_bind trivial]
  rfl

theorem Rn_law06_awake : Run_law06_awake := Ok.gif_const fun _ => by
  have hi : ∀ n : Int, -10 ≤ n ∧ n ≤ 10 → QV 4 (dr (n : Rat)) (n : Rat) := fun n h => QV.dr (QB.int (by unfold ab Bd; constructor <;> split <;> omega) (by omega)) (by omega)
  have hm : mulI ((-1 : Int) : Rat) ((2 : Int) : Rat) ((3 : Int) : Rat) ((4 : Int) : Rat) = (((-4 : Int) : Rat), ((8 : Int) : Rat)) := by decide +kernel
  have g4 : gd 10 4 = [4] := by rw [gd_pos (by decide) (by decide), show (4 : Int) / 10 = 0 by decide, gd_zero]; rfl
  have g8 : gd 10 8 = [8] := by rw [gd_pos (by decide) (by decide), show (8 : Int) / 10 = 0 by decide, gd_zero]; rfl
  have s4 : ratS ((-4 : Int) : Rat) = ByteArray.mk #[45, 52] := by
    unfold ratS
    rw [if_pos (Rat.den_intCast _), Rat.num_intCast]
    unfold decS decL
    rw [if_neg (show ¬ ((-4 : Int) = 0) by decide), if_pos (show (-4 : Int) < 0 by decide), show ab (-4) = 4 by decide, g4]; rfl
  have s8 : ratS ((8 : Int) : Rat) = ByteArray.mk #[56] := by
    unfold ratS
    rw [if_pos (Rat.den_intCast _), Rat.num_intCast]
    unfold decS decL
    rw [if_neg (show ¬ ((8 : Int) = 0) by decide), if_neg (show ¬ (8 : Int) < 0 by decide), show ab 8 = 8 by decide, g8]; rfl
  have f4 : F_rational_Format (dr ((-4 : Int) : Rat)) = some (ByteArray.mk #[45, 52]) := by rw [F_rational_Format, gif_pos (hi (-4) (by omega)).1, rv_dr, s4]
  have f8 : F_rational_Format (dr ((8 : Int) : Rat)) = some (ByteArray.mk #[56]) := by rw [F_rational_Format, gif_pos (hi 8 (by omega)).1, rv_dr, s8]
  rw [T_law06_awake, Of_bind (by omega), Of_bind (by omega), Of_bind (by omega), Of_bind (by omega), I.mul (a := (dr ((-1 : Int) : Rat), dr ((2 : Int) : Rat))) (b := (dr ((3 : Int) : Rat), dr ((4 : Int) : Rat))) (hi (-1) (by omega)) (hi 2 (by omega)) (hi 3 (by omega)) (hi 4 (by omega)) (by omega) (by omega), hm, Option.bind_some]
  unfold dI
  rw [f4, Option.bind_some, f8, if_pos (by rw [beq_iff_eq])]
  simp
end Go.W

