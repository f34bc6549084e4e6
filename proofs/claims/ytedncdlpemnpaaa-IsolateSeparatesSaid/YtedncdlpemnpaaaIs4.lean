/- A part of the proof: texts M5, M6, Df6, P60, P61, P62, P63, P64, P35, P36, P37, P38, P39, P40, P41, Sp7, Df5, P50, P51, P65, Sp9, Df7, DfG, P66, P67, Sp10, Df8, P68, P69, P70, Sp11, Df9, P71, P72, P73. What is proved in the end stands in the last file. -/
import Derived.Test.YtedncdlpemnpaaaIs3
import Derived.Laws.Strings
set_option linter.unusedVariables false
set_option linter.unusedSimpArgs false
set_option linter.unusedSectionVars false
set_option linter.unusedVariables false
set_option linter.unusedSimpArgs false
namespace Go.W

/-! ### coefficients -/
theorem getD_out {l : List Int} {i : Nat} (h : l.length ≤ i) : l.getD i 0 = 0 := by simp [List.getD, List.getElem?_eq_none h]
theorem getD_in {l : List Int} {i : Nat} (h : i < l.length) : l.getD i 0 = l[i] := by simp [List.getD, List.getElem?_eq_getElem h]
theorem getD_mem {l : List Int} {i : Nat} (h : i < l.length) : l.getD i 0 ∈ l := by rw [getD_in h]; exact List.getElem_mem h
theorem map_get {f : Int → Int} (h0 : f 0 = 0) (l : List Int) (i : Nat) : (l.map f).getD i 0 = f (l.getD i 0) := by
  by_cases h : i < l.length
  · rw [getD_in (by simpa using h), getD_in h]; simp
  · rw [getD_out (by simp; omega), getD_out (by omega), h0]
theorem cmb_len (op : Int → Int → Int) (a b : List Int) : (cmb op a b).length = max a.length b.length := by simp [cmb]
theorem cmb_get {op : Int → Int → Int} (h0 : op 0 0 = 0) (a b : List Int) (i : Nat) : (cmb op a b).getD i 0 = op (a.getD i 0) (b.getD i 0) := by
  by_cases h : i < max a.length b.length
  · rw [getD_in (by rw [cmb_len]; exact h)]; simp [cmb]
  · rw [getD_out (by rw [cmb_len]; omega), getD_out (by omega), getD_out (l := b) (by omega), h0]
theorem addL_get (a b : List Int) (i : Nat) : (addL a b).getD i 0 = a.getD i 0 + b.getD i 0 := by unfold addL; rw [trimL_get, cmb_get (by decide)]
theorem subL_get (a b : List Int) (i : Nat) : (subL a b).getD i 0 = a.getD i 0 - b.getD i 0 := by unfold subL; rw [trimL_get, cmb_get (by decide)]
theorem scl_get (c : Int) (l : List Int) (i : Nat) : (scl c l).getD i 0 = c * l.getD i 0 := by unfold scl; rw [trimL_get, map_get (by simp)]
theorem app_get (a b : List Int) (i : Nat) : (a ++ b).getD i 0 = if i < a.length then a.getD i 0 else b.getD (i - a.length) 0 := by
  simp only [List.getD]
  by_cases h : i < a.length
  · rw [if_pos h, List.getElem?_append_left h]
  · rw [if_neg h, List.getElem?_append_right (by omega)]
theorem rep_get (n i : Nat) : (List.replicate n (0 : Int)).getD i 0 = 0 := by
  by_cases h : i < n
  · rw [getD_in (by simpa using h)]; simp
  · exact getD_out (by simp; omega)
theorem shf_get (c : Int) (n : Nat) (l : List Int) (i : Nat) : (shf c n l).getD i 0 = if i < n then 0 else c * l.getD (i - n) 0 := by
  unfold shf
  rw [app_get, List.length_replicate, rep_get, scl_get]
theorem derL_get (l : List Int) (i : Nat) : (derL l).getD i 0 = l.getD (i + 1) 0 * ((i + 1 : Nat) : Int) := by
  unfold derL
  by_cases h : i < l.length - 1
  · rw [getD_in (by simpa using h)]; simp
  · rw [getD_out (by simp; omega), getD_out (l := l) (by omega), Int.zero_mul]
theorem subL_TL (a b : List Int) : TL (subL a b) := trimL_tl _
theorem scl_TL (c : Int) (l : List Int) : TL (scl c l) := trimL_tl _
theorem trimL_le {l : List Int} {n : Nat} (h : ∀ i, n ≤ i → l.getD i 0 = 0) : (trimL l).length ≤ n := by
  rcases Nat.lt_or_ge n (trimL l).length with h1 | h1
  · exfalso
    have hne : trimL l ≠ [] := by intro e; rw [e] at h1; simp at h1
    have := (trimL_tl l).last hne
    rw [trimL_get] at this
    exact this (h _ (by omega))
  · exact h1
theorem len_le_of {l : List Int} (hl : TL l) {n : Nat} (h : ∀ i, n ≤ i → l.getD i 0 = 0) : l.length ≤ n := by
  have := trimL_le h
  rwa [hl] at this
theorem lc_ne {l : List Int} (h : TL l) (h0 : l ≠ []) : lc l ≠ 0 := h.last h0
theorem subL_len (a b : List Int) : (subL a b).length ≤ max a.length b.length := by
  have := trimL_len (cmb (· - ·) a b); rw [cmb_len] at this; exact this
theorem addL_len (a b : List Int) : (addL a b).length ≤ max a.length b.length := by
  have := trimL_len (cmb (· + ·) a b); rw [cmb_len] at this; exact this
theorem scl_len (c : Int) (l : List Int) : (scl c l).length ≤ l.length := by
  have := trimL_len (l.map fun x => c * x); simpa [scl] using this
theorem shf_len (c : Int) (n : Nat) (l : List Int) : (shf c n l).length ≤ n + l.length := by
  have := scl_len c l; unfold shf; simp; omega
theorem neg_get (l : List Int) (i : Nat) : (subL [] l).getD i 0 = -(l.getD i 0) := by rw [subL_get]; simp
theorem neg_len {l : List Int} (h : TL l) : (subL [] l).length = l.length := by
  have h1 : (subL [] l).length ≤ l.length := by have := subL_len [] l; simpa using this
  have h2 : l.length ≤ (subL [] l).length := len_le_of h fun i hi => by
    have := neg_get l i
    rw [getD_out hi] at this
    omega
  omega
theorem PB.get {k : Nat} {l : List Int} (h : PB k l) (i : Nat) : Bd k (ab (l.getD i 0)) := by
  by_cases hi : i < l.length
  · exact h _ (getD_mem hi)
  · rw [getD_out (by omega)]; exact Bd.zero k
theorem PB.of {k : Nat} {l : List Int} (h : ∀ i, Bd k (ab (l.getD i 0))) : PB k l := fun c hc => by
  obtain ⟨i, hi, rfl⟩ := List.getElem_of_mem hc
  rw [← getD_in hi]; exact h i
theorem PB.mono {j k : Nat} {l : List Int} (h : PB j l) (hk : j ≤ k) : PB k l := fun c hc => (h c hc).mono hk
theorem PB.trim {k : Nat} {l : List Int} (h : PB k l) : PB k (trimL l) := .of fun i => by rw [trimL_get]; exact h.get i
theorem PB.nil (k : Nat) : PB k [] := fun c hc => by cases hc
theorem PB.add {j k m : Nat} {a b : List Int} (ha : PB j a) (hb : PB k b) (hm : max j k + 1 ≤ m) : PB m (addL a b) := .of fun i => by rw [addL_get]; exact ((ha.get i).ab_add (hb.get i)).mono hm
theorem PB.sub {j k m : Nat} {a b : List Int} (ha : PB j a) (hb : PB k b) (hm : max j k + 1 ≤ m) : PB m (subL a b) := .of fun i => by rw [subL_get]; exact ((ha.get i).ab_sub (hb.get i)).mono hm
theorem PB.neg {k : Nat} {a : List Int} (ha : PB k a) : PB k (subL [] a) := .of fun i => by rw [neg_get, ab_neg]; exact ha.get i
theorem PB.scl {j k m : Nat} {c : Int} {l : List Int} (hc : Bd j (ab c)) (hl : PB k l) (hm : j + k ≤ m) : PB m (scl c l) := .of fun i => by rw [scl_get]; exact (hc.ab_mul (hl.get i)).mono hm
theorem PB.shf {j k m n : Nat} {c : Int} {l : List Int} (hc : Bd j (ab c)) (hl : PB k l) (hm : j + k ≤ m) : PB m (shf c n l) := .of fun i => by
  rw [shf_get]; split
  · exact Bd.zero m
  · exact (hc.ab_mul (hl.get _)).mono hm
theorem PB.lc {k : Nat} {l : List Int} (h : PB k l) : Bd k (ab (lc l)) := h.get _
/-! ### pseudo-division -/
theorem ps_len {g r : List Int} (hg : TL g) (hg0 : g ≠ []) (hr : TL r) (h : g.length ≤ r.length) : (subL (scl (lc g) r) (shf (lc r) (r.length - g.length) g)).length < r.length := by
  have hgl : 0 < g.length := List.length_pos_iff.2 hg0
  have : (subL (scl (lc g) r) (shf (lc r) (r.length - g.length) g)).length ≤ r.length - 1 := len_le_of (subL_TL _ _) fun i hi => by
    rw [subL_get, scl_get, shf_get, if_neg (by omega)]
    by_cases h1 : i = r.length - 1
    · subst h1
      rw [show r.length - 1 - (r.length - g.length) = g.length - 1 by omega]
      show lc g * lc r - lc r * lc g = 0
      rw [Int.mul_comm]; omega
    · rw [getD_out (l := r) (by omega), getD_out (l := g) (by omega)]; simp
  omega
theorem psL_done {g : List Int} (hg : TL g) (hg0 : g ≠ []) : ∀ (n : Nat) (q r : List Int) (left : Int), TL r → r.length < n → TL (psL g n q r left).2.1 ∧ (psL g n q r left).2.1.length < g.length
  | 0, q, r, left, hr, h => by omega
  | n + 1, q, r, left, hr, h => by
    simp only [psL]
    by_cases h1 : g.length ≤ r.length
    · rw [if_pos h1]
      exact psL_done hg hg0 n _ _ _ (subL_TL _ _) (by have := ps_len hg hg0 hr h1; omega)
    · rw [if_neg h1]; exact ⟨hr, by dsimp only; omega⟩
theorem pseudo_TL {f g : List Int} (hf : TL f) (hg : TL g) (hg0 : g ≠ []) : TL (pseudo f g).2 := by
  unfold pseudo
  have h := psL_done hg hg0 (f.length + 1) [] f ((f.length : Int) - g.length + 1) hf (by omega)
  generalize psL g (f.length + 1) [] f ((f.length : Int) - g.length + 1) = x at h
  obtain ⟨q, r, left⟩ := x
  dsimp only at h ⊢
  split
  · exact scl_TL _ _
  · exact h.1
theorem pseudo_len {f g : List Int} (hf : TL f) (hg : TL g) (hg0 : g ≠ []) : (pseudo f g).2.length < g.length := by
  unfold pseudo
  have h := psL_done hg hg0 (f.length + 1) [] f ((f.length : Int) - g.length + 1) hf (by omega)
  generalize psL g (f.length + 1) [] f ((f.length : Int) - g.length + 1) = x at h
  obtain ⟨q, r, left⟩ := x
  dsimp only at h ⊢
  split
  · have := scl_len (lc g ^ left.toNat) r
    dsimp only
    omega
  · exact h.2
/-- how the coefficients grow -/
theorem psL_PB {g : List Int} {k : Nat} (hk : PB k g) : ∀ (n : Nat) (q r : List Int) (left : Int) (j : Nat), PB j r → PB j q → ∃ m : Nat, (left - (psL g n q r left).2.2 = m) ∧ PB (j + m * (k + 2)) (psL g n q r left).2.1 ∧ PB (j + m * (k + 2)) (psL g n q r left).1
  | 0, q, r, left, j, hr, hq => ⟨0, by simp [psL], by simpa [psL] using hr, by simpa [psL] using hq⟩
  | n + 1, q, r, left, j, hr, hq => by
    simp only [psL]
    by_cases h1 : g.length ≤ r.length
    · rw [if_pos h1]
      have hr' : PB (j + (k + 2)) (subL (scl (lc g) r) (shf (lc r) (r.length - g.length) g)) :=
        (PB.scl (m := j + k) hk.lc hr (by omega)).sub (PB.shf (m := j + k) hr.lc hk (by omega)) (by omega)
      have hq' : PB (j + (k + 2)) (addL (scl (lc g) q) (shf (lc r) (r.length - g.length) [1])) :=
        (PB.scl (m := j + k) hk.lc hq (by omega)).add (PB.shf (k := 1) (m := j + 1) hr.lc (fun c hc => by simp at hc; subst hc; constructor <;> decide) (by omega)) (by omega)
      obtain ⟨m, h2, h3, h4⟩ := psL_PB hk n _ _ (left - 1) _ hr' hq'
      have e : j + (k + 2) + m * (k + 2) = j + (m + 1) * (k + 2) := by rw [Nat.add_mul]; omega
      rw [e] at h3 h4
      exact ⟨m + 1, by omega, h3, h4⟩
    · rw [if_neg h1]; exact ⟨0, by simp, by simpa using hr, by simpa using hq⟩
theorem psL_left {g : List Int} (hg : TL g) (hg0 : g ≠ []) : ∀ (n : Nat) (q r : List Int) (left : Int), TL r → (r.length : Int) - g.length + 1 ≤ left → 0 ≤ left ∨ (r.length < g.length) → (0 ≤ (psL g n q r left).2.2 ∨ (psL g n q r left).2.2 = left) ∧ (psL g n q r left).2.2 ≤ left
  | 0, q, r, left, hr, h, h0 => by simp [psL]
  | n + 1, q, r, left, hr, h, h0 => by
    simp only [psL]
    by_cases h1 : g.length ≤ r.length
    · rw [if_pos h1]
      have hl := ps_len hg hg0 hr h1
      have := psL_left hg hg0 n (addL (scl (lc g) q) (shf (lc r) (r.length - g.length) [1])) (subL (scl (lc g) r) (shf (lc r) (r.length - g.length) g)) (left - 1) (subL_TL _ _) (by omega) (by omega)
      omega
    · rw [if_neg h1]; simp
theorem Bd.pow' {k : Nat} {c : Int} (h : Bd k (ab c)) (n : Nat) : Bd (k * n + 1) (ab (c ^ n)) := by rw [ab_pow]; exact h.pow n
theorem pseudo_PB {f g : List Int} (hf : TL f) (hg : TL g) (hg0 : g ≠ []) {j k : Nat} (hj : PB j f) (hk : PB k g) : PB (j + ((f.length : Int) - g.length + 1).toNat * (k + 2) + 1) (pseudo f g).2 ∧ PB (j + ((f.length : Int) - g.length + 1).toNat * (k + 2) + 1) (pseudo f g).1 := by
  unfold pseudo
  obtain ⟨m, h1, h2, h3⟩ := psL_PB hk (f.length + 1) [] f ((f.length : Int) - g.length + 1) j hj (.nil _)
  have h4 := psL_left hg hg0 (f.length + 1) [] f ((f.length : Int) - g.length + 1) hf (by omega) (by omega)
  generalize psL g (f.length + 1) [] f ((f.length : Int) - g.length + 1) = x at *
  obtain ⟨q, r, left⟩ := x
  dsimp only at *
  split
  · rename_i hl
    have e : ((f.length : Int) - g.length + 1).toNat = m + left.toNat := by omega
    rw [e, Nat.add_mul]
    have hb := Bd.pow' hk.lc left.toNat
    have hm : k * left.toNat ≤ left.toNat * (k + 2) := by rw [Nat.mul_comm]; exact Nat.mul_le_mul_left _ (by omega)
    exact ⟨PB.scl hb h2 (by omega), PB.scl hb h3 (by omega)⟩
  · have e : m ≤ ((f.length : Int) - g.length + 1).toNat := by omega
    have hm : m * (k + 2) ≤ ((f.length : Int) - g.length + 1).toNat * (k + 2) := Nat.mul_le_mul_right _ e
    exact ⟨h2.mono (by omega), h3.mono (by omega)⟩
theorem gcdL_nonneg : ∀ l : List Int, 0 ≤ gcdL l
  | [] => Int.le_refl _
  | c :: l => by simp only [gcdL]; omega
theorem gcdL_dvd : ∀ {l : List Int} {c : Int}, c ∈ l → gcdL l ∣ c
  | x :: l, c, h => by
    simp only [gcdL]
    rcases List.mem_cons.1 h with rfl | h
    · exact Int.gcd_dvd_left ..
    · exact Int.dvd_trans (Int.gcd_dvd_right ..) (gcdL_dvd h)
theorem gcdL_get (l : List Int) (i : Nat) : gcdL l ∣ l.getD i 0 := by
  by_cases h : i < l.length
  · exact gcdL_dvd (getD_mem h)
  · rw [getD_out (by omega)]; exact Int.dvd_zero _
theorem gcdL_zero : ∀ {l : List Int}, gcdL l = 0 ↔ ∀ i, l.getD i 0 = 0
  | [] => by simp [gcdL]
  | c :: l => by
    simp only [gcdL]
    constructor
    · intro h
      have h := Int.gcd_eq_zero_iff.1 (by omega : Int.gcd c (gcdL l) = 0)
      intro i
      cases i with
      | zero => simpa using h.1
      | succ i => have := (gcdL_zero (l := l)).1 h.2 i; simpa using this
    · intro h
      have h0 : c = 0 := by simpa using h 0
      have h1 : gcdL l = 0 := gcdL_zero.2 fun i => by simpa using h (i + 1)
      rw [h0, h1]; rfl
theorem redL_get (l : List Int) (i : Nat) : (redL l).getD i 0 = Int.tdiv (l.getD i 0) (gcdL l) := by
  unfold redL
  rw [map_get (f := fun c => Int.tdiv c (gcdL l)) (Int.zero_tdiv _), trimL_get]
theorem redL_len (l : List Int) : (redL l).length = (trimL l).length := by simp [redL]
theorem redL_mul (l : List Int) (i : Nat) : (redL l).getD i 0 * gcdL l = l.getD i 0 := by
  rw [redL_get]; exact Int.tdiv_mul_cancel (gcdL_get l i)
theorem redL_TL (l : List Int) : TL (redL l) := by
  refine TL.of_last fun h => ?_
  have h1 : trimL l ≠ [] := by
    intro e; apply h
    apply List.eq_nil_of_length_eq_zero
    rw [redL_len, e]; rfl
  intro e
  have := redL_mul l ((redL l).length - 1)
  rw [e, Int.zero_mul, redL_len, ← trimL_get] at this
  exact (trimL_tl l).last h1 this.symm
theorem redL_nil {l : List Int} : redL l = [] ↔ trimL l = [] := by
  constructor
  · intro h; apply List.eq_nil_of_length_eq_zero; rw [← redL_len, h]; rfl
  · intro h; apply List.eq_nil_of_length_eq_zero; rw [redL_len, h]; rfl
theorem redL_PB {k : Nat} {l : List Int} (h : PB k l) : PB k (redL l) := .of fun i => by
  rw [redL_get]
  refine (h.get i).le (ab_nonneg _) ?_
  rw [ab_eq, ab_eq]
  have := Int.natAbs_tdiv_le_natAbs (l.getD i 0) (gcdL l)
  omega
theorem gcdL_Bd {k : Nat} {l : List Int} (h : PB k l) : Bd k (gcdL l) := by
  by_cases h0 : gcdL l = 0
  · rw [h0]; exact Bd.zero k
  · have : ¬ ∀ i, l.getD i 0 = 0 := fun h1 => h0 (gcdL_zero.2 h1)
    obtain ⟨i, hi⟩ := Classical.not_forall.1 this
    refine (h.get i).le (gcdL_nonneg _) ?_
    have hd := Int.le_of_dvd (b := ab (l.getD i 0)) (by rw [ab_eq]; omega) (by rw [ab_eq]; exact Int.dvd_natAbs.2 (gcdL_get l i))
    exact hd
end Go.W

set_option linter.unusedVariables false
set_option linter.unusedSimpArgs false
namespace Go.W

/-! ### exact division by a constant -/
theorem nrm_TL {a b : List Int} : TL (nrm a b) := by
  unfold nrm; split
  · exact redL_TL _
  · exact subL_TL _ _
theorem nrm_len {a b : List Int} (ha : TL a) (hb : TL b) (h0 : b ≠ []) : (nrm a b).length < b.length := by
  have h1 := pseudo_len ha hb h0
  have h2 := pseudo_TL ha hb h0
  unfold nrm
  split
  · rw [redL_len, h2]; exact h1
  · rw [neg_len (redL_TL _), redL_len, h2]; exact h1
theorem nrm_PB {a b : List Int} (ha : TL a) (hb : TL b) (h0 : b ≠ []) {j k : Nat} (hj : PB j a) (hk : PB k b) : PB (j + ((a.length : Int) - b.length + 1).toNat * (k + 2) + 1) (nrm a b) := by
  have h := (pseudo_PB ha hb h0 hj hk).1
  unfold nrm
  split
  · exact redL_PB h
  · exact (redL_PB h).neg
theorem four_pow : ∀ d : Nat, 1 ≤ d → d + 3 ≤ 4 ^ d
  | 1, _ => by decide
  | d + 2, _ => by
    have := four_pow (d + 1) (by omega)
    rw [Nat.pow_succ]; omega
/-- a state of the chain: X bounds what is to come -/
structure CS (X : Nat) (a b : List Int) (K : Nat) : Prop where
  ta : TL a
  tb : TL b
  la : a.length ≤ 14
  lt : b.length < a.length
  pa : PB K a
  pb : PB K b
  pot : (K + 2) * 4 ^ a.length ≤ X
theorem CS.next {X K : Nat} {a b : List Int} (h : CS X a b K) (h0 : b ≠ []) : ∃ K', CS X b (nrm a b) K' ∧ PB K' (pseudo a b).2 := by
  have hl := nrm_len h.ta h.tb h0
  have hp := nrm_PB h.ta h.tb h0 h.pa h.pb
  have hq := (pseudo_PB h.ta h.tb h0 h.pa h.pb).1
  obtain ⟨d, hd⟩ : ∃ d, a.length = b.length + (d + 1) := ⟨a.length - b.length - 1, by have := h.lt; omega⟩
  have e : ((a.length : Int) - b.length + 1).toNat = d + 2 := by omega
  rw [e] at hp hq
  have hlt := h.lt
  have hla := h.la
  refine ⟨K + (d + 2) * (K + 2) + 1, ⟨h.tb, nrm_TL, by omega, hl, h.pb.mono (by omega), hp, Nat.le_trans ?_ h.pot⟩, hq⟩
  rw [hd, Nat.pow_add 4 b.length (d + 1)]
  have h4 := four_pow (d + 1) (by omega)
  have h5 : K + (d + 2) * (K + 2) + 1 + 2 ≤ (d + 4) * (K + 2) := by
    have : (d + 4) * (K + 2) = (d + 2) * (K + 2) + 2 * (K + 2) := by rw [← Nat.add_mul]
    omega
  have h6 : (d + 4) * (K + 2) ≤ 4 ^ (d + 1) * (K + 2) := Nat.mul_le_mul_right _ h4
  calc (K + (d + 2) * (K + 2) + 1 + 2) * 4 ^ b.length ≤ (4 ^ (d + 1) * (K + 2)) * 4 ^ b.length := Nat.mul_le_mul_right _ (Nat.le_trans h5 h6)
    _ = (K + 2) * (4 ^ b.length * 4 ^ (d + 1)) := by rw [Nat.mul_comm (4 ^ (d + 1)) (K + 2), Nat.mul_assoc, Nat.mul_comm (4 ^ (d + 1))]
theorem CS.K {X K : Nat} {a b : List Int} (h : CS X a b K) : (K + 2) * 4 ≤ X := by
  have h1 : 1 ≤ a.length := by have := h.lt; omega
  have h2 : 4 ^ 1 ≤ 4 ^ a.length := Nat.pow_le_pow_right (by decide) h1
  exact Nat.le_trans (Nat.mul_le_mul_left _ h2) h.pot
def XC : Nat := 100000000000
/-- the first step: whatever the degrees -/
theorem CS.first {a b : List Int} (ha : TL a) (hb : TL b) (h0 : b ≠ []) (la : a.length ≤ 14) (lb : b.length ≤ 14) (pa : PB 100 a) (pb : PB 100 b) : ∃ K, CS XC b (nrm a b) K ∧ PB K (pseudo a b).2 := by
  have hl := nrm_len ha hb h0
  have hp := nrm_PB ha hb h0 pa pb
  have hq := (pseudo_PB ha hb h0 pa pb).1
  have e : ((a.length : Int) - b.length + 1).toNat * (100 + 2) ≤ (15 - b.length) * 102 := Nat.mul_le_mul_right _ (by omega)
  have hp2 := hp.mono (k := 101 + (15 - b.length) * 102) (by omega)
  have hb1 : 1 ≤ b.length := List.length_pos_iff.2 h0
  refine ⟨101 + (15 - b.length) * 102, ⟨hb, nrm_TL, lb, hl, pb.mono (by omega), hp2, ?_⟩, hq.mono (by omega)⟩
  unfold XC
  have hb14 : b.length = 1 ∨ b.length = 2 ∨ b.length = 3 ∨ b.length = 4 ∨ b.length = 5 ∨ b.length = 6 ∨ b.length = 7 ∨ b.length = 8 ∨ b.length = 9 ∨ b.length = 10 ∨ b.length = 11 ∨ b.length = 12 ∨ b.length = 13 ∨ b.length = 14 := by omega
  rcases hb14 with h | h | h | h | h | h | h | h | h | h | h | h | h | h <;> rw [h] <;> decide
/-- room for a division in a chain -/
theorem CS.db {K : Nat} {a b : List Int} (h : CS XC a b K) : K + 16 * (K + 4) ≤ 900000000000 ∧ K ≤ KP := by
  have := h.K
  unfold XC at this
  unfold KP
  omega
end Go.W

set_option linter.unusedVariables false
namespace Go.W
noncomputable section

/-! cylinder/unipoly.trim -/
def T_unipoly_trim (s9 : (List (Bool × List Int)) → Int → Option ((List (Bool × List Int)))) (a0 : List (Bool × List Int)) : Option (List (Bool × List Int)) :=
  s9 a0 (List.length a0 : Int)
def S_unipoly_trim_9 (s9 : (List (Bool × List Int)) → Int → Option ((List (Bool × List Int)))) (x0 : List (Bool × List Int)) (x3 : Int) : Option (List (Bool × List Int)) :=
  if (decide (x3 > (0 : Int))) = true then
    if 0 ≤ (IntKind.wrap .i64 (x3 - (1 : Int))) ∧ (IntKind.wrap .i64 (x3 - (1 : Int))) < (List.length x0 : Int) then
      let v1 : List Int := (List.getD x0 (Int.toNat (IntKind.wrap .i64 (x3 - (1 : Int)))) (false, ([] : List Int))).2
      (F_natural_IsZero v1).bind fun r2 =>
      if r2 = true then
        s9 x0 (IntKind.wrap .i64 (x3 - (1 : Int)))
      else
        if (x3 == (0 : Int)) = true then
          some (([] : List (Bool × List Int)))
        else
          if 0 ≤ x3 ∧ x3 ≤ (List.length x0 : Int) then
            some ((List.take (Int.toNat x3) x0))
          else none
    else none
  else
    if (x3 == (0 : Int)) = true then
      some (([] : List (Bool × List Int)))
    else
      if 0 ≤ x3 ∧ x3 ≤ (List.length x0 : Int) then
        some ((List.take (Int.toNat x3) x0))
      else none
def Run_unipoly_trim : Prop := ∀ s9 : Nat → (List (Bool × List Int)) → Int → Option ((List (Bool × List Int))), (∀ m x0 x3, s9 (m + 1) x0 x3 = S_unipoly_trim_9 (s9 m) x0 x3) → ∀ a0 : List (Bool × List Int), Ok (F_unipoly_trim a0) (fun m => T_unipoly_trim (s9 m) a0)

/-! cylinder/unipoly.trim -/
def To_unipoly_trim (s9 : Int → (List (Bool × List Int)) → Option (((List (Bool × List Int)) × (Option Int)))) (l : List (Bool × List Int)) : Option ((List (Bool × List Int)) × (Option Int)) :=
  s9 (List.length l : Int) l
def So_unipoly_trim_9 (s9 : Int → (List (Bool × List Int)) → Option (((List (Bool × List Int)) × (Option Int)))) (x3 : Int) (x0 : List (Bool × List Int)) : Option ((List (Bool × List Int)) × (Option Int)) :=
  if (decide (x3 > (0 : Int))) = true then
    if 0 ≤ (IntKind.wrap .i64 (x3 - (1 : Int))) ∧ (IntKind.wrap .i64 (x3 - (1 : Int))) < (List.length x0 : Int) then
      let v1 : List Int := (List.getD x0 (Int.toNat (IntKind.wrap .i64 (x3 - (1 : Int)))) (false, ([] : List Int))).2
      (F_natural_IsZero v1).bind fun r2 =>
      if r2 = true then
        s9 (IntKind.wrap .i64 (x3 - (1 : Int))) x0
      else
        if (x3 == (0 : Int)) = true then
          some (x0, none)
        else
          if 0 ≤ x3 ∧ x3 ≤ (List.length x0 : Int) then
            some (x0, some (x3))
          else none
    else none
  else
    if (x3 == (0 : Int)) = true then
      some (x0, none)
    else
      if 0 ≤ x3 ∧ x3 ≤ (List.length x0 : Int) then
        some (x0, some (x3))
      else none
def Runo_unipoly_trim : Prop := ∀ s9 : Nat → Int → (List (Bool × List Int)) → Option (((List (Bool × List Int)) × (Option Int))), (∀ m x3 x0, s9 (m + 1) x3 x0 = So_unipoly_trim_9 (s9 m) x3 x0) → ∀ l : List (Bool × List Int), Ok (O_unipoly_trim l) (fun m => To_unipoly_trim (s9 m) l)

/-! cylinder/unipoly.Degree -/
def T_unipoly_Degree (a0 : List (Bool × List Int)) : Option Int :=
  (F_unipoly_trim a0).bind fun r1 =>
  some ((IntKind.wrap .i64 ((List.length r1 : Int) - (1 : Int))))
def Run_unipoly_Degree : Prop := ∀ a0 : List (Bool × List Int), Ok (F_unipoly_Degree a0) (fun _ => T_unipoly_Degree a0)

/-! cylinder/unipoly.Lead -/
def T_unipoly_Lead (a0 : List (Bool × List Int)) : Option (Bool × List Int) :=
  (F_unipoly_trim a0).bind fun r1 =>
  if ((List.length r1 : Int) == (0 : Int)) = true then
    some ((false, ([] : List Int)))
  else
    if 0 ≤ (IntKind.wrap .i64 ((List.length r1 : Int) - (1 : Int))) ∧ (IntKind.wrap .i64 ((List.length r1 : Int) - (1 : Int))) < (List.length r1 : Int) then
      let v2 : Bool × List Int := (List.getD r1 (Int.toNat (IntKind.wrap .i64 ((List.length r1 : Int) - (1 : Int)))) (false, ([] : List Int)))
      (F_integer_Normal v2).bind fun r3 =>
      some r3
    else none
def Run_unipoly_Lead : Prop := ∀ a0 : List (Bool × List Int), Ok (F_unipoly_Lead a0) (fun _ => T_unipoly_Lead a0)

/-! cylinder/unipoly.SignEnd -/
def T_sturm_changes (s13 : Int → Int → List Int → Int → Int → Option Int) (a0 : List Int) : Option Int :=
  s13 (0 : Int) (0 : Int) a0 (List.length a0 : Int) (0 : Int)
def S_sturm_changes_13 (s13 : Int → Int → List Int → Int → Int → Option Int) (x3 : Int) (x4 : Int) (x7 : List Int) (x8 : Int) (x9 : Int) : Option Int :=
  if (decide (x9 < x8)) = true then
    if 0 ≤ x9 ∧ x9 < (List.length x7 : Int) then
      let v1 : Bool := (decide ((IntKind.wrap .i64 ((List.getD x7 (Int.toNat x9) (0 : Int)) * x4)) < (0 : Int)))
      if v1 = true then
        if ((List.getD x7 (Int.toNat x9) (0 : Int)) != (0 : Int)) = true then
          s13 (IntKind.wrap .i64 (x3 + (1 : Int))) (List.getD x7 (Int.toNat x9) (0 : Int)) x7 x8 (IntKind.wrap .i64 (x9 + (1 : Int)))
        else
          s13 (IntKind.wrap .i64 (x3 + (1 : Int))) x4 x7 x8 (IntKind.wrap .i64 (x9 + (1 : Int)))
      else
        if ((List.getD x7 (Int.toNat x9) (0 : Int)) != (0 : Int)) = true then
          s13 x3 (List.getD x7 (Int.toNat x9) (0 : Int)) x7 x8 (IntKind.wrap .i64 (x9 + (1 : Int)))
        else
          s13 x3 x4 x7 x8 (IntKind.wrap .i64 (x9 + (1 : Int)))
    else none
  else
    some x3
def Run_sturm_changes : Prop := ∀ s13 : Nat → Int → Int → List Int → Int → Int → Option Int, (∀ m x3 x4 x7 x8 x9, s13 (m + 1) x3 x4 x7 x8 x9 = S_sturm_changes_13 (s13 m) x3 x4 x7 x8 x9) → ∀ a0 : List Int, Ok (F_sturm_changes a0) (fun m => T_sturm_changes (s13 m) a0)

/-! cylinder/sturm.VariationsEnd -/
def T_unidiv_Content (s13 : (List (Bool × List Int)) → Int → Int → (Bool × List Int) → (Bool × List Int) → Option ((Bool × List Int))) (a0 : List (Bool × List Int)) : Option (Bool × List Int) :=
  s13 a0 (List.length a0 : Int) (0 : Int) (false, ([] : List Int)) (false, ([] : List Int))
def S_unidiv_Content_13 (s13 : (List (Bool × List Int)) → Int → Int → (Bool × List Int) → (Bool × List Int) → Option ((Bool × List Int))) (x7 : List (Bool × List Int)) (x8 : Int) (x9 : Int) (x2 : Bool × List Int) (x3 : Bool × List Int) : Option (Bool × List Int) :=
  if (decide (x9 < x8)) = true then
    if 0 ≤ x9 ∧ x9 < (List.length x7 : Int) then
      (F_division_Gcd x3 (List.getD x7 (Int.toNat x9) (false, ([] : List Int)))).bind fun r1 =>
      s13 x7 x8 (IntKind.wrap .i64 (x9 + (1 : Int))) x2 r1
    else none
  else
    some x3
def Run_unidiv_Content : Prop := ∀ s13 : Nat → (List (Bool × List Int)) → Int → Int → (Bool × List Int) → (Bool × List Int) → Option ((Bool × List Int)), (∀ m x7 x8 x9 x2 x3, s13 (m + 1) x7 x8 x9 x2 x3 = S_unidiv_Content_13 (s13 m) x7 x8 x9 x2 x3) → ∀ a0 : List (Bool × List Int), Ok (F_unidiv_Content a0) (fun m => T_unidiv_Content (s13 m) a0)

/-! cylinder/unipoly.Normal -/
def T_unipoly_Normal (s13 : (List (Bool × List Int)) → Int → Int → (List (Bool × List Int)) → Option ((List (Bool × List Int)))) (a0 : List (Bool × List Int)) : Option (List (Bool × List Int)) :=
  (F_unipoly_trim a0).bind fun r1 =>
  if 0 ≤ (List.length r1 : Int) ∧ (List.length r1 : Int) ≤ ((70368744177664 / 32 : Nat) : Int) then
    let v2 : List (Bool × List Int) := (List.replicate (Int.toNat (List.length r1 : Int)) (false, ([] : List Int)))
    s13 a0 (List.length v2 : Int) (0 : Int) v2
  else none
def S_unipoly_Normal_13 (s13 : (List (Bool × List Int)) → Int → Int → (List (Bool × List Int)) → Option ((List (Bool × List Int)))) (x0 : List (Bool × List Int)) (x10 : Int) (x11 : Int) (x3 : List (Bool × List Int)) : Option (List (Bool × List Int)) :=
  if (decide (x11 < x10)) = true then
    if 0 ≤ x11 ∧ x11 < (List.length x0 : Int) then
      (F_integer_Normal (List.getD x0 (Int.toNat x11) (false, ([] : List Int)))).bind fun r1 =>
      if 0 ≤ x11 ∧ x11 < (List.length x3 : Int) then
        s13 x0 x10 (IntKind.wrap .i64 (x11 + (1 : Int))) (List.set x3 (Int.toNat x11) r1)
      else none
    else none
  else
    (O_unipoly_trim x3).bind fun r2 =>
    if Go.W.sameLen false (.pair (.bool) (.slice (.int .u32))) x3 r2.1 then
      Go.W.optE r2.2 (
        some (([] : List (Bool × List Int)))) fun n3 =>
        some ((List.take (Int.toNat n3) r2.1))
    else none
def Run_unipoly_Normal : Prop := ∀ s13 : Nat → (List (Bool × List Int)) → Int → Int → (List (Bool × List Int)) → Option ((List (Bool × List Int))), (∀ m x0 x10 x11 x3, s13 (m + 1) x0 x10 x11 x3 = S_unipoly_Normal_13 (s13 m) x0 x10 x11 x3) → ∀ a0 : List (Bool × List Int), Ok (F_unipoly_Normal a0) (fun m => T_unipoly_Normal (s13 m) a0)

/-! cylinder/sturm.reduced -/
def T_sturm_reduced (s25 : (List (Bool × List Int)) → Int → Int → (Bool × List Int) → (List (Bool × List Int)) → Option ((List (Bool × List Int)))) (a0 : List (Bool × List Int)) : Option (List (Bool × List Int)) :=
  (F_unidiv_Content a0).bind fun r1 =>
  (F_integer_Sign r1).bind fun r2 =>
  if (r2 == (0 : Int)) = true then
    some (([] : List (Bool × List Int)))
  else
    if 0 ≤ (List.length a0 : Int) ∧ (List.length a0 : Int) ≤ ((70368744177664 / 32 : Nat) : Int) then
      let v3 : List (Bool × List Int) := (List.replicate (Int.toNat (List.length a0 : Int)) (false, ([] : List Int)))
      s25 a0 (List.length a0 : Int) (0 : Int) r1 v3
    else none
def S_sturm_reduced_25 (s25 : (List (Bool × List Int)) → Int → Int → (Bool × List Int) → (List (Bool × List Int)) → Option ((List (Bool × List Int)))) (x0 : List (Bool × List Int)) (x15 : Int) (x16 : Int) (x3 : Bool × List Int) (x4 : List (Bool × List Int)) : Option (List (Bool × List Int)) :=
  if (decide (x16 < x15)) = true then
    if 0 ≤ x16 ∧ x16 < (List.length x0 : Int) then
      (F_division_Exact (List.getD x0 (Int.toNat x16) (false, ([] : List Int))) x3).bind fun r1 =>
      if 0 ≤ x16 ∧ x16 < (List.length x4 : Int) then
        s25 x0 x15 (IntKind.wrap .i64 (x16 + (1 : Int))) x3 (List.set x4 (Int.toNat x16) r1.1)
      else none
    else none
  else
    (F_unipoly_Normal x4).bind fun r2 =>
    some r2
def Run_sturm_reduced : Prop := ∀ s25 : Nat → (List (Bool × List Int)) → Int → Int → (Bool × List Int) → (List (Bool × List Int)) → Option ((List (Bool × List Int))), (∀ m x0 x15 x16 x3 x4, s25 (m + 1) x0 x15 x16 x3 x4 = S_sturm_reduced_25 (s25 m) x0 x15 x16 x3 x4) → ∀ a0 : List (Bool × List Int), Ok (F_sturm_reduced a0) (fun m => T_sturm_reduced (s25 m) a0)

/-! cylinder/unipoly.Of -/
def T_unipoly_Of (s13 : List Int → Int → Int → (List (Bool × List Int)) → Option ((List (Bool × List Int)))) (a0 : List Int) : Option (List (Bool × List Int)) :=
  if 0 ≤ (List.length a0 : Int) ∧ (List.length a0 : Int) ≤ ((70368744177664 / 32 : Nat) : Int) then
    let v1 : List (Bool × List Int) := (List.replicate (Int.toNat (List.length a0 : Int)) (false, ([] : List Int)))
    s13 a0 (List.length a0 : Int) (0 : Int) v1
  else none
def S_unipoly_Of_13 (s13 : List Int → Int → Int → (List (Bool × List Int)) → Option ((List (Bool × List Int)))) (x9 : List Int) (x10 : Int) (x11 : Int) (x3 : List (Bool × List Int)) : Option (List (Bool × List Int)) :=
  if (decide (x11 < x10)) = true then
    if 0 ≤ x11 ∧ x11 < (List.length x9 : Int) then
      (F_integer_Of (List.getD x9 (Int.toNat x11) (0 : Int))).bind fun r1 =>
      if 0 ≤ x11 ∧ x11 < (List.length x3 : Int) then
        s13 x9 x10 (IntKind.wrap .i64 (x11 + (1 : Int))) (List.set x3 (Int.toNat x11) r1)
      else none
    else none
  else
    (O_unipoly_trim x3).bind fun r2 =>
    if Go.W.sameLen false (.pair (.bool) (.slice (.int .u32))) x3 r2.1 then
      Go.W.optE r2.2 (
        some (([] : List (Bool × List Int)))) fun n3 =>
        some ((List.take (Int.toNat n3) (List.drop (Int.toNat (0 : Int)) r2.1)))
    else none
def Run_unipoly_Of : Prop := ∀ s13 : Nat → List Int → Int → Int → (List (Bool × List Int)) → Option ((List (Bool × List Int))), (∀ m x9 x10 x11 x3, s13 (m + 1) x9 x10 x11 x3 = S_unipoly_Of_13 (s13 m) x9 x10 x11 x3) → ∀ a0 : List Int, Ok (F_unipoly_Of a0) (fun m => T_unipoly_Of (s13 m) a0)

/-! cylinder/unidiv.zero -/
def T_unidiv_zero (a0 : List (Bool × List Int)) : Option Bool :=
  (F_unipoly_Degree a0).bind fun r1 =>
  some ((decide (r1 < (0 : Int))))
def Run_unidiv_zero : Prop := ∀ a0 : List (Bool × List Int), Ok (F_unidiv_zero a0) (fun _ => T_unidiv_zero a0)

/-! cylinder/unipoly.combine[cylinder/unipoly.Poly,cylinder/integer.Int] -/
def T_unipoly_combine_Add (s17 : (List (Bool × List Int)) → (List (Bool × List Int)) → Unit → Int → Int → (List (Bool × List Int)) → (Bool × List Int) → Option ((List (Bool × List Int)))) (s36 : (List (Bool × List Int)) → (List (Bool × List Int)) → Unit → Int → Int → Int → (List (Bool × List Int)) → (Bool × List Int) → (Bool × List Int) → (Bool × List Int) → Option ((List (Bool × List Int)))) (a0 : List (Bool × List Int)) (a1 : List (Bool × List Int)) (a2 : Unit) : Option (List (Bool × List Int)) :=
  let v1 : Int := (if (List.length a1 : Int) > (List.length a0 : Int) then (List.length a1 : Int) else (List.length a0 : Int))
  if 0 ≤ v1 ∧ v1 ≤ ((70368744177664 / 32 : Nat) : Int) then
    let v2 : Int := (List.length (List.replicate (Int.toNat v1) (false, ([] : List Int))) : Int)
    s17 a0 a1 a2 v2 (0 : Int) (List.replicate (Int.toNat v1) (false, ([] : List Int))) (false, ([] : List Int))
  else none
def S_unipoly_combine_Add_17 (s17 : (List (Bool × List Int)) → (List (Bool × List Int)) → Unit → Int → Int → (List (Bool × List Int)) → (Bool × List Int) → Option ((List (Bool × List Int)))) (s36 : (List (Bool × List Int)) → (List (Bool × List Int)) → Unit → Int → Int → Int → (List (Bool × List Int)) → (Bool × List Int) → (Bool × List Int) → (Bool × List Int) → Option ((List (Bool × List Int)))) (x0 : List (Bool × List Int)) (x1 : List (Bool × List Int)) (x2 : Unit) (x19 : Int) (x20 : Int) (x7 : List (Bool × List Int)) (x8 : Bool × List Int) : Option (List (Bool × List Int)) :=
  if (decide (x20 < x19)) = true then
    if (decide (x20 < (List.length x0 : Int))) = true then
      if 0 ≤ x20 ∧ x20 < (List.length x0 : Int) then
        s36 x0 x1 x2 x20 x19 x20 x7 x8 (List.getD x0 (Int.toNat x20) (false, ([] : List Int))) x8
      else none
    else
      s36 x0 x1 x2 x20 x19 x20 x7 x8 x8 x8
  else
    some x7
def S_unipoly_combine_Add_36 (s17 : (List (Bool × List Int)) → (List (Bool × List Int)) → Unit → Int → Int → (List (Bool × List Int)) → (Bool × List Int) → Option ((List (Bool × List Int)))) (s36 : (List (Bool × List Int)) → (List (Bool × List Int)) → Unit → Int → Int → Int → (List (Bool × List Int)) → (Bool × List Int) → (Bool × List Int) → (Bool × List Int) → Option ((List (Bool × List Int)))) (x0 : List (Bool × List Int)) (x1 : List (Bool × List Int)) (x2 : Unit) (x9 : Int) (x19 : Int) (x20 : Int) (x7 : List (Bool × List Int)) (x8 : Bool × List Int) (x10 : Bool × List Int) (x11 : Bool × List Int) : Option (List (Bool × List Int)) :=
  if (decide (x9 < (List.length x1 : Int))) = true then
    if 0 ≤ x9 ∧ x9 < (List.length x1 : Int) then
      (F_integer_Add x10 (List.getD x1 (Int.toNat x9) (false, ([] : List Int)))).bind fun r1 =>
      if 0 ≤ x9 ∧ x9 < (List.length x7 : Int) then
        s17 x0 x1 x2 x19 (IntKind.wrap .i64 (x20 + (1 : Int))) (List.set x7 (Int.toNat x9) r1) x8
      else none
    else none
  else
    (F_integer_Add x10 x11).bind fun r2 =>
    if 0 ≤ x9 ∧ x9 < (List.length x7 : Int) then
      s17 x0 x1 x2 x19 (IntKind.wrap .i64 (x20 + (1 : Int))) (List.set x7 (Int.toNat x9) r2) x8
    else none
def Run_unipoly_combine_Add : Prop := ∀ s17 : Nat → (List (Bool × List Int)) → (List (Bool × List Int)) → Unit → Int → Int → (List (Bool × List Int)) → (Bool × List Int) → Option ((List (Bool × List Int))), ∀ s36 : Nat → (List (Bool × List Int)) → (List (Bool × List Int)) → Unit → Int → Int → Int → (List (Bool × List Int)) → (Bool × List Int) → (Bool × List Int) → (Bool × List Int) → Option ((List (Bool × List Int))), (∀ m x0 x1 x2 x19 x20 x7 x8, s17 (m + 1) x0 x1 x2 x19 x20 x7 x8 = S_unipoly_combine_Add_17 (s17 m) (s36 m) x0 x1 x2 x19 x20 x7 x8) → (∀ m x0 x1 x2 x9 x19 x20 x7 x8 x10 x11, s36 (m + 1) x0 x1 x2 x9 x19 x20 x7 x8 x10 x11 = S_unipoly_combine_Add_36 (s17 m) (s36 m) x0 x1 x2 x9 x19 x20 x7 x8 x10 x11) → ∀ a0 : List (Bool × List Int), ∀ a1 : List (Bool × List Int), ∀ a2 : Unit, Ok (F_unipoly_combine_Add a0 a1 a2) (fun m => T_unipoly_combine_Add (s17 m) (s36 m) a0 a1 a2)

/-! cylinder/unipoly.Add -/
def T_unipoly_Add (a0 : List (Bool × List Int)) (a1 : List (Bool × List Int)) : Option (List (Bool × List Int)) :=
  (F_unipoly_combine_Add a0 a1 ()).bind fun r1 =>
  (F_unipoly_trim r1).bind fun r2 =>
  some r2
def Run_unipoly_Add : Prop := ∀ a0 : List (Bool × List Int), ∀ a1 : List (Bool × List Int), Ok (F_unipoly_Add a0 a1) (fun _ => T_unipoly_Add a0 a1)

/-! cylinder/unipoly.Scale -/
def T_unipoly_Scale (s13 : (List (Bool × List Int)) → Int → Int → (Bool × List Int) → (List (Bool × List Int)) → Option ((List (Bool × List Int)))) (a0 : List (Bool × List Int)) (a1 : Bool × List Int) : Option (List (Bool × List Int)) :=
  (F_unipoly_trim a0).bind fun r1 =>
  if 0 ≤ (List.length r1 : Int) ∧ (List.length r1 : Int) ≤ ((70368744177664 / 32 : Nat) : Int) then
    let v2 : List (Bool × List Int) := (List.replicate (Int.toNat (List.length r1 : Int)) (false, ([] : List Int)))
    s13 a0 (List.length v2 : Int) (0 : Int) a1 v2
  else none
def S_unipoly_Scale_13 (s13 : (List (Bool × List Int)) → Int → Int → (Bool × List Int) → (List (Bool × List Int)) → Option ((List (Bool × List Int)))) (x0 : List (Bool × List Int)) (x12 : Int) (x13 : Int) (x3 : Bool × List Int) (x5 : List (Bool × List Int)) : Option (List (Bool × List Int)) :=
  if (decide (x13 < x12)) = true then
    if 0 ≤ x13 ∧ x13 < (List.length x0 : Int) then
      (F_integer_Mul x3 (List.getD x0 (Int.toNat x13) (false, ([] : List Int)))).bind fun r1 =>
      if 0 ≤ x13 ∧ x13 < (List.length x5 : Int) then
        s13 x0 x12 (IntKind.wrap .i64 (x13 + (1 : Int))) x3 (List.set x5 (Int.toNat x13) r1)
      else none
    else none
  else
    (O_unipoly_trim x5).bind fun r2 =>
    if Go.W.sameLen false (.pair (.bool) (.slice (.int .u32))) x5 r2.1 then
      Go.W.optE r2.2 (
        some (([] : List (Bool × List Int)))) fun n3 =>
        some ((List.take (Int.toNat n3) (List.drop (Int.toNat (0 : Int)) r2.1)))
    else none
def Run_unipoly_Scale : Prop := ∀ s13 : Nat → (List (Bool × List Int)) → Int → Int → (Bool × List Int) → (List (Bool × List Int)) → Option ((List (Bool × List Int))), (∀ m x0 x12 x13 x3 x5, s13 (m + 1) x0 x12 x13 x3 x5 = S_unipoly_Scale_13 (s13 m) x0 x12 x13 x3 x5) → ∀ a0 : List (Bool × List Int), ∀ a1 : Bool × List Int, Ok (F_unipoly_Scale a0 a1) (fun m => T_unipoly_Scale (s13 m) a0 a1)

/-! cylinder/unidiv.shifted -/
def T_unidiv_shifted (a0 : List (Bool × List Int)) (a1 : Bool × List Int) (a2 : Int) : Option (List (Bool × List Int)) :=
  if 0 ≤ a2 ∧ a2 ≤ ((70368744177664 / 32 : Nat) : Int) then
    (F_unipoly_Scale a0 a1).bind fun r1 =>
    if List.length (List.replicate (Int.toNat a2) (false, ([] : List Int))) + List.length r1 ≤ 70368744177664 / 32 then
      some (((List.replicate (Int.toNat a2) (false, ([] : List Int))) ++ r1))
    else none
  else none
def Run_unidiv_shifted : Prop := ∀ a0 : List (Bool × List Int), ∀ a1 : Bool × List Int, ∀ a2 : Int, Ok (F_unidiv_shifted a0 a1 a2) (fun _ => T_unidiv_shifted a0 a1 a2)

/-! cylinder/unipoly.combine[cylinder/unipoly.Poly,cylinder/integer.Int] -/
def T_unipoly_combine_Sub (s17 : (List (Bool × List Int)) → (List (Bool × List Int)) → Unit → Int → Int → (List (Bool × List Int)) → (Bool × List Int) → Option ((List (Bool × List Int)))) (s36 : (List (Bool × List Int)) → (List (Bool × List Int)) → Unit → Int → Int → Int → (List (Bool × List Int)) → (Bool × List Int) → (Bool × List Int) → (Bool × List Int) → Option ((List (Bool × List Int)))) (a0 : List (Bool × List Int)) (a1 : List (Bool × List Int)) (a2 : Unit) : Option (List (Bool × List Int)) :=
  let v1 : Int := (if (List.length a1 : Int) > (List.length a0 : Int) then (List.length a1 : Int) else (List.length a0 : Int))
  if 0 ≤ v1 ∧ v1 ≤ ((70368744177664 / 32 : Nat) : Int) then
    let v2 : Int := (List.length (List.replicate (Int.toNat v1) (false, ([] : List Int))) : Int)
    s17 a0 a1 a2 v2 (0 : Int) (List.replicate (Int.toNat v1) (false, ([] : List Int))) (false, ([] : List Int))
  else none
def S_unipoly_combine_Sub_17 (s17 : (List (Bool × List Int)) → (List (Bool × List Int)) → Unit → Int → Int → (List (Bool × List Int)) → (Bool × List Int) → Option ((List (Bool × List Int)))) (s36 : (List (Bool × List Int)) → (List (Bool × List Int)) → Unit → Int → Int → Int → (List (Bool × List Int)) → (Bool × List Int) → (Bool × List Int) → (Bool × List Int) → Option ((List (Bool × List Int)))) (x0 : List (Bool × List Int)) (x1 : List (Bool × List Int)) (x2 : Unit) (x19 : Int) (x20 : Int) (x7 : List (Bool × List Int)) (x8 : Bool × List Int) : Option (List (Bool × List Int)) :=
  if (decide (x20 < x19)) = true then
    if (decide (x20 < (List.length x0 : Int))) = true then
      if 0 ≤ x20 ∧ x20 < (List.length x0 : Int) then
        s36 x0 x1 x2 x20 x19 x20 x7 x8 (List.getD x0 (Int.toNat x20) (false, ([] : List Int))) x8
      else none
    else
      s36 x0 x1 x2 x20 x19 x20 x7 x8 x8 x8
  else
    some x7
def S_unipoly_combine_Sub_36 (s17 : (List (Bool × List Int)) → (List (Bool × List Int)) → Unit → Int → Int → (List (Bool × List Int)) → (Bool × List Int) → Option ((List (Bool × List Int)))) (s36 : (List (Bool × List Int)) → (List (Bool × List Int)) → Unit → Int → Int → Int → (List (Bool × List Int)) → (Bool × List Int) → (Bool × List Int) → (Bool × List Int) → Option ((List (Bool × List Int)))) (x0 : List (Bool × List Int)) (x1 : List (Bool × List Int)) (x2 : Unit) (x9 : Int) (x19 : Int) (x20 : Int) (x7 : List (Bool × List Int)) (x8 : Bool × List Int) (x10 : Bool × List Int) (x11 : Bool × List Int) : Option (List (Bool × List Int)) :=
  if (decide (x9 < (List.length x1 : Int))) = true then
    if 0 ≤ x9 ∧ x9 < (List.length x1 : Int) then
      (F_integer_Sub x10 (List.getD x1 (Int.toNat x9) (false, ([] : List Int)))).bind fun r1 =>
      if 0 ≤ x9 ∧ x9 < (List.length x7 : Int) then
        s17 x0 x1 x2 x19 (IntKind.wrap .i64 (x20 + (1 : Int))) (List.set x7 (Int.toNat x9) r1) x8
      else none
    else none
  else
    (F_integer_Sub x10 x11).bind fun r2 =>
    if 0 ≤ x9 ∧ x9 < (List.length x7 : Int) then
      s17 x0 x1 x2 x19 (IntKind.wrap .i64 (x20 + (1 : Int))) (List.set x7 (Int.toNat x9) r2) x8
    else none
def Run_unipoly_combine_Sub : Prop := ∀ s17 : Nat → (List (Bool × List Int)) → (List (Bool × List Int)) → Unit → Int → Int → (List (Bool × List Int)) → (Bool × List Int) → Option ((List (Bool × List Int))), ∀ s36 : Nat → (List (Bool × List Int)) → (List (Bool × List Int)) → Unit → Int → Int → Int → (List (Bool × List Int)) → (Bool × List Int) → (Bool × List Int) → (Bool × List Int) → Option ((List (Bool × List Int))), (∀ m x0 x1 x2 x19 x20 x7 x8, s17 (m + 1) x0 x1 x2 x19 x20 x7 x8 = S_unipoly_combine_Sub_17 (s17 m) (s36 m) x0 x1 x2 x19 x20 x7 x8) → (∀ m x0 x1 x2 x9 x19 x20 x7 x8 x10 x11, s36 (m + 1) x0 x1 x2 x9 x19 x20 x7 x8 x10 x11 = S_unipoly_combine_Sub_36 (s17 m) (s36 m) x0 x1 x2 x9 x19 x20 x7 x8 x10 x11) → ∀ a0 : List (Bool × List Int), ∀ a1 : List (Bool × List Int), ∀ a2 : Unit, Ok (F_unipoly_combine_Sub a0 a1 a2) (fun m => T_unipoly_combine_Sub (s17 m) (s36 m) a0 a1 a2)

/-! cylinder/unipoly.Sub -/
def T_unipoly_Sub (a0 : List (Bool × List Int)) (a1 : List (Bool × List Int)) : Option (List (Bool × List Int)) :=
  (F_unipoly_combine_Sub a0 a1 ()).bind fun r1 =>
  (F_unipoly_trim r1).bind fun r2 =>
  some r2
def Run_unipoly_Sub : Prop := ∀ a0 : List (Bool × List Int), ∀ a1 : List (Bool × List Int), Ok (F_unipoly_Sub a0 a1) (fun _ => T_unipoly_Sub a0 a1)

/-! cylinder/unidiv.power -/
def T_unidiv_power (s13 : Int → Int → (Bool × List Int) → (Bool × List Int) → (Bool × List Int) → Option ((Bool × List Int))) (a0 : Bool × List Int) (a1 : Int) : Option (Bool × List Int) :=
  (F_integer_Of (1 : Int)).bind fun r1 =>
  s13 a1 (0 : Int) a0 (false, ([] : List Int)) r1
def S_unidiv_power_13 (s13 : Int → Int → (Bool × List Int) → (Bool × List Int) → (Bool × List Int) → Option ((Bool × List Int))) (x7 : Int) (x8 : Int) (x2 : Bool × List Int) (x4 : Bool × List Int) (x5 : Bool × List Int) : Option (Bool × List Int) :=
  if (decide (x8 < x7)) = true then
    (F_integer_Mul x5 x2).bind fun r1 =>
    s13 x7 (IntKind.wrap .i64 (x8 + (1 : Int))) x2 x4 r1
  else
    some x5
def Run_unidiv_power : Prop := ∀ s13 : Nat → Int → Int → (Bool × List Int) → (Bool × List Int) → (Bool × List Int) → Option ((Bool × List Int)), (∀ m x7 x8 x2 x4 x5, s13 (m + 1) x7 x8 x2 x4 x5 = S_unidiv_power_13 (s13 m) x7 x8 x2 x4 x5) → ∀ a0 : Bool × List Int, ∀ a1 : Int, Ok (F_unidiv_power a0 a1) (fun m => T_unidiv_power (s13 m) a0 a1)

/-! cylinder/unidiv.Pseudo -/
def T_unidiv_Pseudo (s25 : (List (Bool × List Int)) → (List (Bool × List Int)) → (List (Bool × List Int)) → Int → Int → (Bool × List Int) → Option ((List (Bool × List Int) × List (Bool × List Int) × Int))) (a0 : List (Bool × List Int)) (a1 : List (Bool × List Int)) : Option (List (Bool × List Int) × List (Bool × List Int) × Int) :=
  (F_unidiv_zero a1).bind fun r1 =>
  if r1 = true then
    some (([] : List (Bool × List Int)), ([] : List (Bool × List Int)), (2 : Int))
  else
    (F_unipoly_Normal a0).bind fun r2 =>
    (F_unipoly_Degree a1).bind fun r3 =>
    (F_unipoly_Lead a1).bind fun r4 =>
    (F_unipoly_Degree r2).bind fun r5 =>
    s25 a1 ([] : List (Bool × List Int)) r2 r3 (IntKind.wrap .i64 ((IntKind.wrap .i64 (r5 - r3)) + (1 : Int))) r4
def S_unidiv_Pseudo_25 (s25 : (List (Bool × List Int)) → (List (Bool × List Int)) → (List (Bool × List Int)) → Int → Int → (Bool × List Int) → Option ((List (Bool × List Int) × List (Bool × List Int) × Int))) (x1 : List (Bool × List Int)) (x4 : List (Bool × List Int)) (x5 : List (Bool × List Int)) (x7 : Int) (x9 : Int) (x8 : Bool × List Int) : Option (List (Bool × List Int) × List (Bool × List Int) × Int) :=
  (F_unipoly_Degree x5).bind fun r1 =>
  if (decide (r1 ≥ x7)) = true then
    (F_unipoly_Lead x5).bind fun r2 =>
    (F_unipoly_Degree x5).bind fun r3 =>
    (F_unipoly_Scale x4 x8).bind fun r4 =>
    (F_unipoly_Of ([(1 : Int)] : List Int)).bind fun r5 =>
    (F_unidiv_shifted r5 r2 (IntKind.wrap .i64 (r3 - x7))).bind fun r6 =>
    (F_unipoly_Add r4 r6).bind fun r7 =>
    (F_unipoly_Scale x5 x8).bind fun r8 =>
    (F_unidiv_shifted x1 r2 (IntKind.wrap .i64 (r3 - x7))).bind fun r9 =>
    (F_unipoly_Sub r8 r9).bind fun r10 =>
    s25 x1 r7 r10 x7 (IntKind.wrap .i64 (x9 - (1 : Int))) x8
  else
    if (decide (x9 > (0 : Int))) = true then
      (F_unidiv_power x8 x9).bind fun r11 =>
      (F_unipoly_Scale x4 r11).bind fun r12 =>
      (F_unipoly_Scale x5 r11).bind fun r13 =>
      some (r12, r13, (0 : Int))
    else
      some (x4, x5, (0 : Int))
def Run_unidiv_Pseudo : Prop := ∀ s25 : Nat → (List (Bool × List Int)) → (List (Bool × List Int)) → (List (Bool × List Int)) → Int → Int → (Bool × List Int) → Option ((List (Bool × List Int) × List (Bool × List Int) × Int)), (∀ m x1 x4 x5 x7 x9 x8, s25 (m + 1) x1 x4 x5 x7 x9 x8 = S_unidiv_Pseudo_25 (s25 m) x1 x4 x5 x7 x9 x8) → ∀ a0 : List (Bool × List Int), ∀ a1 : List (Bool × List Int), Ok (F_unidiv_Pseudo a0 a1) (fun m => T_unidiv_Pseudo (s25 m) a0 a1)

/-! cylinder/unipoly.Neg -/
def T_unipoly_Neg (a0 : List (Bool × List Int)) : Option (List (Bool × List Int)) :=
  (F_unipoly_Sub ([] : List (Bool × List Int)) a0).bind fun r1 =>
  some r1
def Run_unipoly_Neg : Prop := ∀ a0 : List (Bool × List Int), Ok (F_unipoly_Neg a0) (fun _ => T_unipoly_Neg a0)

/-! cylinder/sturm.negRemainder -/
def T_sturm_negRemainder (a0 : List (Bool × List Int)) (a1 : List (Bool × List Int)) : Option (List (Bool × List Int)) :=
  (F_unidiv_Pseudo a0 a1).bind fun r1 =>
  (F_unipoly_Degree a0).bind fun r2 =>
  (F_unipoly_Degree a1).bind fun r3 =>
  let v4 : Int := (if (0 : Int) > (IntKind.wrap .i64 ((IntKind.wrap .i64 (r2 - r3)) + (1 : Int))) then (0 : Int) else (IntKind.wrap .i64 ((IntKind.wrap .i64 (r2 - r3)) + (1 : Int))))
  (F_unipoly_Lead a1).bind fun r5 =>
  (F_integer_Sign r5).bind fun r6 =>
  if (decide (r6 < (0 : Int))) = true then
    if (2 : Int) = 0 then none else
    if ((Int.tmod v4 (2 : Int)) == (1 : Int)) = true then
      (F_sturm_reduced r1.2.1).bind fun r7 =>
      some r7
    else
      (F_sturm_reduced r1.2.1).bind fun r8 =>
      (F_unipoly_Neg r8).bind fun r9 =>
      some r9
  else
    (F_sturm_reduced r1.2.1).bind fun r10 =>
    (F_unipoly_Neg r10).bind fun r11 =>
    some r11
def Run_sturm_negRemainder : Prop := ∀ a0 : List (Bool × List Int), ∀ a1 : List (Bool × List Int), Ok (F_sturm_negRemainder a0 a1) (fun _ => T_sturm_negRemainder a0 a1)

/-! cylinder/sturm.Chain -/
def T_sturm_Chain (s21 : (List (Bool × List Int)) → (List (Bool × List Int)) → (List (List (Bool × List Int))) → Option ((List (List (Bool × List Int))))) (a0 : List (Bool × List Int)) (a1 : List (Bool × List Int)) : Option (List (List (Bool × List Int))) :=
  (F_sturm_reduced a0).bind fun r1 =>
  (F_sturm_reduced a1).bind fun r2 =>
  if ((List.length r1 : Int) == (0 : Int)) = true then
    some (([] : List (List (Bool × List Int))))
  else
    s21 r1 r2 ([r1] : List (List (Bool × List Int)))
def S_sturm_Chain_21 (s21 : (List (Bool × List Int)) → (List (Bool × List Int)) → (List (List (Bool × List Int))) → Option ((List (List (Bool × List Int))))) (x5 : List (Bool × List Int)) (x6 : List (Bool × List Int)) (x7 : List (List (Bool × List Int))) : Option (List (List (Bool × List Int))) :=
  if (decide ((List.length x6 : Int) > (0 : Int))) = true then
    if List.length x7 + List.length ([x6] : List (List (Bool × List Int))) ≤ 70368744177664 / 24 then
      (F_sturm_negRemainder x5 x6).bind fun r1 =>
      s21 x6 r1 (x7 ++ ([x6] : List (List (Bool × List Int))))
    else none
  else
    some x7
def Run_sturm_Chain : Prop := ∀ s21 : Nat → (List (Bool × List Int)) → (List (Bool × List Int)) → (List (List (Bool × List Int))) → Option ((List (List (Bool × List Int)))), (∀ m x5 x6 x7, s21 (m + 1) x5 x6 x7 = S_sturm_Chain_21 (s21 m) x5 x6 x7) → ∀ a0 : List (Bool × List Int), ∀ a1 : List (Bool × List Int), Ok (F_sturm_Chain a0 a1) (fun m => T_sturm_Chain (s21 m) a0 a1)

/-! cylinder/unipoly.Derivative -/
def T_unipoly_Derivative (s25 : (List (Bool × List Int)) → Int → Int → (List (Bool × List Int)) → Option ((List (Bool × List Int)))) (a0 : List (Bool × List Int)) : Option (List (Bool × List Int)) :=
  (F_unipoly_trim a0).bind fun r1 =>
  if (decide ((List.length r1 : Int) < (2 : Int))) = true then
    some (([] : List (Bool × List Int)))
  else
    if 0 ≤ (IntKind.wrap .i64 ((List.length r1 : Int) - (1 : Int))) ∧ (IntKind.wrap .i64 ((List.length r1 : Int) - (1 : Int))) ≤ ((70368744177664 / 32 : Nat) : Int) then
      let v2 : List (Bool × List Int) := (List.replicate (Int.toNat (IntKind.wrap .i64 ((List.length r1 : Int) - (1 : Int)))) (false, ([] : List Int)))
      s25 r1 (List.length v2 : Int) (0 : Int) v2
    else none
def S_unipoly_Derivative_25 (s25 : (List (Bool × List Int)) → Int → Int → (List (Bool × List Int)) → Option ((List (Bool × List Int)))) (x0 : List (Bool × List Int)) (x15 : Int) (x16 : Int) (x3 : List (Bool × List Int)) : Option (List (Bool × List Int)) :=
  if (decide (x16 < x15)) = true then
    if 0 ≤ (IntKind.wrap .i64 (x16 + (1 : Int))) ∧ (IntKind.wrap .i64 (x16 + (1 : Int))) < (List.length x0 : Int) then
      let v1 : Bool × List Int := (List.getD x0 (Int.toNat (IntKind.wrap .i64 (x16 + (1 : Int)))) (false, ([] : List Int)))
      (F_integer_Of (IntKind.wrap .i64 (x16 + (1 : Int)))).bind fun r2 =>
      (F_integer_Mul v1 r2).bind fun r3 =>
      if 0 ≤ x16 ∧ x16 < (List.length x3 : Int) then
        s25 x0 x15 (IntKind.wrap .i64 (x16 + (1 : Int))) (List.set x3 (Int.toNat x16) r3)
      else none
    else none
  else
    some x3
def Run_unipoly_Derivative : Prop := ∀ s25 : Nat → (List (Bool × List Int)) → Int → Int → (List (Bool × List Int)) → Option ((List (Bool × List Int))), (∀ m x0 x15 x16 x3, s25 (m + 1) x0 x15 x16 x3 = S_unipoly_Derivative_25 (s25 m) x0 x15 x16 x3) → ∀ a0 : List (Bool × List Int), Ok (F_unipoly_Derivative a0) (fun m => T_unipoly_Derivative (s25 m) a0)

/-! cylinder/sturm.Of -/
def T_sturm_Of (a0 : List (Bool × List Int)) : Option (List (List (Bool × List Int))) :=
  (F_unipoly_Derivative a0).bind fun r1 =>
  (F_sturm_Chain a0 r1).bind fun r2 =>
  some r2
def Run_sturm_Of : Prop := ∀ a0 : List (Bool × List Int), Ok (F_sturm_Of a0) (fun _ => T_sturm_Of a0)

/-! cylinder/sturm.All -/
def T_unidiv_Exact (s25 : (List (Bool × List Int)) → (List (Bool × List Int)) → Int → (Bool × List Int) → (List (Bool × List Int)) → Option ((List (Bool × List Int) × Int))) (a0 : List (Bool × List Int)) (a1 : List (Bool × List Int)) : Option (List (Bool × List Int) × Int) :=
  (F_unidiv_zero a1).bind fun r1 =>
  if r1 = true then
    some (([] : List (Bool × List Int)), (2 : Int))
  else
    (F_unipoly_Normal a0).bind fun r2 =>
    (F_unipoly_Degree a1).bind fun r3 =>
    (F_unipoly_Lead a1).bind fun r4 =>
    let v5 : Int := (if (0 : Int) > (IntKind.wrap .i64 ((List.length r2 : Int) - r3)) then (0 : Int) else (IntKind.wrap .i64 ((List.length r2 : Int) - r3)))
    if 0 ≤ v5 ∧ v5 ≤ ((70368744177664 / 32 : Nat) : Int) then
      s25 a1 r2 r3 r4 (List.replicate (Int.toNat v5) (false, ([] : List Int)))
    else none
def S_unidiv_Exact_25 (s25 : (List (Bool × List Int)) → (List (Bool × List Int)) → Int → (Bool × List Int) → (List (Bool × List Int)) → Option ((List (Bool × List Int) × Int))) (x1 : List (Bool × List Int)) (x6 : List (Bool × List Int)) (x7 : Int) (x8 : Bool × List Int) (x9 : List (Bool × List Int)) : Option (List (Bool × List Int) × Int) :=
  (F_unipoly_Degree x6).bind fun r1 =>
  if (decide (r1 ≥ x7)) = true then
    (F_unipoly_Degree x6).bind fun r2 =>
    (F_unipoly_Lead x6).bind fun r3 =>
    (F_division_Exact r3 x8).bind fun r4 =>
    if (r4.2 != (0 : Int)) = true then
      some (([] : List (Bool × List Int)), (3 : Int))
    else
      if 0 ≤ (IntKind.wrap .i64 (r2 - x7)) ∧ (IntKind.wrap .i64 (r2 - x7)) < (List.length x9 : Int) then
        (F_unidiv_shifted x1 r4.1 (IntKind.wrap .i64 (r2 - x7))).bind fun r5 =>
        (F_unipoly_Sub x6 r5).bind fun r6 =>
        s25 x1 r6 x7 x8 (List.set x9 (Int.toNat (IntKind.wrap .i64 (r2 - x7))) r4.1)
      else none
  else
    (F_unidiv_zero x6).bind fun r7 =>
    if (!r7) = true then
      some (([] : List (Bool × List Int)), (3 : Int))
    else
      (F_unipoly_Normal x9).bind fun r8 =>
      some (r8, (0 : Int))
def Run_unidiv_Exact : Prop := ∀ s25 : Nat → (List (Bool × List Int)) → (List (Bool × List Int)) → Int → (Bool × List Int) → (List (Bool × List Int)) → Option ((List (Bool × List Int) × Int)), (∀ m x1 x6 x7 x8 x9, s25 (m + 1) x1 x6 x7 x8 x9 = S_unidiv_Exact_25 (s25 m) x1 x6 x7 x8 x9) → ∀ a0 : List (Bool × List Int), ∀ a1 : List (Bool × List Int), Ok (F_unidiv_Exact a0 a1) (fun m => T_unidiv_Exact (s25 m) a0 a1)

/-! cylinder/cylinderlaw15.signed -/
def T_unipoly_scaled (s21 : (List (Bool × List Int)) → Int → ((Bool × List Int) × List Int) → (Bool × List Int) → (Bool × List Int) → (Bool × List Int) → (Bool × List Int) → (Bool × List Int) → Option (((Bool × List Int) × Bool × List Int))) (a0 : List (Bool × List Int)) (a1 : (Bool × List Int) × List Int) : Option ((Bool × List Int) × Bool × List Int) :=
  (F_unipoly_trim a0).bind fun r1 =>
  (F_rational_Normal a1).bind fun r2 =>
  (F_integer_Of (1 : Int)).bind fun r3 =>
  s21 r1 (IntKind.wrap .i64 ((List.length r1 : Int) - (1 : Int))) r2 (false, ([] : List Int)) (false, ([] : List Int)) (false, ([] : List Int)) r3 (false, r2.2)
def S_unipoly_scaled_21 (s21 : (List (Bool × List Int)) → Int → ((Bool × List Int) × List Int) → (Bool × List Int) → (Bool × List Int) → (Bool × List Int) → (Bool × List Int) → (Bool × List Int) → Option (((Bool × List Int) × Bool × List Int))) (x0 : List (Bool × List Int)) (x9 : Int) (x3 : (Bool × List Int) × List Int) (x4 : Bool × List Int) (x5 : Bool × List Int) (x6 : Bool × List Int) (x7 : Bool × List Int) (x8 : Bool × List Int) : Option ((Bool × List Int) × Bool × List Int) :=
  if (decide (x9 ≥ (0 : Int))) = true then
    (F_integer_Mul x6 x3.1).bind fun r1 =>
    if 0 ≤ x9 ∧ x9 < (List.length x0 : Int) then
      (F_integer_Mul x7 (List.getD x0 (Int.toNat x9) (false, ([] : List Int)))).bind fun r2 =>
      (F_integer_Add r1 r2).bind fun r3 =>
      if (decide (x9 > (0 : Int))) = true then
        (F_integer_Mul x7 x8).bind fun r4 =>
        s21 x0 (IntKind.wrap .i64 (x9 - (1 : Int))) x3 x4 x5 r3 r4 x8
      else
        s21 x0 (IntKind.wrap .i64 (x9 - (1 : Int))) x3 x4 x5 r3 x7 x8
    else none
  else
    some (x7, x6)
def Run_unipoly_scaled : Prop := ∀ s21 : Nat → (List (Bool × List Int)) → Int → ((Bool × List Int) × List Int) → (Bool × List Int) → (Bool × List Int) → (Bool × List Int) → (Bool × List Int) → (Bool × List Int) → Option (((Bool × List Int) × Bool × List Int)), (∀ m x0 x9 x3 x4 x5 x6 x7 x8, s21 (m + 1) x0 x9 x3 x4 x5 x6 x7 x8 = S_unipoly_scaled_21 (s21 m) x0 x9 x3 x4 x5 x6 x7 x8) → ∀ a0 : List (Bool × List Int), ∀ a1 : (Bool × List Int) × List Int, Ok (F_unipoly_scaled a0 a1) (fun m => T_unipoly_scaled (s21 m) a0 a1)

/-! cylinder/unipoly.SignAt -/
def T_unipoly_SignAt (a0 : List (Bool × List Int)) (a1 : (Bool × List Int) × List Int) : Option Int :=
  (F_unipoly_scaled a0 a1).bind fun r1 =>
  (F_integer_Sign r1.2).bind fun r2 =>
  some r2
def Run_unipoly_SignAt : Prop := ∀ a0 : List (Bool × List Int), ∀ a1 : (Bool × List Int) × List Int, Ok (F_unipoly_SignAt a0 a1) (fun _ => T_unipoly_SignAt a0 a1)

/-! cylinder/cylinderref15.Frac -/
def T_ref15_Frac (a0 : List Int) : Option (Int × Int) :=
  if 0 ≤ (0 : Int) ∧ (0 : Int) < ((2 : Nat) : Int) then
    if 0 ≤ (1 : Int) ∧ (1 : Int) < ((2 : Nat) : Int) then
      let v1 : Bool := ((IntKind.wrap .i64 (List.getD a0 (Int.toNat (1 : Int)) (0 : Int))) == (0 : Int))
      if v1 = true then
        some ((IntKind.wrap .i64 (List.getD a0 (Int.toNat (0 : Int)) (0 : Int))), (1 : Int))
      else
        let v2 : Bool := (decide ((IntKind.wrap .i64 (List.getD a0 (Int.toNat (1 : Int)) (0 : Int))) < (0 : Int)))
        if v2 = true then
          let v3 : Int := (IntKind.wrap .i64 ((0 : Int) - (IntKind.wrap .i64 (List.getD a0 (Int.toNat (0 : Int)) (0 : Int)))))
          let v4 : Int := (IntKind.wrap .i64 ((0 : Int) - (IntKind.wrap .i64 (List.getD a0 (Int.toNat (1 : Int)) (0 : Int)))))
          some (v3, v4)
        else
          some ((IntKind.wrap .i64 (List.getD a0 (Int.toNat (0 : Int)) (0 : Int))), (IntKind.wrap .i64 (List.getD a0 (Int.toNat (1 : Int)) (0 : Int))))
    else none
  else none
def Run_ref15_Frac : Prop := ∀ a0 : List Int, Ok (F_ref15_Frac a0) (fun _ => T_ref15_Frac a0)

/-! cylinder/cylinderlaw15.Rat -/
def T_law15_Rat (a0 : List Int) : Option ((Bool × List Int) × List Int) :=
  (F_ref15_Frac a0).bind fun r1 =>
  (F_integer_Of r1.1).bind fun r2 =>
  (F_integer_Of r1.2).bind fun r3 =>
  (F_rational_Make r2 r3).bind fun r4 =>
  some r4.1
def Run_law15_Rat : Prop := ∀ a0 : List Int, Ok (F_law15_Rat a0) (fun _ => T_law15_Rat a0)

/-! cylinder/sturm.Variations -/
def T_sturm_Variations (s13 : (List (List (Bool × List Int))) → Int → Int → ((Bool × List Int) × List Int) → List Int → Option Int) (a0 : List (List (Bool × List Int))) (a1 : (Bool × List Int) × List Int) : Option Int :=
  if 0 ≤ (List.length a0 : Int) ∧ (List.length a0 : Int) ≤ ((70368744177664 / 8 : Nat) : Int) then
    s13 a0 (List.length a0 : Int) (0 : Int) a1 (List.replicate (Int.toNat (List.length a0 : Int)) (0 : Int))
  else none
def S_sturm_Variations_13 (s13 : (List (List (Bool × List Int))) → Int → Int → ((Bool × List Int) × List Int) → List Int → Option Int) (x11 : List (List (Bool × List Int))) (x12 : Int) (x13 : Int) (x3 : (Bool × List Int) × List Int) (x5 : List Int) : Option Int :=
  if (decide (x13 < x12)) = true then
    if 0 ≤ x13 ∧ x13 < (List.length x11 : Int) then
      (F_unipoly_SignAt (List.getD x11 (Int.toNat x13) ([] : List (Bool × List Int))) x3).bind fun r1 =>
      if 0 ≤ x13 ∧ x13 < (List.length x5 : Int) then
        s13 x11 x12 (IntKind.wrap .i64 (x13 + (1 : Int))) x3 (List.set x5 (Int.toNat x13) r1)
      else none
    else none
  else
    (F_sturm_changes x5).bind fun r2 =>
    some r2
def Run_sturm_Variations : Prop := ∀ s13 : Nat → (List (List (Bool × List Int))) → Int → Int → ((Bool × List Int) × List Int) → List Int → Option Int, (∀ m x11 x12 x13 x3 x5, s13 (m + 1) x11 x12 x13 x3 x5 = S_sturm_Variations_13 (s13 m) x11 x12 x13 x3 x5) → ∀ a0 : List (List (Bool × List Int)), ∀ a1 : (Bool × List Int) × List Int, Ok (F_sturm_Variations a0 a1) (fun m => T_sturm_Variations (s13 m) a0 a1)

/-! cylinder/cylinderlaw15.changes -/
end
end Go.W

set_option linter.unusedVariables false
set_option linter.unusedSimpArgs false
namespace Go.W

/-! ### polynomials, by their coefficients -/
theorem pv_dp (l : List Int) : pv (dp l) = l := by
  unfold pv dp; rw [List.map_map]
  have : iv ∘ di = id := funext fun z => iv_di z
  rw [this]; simp
theorem pv_len (f : NP) : (pv f).length = f.length := by simp [pv]
theorem dp_len (l : List Int) : (dp l).length = l.length := by simp [dp]
theorem zI_di : ((false, ([] : List Int)) : Bool × List Int) = di 0 := di_zero.symm
theorem pv_get (f : NP) (i : Nat) : iv (f.getD i (false, ([] : List Int))) = (pv f).getD i 0 := by
  simp only [List.getD, pv, List.getElem?_map]
  cases f[i]? with
  | none => rfl
  | some x => rfl
theorem II_zero : II ((false, ([] : List Int)) : Bool × List Int) := by rw [zI_di]; exact II.di (Bd.zero 0) (by omega)
theorem II_get {f : NP} (h : ∀ c ∈ f, II c) (i : Nat) : II (f.getD i (false, ([] : List Int))) := by
  simp only [List.getD]
  cases hx : f[i]? with
  | none => exact II_zero
  | some x => exact h x (List.mem_of_getElem? hx)
theorem PP.ii {f : NP} (h : PP f) (i : Nat) : II (f.getD i (false, ([] : List Int))) := II_get h.2.1 i
theorem PP.dp {l : List Int} (hl : l.length ≤ 1000) (h : PB KP l) : PP (Go.W.dp l) := by
  refine ⟨by rw [dp_len]; exact hl, fun c hc => ?_, by rw [pv_dp]; exact h⟩
  obtain ⟨x, hx, rfl⟩ := List.mem_map.1 hc
  exact II.di (h x hx) (by unfold KP; omega)
theorem PP.dp' {k : Nat} {l : List Int} (hl : l.length ≤ 1000) (h : PB k l) (hk : k ≤ KP) : PP (Go.W.dp l) := PP.dp hl (h.mono hk)
theorem PP.nil : PP ([] : NP) := PP.dp (l := []) (by simp) (.nil _)
theorem IsZero_get {f : NP} (h : ∀ c ∈ f, II c) (i : Nat) : F_natural_IsZero (f.getD i (false, ([] : List Int))).2 = some (decide ((pv f).getD i 0 = 0)) := by
  have hi := II_get h i
  rw [F_natural_IsZero, gif_pos (show NN _ from hi), ← pv_get]
  congr 1
  rw [decide_eq_decide]; exact (iv_zero hi).symm
/-- a row that is filled from its beginning on -/
theorem fill_loop {α ρ : Type} {n : Nat} (v : Nat → α) (z : α) (step : Nat → Nat → List α → Option ρ) (res : ρ)
    (hstep : ∀ m i out, i < n → out.length = n → step (m + 1) i out = step m (i + 1) (out.set i (v i)))
    (hend : Ev (fun m => step m n ((List.range n).map v)) res) : Ev (fun m => step m 0 (List.replicate n z)) res := by
  have key : ∀ (k i : Nat) (out : List α), i + k = n → out.length = n → (∀ j, j < i → out[j]? = some (v j)) → Ev (fun m => step m i out) res := by
    intro k
    induction k with
    | zero =>
      intro i out hi hl ho
      obtain rfl : i = n := by omega
      have : out = (List.range i).map v := by
        apply List.ext_getElem? fun j => ?_
        by_cases hj : j < i
        · rw [ho j hj]; simp [hj]
        · rw [List.getElem?_eq_none (by omega), List.getElem?_eq_none (by simp; omega)]
      rw [this]; exact hend
    | succ k ih =>
      intro i out hi hl ho
      refine Ev.step (fun m => hstep m i out (by omega) hl) (ih (i + 1) _ (by omega) (by simpa using hl) fun j hj => ?_)
      by_cases he : j = i
      · subst he; rw [List.getElem?_set_self (by omega)]
      · rw [List.getElem?_set_ne (by omega)]; exact ho j (by omega)
  exact key n 0 _ (by omega) (by simp) fun j hj => by omega
theorem take_trim (f : NP) : pv (f.take (trimL (pv f)).length) = trimL (pv f) := by
  unfold pv; rw [List.map_take]; exact (trimL_take _).symm
theorem take_dp (l : List Int) : (dp l).take (trimL l).length = dp (trimL l) := by
  unfold dp; rw [← List.map_take, ← trimL_take]

theorem Rn_unipoly_trim : Run_unipoly_trim := fun s hs a => Ok.gif fun ⟨hl, hi, hb⟩ => by
  have key : ∀ k : Nat, k ≤ a.length → (∀ i, k ≤ i → (pv a).getD i 0 = 0) → Ev (fun m => s m a (k : Int)) (a.take (trimL (pv a)).length) := by
    intro k
    induction k with
    | zero =>
      intro _ hz
      have e : (trimL (pv a)).length = 0 := trimL_length_cut (by omega) hz (.inl rfl)
      refine Ev.step (t := fun _ => some _) (fun m => ?_) Ev.ret
      rw [hs]; unfold S_unipoly_trim_9
      rw [if_neg (by simp), if_pos (by simp), e]; simp
    | succ k ih =>
      intro hk hz
      have e1 : IntKind.wrap .i64 (((k + 1 : Nat) : Int) - 1) = k := by rw [i64w] <;> omega
      by_cases hx : (pv a).getD k 0 = 0
      · refine Ev.step (t := fun m => s m a (k : Int)) (fun m => ?_) (ih (by omega) fun i h1 => by
          rcases Nat.eq_or_lt_of_le h1 with h2 | h2
          · rw [← h2]; exact hx
          · exact hz i h2)
        rw [hs]; unfold S_unipoly_trim_9
        rw [if_pos (by simp <;> omega), e1, if_pos (by omega), Int.toNat_natCast]
        simp only [IsZero_get hi, Option.bind_some]
        rw [if_pos (decide_eq_true hx)]
      · have e : (trimL (pv a)).length = k + 1 := trimL_length_cut (by rw [pv_len]; exact hk) hz (.inr (by simpa using hx))
        refine Ev.step (t := fun _ => some _) (fun m => ?_) Ev.ret
        rw [hs]; unfold S_unipoly_trim_9
        rw [if_pos (by simp <;> omega), e1, if_pos (by omega), Int.toNat_natCast]
        simp only [IsZero_get hi, Option.bind_some]
        rw [if_neg (by rw [decide_eq_true_eq]; exact hx), if_neg (by simp <;> omega), if_pos (by omega), Int.toNat_natCast, e]
  exact key a.length (Nat.le_refl _) fun i h => getD_out (by rw [pv_len]; exact h)
theorem Rno_unipoly_trim : Runo_unipoly_trim := fun s hs a => Ok.gif fun ⟨hl, hi, hb⟩ => by
  have key : ∀ k : Nat, k ≤ a.length → (∀ i, k ≤ i → (pv a).getD i 0 = 0) → Ev (fun m => s m (k : Int) a) (a, if (trimL (pv a)).length = 0 then none else some ((trimL (pv a)).length : Int)) := by
    intro k
    induction k with
    | zero =>
      intro _ hz
      have e : (trimL (pv a)).length = 0 := trimL_length_cut (by omega) hz (.inl rfl)
      refine Ev.step (t := fun _ => some _) (fun m => ?_) Ev.ret
      rw [hs]; unfold So_unipoly_trim_9
      rw [if_neg (by simp), if_pos (by simp), if_pos e]
    | succ k ih =>
      intro hk hz
      have e1 : IntKind.wrap .i64 (((k + 1 : Nat) : Int) - 1) = k := by rw [i64w] <;> omega
      by_cases hx : (pv a).getD k 0 = 0
      · refine Ev.step (t := fun m => s m (k : Int) a) (fun m => ?_) (ih (by omega) fun i h1 => by
          rcases Nat.eq_or_lt_of_le h1 with h2 | h2
          · rw [← h2]; exact hx
          · exact hz i h2)
        rw [hs]; unfold So_unipoly_trim_9
        rw [if_pos (by simp <;> omega), e1, if_pos (by omega), Int.toNat_natCast]
        simp only [IsZero_get hi, Option.bind_some]
        rw [if_pos (decide_eq_true hx)]
      · have e : (trimL (pv a)).length = k + 1 := trimL_length_cut (by rw [pv_len]; exact hk) hz (.inr (by simpa using hx))
        refine Ev.step (t := fun _ => some _) (fun m => ?_) Ev.ret
        rw [hs]; unfold So_unipoly_trim_9
        rw [if_pos (by simp <;> omega), e1, if_pos (by omega), Int.toNat_natCast]
        simp only [IsZero_get hi, Option.bind_some]
        rw [if_neg (by rw [decide_eq_true_eq]; exact hx), if_neg (by simp <;> omega), if_pos (by omega), if_neg (by omega), e]
  exact key a.length (Nat.le_refl _) fun i h => getD_out (by rw [pv_len]; exact h)
theorem trim_bind {σ : Type} {f : NP} (h : PP f) {K : NP → Option σ} : (F_unipoly_trim f).bind K = K (f.take (trimL (pv f)).length) := gif_bind h
theorem take_len (f : NP) : (f.take (trimL (pv f)).length).length = (trimL (pv f)).length := by
  have := trimL_len (pv f); rw [pv_len] at this
  rw [List.length_take]; omega
/-- the end of a function that hands back its own row, cut -/
theorem poly_end {l : List Int} (h : PP (dp l)) {x y : NP} : ((O_unipoly_trim (dp l)).bind fun r2 => if Go.W.sameLen false (.pair (.bool) (.slice (.int .u32))) (dp l) r2.1 then Go.W.optE r2.2 (some ([] : NP)) fun n3 => some (List.take (Int.toNat n3) (List.drop (Int.toNat (0 : Int)) r2.1)) else none) = some (dp (trimL l)) := by
  rw [O_unipoly_trim, gif_bind h, if_pos (sameLen_of rfl)]
  simp only [pv_dp]
  by_cases h0 : (trimL l).length = 0
  · rw [if_pos h0]
    have : trimL l = [] := List.eq_nil_of_length_eq_zero h0
    rw [this]; rfl
  · rw [if_neg h0]
    show some (List.take (Int.toNat ((trimL l).length : Int)) (List.drop 0 (dp l))) = _
    rw [Int.toNat_natCast, List.drop_zero, take_dp]
theorem poly_end' {l : List Int} (h : PP (dp l)) : ((O_unipoly_trim (dp l)).bind fun r2 => if Go.W.sameLen false (.pair (.bool) (.slice (.int .u32))) (dp l) r2.1 then Go.W.optE r2.2 (some ([] : NP)) fun n3 => some (List.take (Int.toNat n3) r2.1) else none) = some (dp (trimL l)) := by
  have := poly_end (x := []) (y := []) h
  simpa using this
theorem Rn_unipoly_Degree : Run_unipoly_Degree := fun a => Ok.gif_const fun h => by
  have hl := h.1
  have hl2 := trimL_len (pv a); rw [pv_len] at hl2
  rw [T_unipoly_Degree, trim_bind h, take_len, i64w (by omega) (by omega)]
theorem Degree_bind {σ : Type} {f : NP} (h : PP f) {K : Int → Option σ} : (F_unipoly_Degree f).bind K = K (((trimL (pv f)).length : Int) - 1) := gif_bind h
theorem Rn_unipoly_Lead : Run_unipoly_Lead := fun a => Ok.gif_const fun h => by
  have hl := h.1
  have hl2 := trimL_len (pv a); rw [pv_len] at hl2
  rw [T_unipoly_Lead, trim_bind h, take_len]
  by_cases h0 : (trimL (pv a)).length = 0
  · rw [if_pos (by rw [h0]; rfl)]
    have : trimL (pv a) = [] := List.eq_nil_of_length_eq_zero h0
    rw [this]
    exact congrArg some zI_di
  · rw [if_neg (by simp; intro e; rw [e] at h0; exact h0 rfl), i64w (by omega) (by omega), if_pos (by omega)]
    have e : Int.toNat (((trimL (pv a)).length : Int) - 1) = (trimL (pv a)).length - 1 := by omega
    have hII : II ((a.take (trimL (pv a)).length).getD ((trimL (pv a)).length - 1) (false, ([] : List Int))) := II_get (fun c hc => h.2.1 c (List.mem_of_mem_take hc)) _
    simp only [e]
    rw [F_integer_Normal, gif_bind hII, pv_get, take_trim]
    rfl
theorem Lead_bind {σ : Type} {f : NP} (h : PP f) {K : Bool × List Int → Option σ} : (F_unipoly_Lead f).bind K = K (di (lc (trimL (pv f)))) := gif_bind h
theorem Rn_unidiv_zero : Run_unidiv_zero := fun a => Ok.gif_const fun h => by
  rw [T_unidiv_zero, Degree_bind h]
  congr 1
  rw [decide_eq_decide]
  constructor
  · intro h1; exact List.eq_nil_of_length_eq_zero (by omega)
  · intro h1; rw [h1]; simp
theorem rep_len {α : Type} (n : Nat) (z : α) : (List.replicate (Int.toNat (n : Int)) z) = List.replicate n z := by rw [Int.toNat_natCast]
theorem range_dp (n : Nat) (v : Nat → Int) : (List.range n).map (fun i => di (v i)) = dp ((List.range n).map v) := by unfold dp; rw [List.map_map]; rfl
theorem range_get (l : List Int) : (List.range l.length).map (fun i => l.getD i 0) = l := by
  apply List.ext_getElem (by simp)
  intro i h1 h2
  simp only [List.getElem_map, List.getElem_range]
  exact getD_in h2
theorem wrap_succ {i : Nat} (h : i ≤ 1000000) : IntKind.wrap .i64 ((i : Int) + 1) = ((i + 1 : Nat) : Int) := by rw [i64w (by omega) (by omega)]; rfl
theorem Rn_unipoly_Normal : Run_unipoly_Normal := fun s hs a => Ok.gif fun h => by
  have hl := h.1
  have hl2 := trimL_len (pv a); rw [pv_len] at hl2
  have := fill_loop (n := (trimL (pv a)).length) (fun i => di ((trimL (pv a)).getD i 0)) (false, ([] : List Int)) (fun m i out => s m a ((trimL (pv a)).length : Int) (i : Int) out) (dp (trimL (pv a))) (fun m i out hi ho => by
    rw [hs]; unfold S_unipoly_Normal_13
    rw [if_pos (by rw [decide_eq_true_eq]; omega), if_pos (by omega), Int.toNat_natCast, F_integer_Normal, gif_bind (h.ii i), if_pos (by omega), wrap_succ (by omega), pv_get, trimL_get]) (by
    rw [range_dp, range_get]
    have hp : PP (dp (trimL (pv a))) := PP.dp (by omega) h.2.2.trim
    refine Ev.step (t := fun _ => some _) (fun m => ?_) Ev.ret
    rw [hs]; unfold S_unipoly_Normal_13
    rw [if_neg (by rw [decide_eq_true_eq]; omega), poly_end' hp, trimL_idem])
  simp only [T_unipoly_Normal]
  refine Ev.congr (fun m => ?_) this
  rw [trim_bind h, take_len, if_pos (by omega), rep_len, List.length_replicate]
  rfl
theorem Normal_bind {σ : Type} {f : NP} (h : PP f) {K : NP → Option σ} : (F_unipoly_Normal f).bind K = K (dp (trimL (pv f))) := gif_bind h
theorem Rn_unipoly_Of : Run_unipoly_Of := fun s hs l => Ok.gif fun ⟨hl, hb⟩ => by
  have hB : PB 64 l := fun c hc => by
    have := hb c hc
    unfold ab; constructor <;> split <;> omega
  have := fill_loop (n := l.length) (fun i => di (l.getD i 0)) (false, ([] : List Int)) (fun m i out => s m l (l.length : Int) (i : Int) out) (dp (trimL l)) (fun m i out hi ho => by
    rw [hs]; unfold S_unipoly_Of_13
    rw [if_pos (by rw [decide_eq_true_eq]; omega), if_pos (by omega), Int.toNat_natCast, F_integer_Of, gif_bind (hb _ (getD_mem hi)), if_pos (by omega), wrap_succ (by omega)]) (by
    rw [range_dp, range_get]
    have hp : PP (dp l) := PP.dp' hl hB (by unfold KP; omega)
    refine Ev.step (t := fun _ => some _) (fun m => ?_) Ev.ret
    rw [hs]; unfold S_unipoly_Of_13
    rw [if_neg (by rw [decide_eq_true_eq]; omega), poly_end (x := []) (y := []) hp])
  simp only [T_unipoly_Of]
  refine Ev.congr (fun m => ?_) this
  rw [if_pos (by omega), rep_len]
  rfl
theorem foldl_gcd : ∀ (l : List Int) (x : Int), 0 ≤ x → (l.foldl (fun g c => (Int.gcd g c : Int)) x) = (Int.gcd x (gcdL l) : Int)
  | [], x, h => by simp [gcdL]; omega
  | c :: l, x, h => by
    simp only [List.foldl_cons, gcdL]
    rw [foldl_gcd l _ (by omega), Int.gcd_assoc]
theorem Rn_unidiv_Content : Run_unidiv_Content := fun s hs a => Ok.gif fun h => by
  have hl := h.1
  have key : ∀ (k i : Nat) (x : Int), i + k = a.length → 0 ≤ x → Bd KP (ab x) → Ev (fun m => s m a (a.length : Int) (i : Int) (false, ([] : List Int)) (di x)) (di (((pv a).drop i).foldl (fun g c => (Int.gcd g c : Int)) x)) := by
    intro k
    induction k with
    | zero =>
      intro i x hi h0 hx
      refine Ev.step (t := fun _ => some _) (fun m => ?_) Ev.ret
      rw [hs]; unfold S_unidiv_Content_13
      rw [if_neg (by rw [decide_eq_true_eq]; omega), List.drop_of_length_le (by rw [pv_len]; omega)]; rfl
    | succ k ih =>
      intro i x hi h0 hx
      have hil : i < (pv a).length := by rw [pv_len]; omega
      rw [List.drop_eq_getElem_cons hil, List.foldl_cons]
      have hg : Bd KP (ab (Int.gcd x (pv a)[i] : Int)) := by
        have h1 := gcdL_Bd (k := KP) (l := [x, (pv a)[i]]) (fun c hc => by
          simp only [List.mem_cons, List.not_mem_nil, or_false] at hc
          rcases hc with rfl | rfl
          · exact hx
          · exact h.2.2 _ (List.getElem_mem hil))
        simp only [gcdL] at h1
        rw [ab_pos (by omega)]
        simpa [Int.gcd] using h1
      refine Ev.step (fun m => ?_) (ih (i + 1) (Int.gcd x (pv a)[i] : Int) (by omega) (by omega) hg)
      rw [hs]; unfold S_unidiv_Content_13
      rw [if_pos (by rw [decide_eq_true_eq]; omega), if_pos (by omega), Int.toNat_natCast, F_division_Gcd, gif_bind ⟨II.di hx (by unfold KP; omega), h.ii i⟩, iv_di, pv_get, getD_in hil, wrap_succ (by omega)]
  have := key a.length 0 0 (by omega) (by omega) (Bd.zero _)
  rw [List.drop_zero, foldl_gcd _ _ (by omega)] at this
  have e : ((Int.gcd 0 (gcdL (pv a)) : Nat) : Int) = gcdL (pv a) := by
    rw [Int.gcd_zero_left]
    have := gcdL_nonneg (pv a)
    omega
  rw [e, di_zero] at this
  simp only [T_unidiv_Content]
  exact this
end Go.W

set_option linter.unusedVariables false
set_option linter.unusedSimpArgs false
namespace Go.W

theorem fill_loop2 {α ρ : Type} {n : Nat} (v : Nat → α) (z : α) (step : Nat → Nat → List α → Option ρ) (res : ρ)
    (hstep : ∀ i out, i < n → out.length = n → Ev (fun m => step m (i + 1) (out.set i (v i))) res → Ev (fun m => step m i out) res)
    (hend : Ev (fun m => step m n ((List.range n).map v)) res) : Ev (fun m => step m 0 (List.replicate n z)) res := by
  have key : ∀ (k i : Nat) (out : List α), i + k = n → out.length = n → (∀ j, j < i → out[j]? = some (v j)) → Ev (fun m => step m i out) res := by
    intro k
    induction k with
    | zero =>
      intro i out hi hl ho
      obtain rfl : i = n := by omega
      have : out = (List.range i).map v := by
        apply List.ext_getElem? fun j => ?_
        by_cases hj : j < i
        · rw [ho j hj]; simp [hj]
        · rw [List.getElem?_eq_none (by omega), List.getElem?_eq_none (by simp; omega)]
      rw [this]; exact hend
    | succ k ih =>
      intro i out hi hl ho
      refine hstep i out (by omega) hl (ih (i + 1) _ (by omega) (by simpa using hl) fun j hj => ?_)
      by_cases he : j = i
      · subst he; rw [List.getElem?_set_self (by omega)]
      · rw [List.getElem?_set_ne (by omega)]; exact ho j (by omega)
  exact key n 0 _ (by omega) (by simp) fun j hj => by omega
theorem scl_trim (c : Int) (l : List Int) : scl c (trimL l) = scl c l := (scl_TL _ _).ext (scl_TL _ _) fun i => by rw [scl_get, scl_get, trimL_get]
theorem shf_trim (c : Int) (n : Nat) (l : List Int) : shf c n (trimL l) = shf c n l := by unfold shf; rw [scl_trim]
theorem Rn_unipoly_Scale : Run_unipoly_Scale := fun s hs a c => Ok.gif fun ⟨h, hc, j, k, hj, hk, hjk⟩ => by
  have hl := h.1
  have hl2 := trimL_len (pv a); rw [pv_len] at hl2
  have := fill_loop (n := (trimL (pv a)).length) (fun i => di (iv c * (trimL (pv a)).getD i 0)) (false, ([] : List Int)) (fun m i out => s m a ((trimL (pv a)).length : Int) (i : Int) c out) (dp (scl (iv c) (pv a))) (fun m i out hi ho => by
    rw [hs]; unfold S_unipoly_Scale_13
    rw [if_pos (by rw [decide_eq_true_eq]; omega), if_pos (by omega), Int.toNat_natCast, F_integer_Mul, gif_bind ⟨hc.1, h.ii i⟩, if_pos (by omega), wrap_succ (by omega), pv_get, trimL_get]) (by
    rw [range_dp]
    have e : (List.range (trimL (pv a)).length).map (fun i => iv c * (trimL (pv a)).getD i 0) = (trimL (pv a)).map fun x => iv c * x := by
      conv => rhs; rw [← range_get (trimL (pv a)), List.map_map]
      rfl
    rw [e]
    have hb : PB KP ((trimL (pv a)).map fun x => iv c * x) := .of fun i => by
      rw [map_get (f := fun x => iv c * x) (by simp), trimL_get]
      exact (hk.ab_mul (hj.get i)).mono (by omega)
    have hp : PP (dp ((trimL (pv a)).map fun x => iv c * x)) := PP.dp (by simp; omega) hb
    refine Ev.step (t := fun _ => some _) (fun m => ?_) Ev.ret
    rw [hs]; unfold S_unipoly_Scale_13
    rw [if_neg (by rw [decide_eq_true_eq]; omega), poly_end (x := []) (y := []) hp]
    congr 2
    exact scl_trim _ _)
  simp only [T_unipoly_Scale]
  refine Ev.congr (fun m => ?_) this
  rw [trim_bind h, take_len, if_pos (by omega), rep_len, List.length_replicate]
  rfl
theorem Scale_bind {σ : Type} {l : List Int} {c : Int} {j k : Nat} (hl : l.length ≤ 1000) (hj : PB j l) (hk : Bd k (ab c)) (hjk : j + k ≤ KP) {K : NP → Option σ} : (F_unipoly_Scale (dp l) (di c)).bind K = K (dp (scl c l)) := by
  have h1 : CC (di c) := ⟨II.di hk (by unfold KP at hjk; omega), by rw [iv_di]; exact hk.mono (by omega)⟩
  rw [F_unipoly_Scale, gif_bind ⟨PP.dp' hl hj (by omega), h1, j, k, by rw [pv_dp]; exact hj, by rw [iv_di]; exact hk, hjk⟩, iv_di, pv_dp]
theorem max_eq (a b : Nat) : (if (b : Int) > (a : Int) then (b : Int) else (a : Int)) = ((max a b : Nat) : Int) := by split <;> omega
theorem combine_v (op : Int → Int → Int) (a b : NP) : (List.range (max a.length b.length)).map (fun i => di (op ((pv a).getD i 0) ((pv b).getD i 0))) = dp (cmb op (pv a) (pv b)) := by
  unfold cmb; rw [range_dp, pv_len, pv_len]
theorem Rn_unipoly_combine_Add : Run_unipoly_combine_Add := fun s17 s36 k17 k36 a b u => Ok.gif fun ⟨ha, hb⟩ => by
  have hla := ha.1
  have hlb := hb.1
  have := fill_loop2 (n := max a.length b.length) (fun i => di ((pv a).getD i 0 + (pv b).getD i 0)) (false, ([] : List Int)) (fun m i out => s17 m a b u ((max a.length b.length : Nat) : Int) (i : Int) out (false, ([] : List Int))) (dp (cmb (· + ·) (pv a) (pv b))) (fun i out hi ho hev => by
    have two : Ev (fun m => s36 m a b u (i : Int) ((max a.length b.length : Nat) : Int) (i : Int) out (false, ([] : List Int)) (a.getD i (false, ([] : List Int))) (false, ([] : List Int))) (dp (cmb (· + ·) (pv a) (pv b))) := by
      refine Ev.step (fun m => ?_) hev
      rw [k36]; unfold S_unipoly_combine_Add_36
      by_cases h2 : i < b.length
      · rw [if_pos (by rw [decide_eq_true_eq]; omega), if_pos (by omega), Int.toNat_natCast, F_integer_Add, gif_bind ⟨ha.ii i, hb.ii i⟩, if_pos (by omega), wrap_succ (by omega), pv_get, pv_get]
      · rw [if_neg (by rw [decide_eq_true_eq]; omega), F_integer_Add, gif_bind ⟨ha.ii i, II_zero⟩, if_pos (by omega), wrap_succ (by omega), pv_get, zI_di, iv_di, getD_out (l := pv b) (by rw [pv_len]; omega), Int.toNat_natCast]
    refine Ev.step (fun m => ?_) two
    rw [k17]; unfold S_unipoly_combine_Add_17
    rw [if_pos (by rw [decide_eq_true_eq]; omega)]
    by_cases h1 : i < a.length
    · rw [if_pos (by rw [decide_eq_true_eq]; omega), if_pos (by omega), Int.toNat_natCast]
    · rw [if_neg (by rw [decide_eq_true_eq]; omega)]
      have e : a.getD i (false, ([] : List Int)) = (false, ([] : List Int)) := by simp [List.getD, List.getElem?_eq_none (show a.length ≤ i by omega)]
      rw [e]) (by
    rw [combine_v]
    refine Ev.step (t := fun _ => some _) (fun m => ?_) Ev.ret
    rw [k17]; unfold S_unipoly_combine_Add_17
    rw [if_neg (by simp)])
  simp only [T_unipoly_combine_Add]
  refine Ev.congr (fun m => ?_) this
  rw [max_eq, if_pos (by omega), rep_len, List.length_replicate]
  rfl
theorem Rn_unipoly_combine_Sub : Run_unipoly_combine_Sub := fun s17 s36 k17 k36 a b u => Ok.gif fun ⟨ha, hb⟩ => by
  have hla := ha.1
  have hlb := hb.1
  have := fill_loop2 (n := max a.length b.length) (fun i => di ((pv a).getD i 0 - (pv b).getD i 0)) (false, ([] : List Int)) (fun m i out => s17 m a b u ((max a.length b.length : Nat) : Int) (i : Int) out (false, ([] : List Int))) (dp (cmb (· - ·) (pv a) (pv b))) (fun i out hi ho hev => by
    have two : Ev (fun m => s36 m a b u (i : Int) ((max a.length b.length : Nat) : Int) (i : Int) out (false, ([] : List Int)) (a.getD i (false, ([] : List Int))) (false, ([] : List Int))) (dp (cmb (· - ·) (pv a) (pv b))) := by
      refine Ev.step (fun m => ?_) hev
      rw [k36]; unfold S_unipoly_combine_Sub_36
      by_cases h2 : i < b.length
      · rw [if_pos (by rw [decide_eq_true_eq]; omega), if_pos (by omega), Int.toNat_natCast, F_integer_Sub, gif_bind ⟨ha.ii i, hb.ii i⟩, if_pos (by omega), wrap_succ (by omega), pv_get, pv_get]
      · rw [if_neg (by rw [decide_eq_true_eq]; omega), F_integer_Sub, gif_bind ⟨ha.ii i, II_zero⟩, if_pos (by omega), wrap_succ (by omega), pv_get, zI_di, iv_di, getD_out (l := pv b) (by rw [pv_len]; omega), Int.toNat_natCast]
    refine Ev.step (fun m => ?_) two
    rw [k17]; unfold S_unipoly_combine_Sub_17
    rw [if_pos (by rw [decide_eq_true_eq]; omega)]
    by_cases h1 : i < a.length
    · rw [if_pos (by rw [decide_eq_true_eq]; omega), if_pos (by omega), Int.toNat_natCast]
    · rw [if_neg (by rw [decide_eq_true_eq]; omega)]
      have e : a.getD i (false, ([] : List Int)) = (false, ([] : List Int)) := by simp [List.getD, List.getElem?_eq_none (show a.length ≤ i by omega)]
      rw [e]) (by
    rw [combine_v]
    refine Ev.step (t := fun _ => some _) (fun m => ?_) Ev.ret
    rw [k17]; unfold S_unipoly_combine_Sub_17
    rw [if_neg (by simp)])
  simp only [T_unipoly_combine_Sub]
  refine Ev.congr (fun m => ?_) this
  rw [max_eq, if_pos (by omega), rep_len, List.length_replicate]
  rfl
theorem trim_dp_bind {σ : Type} {l : List Int} (h : PP (dp l)) {K : NP → Option σ} : (F_unipoly_trim (dp l)).bind K = K (dp (trimL l)) := by rw [trim_bind h, pv_dp, take_dp]
theorem cmb_PB {k : Nat} {a b : List Int} (hk : 1 ≤ k) (ha : PB (k - 1) a) (hb : PB (k - 1) b) : PB k (cmb (· + ·) a b) ∧ PB k (cmb (· - ·) a b) :=
  ⟨.of fun i => by rw [cmb_get (by decide)]; exact ((ha.get i).ab_add (hb.get i)).mono (by omega), .of fun i => by rw [cmb_get (by decide)]; exact ((ha.get i).ab_sub (hb.get i)).mono (by omega)⟩
theorem Rn_unipoly_Add : Run_unipoly_Add := fun a b => Ok.gif_const fun ⟨ha, hb, pa, pb⟩ => by
  have hla := ha.1
  have hlb := hb.1
  rw [T_unipoly_Add, F_unipoly_combine_Add, gif_bind ⟨ha, hb⟩, trim_dp_bind (PP.dp (by rw [cmb_len, pv_len, pv_len]; omega) (cmb_PB (by unfold KP; omega) pa pb).1)]
  rfl
theorem Rn_unipoly_Sub : Run_unipoly_Sub := fun a b => Ok.gif_const fun ⟨ha, hb, pa, pb⟩ => by
  have hla := ha.1
  have hlb := hb.1
  rw [T_unipoly_Sub, F_unipoly_combine_Sub, gif_bind ⟨ha, hb⟩, trim_dp_bind (PP.dp (by rw [cmb_len, pv_len, pv_len]; omega) (cmb_PB (by unfold KP; omega) pa pb).2)]
  rfl
theorem Add_bind {σ : Type} {a b : List Int} (la : a.length ≤ 1000) (lb : b.length ≤ 1000) {j : Nat} (ha : PB j a) (hb : PB j b) (hj : j + 1 ≤ KP) {K : NP → Option σ} : (F_unipoly_Add (dp a) (dp b)).bind K = K (dp (addL a b)) := by
  rw [F_unipoly_Add, gif_bind ⟨PP.dp' la ha (by omega), PP.dp' lb hb (by omega), by rw [pv_dp]; exact ha.mono (by omega), by rw [pv_dp]; exact hb.mono (by omega)⟩, pv_dp, pv_dp]
theorem Sub_bind {σ : Type} {a b : List Int} (la : a.length ≤ 1000) (lb : b.length ≤ 1000) {j : Nat} (ha : PB j a) (hb : PB j b) (hj : j + 1 ≤ KP) {K : NP → Option σ} : (F_unipoly_Sub (dp a) (dp b)).bind K = K (dp (subL a b)) := by
  rw [F_unipoly_Sub, gif_bind ⟨PP.dp' la ha (by omega), PP.dp' lb hb (by omega), by rw [pv_dp]; exact ha.mono (by omega), by rw [pv_dp]; exact hb.mono (by omega)⟩, pv_dp, pv_dp]
theorem Rn_unipoly_Neg : Run_unipoly_Neg := fun a => Ok.gif_const fun ⟨ha, pa⟩ => by
  rw [T_unipoly_Neg, F_unipoly_Sub, gif_bind ⟨PP.nil, ha, .nil _, pa⟩]
  rfl
theorem Neg_bind {σ : Type} {a : List Int} (la : a.length ≤ 1000) {j : Nat} (ha : PB j a) (hj : j + 1 ≤ KP) {K : NP → Option σ} : (F_unipoly_Neg (dp a)).bind K = K (dp (subL [] a)) := by
  rw [F_unipoly_Neg, gif_bind ⟨PP.dp' la ha (by omega), by rw [pv_dp]; exact ha.mono (by omega)⟩, pv_dp]
theorem Rn_unidiv_shifted : Run_unidiv_shifted := fun a c n => Ok.gif_const fun ⟨h, hc, hm, n0, n1⟩ => by
  have hl := h.1
  have h2 := scl_len (iv c) (pv a); rw [pv_len] at h2
  rw [T_unidiv_shifted, if_pos (by omega), F_unipoly_Scale, gif_bind ⟨h, hc, hm⟩, if_pos (by rw [dp_len]; simp; omega)]
  congr 1
  unfold shf dp
  rw [List.map_append, List.map_replicate, ← zI_di]
theorem shifted_bind {σ : Type} {f : NP} {c n : Int} {j k : Nat} (h : PP f) (hj : PB j (pv f)) (hk : Bd k (ab c)) (hjk : j + k ≤ KP) (n0 : 0 ≤ n) (n1 : n ≤ 1000) {K : NP → Option σ} : (F_unidiv_shifted f (di c) n).bind K = K (dp (shf c n.toNat (pv f))) := by
  have h1 : CC (di c) := ⟨II.di hk (by unfold KP at hjk; omega), by rw [iv_di]; exact hk.mono (by omega)⟩
  rw [F_unidiv_shifted, gif_bind ⟨h, h1, ⟨j, k, hj, by rw [iv_di]; exact hk, hjk⟩, n0, n1⟩, iv_di]
theorem Rn_unidiv_power : Run_unidiv_power := fun s hs a n => Ok.gif fun ⟨hc, n0, n1, k, hk, hkn⟩ => by
  obtain ⟨N, rfl⟩ : ∃ N : Nat, n = N := ⟨n.toNat, by omega⟩
  have key : ∀ d i : Nat, i + d = N → Ev (fun m => s m (N : Int) (i : Int) a (false, ([] : List Int)) (di (iv a ^ i))) (di (iv a ^ N)) := by
    intro d
    induction d with
    | zero =>
      intro i hi
      obtain rfl : i = N := by omega
      refine Ev.step (t := fun _ => some _) (fun m => ?_) Ev.ret
      rw [hs]; unfold S_unidiv_power_13
      rw [if_neg (by simp)]
    | succ d ih =>
      intro i hi
      refine Ev.step (fun m => ?_) (ih (i + 1) (by omega))
      have hb := Bd.pow' hk i
      have hki : (k : Int) * i ≤ (k : Int) * N := Int.mul_le_mul_of_nonneg_left (by omega) (by omega)
      have hcast : ((k * i : Nat) : Int) = (k : Int) * i := by simp
      rw [hs]; unfold S_unidiv_power_13
      rw [if_pos (by rw [decide_eq_true_eq]; omega), F_integer_Mul, gif_bind ⟨II.di hb (by unfold KP at hkn; omega), hc.1⟩, iv_di, wrap_succ (by omega), ← Int.pow_succ]
  have := key N 0 (by omega)
  rw [Int.pow_zero] at this
  simp only [T_unidiv_power]
  refine Ev.congr (fun m => ?_) this
  rw [F_integer_Of, gif_bind (by omega)]
  rfl
theorem power_bind {σ : Type} {c n : Int} {k : Nat} (hk : Bd k (ab c)) (n0 : 0 ≤ n) (n1 : n ≤ 1000) (h : (k : Int) * n + 1 ≤ KP) (hkK : k ≤ KP) {K : Bool × List Int → Option σ} : (F_unidiv_power (di c) n).bind K = K (di (c ^ n.toNat)) := by
  rw [F_unidiv_power, gif_bind ⟨⟨II.di hk (by unfold KP at hkK; omega), by rw [iv_di]; exact hk.mono hkK⟩, n0, n1, k, by rw [iv_di]; exact hk, h⟩, iv_di]
theorem Rn_unipoly_Derivative : Run_unipoly_Derivative := fun s hs a => Ok.gif fun ⟨h, hb⟩ => by
  have hl := h.1
  have hl2 := trimL_len (pv a); rw [pv_len] at hl2
  simp only [T_unipoly_Derivative]
  by_cases h2 : (trimL (pv a)).length < 2
  · refine Ev.congr (t := fun _ => some (dp (derL (trimL (pv a))))) (fun m => ?_) Ev.ret
    rw [trim_bind h, take_len, if_pos (by rw [decide_eq_true_eq]; omega)]
    have : derL (trimL (pv a)) = [] := by unfold derL; rw [show (trimL (pv a)).length - 1 = 0 by omega]; rfl
    rw [this]; rfl
  · have e1 : IntKind.wrap .i64 (((trimL (pv a)).length : Int) - 1) = (((trimL (pv a)).length - 1 : Nat) : Int) := by rw [i64w (by omega) (by omega)]; omega
    have hII : ∀ i, II ((a.take (trimL (pv a)).length).getD i (false, ([] : List Int))) := fun i => II_get (fun c hc => h.2.1 c (List.mem_of_mem_take hc)) _
    have := fill_loop (n := (trimL (pv a)).length - 1) (fun i => di ((trimL (pv a)).getD (i + 1) 0 * ((i + 1 : Nat) : Int))) (false, ([] : List Int)) (fun m i out => s m (a.take (trimL (pv a)).length) (((trimL (pv a)).length - 1 : Nat) : Int) (i : Int) out) (dp (derL (trimL (pv a)))) (fun m i out hi ho => by
      rw [hs]; unfold S_unipoly_Derivative_25
      rw [if_pos (by rw [decide_eq_true_eq]; omega), wrap_succ (by omega), if_pos (by rw [take_len]; omega)]
      simp only [Int.toNat_natCast]
      rw [F_integer_Of, gif_bind (by omega), F_integer_Mul, gif_bind ⟨hII _, II.di (k := 64) (by rw [ab_pos (by omega)]; constructor <;> omega) (by omega)⟩, iv_di, if_pos (by omega), pv_get, take_trim]) (by
      rw [range_dp]
      refine Ev.step (t := fun _ => some _) (fun m => ?_) Ev.ret
      rw [hs]; unfold S_unipoly_Derivative_25
      rw [if_neg (by simp)]
      rfl)
    refine Ev.congr (fun m => ?_) this
    rw [trim_bind h, take_len, if_neg (by rw [decide_eq_true_eq]; omega), e1, if_pos (by omega), rep_len, List.length_replicate]
    rfl
end Go.W

set_option linter.unusedVariables false
set_option linter.unusedSimpArgs false
namespace Go.W

theorem one_PB : PB 1 [1] := fun c hc => by
  simp only [List.mem_cons, List.not_mem_nil, or_false] at hc
  subst hc; constructor <;> decide
theorem trim_of {l : List Int} (h : TL l) : trimL l = l := h
theorem Of_one {σ : Type} {K : NP → Option σ} : (F_unipoly_Of ([(1 : Int)] : List Int)).bind K = K (dp [1]) := by
  rw [F_unipoly_Of, gif_bind ⟨by simp, fun c hc => by simp only [List.mem_cons, List.not_mem_nil, or_false] at hc; omega⟩]
  rfl
def psOut (c : Int) (x : List Int × List Int × Int) : NP × NP × Int := if 0 < x.2.2 then (dp (scl (c ^ x.2.2.toNat) x.1), dp (scl (c ^ x.2.2.toNat) x.2.1), 0) else (dp x.1, dp x.2.1, 0)
def exOut : Option (List Int × List Int) → NP × Int
  | some (q, []) => (dp (trimL q), 0)
  | _ => ([], 3)
/-- the loop of a pseudo-division -/
theorem Pseudo_loop {s : Nat → NP → NP → NP → Int → Int → (Bool × List Int) → Option (NP × NP × Int)} (hs : ∀ m x1 x4 x5 x7 x9 x8, s (m + 1) x1 x4 x5 x7 x9 x8 = S_unidiv_Pseudo_25 (s m) x1 x4 x5 x7 x9 x8)
    {g : NP} (hg : PP g) {k : Nat} (hk : PB k (pv g)) (hg0 : trimL (pv g) ≠ []) : ∀ (n : Nat) (q r : List Int) (left : Int) (J : Nat), TL r → r.length < n → r.length ≤ 100 → q.length ≤ 100 → PB J r → PB J q →
      (r.length : Int) - (trimL (pv g)).length + 1 ≤ left → left ≤ 200 → -200 ≤ left → J + left.toNat * (k + 2) + (k + 4) ≤ 900000000000 →
      Ev (fun m => s m g (dp q) (dp r) (((trimL (pv g)).length : Int) - 1) left (di (lc (trimL (pv g)))))
        (psOut (lc (trimL (pv g))) (psL (trimL (pv g)) n q r left))
  | 0, q, r, left, J, hr, hn, _, _, _, _, _, _, _, _ => by omega
  | n + 1, q, r, left, J, hr, hn, hr1, hq1, pr, pq, hle, hl2, hl3, hJ => by
    have hlg := List.length_pos_iff.2 hg0
    have kg := hk.trim
    have er : trimL r = r := hr
    have ppr : PP (dp r) := PP.dp' (by omega) pr (by unfold KP; omega)
    by_cases h1 : (trimL (pv g)).length ≤ r.length
    · rw [show psL (trimL (pv g)) (n + 1) q r left = psL (trimL (pv g)) n (addL (scl (lc (trimL (pv g))) q) (shf (lc r) (r.length - (trimL (pv g)).length) [1])) (subL (scl (lc (trimL (pv g))) r) (shf (lc r) (r.length - (trimL (pv g)).length) (trimL (pv g)))) (left - 1) by simp only [psL]; rw [if_pos h1]]
      have hlen := ps_len (trimL_tl (pv g)) hg0 hr h1
      have eshf : shf (lc r) (r.length - (trimL (pv g)).length) (pv g) = shf (lc r) (r.length - (trimL (pv g)).length) (trimL (pv g)) := (shf_trim _ _ _).symm
      have b1 : PB (J + k) (scl (lc (trimL (pv g))) q) := PB.scl kg.lc pq (by omega)
      have b2 : PB (J + 1) (shf (lc r) (r.length - (trimL (pv g)).length) [1]) := PB.shf pr.lc one_PB (by omega)
      have b3 : PB (J + k) (scl (lc (trimL (pv g))) r) := PB.scl kg.lc pr (by omega)
      have b4 : PB (J + k) (shf (lc r) (r.length - (trimL (pv g)).length) (trimL (pv g))) := PB.shf pr.lc kg (by omega)
      have l1 := scl_len (lc (trimL (pv g))) q
      have l2 := shf_len (lc r) (r.length - (trimL (pv g)).length) [1]
      have l3 := scl_len (lc (trimL (pv g))) r
      have l4 := shf_len (lc r) (r.length - (trimL (pv g)).length) (trimL (pv g))
      have l5 := addL_len (scl (lc (trimL (pv g))) q) (shf (lc r) (r.length - (trimL (pv g)).length) [1])
      rw [List.length_singleton] at l2
      have hpos : 0 < left := by omega
      have hmul : left.toNat * (k + 2) = (left - 1).toNat * (k + 2) + (k + 2) := by
        have : left.toNat = (left - 1).toNat + 1 := by omega
        rw [this, Nat.add_mul, Nat.one_mul]
      have ih := Pseudo_loop hs hg hk hg0 n (addL (scl (lc (trimL (pv g))) q) (shf (lc r) (r.length - (trimL (pv g)).length) [1])) (subL (scl (lc (trimL (pv g))) r) (shf (lc r) (r.length - (trimL (pv g)).length) (trimL (pv g)))) (left - 1) (J + (k + 2)) (subL_TL _ _) (by omega) (by omega) (by omega) (b3.sub b4 (by omega)) (b1.add b2 (by omega)) (by omega) (by omega) (by omega) (by omega)
      refine Ev.step (fun m => ?_) ih
      have e2 : IntKind.wrap .i64 ((r.length : Int) - 1 - (((trimL (pv g)).length : Int) - 1)) = ((r.length - (trimL (pv g)).length : Nat) : Int) := by rw [i64w (by omega) (by omega)]; omega
      rw [hs]; unfold S_unidiv_Pseudo_25
      rw [Degree_bind ppr, pv_dp, er, if_pos (by rw [decide_eq_true_eq]; omega), Lead_bind ppr, pv_dp, er, Degree_bind ppr, pv_dp, er,
        Scale_bind (j := J) (k := k) (by omega) pq kg.lc (by unfold KP; omega), Of_one, e2,
        shifted_bind (j := 1) (k := J) (PP.dp' (by simp) one_PB (by unfold KP; omega)) (by rw [pv_dp]; exact one_PB) pr.lc (by unfold KP; omega) (by omega) (by omega), pv_dp, Int.toNat_natCast,
        Add_bind (j := J + k + 1) (by omega) (by omega) (b1.mono (by omega)) (b2.mono (by omega)) (by unfold KP; omega),
        Scale_bind (j := J) (k := k) (by omega) pr kg.lc (by unfold KP; omega),
        shifted_bind (j := k) (k := J) hg hk pr.lc (by unfold KP; omega) (by omega) (by omega), Int.toNat_natCast, eshf,
        Sub_bind (j := J + k) (by omega) (by omega) b3 b4 (by unfold KP; omega), i64w (by omega) (by omega)]
    · rw [show psL (trimL (pv g)) (n + 1) q r left = (q, r, left) by simp only [psL]; rw [if_neg h1]]
      refine Ev.step (t := fun _ => some _) (fun m => ?_) Ev.ret
      rw [hs]; unfold S_unidiv_Pseudo_25 psOut
      rw [Degree_bind ppr, pv_dp, er, if_neg (by rw [decide_eq_true_eq]; omega)]
      dsimp only
      by_cases h2 : 0 < left
      · have hkl : k * left.toNat ≤ left.toNat * (k + 2) := by rw [Nat.mul_comm]; exact Nat.mul_le_mul_left _ (by omega)
        have hpb := Bd.pow' kg.lc left.toNat
        have hci : (k : Int) * left = ((k * left.toNat : Nat) : Int) := by rw [Int.natCast_mul]; congr 1; omega
        rw [if_pos (decide_eq_true h2), if_pos h2, power_bind kg.lc (by omega) (by omega) (by rw [hci]; unfold KP; omega) (by unfold KP; omega),
          Scale_bind (j := J) (k := k * left.toNat + 1) (by omega) pq hpb (by unfold KP; omega), Scale_bind (j := J) (k := k * left.toNat + 1) (by omega) pr hpb (by unfold KP; omega)]
      · rw [if_neg (by rw [decide_eq_true_eq]; exact h2), if_neg h2]
theorem Rn_unidiv_Pseudo : Run_unidiv_Pseudo := fun s hs a b => Ok.gif fun ⟨ha, hb, la, lb, j, k, hj, hk, hjk⟩ => by
  simp only [T_unidiv_Pseudo]
  have ez : F_unidiv_zero b = some (decide (trimL (pv b) = [])) := gif_pos hb
  have l1 := trimL_len (pv a)
  have l2 := trimL_len (pv b)
  rw [pv_len] at l1 l2
  by_cases h0 : trimL (pv b) = []
  · rw [if_pos h0]
    refine Ev.congr (fun m => ?_) Ev.ret
    rw [ez, Option.bind_some, if_pos (decide_eq_true h0)]
  · rw [if_neg h0]
    have hp0 := List.length_pos_iff.2 h0
    have ppa : PP (dp (trimL (pv a))) := PP.dp (by omega) ha.2.2.trim
    have hm : ((((trimL (pv a)).length : Int) - (trimL (pv b)).length + 1).toNat) * (k + 2) + (k + 4) ≤ (a.length + 2) * (k + 4) := by
      have h1 : ((((trimL (pv a)).length : Int) - (trimL (pv b)).length + 1).toNat) * (k + 2) ≤ (a.length + 1) * (k + 4) := Nat.mul_le_mul (by omega) (by omega)
      have h2 : (a.length + 2) * (k + 4) = (a.length + 1) * (k + 4) + (k + 4) := by rw [Nat.add_mul (a.length + 1) 1, Nat.one_mul]
      omega
    have := Pseudo_loop hs hb hk h0 ((trimL (pv a)).length + 1) [] (trimL (pv a)) (((trimL (pv a)).length : Int) - (trimL (pv b)).length + 1) j (trimL_tl _) (by omega) (by omega) (by simp) hj.trim (.nil _) (by omega) (by omega) (by omega) (by omega)
    have e : psOut (lc (trimL (pv b))) (psL (trimL (pv b)) ((trimL (pv a)).length + 1) [] (trimL (pv a)) (((trimL (pv a)).length : Int) - (trimL (pv b)).length + 1)) = (dp (pseudo (trimL (pv a)) (trimL (pv b))).1, dp (pseudo (trimL (pv a)) (trimL (pv b))).2, 0) := by
      unfold pseudo psOut
      generalize psL (trimL (pv b)) ((trimL (pv a)).length + 1) [] (trimL (pv a)) (((trimL (pv a)).length : Int) - (trimL (pv b)).length + 1) = x
      obtain ⟨q, r, left⟩ := x
      dsimp only
      split <;> rfl
    rw [e] at this
    refine Ev.congr (fun m => ?_) this
    rw [ez, Option.bind_some, if_neg (by rw [decide_eq_true_eq]; exact h0), Normal_bind ha, Degree_bind hb, Lead_bind hb, Degree_bind ppa, pv_dp, trimL_idem, i64w (n := ((trimL (pv a)).length : Int) - 1 - (((trimL (pv b)).length : Int) - 1)) (by omega) (by omega), i64w (by omega) (by omega)]
    congr 1
    omega
/-- the loop of an exact division -/
theorem Exact_loop {s : Nat → NP → NP → Int → (Bool × List Int) → NP → Option (NP × Int)} (hs : ∀ m x1 x6 x7 x8 x9, s (m + 1) x1 x6 x7 x8 x9 = S_unidiv_Exact_25 (s m) x1 x6 x7 x8 x9)
    {g : NP} (hg : PP g) {k : Nat} (hk : PB k (pv g)) (hg0 : trimL (pv g) ≠ []) : ∀ (n : Nat) (q r : List Int) (J Q : Nat), TL r → r.length < n → r.length ≤ 100 → q.length ≤ 101 → r.length + 1 - (trimL (pv g)).length ≤ q.length → PB J r → PB Q q → Q ≤ 900000000000 →
      J + r.length * (k + 2) + (k + 4) ≤ 900000000000 →
      Ev (fun m => s m g (dp r) (((trimL (pv g)).length : Int) - 1) (di (lc (trimL (pv g)))) (dp q))
        (exOut (exL (trimL (pv g)) n q r))
  | 0, q, r, J, Q, hr, hn, _, _, _, _, _, _, _ => by omega
  | n + 1, q, r, J, Q, hr, hn, hr1, hq1, hqr, pr, pq, hQ, hJ => by
    have hlg := List.length_pos_iff.2 hg0
    have kg := hk.trim
    have er : trimL r = r := hr
    have ppr : PP (dp r) := PP.dp' (by omega) pr (by unfold KP; omega)
    simp only [exL]
    by_cases h1 : (trimL (pv g)).length ≤ r.length
    · rw [if_pos h1]
      have hlg0 := lc_ne (trimL_tl (pv g)) hg0
      have e2 : IntKind.wrap .i64 ((r.length : Int) - 1 - (((trimL (pv g)).length : Int) - 1)) = ((r.length - (trimL (pv g)).length : Nat) : Int) := by rw [i64w (by omega) (by omega)]; omega
      have ex : F_division_Exact (di (lc r)) (di (lc (trimL (pv g)))) = some (if Int.tmod (lc r) (lc (trimL (pv g))) = 0 then (di (Int.tdiv (lc r) (lc (trimL (pv g)))), 0) else ((false, []), 3)) := by
        rw [F_division_Exact, gif_pos ⟨II.di pr.lc (by omega), II.di kg.lc (by omega)⟩, iv_di, iv_di, if_neg hlg0]
      by_cases h2 : Int.tmod (lc r) (lc (trimL (pv g))) = 0
      · rw [if_pos h2]
        obtain ⟨c, hc⟩ : ∃ c, Int.tdiv (lc r) (lc (trimL (pv g))) = c := ⟨_, rfl⟩
        rw [hc]
        have hcb : Bd J (ab c) := by
          rw [← hc]
          refine pr.lc.le (ab_nonneg _) ?_
          rw [ab_eq, ab_eq]
          have := Int.natAbs_tdiv_le_natAbs (lc r) (lc (trimL (pv g)))
          omega
        have b4 : PB (J + k) (shf c (r.length - (trimL (pv g)).length) (trimL (pv g))) := PB.shf hcb kg (by omega)
        have l4 := shf_len c (r.length - (trimL (pv g)).length) (trimL (pv g))
        have eshf : shf c (r.length - (trimL (pv g)).length) (pv g) = shf c (r.length - (trimL (pv g)).length) (trimL (pv g)) := (shf_trim _ _ _).symm
        have hlen : (subL r (shf c (r.length - (trimL (pv g)).length) (trimL (pv g)))).length ≤ r.length - 1 := len_le_of (subL_TL _ _) fun i hi => by
          rw [subL_get, shf_get, if_neg (by omega)]
          by_cases h5 : i = r.length - 1
          · subst h5
            rw [show r.length - 1 - (r.length - (trimL (pv g)).length) = (trimL (pv g)).length - 1 by omega]
            show lc r - c * lc (trimL (pv g)) = 0
            rw [← hc, Int.tdiv_mul_cancel (Int.dvd_of_tmod_eq_zero h2)]; omega
          · rw [getD_out (l := r) (by omega), getD_out (l := trimL (pv g)) (by omega)]; simp
        have pq' : PB (max Q J) (q.set (r.length - (trimL (pv g)).length) c) := fun x hx => by
          rcases List.mem_or_eq_of_mem_set hx with h | h
          · exact (pq x h).mono (by omega)
          · rw [h]; exact hcb.mono (by omega)
        have hmul : r.length * (k + 2) = (r.length - 1) * (k + 2) + (k + 2) := by
          have : r.length = (r.length - 1) + 1 := by omega
          conv => lhs; rw [this, Nat.add_mul, Nat.one_mul]
        have hmul2 : (subL r (shf c (r.length - (trimL (pv g)).length) (trimL (pv g)))).length * (k + 2) ≤ (r.length - 1) * (k + 2) := Nat.mul_le_mul_right _ hlen
        have ih := Exact_loop hs hg hk hg0 n (q.set (r.length - (trimL (pv g)).length) c) (subL r (shf c (r.length - (trimL (pv g)).length) (trimL (pv g)))) (J + (k + 2)) (max Q J) (subL_TL _ _) (by omega) (by omega) (by simpa using hq1) (by simp; omega) (pr.sub b4 (by omega)) pq' (by omega) (by omega)
        refine Ev.step (fun m => ?_) ih
        rw [hs]; unfold S_unidiv_Exact_25
        rw [Degree_bind ppr, pv_dp, er, if_pos (by rw [decide_eq_true_eq]; omega), Degree_bind ppr, pv_dp, er, Lead_bind ppr, pv_dp, er, ex, Option.bind_some, if_pos h2, hc]
        dsimp only
        rw [if_neg (by decide), e2, if_pos (by rw [dp_len]; omega), shifted_bind (j := k) (k := J) hg hk hcb (by unfold KP; omega) (by omega) (by omega), Int.toNat_natCast, eshf,
          Sub_bind (j := J + k) (by omega) (by omega) (pr.mono (by omega)) b4 (by unfold KP; omega)]
        congr 1
        unfold dp; rw [List.map_set]
      · rw [if_neg h2]
        refine Ev.step (t := fun _ => some _) (fun m => ?_) Ev.ret
        rw [hs]; unfold S_unidiv_Exact_25
        rw [Degree_bind ppr, pv_dp, er, if_pos (by rw [decide_eq_true_eq]; omega), Degree_bind ppr, pv_dp, er, Lead_bind ppr, pv_dp, er, ex, Option.bind_some, if_neg h2]
        rfl
    · rw [if_neg h1]
      have ez : F_unidiv_zero (dp r) = some (decide (r = [])) := by rw [F_unidiv_zero, gif_pos ppr, pv_dp, er]
      refine Ev.step (t := fun _ => some _) (fun m => ?_) Ev.ret
      rw [hs]; unfold S_unidiv_Exact_25
      rw [Degree_bind ppr, pv_dp, er, if_neg (by rw [decide_eq_true_eq]; omega), ez, Option.bind_some]
      cases r with
      | nil =>
        rw [if_neg (by simp), Normal_bind (PP.dp' (by omega) pq (by unfold KP; omega)), pv_dp]; rfl
      | cons c r => rw [if_pos (by simp)]; rfl
theorem Rn_unidiv_Exact : Run_unidiv_Exact := fun s hs a b => Ok.gif fun ⟨ha, hb, la, lb, j, k, hj, hk, hjk⟩ => by
  simp only [T_unidiv_Exact]
  have ez : F_unidiv_zero b = some (decide (trimL (pv b) = [])) := gif_pos hb
  have l1 := trimL_len (pv a)
  have l2 := trimL_len (pv b)
  rw [pv_len] at l1 l2
  by_cases h0 : trimL (pv b) = []
  · rw [if_pos h0]
    refine Ev.congr (fun m => ?_) Ev.ret
    rw [ez, Option.bind_some, if_pos (decide_eq_true h0)]
  · rw [if_neg h0]
    have hp0 := List.length_pos_iff.2 h0
    have hm : (trimL (pv a)).length * (k + 2) + (k + 4) ≤ (a.length + 2) * (k + 4) := by
      have h1 : (trimL (pv a)).length * (k + 2) ≤ (a.length + 1) * (k + 4) := Nat.mul_le_mul (by omega) (by omega)
      have h2 : (a.length + 2) * (k + 4) = (a.length + 1) * (k + 4) + (k + 4) := by rw [Nat.add_mul (a.length + 1) 1, Nat.one_mul]
      omega
    have := Exact_loop hs hb hk h0 ((trimL (pv a)).length + 1) (List.replicate ((trimL (pv a)).length + 1 - (trimL (pv b)).length) 0) (trimL (pv a)) j 0 (trimL_tl _) (by omega) (by omega) (by simp; omega) (by simp) hj.trim (fun c hc => by rw [List.eq_of_mem_replicate hc]; exact Bd.zero 0) (by omega) (by omega)
    have e : exOut (exL (trimL (pv b)) ((trimL (pv a)).length + 1) (List.replicate ((trimL (pv a)).length + 1 - (trimL (pv b)).length) 0) (trimL (pv a))) = (match exact (trimL (pv a)) (trimL (pv b)) with
          | some q => (dp q, 0)
          | none => ([], 3)) := by
      unfold exact
      cases exL (trimL (pv b)) ((trimL (pv a)).length + 1) (List.replicate ((trimL (pv a)).length + 1 - (trimL (pv b)).length) 0) (trimL (pv a)) with
      | none => rfl
      | some x =>
        obtain ⟨q, r⟩ := x
        cases r <;> rfl
    rw [e] at this
    refine Ev.congr (fun m => ?_) this
    rw [ez, Option.bind_some, if_neg (by rw [decide_eq_true_eq]; exact h0), Normal_bind ha, Degree_bind hb, Lead_bind hb, dp_len]
    have e1 : (if (0 : Int) > (IntKind.wrap .i64 (((trimL (pv a)).length : Int) - (((trimL (pv b)).length : Int) - 1))) then (0 : Int) else (IntKind.wrap .i64 (((trimL (pv a)).length : Int) - (((trimL (pv b)).length : Int) - 1)))) = (((trimL (pv a)).length + 1 - (trimL (pv b)).length : Nat) : Int) := by
      rw [i64w (by omega) (by omega)]
      split <;> omega
    simp only [e1]
    rw [if_pos (by omega), rep_len]
    congr 1
    unfold dp; rw [List.map_replicate, ← zI_di]
theorem Rn_sturm_reduced : Run_sturm_reduced := fun s hs a => Ok.gif fun h => by
  have hl := h.1
  have hc : F_unidiv_Content a = some (di (gcdL (pv a))) := gif_pos h
  have hg := gcdL_Bd h.2.2
  have hgn := gcdL_nonneg (pv a)
  have hgb : Bd KP (ab (gcdL (pv a))) := by rw [ab_pos hgn]; exact hg
  have hII : II (di (gcdL (pv a))) := II.di hgb (by unfold KP; omega)
  have es : F_integer_Sign (di (gcdL (pv a))) = some (sg (gcdL (pv a))) := by rw [F_integer_Sign, gif_pos hII, iv_di]
  simp only [T_sturm_reduced]
  by_cases h0 : gcdL (pv a) = 0
  · have e : redL (pv a) = [] := redL_nil.2 (trimL_nil.2 (gcdL_zero.1 h0))
    rw [e]
    refine Ev.congr (t := fun _ => some (dp [])) (fun m => ?_) Ev.ret
    rw [hc, Option.bind_some, es, Option.bind_some, if_pos (by rw [h0]; rfl)]; rfl
  · have hb : PB KP ((List.range a.length).map fun i => Int.tdiv ((pv a).getD i 0) (gcdL (pv a))) := fun c hc => by
      obtain ⟨i, hi, rfl⟩ := List.mem_map.1 hc
      have := (redL_PB h.2.2).get i
      rw [redL_get] at this; exact this
    have := fill_loop (n := a.length) (fun i => di (Int.tdiv ((pv a).getD i 0) (gcdL (pv a)))) (false, ([] : List Int)) (fun m i out => s m a (a.length : Int) (i : Int) (di (gcdL (pv a))) out) (dp (redL (pv a))) (fun m i out hi ho => by
      rw [hs]; unfold S_sturm_reduced_25
      rw [if_pos (by rw [decide_eq_true_eq]; omega), if_pos (by omega), Int.toNat_natCast, F_division_Exact, gif_bind ⟨h.ii i, hII⟩, iv_di, if_neg h0, pv_get, if_pos (Int.tmod_eq_zero_of_dvd (gcdL_get _ _)), if_pos (by omega), wrap_succ (by omega)]) (by
      rw [range_dp]
      refine Ev.step (t := fun _ => some _) (fun m => ?_) Ev.ret
      rw [hs]; unfold S_sturm_reduced_25
      rw [if_neg (by simp), Normal_bind (PP.dp (by simp; omega) hb), pv_dp]
      congr 2
      refine (trimL_tl _).ext (redL_TL _) fun i => ?_
      rw [trimL_get, redL_get]
      by_cases hi : i < a.length
      · rw [getD_in (by simpa using hi)]; simp
      · rw [getD_out (by simp; omega), getD_out (l := pv a) (by rw [pv_len]; omega), Int.zero_tdiv])
    refine Ev.congr (fun m => ?_) this
    rw [hc, Option.bind_some, es, Option.bind_some, if_neg (by rw [beq_iff_eq]; unfold sg; (repeat' split) <;> omega), if_pos (by omega), rep_len]; rfl
theorem reduced_bind {σ : Type} {a : List Int} (la : a.length ≤ 1000) {j : Nat} (ha : PB j a) (hj : j ≤ KP) {K : NP → Option σ} : (F_sturm_reduced (dp a)).bind K = K (dp (redL a)) := by
  rw [F_sturm_reduced, gif_bind (PP.dp' la ha hj), pv_dp]
theorem nrm_if {a b : List Int} : nrm a b = if lc b < 0 then (if Int.tmod (if (0 : Int) > ((a.length : Int) - b.length + 1) then 0 else ((a.length : Int) - b.length + 1)) 2 = 1 then redL (pseudo a b).2 else subL [] (redL (pseudo a b).2)) else subL [] (redL (pseudo a b).2) := by
  unfold nrm
  by_cases h1 : lc b < 0
  · rw [if_pos h1]
    by_cases h2 : (0 : Int) > ((a.length : Int) - b.length + 1)
    · rw [if_pos h2, if_neg (by omega), if_neg (by decide)]
    · rw [if_neg h2]
      by_cases h3 : Int.tmod ((a.length : Int) - b.length + 1) 2 = 1
      · rw [if_pos ⟨h1, by omega, h3⟩, if_pos h3]
      · rw [if_neg (fun h => h3 h.2.2), if_neg h3]
  · rw [if_neg (fun h => h1 h.1), if_neg h1]
theorem Rn_sturm_negRemainder : Run_sturm_negRemainder := fun a b => Ok.gif_const fun ⟨ha, hb, ⟨la, lb, j, k, hj, hk, hjk⟩, h0⟩ => by
  have l1 := trimL_len (pv a)
  have l2 := trimL_len (pv b)
  rw [pv_len] at l1 l2
  have hp0 := List.length_pos_iff.2 h0
  have hpb := (pseudo_PB (trimL_tl (pv a)) (trimL_tl (pv b)) h0 hj.trim hk.trim).1
  have hpl := pseudo_len (trimL_tl (pv a)) (trimL_tl (pv b)) h0
  have hbd : j + (((trimL (pv a)).length : Int) - (trimL (pv b)).length + 1).toNat * (k + 2) + 1 + 1 ≤ KP := by
    have h1 : ((((trimL (pv a)).length : Int) - (trimL (pv b)).length + 1).toNat) * (k + 2) ≤ (a.length + 2) * (k + 4) := Nat.mul_le_mul (by omega) (by omega)
    unfold KP; omega
  have hrb := redL_PB hpb
  have hrl := redL_len (pseudo (trimL (pv a)) (trimL (pv b))).2
  have hrl2 := trimL_len (pseudo (trimL (pv a)) (trimL (pv b))).2
  have e1 : IntKind.wrap .i64 (IntKind.wrap .i64 (((trimL (pv a)).length : Int) - 1 - (((trimL (pv b)).length : Int) - 1)) + 1) = ((trimL (pv a)).length : Int) - (trimL (pv b)).length + 1 := by
    rw [i64w (n := ((trimL (pv a)).length : Int) - 1 - (((trimL (pv b)).length : Int) - 1)) (by omega) (by omega), i64w (by omega) (by omega)]; omega
  rw [T_sturm_negRemainder, F_unidiv_Pseudo, gif_bind ⟨ha, hb, la, lb, j, k, hj, hk, hjk⟩, if_neg h0, Degree_bind ha, Degree_bind hb, Lead_bind hb, F_integer_Sign, gif_bind (II.di (hb.2.2.trim).lc (by unfold KP; omega)), iv_di, nrm_if]
  simp only [e1]
  have er : ∀ {σ : Type} {K : NP → Option σ}, (F_sturm_reduced (dp (pseudo (trimL (pv a)) (trimL (pv b))).2)).bind K = K (dp (redL (pseudo (trimL (pv a)) (trimL (pv b))).2)) := reduced_bind (by omega) hpb (by omega)
  have en : ∀ {σ : Type} {K : NP → Option σ}, (F_unipoly_Neg (dp (redL (pseudo (trimL (pv a)) (trimL (pv b))).2))).bind K = K (dp (subL [] (redL (pseudo (trimL (pv a)) (trimL (pv b))).2))) := Neg_bind (by omega) hrb (by omega)
  by_cases h1 : lc (trimL (pv b)) < 0
  · rw [if_pos (by rw [decide_eq_true_eq]; unfold sg; rw [if_pos h1]; decide), if_pos h1, if_neg (by decide)]
    by_cases h3 : Int.tmod (if (0 : Int) > (((trimL (pv a)).length : Int) - (trimL (pv b)).length + 1) then 0 else (((trimL (pv a)).length : Int) - (trimL (pv b)).length + 1)) 2 = 1
    · rw [if_pos (by rw [beq_iff_eq]; exact h3), if_pos h3, er]
    · rw [if_neg (by rw [beq_iff_eq]; exact h3), if_neg h3, er, en]
  · rw [if_neg (by rw [decide_eq_true_eq]; unfold sg; (repeat' split) <;> omega), if_neg h1, er, en]
theorem negR_bind {σ : Type} {a b : List Int} (ta : TL a) (tb : TL b) (b0 : b ≠ []) (la : a.length ≤ 100) (lb : b.length ≤ 100) {j k : Nat} (hj : PB j a) (hk : PB k b) (h : j + (a.length + 2) * (k + 4) ≤ 900000000000) (hjK : j ≤ KP) (hkK : k ≤ KP) {K : NP → Option σ} :
    (F_sturm_negRemainder (dp a) (dp b)).bind K = K (dp (nrm a b)) := by
  rw [F_sturm_negRemainder, gif_bind ⟨PP.dp' (by omega) hj hjK, PP.dp' (by omega) hk hkK, ⟨by rw [dp_len]; exact la, by rw [dp_len]; exact lb, j, k, by rw [pv_dp]; exact hj, by rw [pv_dp]; exact hk, by rw [dp_len]; exact h⟩, by rw [pv_dp, trim_of tb]; exact b0⟩, pv_dp, pv_dp, trim_of ta, trim_of tb]
end Go.W

set_option linter.unusedVariables false
set_option linter.unusedSimpArgs false
namespace Go.W

theorem SP.pp {f : NP} (h : SP f) : PP f := ⟨by have := h.1; omega, h.2.1, h.2.2.mono (by unfold KP; omega)⟩
theorem chF_nil (n : Nat) (a : List Int) : chF n a [] = [a] := by cases n <;> rfl
theorem chF_cons (n : Nat) (a : List Int) {b : List Int} (h : b ≠ []) : chF (n + 1) a b = a :: chF n b (nrm a b) := by simp only [chF]; rw [if_neg h]
theorem Chain_loop {s : Nat → NP → NP → List NP → Option (List NP)} (hs : ∀ m x5 x6 x7, s (m + 1) x5 x6 x7 = S_sturm_Chain_21 (s m) x5 x6 x7) :
    ∀ (n : Nat) (a b : List Int) (K : Nat) (out : List NP), CS XC a b K → b.length < n → out.length + n ≤ 100 → Ev (fun m => s m (dp a) (dp b) (out ++ [dp a])) (out ++ (chF n a b).map dp)
  | 0, a, b, K, out, h, hb, _ => by omega
  | n + 1, a, b, K, out, h, hb, ho => by
    have hK := h.db
    have hla := h.la
    have hlt := h.lt
    by_cases h0 : b = []
    · subst h0
      rw [chF_nil]
      refine Ev.step (t := fun _ => some _) (fun m => ?_) Ev.ret
      rw [hs]; unfold S_sturm_Chain_21
      rw [if_neg (by simp [dp])]; rfl
    · obtain ⟨K', h', _⟩ := h.next h0
      have hl := nrm_len h.ta h.tb h0
      have hb0 := List.length_pos_iff.2 h0
      rw [chF_cons n a h0]
      have ih := Chain_loop hs n b (nrm a b) K' (out ++ [dp a]) h' (by omega) (by simp; omega)
      have hm : (a.length + 2) * (K + 4) ≤ 16 * (K + 4) := Nat.mul_le_mul_right _ (by omega)
      have e : (out ++ [dp a]) ++ List.map dp (chF n b (nrm a b)) = out ++ List.map dp (a :: chF n b (nrm a b)) := by simp
      rw [e] at ih
      refine Ev.step (fun m => ?_) ih
      rw [hs]; unfold S_sturm_Chain_21
      rw [if_pos (by rw [decide_eq_true_eq, dp_len]; omega), if_pos (by simp; omega), negR_bind h.ta h.tb h0 (by omega) (by omega) h.pa h.pb (by omega) (by omega) (by omega)]
theorem Rn_sturm_Chain : Run_sturm_Chain := fun s hs f g => Ok.gif fun ⟨hf, hg⟩ => by
  have pf := hf.pp
  have pg := hg.pp
  have hlf := hf.1
  have hlg := hg.1
  have ef : F_sturm_reduced f = some (dp (redL (pv f))) := gif_pos pf
  have eg : F_sturm_reduced g = some (dp (redL (pv g))) := gif_pos pg
  have l1 := trimL_len (pv f)
  have l2 := trimL_len (pv g)
  rw [pv_len] at l1 l2
  have l3 := redL_len (pv f)
  have l4 := redL_len (pv g)
  simp only [T_sturm_Chain]
  unfold chL
  by_cases h0 : redL (pv f) = []
  · rw [if_pos h0]
    refine Ev.congr (fun m => ?_) Ev.ret
    rw [ef, Option.bind_some, eg, Option.bind_some, if_pos (by rw [h0]; rfl)]; rfl
  · rw [if_neg h0]
    have hp0 := List.length_pos_iff.2 h0
    have start : Ev (fun m => s m (dp (redL (pv f))) (dp (redL (pv g))) [dp (redL (pv f))]) ((chF 100 (redL (pv f)) (redL (pv g))).map dp) := by
      by_cases h1 : redL (pv g) = []
      · rw [h1, chF_nil]
        refine Ev.step (t := fun _ => some _) (fun m => ?_) Ev.ret
        rw [hs]; unfold S_sturm_Chain_21
        rw [if_neg (by simp [dp])]; rfl
      · have hp1 := List.length_pos_iff.2 h1
        obtain ⟨K, hC, _⟩ := CS.first (redL_TL (pv f)) (redL_TL (pv g)) h1 (by omega) (by omega) (redL_PB hf.2.2) (redL_PB hg.2.2)
        have hl := nrm_len (redL_TL (pv f)) (redL_TL (pv g)) h1
        rw [chF_cons 99 _ h1]
        have := Chain_loop hs 99 (redL (pv g)) (nrm (redL (pv f)) (redL (pv g))) K [dp (redL (pv f))] hC (by omega) (by simp)
        have hm : ((redL (pv f)).length + 2) * (100 + 4) ≤ 16 * 104 := Nat.mul_le_mul_right _ (by omega)
        refine Ev.step (fun m => ?_) this
        rw [hs]; unfold S_sturm_Chain_21
        rw [if_pos (by rw [decide_eq_true_eq, dp_len]; omega), if_pos (by simp), negR_bind (redL_TL _) (redL_TL _) h1 (by omega) (by omega) (redL_PB hf.2.2) (redL_PB hg.2.2) (by omega) (by unfold KP; omega) (by unfold KP; omega)]
    refine Ev.congr (fun m => ?_) start
    rw [ef, Option.bind_some, eg, Option.bind_some, if_neg (by rw [dp_len, beq_iff_eq]; omega)]
theorem derL_PB {k : Nat} {l : List Int} (h : PB k l) (hl : l.length ≤ 1024) : PB (k + 10) (derL l) := .of fun i => by
  rw [derL_get]
  by_cases hi : i + 1 < l.length
  · exact (h.get (i + 1)).ab_mul (z := ((i + 1 : Nat) : Int)) (k := 10) (by rw [ab_pos (by omega)]; constructor <;> omega)
  · rw [getD_out (by omega), Int.zero_mul]; exact Bd.zero _
theorem derL_len (l : List Int) : (derL l).length = l.length - 1 := by simp [derL]
theorem SP.dp {k : Nat} {l : List Int} (hl : l.length ≤ 14) (h : PB k l) (hk : k ≤ 100) : SP (Go.W.dp l) :=
  ⟨by rw [dp_len]; exact hl, (PP.dp' (by omega) h (by unfold KP; omega)).2.1, by rw [pv_dp]; exact h.mono hk⟩
theorem Rn_sturm_Of : Run_sturm_Of := fun f => Ok.gif_const fun ⟨hf, hb⟩ => by
  have hl := hf.1
  have l1 := trimL_len (pv f)
  rw [pv_len] at l1
  rw [T_sturm_Of, F_unipoly_Derivative, gif_bind ⟨hf.pp, hb.mono (by omega)⟩, F_sturm_Chain, gif_bind ⟨hf, SP.dp (by rw [derL_len]; omega) (derL_PB hb.trim (by omega)) (by omega)⟩, pv_dp]
theorem chg_bd : ∀ (l : List Int) (x : Int), 0 ≤ chg x l ∧ chg x l ≤ l.length
  | [], x => by simp [chg]
  | s :: l, x => by
    simp only [chg]
    have := chg_bd l (if s ≠ 0 then s else x)
    simp only [List.length_cons]
    split <;> omega
theorem i64_small {a b : Int} (ha : -1 ≤ a ∧ a ≤ 1) (hb : -1 ≤ b ∧ b ≤ 1) : IntKind.wrap .i64 (a * b) = a * b := by
  have : a = -1 ∨ a = 0 ∨ a = 1 := by omega
  rcases this with rfl | rfl | rfl
  · rw [i64w] <;> omega
  · rw [i64w] <;> omega
  · rw [i64w] <;> omega
theorem Rn_sturm_changes : Run_sturm_changes := fun s hs l => Ok.gif fun ⟨hl, hb⟩ => by
  have key : ∀ (k i : Nat) (n last : Int), i + k = l.length → 0 ≤ n → n ≤ i → -1 ≤ last ∧ last ≤ 1 → Ev (fun m => s m n last l (l.length : Int) (i : Int)) (n + chg last (l.drop i)) := by
    intro k
    induction k with
    | zero =>
      intro i n last hi h0 hn hla
      refine Ev.step (t := fun _ => some _) (fun m => ?_) Ev.ret
      rw [hs]; unfold S_sturm_changes_13
      rw [if_neg (by rw [decide_eq_true_eq]; omega), List.drop_of_length_le (by omega)]
      simp [chg]
    | succ k ih =>
      intro i n last hi h0 hn hla
      have hil : i < l.length := by omega
      have hx := hb _ (List.getElem_mem hil)
      rw [List.drop_eq_getElem_cons hil]
      simp only [chg]
      have e := getD_in hil
      have pre : ∀ m, s (m + 1) n last l (l.length : Int) (i : Int) = s m (if l[i] * last < 0 then n + 1 else n) (if l[i] ≠ 0 then l[i] else last) l (l.length : Int) ((i + 1 : Nat) : Int) := fun m => by
        rw [hs]; unfold S_sturm_changes_13
        rw [if_pos (by rw [decide_eq_true_eq]; omega), if_pos (by omega), Int.toNat_natCast]
        simp only [e]
        rw [i64_small hx hla, wrap_succ (by omega), i64w (n := n + 1) (by omega) (by omega)]
        by_cases h1 : l[i] * last < 0
        · rw [if_pos (decide_eq_true h1), if_pos h1]
          by_cases h2 : l[i] ≠ 0
          · rw [if_pos (by rw [bne_iff_ne]; exact h2), if_pos h2]
          · rw [if_neg (by rw [bne_iff_ne]; exact h2), if_neg h2]
        · rw [if_neg (by rw [decide_eq_true_eq]; exact h1), if_neg h1]
          by_cases h2 : l[i] ≠ 0
          · rw [if_pos (by rw [bne_iff_ne]; exact h2), if_pos h2]
          · rw [if_neg (by rw [bne_iff_ne]; exact h2), if_neg h2]
      have := ih (i + 1) (if l[i] * last < 0 then n + 1 else n) (if l[i] ≠ 0 then l[i] else last) (by omega) (by split <;> omega) (by split <;> omega) (by split <;> assumption)
      have e3 : n + ((if l[i] * last < 0 then 1 else 0) + chg (if l[i] ≠ 0 then l[i] else last) (l.drop (i + 1))) = (if l[i] * last < 0 then n + 1 else n) + chg (if l[i] ≠ 0 then l[i] else last) (l.drop (i + 1)) := by split <;> omega
      rw [e3]
      exact Ev.step pre this
  have := key l.length 0 0 0 (by omega) (by omega) (by omega) (by omega)
  rw [List.drop_zero, Int.zero_add] at this
  simp only [T_sturm_changes]
  exact this
theorem map_range_get {α β : Type} (l : List α) (z : α) (f : α → β) : (List.range l.length).map (fun i => f (l.getD i z)) = l.map f := by
  apply List.ext_getElem (by simp)
  intro i h1 h2
  simp at h1 h2
  simp [List.getD, h2]
theorem getD_mem' {α : Type} {l : List α} {i : Nat} {z : α} (h : i < l.length) : l.getD i z ∈ l := by
  simp [List.getD, List.getElem?_eq_getElem h]
end Go.W

set_option linter.unusedVariables false
set_option linter.unusedSimpArgs false
namespace Go.W

/-- two neighbours of a chain -/
structure Pr (x y : List Int) : Prop where
  tx : TL x
  ty : TL y
  y0 : y ≠ []
  lx : x.length ≤ 14
  ly : y.length ≤ 14
  pb : ∃ K, PB K x ∧ PB K y ∧ K + 16 * (K + 4) ≤ 900000000000
  nx : ∃ K, CS XC y (nrm x y) K ∧ PB K (pseudo x y).2
theorem Pr.of {x y : List Int} {K : Nat} (h : CS XC x y K) (h0 : y ≠ []) : Pr x y :=
  ⟨h.ta, h.tb, h0, h.la, by have := h.la; have := h.lt; omega, ⟨K, h.pa, h.pb, h.db.1⟩, h.next h0⟩
end Go.W

set_option linter.unusedVariables false
set_option linter.unusedSimpArgs false
namespace Go.W

/-! ### the reference's text -/
def gz (n : Int) : List Int := if n = 0 then [0] else gd 10 n
end Go.W

set_option linter.unusedVariables false
set_option linter.unusedSimpArgs false
namespace Go.W

end Go.W

set_option linter.unusedVariables false
set_option linter.unusedSimpArgs false
namespace Go.W

/-! ### reading decimal digits -/
end Go.W

set_option linter.unusedVariables false
set_option linter.unusedSimpArgs false
namespace Go.W

end Go.W

set_option linter.unusedVariables false
set_option linter.unusedSimpArgs false
namespace Go.W

end Go.W

set_option linter.unusedVariables false
set_option linter.unusedSimpArgs false
namespace Go.W

end Go.W

set_option linter.unusedVariables false
set_option linter.unusedSimpArgs false
namespace Go.W

theorem divInt_i (n : Int) : Rat.divInt n 1 = (n : Rat) := by
  have := Rat.num_divInt_den (n : Rat)
  rw [Rat.num_intCast, Rat.den_intCast] at this
  exact this
end Go.W

set_option linter.unusedVariables false
namespace Go.W
/-! ### the simplest number between two -/
def Simp (a b q : Rat) : Prop := a < q ∧ q < b ∧ ∀ r : Rat, a < r → r < b → q.num ≤ r.num ∧ q.den ≤ r.den
open Classical in
noncomputable def simp (a b : Rat) : Rat := if h : ∃ q, Simp a b q then h.choose else 0
end Go.W

set_option linter.unusedVariables false
namespace Go.W
noncomputable section

/-! cylinder/rational.within -/
end
end Go.W

set_option linter.unusedVariables false
set_option linter.unusedSimpArgs false
namespace Go.W

/-! ### The simplest number between two -/
theorem num_eq (r : Rat) : (r.num : Rat) = r * ((r.den : Int) : Rat) := by
  have h := QB.as r
  have hd : ((r.den : Int) : Rat) ≠ 0 := by
    rw [Ne, Rat.intCast_eq_zero_iff]; have := r.den_pos; omega
  rw [Rat.divInt_eq_div] at h
  generalize ((r.den : Int) : Rat) = D at *
  generalize (r.num : Rat) = N at *
  grind
theorem den_ge (r : Rat) : (1 : Rat) ≤ ((r.den : Int) : Rat) := by
  have := r.den_pos
  exact Rat.intCast_le_intCast (a := 1) |>.2 (by omega)
theorem add_int (n : Int) (t : Rat) : ((n : Rat) + t).num = n * t.den + t.num ∧ ((n : Rat) + t).den = t.den := by
  have hp := t.den_pos
  have e : (n : Rat) + t = Rat.divInt (n * t.den + t.num) t.den := by
    have h : (n : Rat) = Rat.divInt n 1 := (divInt_i n).symm
    conv => lhs; rw [h, QB.as t]
    rw [Rat.divInt_add_divInt _ _ (by omega) (by omega)]
    congr 1 <;> omega
  have hg : Int.gcd (n * t.den + t.num) (t.den : Int) = 1 := by
    have := t.reduced
    rw [Int.gcd_comm, Int.add_comm]
    have h2 : Int.gcd (t.den : Int) (t.num + n * t.den) = Int.gcd (t.den : Int) t.num := by
      rw [Int.mul_comm]; exact Int.gcd_add_mul_left_right ..
    rw [h2, Int.gcd_comm]
    exact this
  have hn : ((n : Rat) + t).num = n * t.den + t.num := by rw [e, num_div (by omega), hg]; simp
  have hd : (((n : Rat) + t).den : Int) = t.den := by rw [e, den_div (by omega), hg]; simp
  exact ⟨hn, by omega⟩
theorem sub_int (n : Int) (t : Rat) : (t - (n : Rat)).num = t.num - n * t.den ∧ (t - (n : Rat)).den = t.den := by
  have h := add_int (-n) t
  have e : ((-n : Int) : Rat) + t = t - (n : Rat) := by rw [Rat.intCast_neg]; grind
  rw [e] at h
  exact ⟨by rw [h.1, Int.neg_mul]; omega, h.2⟩
theorem num_pos' {t : Rat} : 0 < t ↔ 0 < t.num := by
  have h1 := @Rat.num_nonneg t
  have h2 := @Rat.num_eq_zero t
  constructor
  · intro h
    have : 0 ≤ t.num := h1.2 (Rat.le_of_lt h)
    have h3 : t.num ≠ 0 := fun e => by rw [h2.1 e] at h; exact absurd h Rat.lt_irrefl
    omega
  · intro h
    have : 0 ≤ t := h1.1 (by omega)
    refine Rat.lt_of_le_of_ne this fun e => ?_
    rw [← e] at h; simp at h
theorem inv_parts {t : Rat} (h : 0 < t) : (t⁻¹).num = t.den ∧ ((t⁻¹).den : Int) = t.num := by
  have hp := num_pos'.1 h
  refine ⟨?_, ?_⟩
  · rw [Rat.num_inv, Int.sign_eq_one_of_pos hp, Int.one_mul]
  · rw [Rat.den_inv, if_neg (by omega)]; omega
theorem inv_lt {s t : Rat} (hs : 0 < s) (h : s < t) : t⁻¹ < s⁻¹ := by
  have ht : 0 < t := by grind
  have h1 := Rat.mul_inv_cancel s (by grind)
  have h2 := Rat.mul_inv_cancel t (by grind)
  have p1 := Rat.inv_pos.2 hs
  have p2 := Rat.inv_pos.2 ht
  have h3 := Rat.mul_lt_mul_of_pos_right (Rat.mul_lt_mul_of_pos_right h p1) p2
  generalize s⁻¹ = S at *
  generalize t⁻¹ = T at *
  have e1 : s * S * T = T := by rw [h1, Rat.one_mul]
  have e2 : t * S * T = S := by grind
  rw [e1, e2] at h3
  exact h3
theorem Simp.next {a b : Rat} (ha : 0 ≤ a) (h : ((a.floor + 1 : Int) : Rat) < b) : Simp a b ((a.floor + 1 : Int) : Rat) := by
  refine ⟨Rat.lt_floor_add_one a, h, fun r h1 h2 => ?_⟩
  rw [Rat.num_intCast, Rat.den_intCast]
  refine ⟨?_, r.den_pos⟩
  have hr : 0 < r := by grind
  have hf := Rat.floor_lt_iff (a := a) (x := r.num)
  have : a < (r.num : Rat) := by
    have e := num_eq r
    have d := den_ge r
    have : r * 1 ≤ r * ((r.den : Int) : Rat) := Rat.mul_le_mul_of_nonneg_left d (Rat.le_of_lt hr)
    grind
  have := hf.2 this
  omega
theorem floor_nonneg {a : Rat} (ha : 0 ≤ a) : 0 ≤ a.floor := Rat.le_floor_iff.2 (by simpa using ha)
theorem shift_in {a b r : Rat} (n : Int) (h1 : a < r) (h2 : r < b) : a - (n : Rat) < r - (n : Rat) ∧ r - (n : Rat) < b - (n : Rat) := by constructor <;> grind
theorem Simp.unit {a b : Rat} (ha : 0 ≤ a) (hab : a < b) (hx : a - (a.floor : Rat) = 0) :
    Simp a b ((a.floor : Rat) + ((((b - (a.floor : Rat))⁻¹).floor + 1 : Int) : Rat)⁻¹) := by
  have hn := floor_nonneg ha
  generalize ea : a.floor = n at *
  generalize ey : b - (n : Rat) = y at *
  have hy : 0 < y := by grind
  have hyi := Rat.inv_pos.2 hy
  generalize em : (y⁻¹).floor + 1 = m at *
  have hm1 : 1 ≤ m := by
    have := floor_nonneg (Rat.le_of_lt hyi)
    omega
  have hmr : (0 : Rat) < (m : Rat) := Rat.intCast_pos.2 (by omega)
  have hlt : y⁻¹ < (m : Rat) := by rw [← em]; exact Rat.lt_floor_add_one _
  have hmi := Rat.inv_pos.2 hmr
  have hinv : (m : Rat)⁻¹ < y := by
    have := inv_lt hyi hlt
    rwa [Rat.inv_inv] at this
  obtain ⟨p1, p2⟩ := inv_parts hmr
  rw [Rat.num_intCast] at p2
  rw [Rat.den_intCast] at p1
  obtain ⟨q1, q2⟩ := add_int n ((m : Rat)⁻¹)
  refine ⟨by grind, by grind, fun r h1 h2 => ?_⟩
  obtain ⟨t1, t2⟩ := shift_in n h1 h2
  obtain ⟨u1, u2⟩ := sub_int n r
  generalize r - (n : Rat) = t at *
  rw [hx] at t1
  rw [ey] at t2
  have ht := num_pos'.1 t1
  have hti := inv_lt t1 t2
  obtain ⟨v1, v2⟩ := inv_parts t1
  have hden : m ≤ (t.den : Int) := by
    have h3 : y⁻¹ < ((t.den : Int) : Rat) := by
      have e := num_eq t⁻¹
      rw [v1] at e
      have d := den_ge t⁻¹
      have hp := Rat.inv_pos.2 t1
      have : t⁻¹ * 1 ≤ t⁻¹ * (((t⁻¹).den : Int) : Rat) := Rat.mul_le_mul_of_nonneg_left d (Rat.le_of_lt hp)
      grind
    have := Rat.floor_lt_iff.2 h3
    omega
  have hmul : n * m ≤ n * (t.den : Int) := Int.mul_le_mul_of_nonneg_left hden hn
  refine ⟨?_, by omega⟩
  have e3 : r.num = t.num + n * (t.den : Int) := by rw [u2]; omega
  rw [q1, p1, e3, p2]; omega
theorem Simp.step {a b s : Rat} (ha : 0 ≤ a) (hab : a < b) (hx : 0 < a - (a.floor : Rat)) (hs : Simp (b - (a.floor : Rat))⁻¹ (a - (a.floor : Rat))⁻¹ s) :
    Simp a b ((a.floor : Rat) + s⁻¹) := by
  have hn := floor_nonneg ha
  generalize ea : a.floor = n at *
  generalize ey : b - (n : Rat) = y at *
  generalize ex : a - (n : Rat) = x at *
  have hy : 0 < y := by grind
  have hyi := Rat.inv_pos.2 hy
  have hxi := Rat.inv_pos.2 hx
  obtain ⟨s1, s2, s3⟩ := hs
  have hsp : 0 < s := by grind
  have i1 := inv_lt hyi s1
  have i2 := inv_lt hsp s2
  rw [Rat.inv_inv] at i1 i2
  obtain ⟨p1, p2⟩ := inv_parts hsp
  obtain ⟨q1, q2⟩ := add_int n (s⁻¹)
  refine ⟨by grind, by grind, fun r h1 h2 => ?_⟩
  obtain ⟨t1, t2⟩ := shift_in n h1 h2
  obtain ⟨u1, u2⟩ := sub_int n r
  generalize r - (n : Rat) = t at *
  rw [ex] at t1
  rw [ey] at t2
  have htp : 0 < t := by grind
  obtain ⟨v1, v2⟩ := inv_parts htp
  obtain ⟨w1, w2⟩ := s3 t⁻¹ (inv_lt htp t2) (inv_lt hx t1)
  rw [v1] at w1
  have hmul : n * s.num ≤ n * (t.den : Int) := Int.mul_le_mul_of_nonneg_left w1 hn
  have hsn := num_pos'.1 hsp
  refine ⟨?_, by omega⟩
  have e3 : r.num = t.num + n * (t.den : Int) := by rw [u2]; omega
  rw [q1, p1, e3, p2]; omega
theorem Simp.narrow {a b c s : Rat} (h : Simp a b s) (h1 : a ≤ c) (h2 : c < s) : Simp c b s := ⟨h2, h.2.1, fun r r1 r2 => h.2.2 r (by grind) r2⟩
end Go.W

set_option linter.unusedVariables false
set_option linter.unusedSimpArgs false
namespace Go.W

theorem rcm_lt0 {x y : Rat} : rcm x y < 0 ↔ x < y := by
  unfold rcm
  (repeat' split) <;> rename_i h1 <;> constructor <;> intro h <;> first | omega | grind
theorem rcm_gt0 {x y : Rat} : rcm x y > 0 ↔ y < x := by
  unfold rcm
  (repeat' split) <;> rename_i h1 <;> constructor <;> intro h <;> first | omega | grind
theorem QV.m {j k : Nat} {a : NQ} {r : Rat} (h : QV j a r) (hk : j ≤ k) : QV k a r := ⟨h.1, h.2.1, h.2.2.mono hk⟩
end Go.W

set_option linter.unusedVariables false
set_option linter.unusedSimpArgs false
namespace Go.W

theorem evR_trim : ∀ (l : List Int) (x : Rat), evR (trimL l) x = evR l x
  | [], x => rfl
  | c :: l, x => by
    have ih := evR_trim l x
    simp only [trimL]
    split
    · rename_i h
      obtain ⟨rfl, h⟩ := h
      rw [h] at ih
      simp only [evR] at ih ⊢
      rw [← ih]
      have : ((0 : Int) : Rat) = 0 := rfl
      grind
    · simp only [evR, ih]
theorem evZ_R : ∀ (l : List Int) (n d : Int) (x : Rat), x * (d : Rat) = (n : Rat) → ((evZ l n d : Int) : Rat) * (d : Rat) = evR l x * (d : Rat) ^ l.length
  | [], n, d, x, h => by
    simp only [evZ, evR]
    have : ((0 : Int) : Rat) = 0 := rfl
    rw [this, Rat.zero_mul, Rat.zero_mul]
  | c :: l, n, d, x, h => by
    have ih := evZ_R l n d x h
    simp only [evZ, evR, List.length_cons]
    rw [Rat.intCast_add, Rat.intCast_mul, Rat.intCast_mul, Rat.intCast_pow, Rat.pow_succ]
    generalize ((evZ l n d : Int) : Rat) = E at *
    generalize (d : Rat) = D at *
    generalize (n : Rat) = N at *
    generalize evR l x = V at *
    generalize (c : Rat) = C at *
    generalize D ^ l.length = W at *
    grind
theorem sg_rsg (z : Int) : sg z = rsg (z : Rat) := by
  unfold sg rsg
  have h1 : ((z : Rat) < 0) ↔ z < 0 := Rat.intCast_neg_iff
  have h2 : ((z : Rat) = 0) ↔ z = 0 := Rat.intCast_eq_zero_iff
  simp only [h1, h2]
theorem rsg_mul_pos {x y : Rat} (hy : 0 < y) : rsg (x * y) = rsg x := by
  have h1 : x * y < 0 ↔ x < 0 := by
    constructor
    · intro h
      rcases Std.lt_trichotomy x 0 with h2 | h2 | h2
      · exact h2
      · rw [h2, Rat.zero_mul] at h; exact absurd h Rat.lt_irrefl
      · have := Rat.mul_pos h2 hy; grind
    · intro h
      have := Rat.mul_lt_mul_of_pos_right h hy
      rwa [Rat.zero_mul] at this
  have h2 : x * y = 0 ↔ x = 0 := by
    constructor
    · intro h
      rcases Rat.mul_eq_zero.1 h with h | h
      · exact h
      · rw [h] at hy; exact absurd hy Rat.lt_irrefl
    · intro h; rw [h, Rat.zero_mul]
  unfold rsg
  simp only [h1, h2]
theorem rat_pow_pos {d : Rat} (h : 0 < d) : ∀ n : Nat, 0 < d ^ n
  | 0 => by rw [Rat.pow_zero]; decide +kernel
  | n + 1 => by rw [Rat.pow_succ]; exact Rat.mul_pos (rat_pow_pos h n) h
theorem evZ_sign (l : List Int) (r : Rat) : sg (evZ l r.num (r.den : Int)) = rsg (evR l r) := by
  have hd : (0 : Rat) < ((r.den : Int) : Rat) := Rat.intCast_pos.2 (by have := r.den_pos; omega)
  have h := evZ_R l r.num (r.den : Int) r (num_eq r).symm
  rw [sg_rsg, ← rsg_mul_pos hd, h, rsg_mul_pos (rat_pow_pos hd _)]
theorem den_di (r : Rat) : ((false, dn (r.den : Int)) : Bool × List Int) = di (r.den : Int) := by unfold di; rw [ab_pos (by omega)]; congr 1
theorem evZ_drop {l : List Int} {k : Nat} (hk : k < l.length) (n d : Int) : evZ (l.drop k) n d = l.getD k 0 * d ^ (l.length - (k + 1)) + n * evZ (l.drop (k + 1)) n d := by
  rw [List.drop_eq_getElem_cons hk]
  simp only [evZ, List.length_drop, getD_in hk]
theorem evZ_Bd {n d : Int} (bn : Bd 1000 (ab n)) (bd : Bd 1000 (ab d)) : ∀ l : List Int, PB 1000000000 l → Bd (1000000000 + 2000 * l.length) (ab (evZ l n d))
  | [], _ => Bd.zero _
  | c :: l, h => by
    have h1 := evZ_Bd bn bd l fun x hx => h x (by simp [hx])
    have h2 := Bd.pow' bd l.length
    have h3 := h c (by simp)
    simp only [evZ, List.length_cons]
    exact ((h3.ab_mul h2).ab_add (bn.ab_mul h1)).mono (by omega)
theorem scaled_num (f : NP) (a : NQ) (h : f.length ≤ 100 ∧ (∀ c ∈ f, II c) ∧ PB 1000000000 (pv f) ∧ QQ a ∧ QB 1000 (rv a)) : PP f := ⟨by omega, h.2.1, h.2.2.1.mono (by unfold KP; omega)⟩
theorem Rn_unipoly_scaled : Run_unipoly_scaled := fun s hs f a => Ok.gif fun h => by
  have hp := scaled_num f a h
  obtain ⟨hl, hI, hb, hq, hqb⟩ := h
  have l1 := trimL_len (pv f)
  rw [pv_len] at l1
  have hbt := hb.trim
  have hII : ∀ i, II ((f.take (trimL (pv f)).length).getD i (false, ([] : List Int))) := fun i => II_get (fun c hc => hI c (List.mem_of_mem_take hc)) _
  have eN : F_rational_Normal a = some (dr (rv a)) := gif_pos hq
  have gtake : ∀ i, iv ((f.take (trimL (pv f)).length).getD i (false, ([] : List Int))) = (trimL (pv f)).getD i 0 := fun i => by rw [pv_get, take_trim]
  have tl := take_len f
  obtain ⟨T, hT⟩ : ∃ T, f.take (trimL (pv f)).length = T := ⟨_, rfl⟩
  rw [hT] at tl
  simp only [hT] at hII gtake
  obtain ⟨l, hl0⟩ : ∃ l, trimL (pv f) = l := ⟨_, rfl⟩
  rw [hl0] at tl l1 hbt ⊢
  simp only [hl0] at gtake
  generalize rv a = r at *
  have bn : Bd 1000 (ab r.num) := hqb.1
  have bd : Bd 1000 (ab (r.den : Int)) := by rw [ab_pos (by omega)]; exact hqb.2
  have key : ∀ k : Nat, k ≤ l.length → Ev (fun m => s m T ((k : Int) - 1) (dr r) (false, ([] : List Int)) (false, ([] : List Int)) (di (evZ (l.drop k) r.num (r.den : Int))) (di ((r.den : Int) ^ (l.length - max k 1))) (false, dn (r.den : Int))) (di (if l = [] then 1 else (r.den : Int) ^ (l.length - 1)), di (evZ l r.num (r.den : Int))) := by
    have bound : ∀ k : Nat, k ≤ l.length → Bd (1000000000 + 2000 * (l.length - k)) (ab (evZ (l.drop k) r.num (r.den : Int))) := fun k _ => by
      have := evZ_Bd bn bd (l.drop k) fun x hx => hbt x (List.mem_of_mem_drop hx)
      rwa [List.length_drop] at this
    intro k
    induction k with
    | zero =>
      intro _
      refine Ev.step (t := fun _ => some _) (fun m => ?_) Ev.ret
      rw [hs]; unfold S_unipoly_scaled_21
      rw [if_neg (by decide), List.drop_zero]
      congr 2
      by_cases h0 : l = []
      · rw [if_pos h0, h0]; rfl
      · rw [if_neg h0]; rfl
    | succ k ih =>
      intro hk
      have hkl : k < l.length := by omega
      have ih := ih (by omega)
      have b1 := bound (k + 1) hk
      have b2 := Bd.pow' bd (l.length - (k + 1))
      have hc := hbt.get k
      have i1 : II (di (evZ (l.drop (k + 1)) r.num (r.den : Int))) := II.di b1 (by omega)
      have i2 : II (di ((r.den : Int) ^ (l.length - (k + 1)))) := II.di b2 (by omega)
      have i3 : II (di r.num) := II.di bn (by omega)
      have e1 : ((k + 1 : Nat) : Int) - 1 = (k : Int) := by omega
      have emax : max (k + 1) 1 = k + 1 := by omega
      rw [emax]
      refine Ev.step (fun m => ?_) ih
      rw [hs, e1]; unfold S_unipoly_scaled_21
      have m1 : F_integer_Mul (di (evZ (l.drop (k + 1)) r.num (r.den : Int))) (dr r).1 = some (di (evZ (l.drop (k + 1)) r.num (r.den : Int) * r.num)) := by
        show F_integer_Mul _ (di r.num) = _
        rw [F_integer_Mul, gif_pos ⟨i1, i3⟩, iv_di, iv_di]
      have m2 : F_integer_Mul (di ((r.den : Int) ^ (l.length - (k + 1)))) (T.getD k (false, ([] : List Int))) = some (di ((r.den : Int) ^ (l.length - (k + 1)) * l.getD k 0)) := by
        rw [F_integer_Mul, gif_pos ⟨i2, hII k⟩, iv_di, gtake]
      have ev : evZ (l.drop (k + 1)) r.num (r.den : Int) * r.num + (r.den : Int) ^ (l.length - (k + 1)) * l.getD k 0 = evZ (l.drop k) r.num (r.den : Int) := by
        rw [evZ_drop hkl, Int.mul_comm r.num, Int.mul_comm (l.getD k 0)]; omega
      have m3 : F_integer_Add (di (evZ (l.drop (k + 1)) r.num (r.den : Int) * r.num)) (di ((r.den : Int) ^ (l.length - (k + 1)) * l.getD k 0)) = some (di (evZ (l.drop k) r.num (r.den : Int))) := by
        rw [F_integer_Add, gif_pos ⟨II.di (b1.ab_mul bn) (by omega), II.di (b2.ab_mul hc) (by omega)⟩, iv_di, iv_di, ev]
      have m4 : F_integer_Mul (di ((r.den : Int) ^ (l.length - (k + 1)))) (false, dn (r.den : Int)) = some (di ((r.den : Int) ^ (l.length - (k + 1) + 1))) := by
        rw [den_di, F_integer_Mul, gif_pos ⟨i2, II.di bd (by omega)⟩, iv_di, iv_di, Int.pow_succ]
      rw [if_pos (by rw [decide_eq_true_eq]; omega), m1, Option.bind_some, if_pos (by rw [tl]; omega), Int.toNat_natCast, m2, Option.bind_some, m3, Option.bind_some, i64w (by omega) (by omega)]
      by_cases hk0 : 0 < k
      · rw [if_pos (by rw [decide_eq_true_eq]; omega), m4, Option.bind_some, show l.length - (k + 1) + 1 = l.length - max k 1 by omega]
      · rw [if_neg (by rw [decide_eq_true_eq]; omega), show l.length - (k + 1) = l.length - max k 1 by omega]
  have := key l.length (Nat.le_refl _)
  rw [List.drop_of_length_le (Nat.le_refl _)] at this
  have e0 : di (evZ [] r.num (r.den : Int)) = (false, ([] : List Int)) := di_zero
  have e1 : (r.den : Int) ^ (l.length - max l.length 1) = 1 := by rw [show l.length - max l.length 1 = 0 by omega, Int.pow_zero]
  rw [e0, e1] at this
  simp only [T_unipoly_scaled]
  refine Ev.congr (fun m => ?_) this
  rw [trim_bind hp, eN, Option.bind_some, F_integer_Of, gif_bind (by omega), hT, tl, i64w (by omega) (by omega)]
  rfl
theorem Rn_unipoly_SignAt : Run_unipoly_SignAt := fun f a => Ok.gif_const fun h => by
  obtain ⟨hl, hI, hb, hq, hqb⟩ := id h
  have l1 := trimL_len (pv f)
  rw [pv_len] at l1
  have hB := evZ_Bd (n := (rv a).num) (d := ((rv a).den : Int)) hqb.1 (by rw [ab_pos (by omega)]; exact hqb.2) (trimL (pv f)) hb.trim
  rw [T_unipoly_SignAt, F_unipoly_scaled, gif_bind h]
  show (F_integer_Sign (di (evZ (trimL (pv f)) (rv a).num ((rv a).den : Int)))).bind _ = _
  rw [F_integer_Sign, gif_bind (II.di hB (by omega)), iv_di, evZ_sign, evR_trim]
theorem rsg_range' (x : Rat) : -1 ≤ rsg x ∧ rsg x ≤ 1 := by unfold rsg; (repeat' split) <;> omega
theorem Rn_sturm_Variations : Run_sturm_Variations := fun s hs ch a => Ok.gif fun ⟨hl, hp, hq, hqb⟩ => by
  have := fill_loop (n := ch.length) (fun i => rsg (evR (pv (ch.getD i [])) (rv a))) (0 : Int) (fun m i out => s m ch (ch.length : Int) (i : Int) a out) (vA (ch.map pv) (rv a)) (fun m i out hi ho => by
    obtain ⟨h1, h2, h3⟩ := hp _ (getD_mem' (z := ([] : NP)) hi)
    rw [hs]; unfold S_sturm_Variations_13
    rw [if_pos (by rw [decide_eq_true_eq]; omega), if_pos (by omega), Int.toNat_natCast, F_unipoly_SignAt, gif_bind ⟨h1, h2, h3, hq, hqb⟩, if_pos (by omega), wrap_succ (by omega)]) (by
    have e : (List.range ch.length).map (fun i => rsg (evR (pv (ch.getD i [])) (rv a))) = (ch.map pv).map fun f => rsg (evR f (rv a)) := by
      rw [map_range_get ch [] (fun f => rsg (evR (pv f) (rv a))), List.map_map]; rfl
    rw [e]
    refine Ev.step (t := fun _ => some _) (fun m => ?_) Ev.ret
    rw [hs]; unfold S_sturm_Variations_13
    rw [if_neg (by simp), F_sturm_changes, gif_bind ⟨by simp; exact hl, fun x hx => by
      obtain ⟨f, _, rfl⟩ := List.mem_map.1 hx
      exact rsg_range' _⟩]
    rfl)
  simp only [T_sturm_Variations]
  refine Ev.congr (fun m => ?_) this
  rw [if_pos (by omega), rep_len]
  rfl
theorem frac_bd {q : List Int} (hq : q.length = 2 ∧ ∀ c ∈ q, -128 ≤ c ∧ c ≤ 127) : (-128 ≤ q.getD 0 0 ∧ q.getD 0 0 ≤ 127) ∧ -128 ≤ q.getD 1 0 ∧ q.getD 1 0 ≤ 127 := ⟨hq.2 _ (getD_mem (by omega)), hq.2 _ (getD_mem (by omega))⟩
theorem Rn_ref15_Frac : Run_ref15_Frac := fun q => Ok.gif_const fun hq => by
  obtain ⟨⟨a0, a1⟩, b0, b1⟩ := frac_bd hq
  rw [T_ref15_Frac, if_pos (by decide), if_pos (by decide)]
  show (if (IntKind.wrap .i64 (q.getD 1 0) == 0) = true then some (IntKind.wrap .i64 (q.getD 0 0), (1 : Int)) else if (decide (IntKind.wrap .i64 (q.getD 1 0) < 0)) = true then some (IntKind.wrap .i64 (0 - IntKind.wrap .i64 (q.getD 0 0)), IntKind.wrap .i64 (0 - IntKind.wrap .i64 (q.getD 1 0))) else some (IntKind.wrap .i64 (q.getD 0 0), IntKind.wrap .i64 (q.getD 1 0))) = _
  generalize q.getD 0 0 = n at *
  generalize q.getD 1 0 = d at *
  rw [i64w (n := n) (by omega) (by omega), i64w (n := d) (by omega) (by omega), i64w (n := 0 - n) (by omega) (by omega), i64w (n := 0 - d) (by omega) (by omega)]
  unfold ab
  by_cases h0 : d = 0
  · rw [if_pos (by rw [beq_iff_eq]; exact h0), if_pos h0, if_neg (by omega)]
  · rw [if_neg (by rw [beq_iff_eq]; exact h0), if_neg h0]
    by_cases h1 : d < 0
    · rw [if_pos (decide_eq_true h1), if_pos h1, if_pos h1, Int.zero_sub, Int.zero_sub]
    · rw [if_neg (by rw [decide_eq_true_eq]; exact h1), if_neg h1, if_neg h1]
theorem Rat_QB {q : List Int} (hq : q.length = 2 ∧ ∀ c ∈ q, -128 ≤ c ∧ c ≤ 127) : QB 8 (Rat.divInt (if q.getD 1 0 < 0 then -(q.getD 0 0) else q.getD 0 0) (if q.getD 1 0 = 0 then 1 else ab (q.getD 1 0))) := by
  obtain ⟨⟨a0, a1⟩, b0, b1⟩ := frac_bd hq
  generalize q.getD 0 0 = n at *
  generalize q.getD 1 0 = d at *
  refine (QB.div (j := 8) (k := 8) ?_ ?_ ?_).mono (by omega)
  · unfold ab; constructor <;> (repeat' split) <;> omega
  · unfold ab; constructor <;> (repeat' split) <;> omega
  · unfold ab; (repeat' split) <;> omega
theorem Rn_law15_Rat : Run_law15_Rat := fun q => Ok.gif_const fun hq => by
  obtain ⟨⟨a0, a1⟩, b0, b1⟩ := frac_bd hq
  have hQ := Rat_QB hq
  rw [T_law15_Rat, F_ref15_Frac, gif_bind hq]
  dsimp only
  generalize q.getD 0 0 = n at *
  generalize q.getD 1 0 = d at *
  have n1 : -128 ≤ (if d < 0 then -n else n) ∧ (if d < 0 then -n else n) ≤ 128 := by split <;> omega
  have d1 : 1 ≤ (if d = 0 then 1 else ab d) ∧ (if d = 0 then 1 else ab d) ≤ 128 := by unfold ab; (repeat' split) <;> omega
  generalize (if d < 0 then -n else n) = N at *
  generalize (if d = 0 then 1 else ab d) = E at *
  rw [F_integer_Of, gif_bind (by omega), F_integer_Of, gif_bind (by omega), F_rational_Make, gif_bind ⟨II.di (k := 8) (by unfold ab; constructor <;> split <;> omega) (by omega), II.di (k := 8) (by unfold ab; constructor <;> split <;> omega) (by omega)⟩, iv_di, iv_di, if_neg (by omega)]
end Go.W

set_option linter.unusedVariables false
namespace Go.W
/-! ### the greatest common divisor of polynomials -/
/-- the quotient, 0 where the division is not exact -/
def exq (x c : Int) : Int := if Int.tmod x c = 0 then Int.tdiv x c else 0
noncomputable def F_unidiv_divided (f : NP) (c : Bool × List Int) : Option NP := gif (PP f ∧ CC c) (dp ((trimL (pv f)).map fun x => exq x (iv c)))
/-- the primitive multiple with a positive leading coefficient -/
def primL (l : List Int) : List Int := (trimL l).map fun x => Int.tdiv x (if lc (trimL l) < 0 then -(gcdL l) else gcdL l)
noncomputable def F_unidiv_Primitive (f : NP) : Option NP := gif (PP f) (dp (primL (pv f)))
/-- the pseudo-remainder of lists of coefficients -/
def prem (a b : List Int) : List Int := if trimL b = [] then [] else (pseudo (trimL a) (trimL b)).2
/-- the sequence's last element, from the loop on -/
def gcL : Nat → List Int → List Int → Int → Int → Int → List Int
  | 0, _, b, _, _, _ => b
  | n + 1, a, b, d, s, be =>
    if prem a b = [] then b
    else if (trimL ((prem a b).map fun x => exq x be)).length = 1 then (prem a b).map fun x => exq x be
    else gcL n b ((prem a b).map fun x => exq x be) (((trimL b).length : Int) - (trimL ((prem a b).map fun x => exq x be)).length)
      (if 0 < d then exq ((-(lc (trimL b))) ^ d.toNat) (s ^ (d - 1).toNat) else s)
      (-(lc (trimL b)) * (if 0 < d then exq ((-(lc (trimL b))) ^ d.toNat) (s ^ (d - 1).toNat) else s) ^ (((trimL b).length : Int) - (trimL ((prem a b).map fun x => exq x be)).length).toNat)
def gseq (a b : List Int) : List Int :=
  if (trimL a).length = 1 then trimL a
  else if (trimL b).length = 1 then trimL b
  else gcL 30 (trimL a) (trimL b) (((trimL a).length : Int) - (trimL b).length) (-1) ((-1) ^ (((trimL a).length : Int) - (trimL b).length + 1).toNat)
def gcdA (f g : List Int) : List Int :=
  let p := if (trimL (primL f)).length < (trimL (primL g)).length then primL g else primL f
  let q := if (trimL (primL f)).length < (trimL (primL g)).length then primL f else primL g
  scl (Int.gcd (gcdL f) (gcdL g) : Int) (primL (if trimL q = [] then p else gseq p q))
/-- small enough for the greatest common divisor -/
def GS (f : NP) : Prop := f.length ≤ 13 ∧ (∀ c ∈ f, II c) ∧ PB 100 (pv f)
noncomputable def F_unidiv_Gcd (f g : NP) : Option NP := gif (GS f ∧ GS g) (dp (gcdA (pv f) (pv g)))
end Go.W

set_option linter.unusedVariables false
namespace Go.W
noncomputable section

/-! cylinder/unidiv.divided -/
def T_unidiv_divided (s13 : Int → Int → (Bool × List Int) → (List (Bool × List Int)) → Option ((List (Bool × List Int)))) (a0 : List (Bool × List Int)) (a1 : Bool × List Int) : Option (List (Bool × List Int)) :=
  (F_unipoly_Normal a0).bind fun r1 =>
  s13 (List.length r1 : Int) (0 : Int) a1 r1
def S_unidiv_divided_13 (s13 : Int → Int → (Bool × List Int) → (List (Bool × List Int)) → Option ((List (Bool × List Int)))) (x10 : Int) (x11 : Int) (x3 : Bool × List Int) (x5 : List (Bool × List Int)) : Option (List (Bool × List Int)) :=
  if (decide (x11 < x10)) = true then
    if 0 ≤ x11 ∧ x11 < (List.length x5 : Int) then
      (F_division_Exact (List.getD x5 (Int.toNat x11) (false, ([] : List Int))) x3).bind fun r1 =>
      if 0 ≤ x11 ∧ x11 < (List.length x5 : Int) then
        s13 x10 (IntKind.wrap .i64 (x11 + (1 : Int))) x3 (List.set x5 (Int.toNat x11) r1.1)
      else none
    else none
  else
    some x5
def Run_unidiv_divided : Prop := ∀ s13 : Nat → Int → Int → (Bool × List Int) → (List (Bool × List Int)) → Option ((List (Bool × List Int))), (∀ m x10 x11 x3 x5, s13 (m + 1) x10 x11 x3 x5 = S_unidiv_divided_13 (s13 m) x10 x11 x3 x5) → ∀ a0 : List (Bool × List Int), ∀ a1 : Bool × List Int, Ok (F_unidiv_divided a0 a1) (fun m => T_unidiv_divided (s13 m) a0 a1)

/-! cylinder/unidiv.Primitive -/
def T_unidiv_Primitive (a0 : List (Bool × List Int)) : Option (List (Bool × List Int)) :=
  (F_unidiv_zero a0).bind fun r1 =>
  if r1 = true then
    some (([] : List (Bool × List Int)))
  else
    (F_unidiv_Content a0).bind fun r2 =>
    (F_unipoly_Lead a0).bind fun r3 =>
    (F_integer_Sign r3).bind fun r4 =>
    if (decide (r4 < (0 : Int))) = true then
      (F_integer_Neg r2).bind fun r5 =>
      (F_unidiv_divided a0 r5).bind fun r6 =>
      some r6
    else
      (F_unidiv_divided a0 r2).bind fun r7 =>
      some r7
def Run_unidiv_Primitive : Prop := ∀ a0 : List (Bool × List Int), Ok (F_unidiv_Primitive a0) (fun _ => T_unidiv_Primitive a0)
end
end Go.W

set_option linter.unusedVariables false
namespace Go.W
noncomputable section
/-! what the iterator of unidiv.sequence does with a loop that keeps the last element and leaves at degree 0 -/
def L_tail (k : NP → NP → Int → (Bool × List Int) → (Bool × List Int) → Option NP) (x5 c : NP) (s l : Bool × List Int) : Option NP :=
  (F_unipoly_Degree x5).bind fun d1 =>
  (F_unipoly_Degree c).bind fun d2 =>
  (F_unidiv_power s (IntKind.wrap .i64 (d1 - d2))).bind fun p =>
  (F_integer_Mul l p).bind fun b =>
  k x5 c (IntKind.wrap .i64 (d1 - d2)) s b
def L_next (k : NP → NP → Int → (Bool × List Int) → (Bool × List Int) → Option NP) (x5 c : NP) (x6 : Int) (s : Bool × List Int) : Option NP :=
  (F_unipoly_Lead x5).bind fun r3 =>
  (F_integer_Neg r3).bind fun l =>
  if (decide (x6 > 0)) = true then
    (F_unidiv_power l x6).bind fun p =>
    (F_unidiv_power s (IntKind.wrap .i64 (x6 - 1))).bind fun q =>
    (F_division_Exact p q).bind fun e =>
    L_tail k x5 c e.1 l
  else L_tail k x5 c s l
def S_seq (k : NP → NP → Int → (Bool × List Int) → (Bool × List Int) → Option NP) (x4 x5 : NP) (x6 : Int) (s b : Bool × List Int) : Option NP :=
  (F_unidiv_Pseudo x4 x5).bind fun r1 =>
  (F_unidiv_zero r1.2.1).bind fun r2 =>
  if r2 = true then some x5
  else
    (F_unidiv_divided r1.2.1 b).bind fun c =>
    (F_unipoly_Degree c).bind fun dc =>
    if dc = 0 then some c
    else L_next k x5 c x6 s
def L_seq : Nat → NP → NP → Int → (Bool × List Int) → (Bool × List Int) → Option NP
  | 0 => fun _ _ _ _ _ => none
  | m + 1 => S_seq (L_seq m)
def T_seq (m : Nat) (f g : NP) : Option NP :=
  (F_unipoly_Normal f).bind fun a =>
  (F_unipoly_Normal g).bind fun b =>
  (F_unipoly_Degree a).bind fun da =>
  if da = 0 then some a
  else
    (F_unipoly_Degree b).bind fun db =>
    if db = 0 then some b
    else
      (F_integer_Of (-1)).bind fun s =>
      (F_unidiv_power s (IntKind.wrap .i64 (IntKind.wrap .i64 (da - db) + 1))).bind fun be =>
      L_seq m a b (IntKind.wrap .i64 (da - db)) s be
def T_unidiv_Gcd (m : Nat) (a0 a1 : NP) : Option NP :=
  (F_unidiv_Content a0).bind fun r1 =>
  (F_unidiv_Content a1).bind fun r2 =>
  (F_division_Gcd r1 r2).bind fun r3 =>
  (F_unidiv_Primitive a0).bind fun r4 =>
  (F_unidiv_Primitive a1).bind fun r5 =>
  (F_unipoly_Degree r4).bind fun r6 =>
  (F_unipoly_Degree r5).bind fun r7 =>
  (F_unidiv_zero (if r6 < r7 then r4 else r5)).bind fun z =>
  (if z = true then some (if r6 < r7 then r5 else r4) else T_seq m (if r6 < r7 then r5 else r4) (if r6 < r7 then r4 else r5)).bind fun l =>
  (F_unidiv_Primitive l).bind fun p =>
  F_unipoly_Scale p r3
end
end Go.W

set_option linter.unusedVariables false
set_option linter.unusedSimpArgs false
namespace Go.W

theorem exq_dvd {x c : Int} (h : c ∣ x) : exq x c = Int.tdiv x c := by unfold exq; rw [if_pos (Int.tmod_eq_zero_of_dvd h)]
theorem exq_Bd {k : Nat} {x c : Int} (h : Bd k (ab x)) : Bd k (ab (exq x c)) := by
  unfold exq
  split
  · exact h.le (by unfold ab; split <;> omega) (ab_tdiv_le x c)
  · exact Bd.zero k
theorem exq_PB {k : Nat} {l : List Int} {c : Int} (h : PB k l) : PB k (l.map fun x => exq x c) := fun y hy => by
  obtain ⟨x, hx, rfl⟩ := List.mem_map.1 hy
  exact exq_Bd (h x hx)
theorem Exact_exq {σ : Type} {a b : Int} {j k : Nat} (ha : Bd j (ab a)) (hb : Bd k (ab b)) (hj : j ≤ KP) (hk : k ≤ KP) {K : (Bool × List Int) × Int → Option σ} : ∃ e, (F_division_Exact (di a) (di b)).bind K = K (di (exq a b), e) := by
  rw [F_division_Exact, gif_bind ⟨II.di ha (by unfold KP at hj; omega), II.di hb (by unfold KP at hk; omega)⟩, iv_di, iv_di]
  by_cases h0 : b = 0
  · subst h0
    refine ⟨2, ?_⟩
    rw [if_pos rfl]
    congr 2
    unfold exq
    split
    · rename_i h
      have : a = 0 := by simpa using h
      subst this; exact zI_di
    · exact zI_di
  · rw [if_neg h0]
    unfold exq
    by_cases h1 : Int.tmod a b = 0
    · exact ⟨0, by rw [if_pos h1, if_pos h1]⟩
    · exact ⟨3, by rw [if_neg h1, if_neg h1, zI_di]⟩

theorem Rn_unidiv_divided : Run_unidiv_divided := fun s hs a c => Ok.gif fun ⟨h, hc⟩ => by
  have hl := h.1
  have hl2 := trimL_len (pv a); rw [pv_len] at hl2
  have hc1 : di (iv c) = di (iv c) := rfl
  -- the coefficients, one after the other
  have key : ∀ (k i : Nat) (out : NP), i + k = (trimL (pv a)).length → out.length = (trimL (pv a)).length → (∀ j, j < i → out[j]? = some (di (exq ((trimL (pv a)).getD j 0) (iv c)))) → (∀ j, i ≤ j → j < (trimL (pv a)).length → out[j]? = some (di ((trimL (pv a)).getD j 0))) →
      Ev (fun m => s m ((trimL (pv a)).length : Int) (i : Int) c out) (dp ((trimL (pv a)).map fun x => exq x (iv c))) := by
    intro k
    induction k with
    | zero =>
      intro i out hi ho h1 h2
      have : out = dp ((trimL (pv a)).map fun x => exq x (iv c)) := by
        apply List.ext_getElem? fun j => ?_
        by_cases hj : j < i
        · rw [h1 j hj]
          unfold dp
          rw [List.map_map, List.getElem?_map, List.getElem?_eq_getElem (by omega), getD_in (by omega)]; rfl
        · rw [List.getElem?_eq_none (by omega), List.getElem?_eq_none (by rw [dp_len]; simp; omega)]
      rw [← this]
      refine Ev.step (t := fun _ => some _) (fun m => ?_) Ev.ret
      rw [hs]; unfold S_unidiv_divided_13
      rw [if_neg (by rw [decide_eq_true_eq]; omega)]
    | succ k ih =>
      intro i out hi ho h1 h2
      have hi' : i < (trimL (pv a)).length := by omega
      have hget : out.getD i (false, ([] : List Int)) = di ((trimL (pv a)).getD i 0) := by simp [List.getD, h2 i (Nat.le_refl _) hi']
      have hb : Bd KP (ab ((trimL (pv a)).getD i 0)) := (h.2.2.trim).get i
      refine Ev.step (t := fun m => s m ((trimL (pv a)).length : Int) ((i + 1 : Nat) : Int) c (out.set i (di (exq ((trimL (pv a)).getD i 0) (iv c))))) (fun m => ?_) (ih (i + 1) _ (by omega) (by simpa using ho) (fun j hj => ?_) (fun j hj hj' => ?_))
      · rw [hs]; unfold S_unidiv_divided_13
        rw [if_pos (by rw [decide_eq_true_eq]; omega), if_pos (by omega), Int.toNat_natCast, hget, F_division_Exact, gif_bind ⟨II.di hb (by unfold KP; omega), hc.1⟩, iv_di, if_pos (by omega), wrap_succ (by omega)]
        congr 2
        unfold exq
        by_cases h0 : iv c = 0
        · rw [if_pos h0, h0]
          split
          · rename_i hx
            have : (trimL (pv a)).getD i 0 = 0 := by simpa using hx
            rw [this]; exact zI_di
          · exact zI_di
        · rw [if_neg h0]
          by_cases hx : Int.tmod ((trimL (pv a)).getD i 0) (iv c) = 0
          · rw [if_pos hx, if_pos hx]
          · rw [if_neg hx, if_neg hx]; exact zI_di
      · by_cases he : j = i
        · subst he; rw [List.getElem?_set_self (by omega)]
        · rw [List.getElem?_set_ne (by omega)]; exact h1 j (by omega)
      · rw [List.getElem?_set_ne (by omega)]; exact h2 j (by omega) hj'
  have := key (trimL (pv a)).length 0 (dp (trimL (pv a))) (by omega) (dp_len _) (fun j hj => by omega) (fun j _ hj => by
    unfold dp; rw [List.getElem?_map, List.getElem?_eq_getElem hj, getD_in hj]; rfl)
  simp only [T_unidiv_divided]
  refine Ev.congr (fun m => ?_) this
  rw [Normal_bind h, dp_len]; rfl
theorem divided_bind {σ : Type} {a : List Int} {c : Int} (la : a.length ≤ 1000) {j k : Nat} (ha : PB j a) (hj : j ≤ KP) (hc : Bd k (ab c)) (hk : k ≤ KP) {K : NP → Option σ} : (F_unidiv_divided (dp a) (di c)).bind K = K (dp ((trimL a).map fun x => exq x c)) := by
  rw [F_unidiv_divided, gif_bind ⟨PP.dp' la ha hj, II.di hc (by unfold KP at hk; omega), by rw [iv_di]; exact hc.mono hk⟩, iv_di, pv_dp]

theorem Rn_unidiv_Primitive : Run_unidiv_Primitive := fun a => Ok.gif_const fun h => by
  have hg := gcdL_Bd h.2.2
  have hgn := gcdL_nonneg (pv a)
  have hgb : Bd KP (ab (gcdL (pv a))) := by rw [ab_pos hgn]; exact hg
  have hgm : Bd KP (ab (-(gcdL (pv a)))) := by rw [ab_neg]; exact hgb
  have ez : F_unidiv_zero a = some (decide (trimL (pv a) = [])) := gif_pos h
  rw [T_unidiv_Primitive, ez, Option.bind_some]
  by_cases h0 : trimL (pv a) = []
  · rw [if_pos (decide_eq_true h0)]
    unfold primL; rw [h0]; rfl
  · rw [if_neg (by simpa using h0), F_unidiv_Content, gif_bind h, Lead_bind h, F_integer_Sign, gif_bind (II.di (h.2.2.trim).lc (by unfold KP; omega)), iv_di]
    have hd : ∀ x ∈ trimL (pv a), gcdL (pv a) ∣ x := fun x hx => by
      obtain ⟨i, hi, rfl⟩ := List.getElem_of_mem hx
      rw [← getD_in hi, trimL_get]; exact gcdL_get _ _
    have hII : II (di (gcdL (pv a))) := II.di hgb (by unfold KP; omega)
    have hcc : CC (di (gcdL (pv a))) := ⟨hII, by rw [iv_di]; exact hgb⟩
    have hcm : CC (di (-(gcdL (pv a)))) := ⟨II.di hgm (by unfold KP; omega), by rw [iv_di]; exact hgm⟩
    unfold primL
    by_cases h1 : lc (trimL (pv a)) < 0
    · rw [if_pos (by rw [decide_eq_true_eq]; unfold sg; rw [if_pos h1]; decide), F_integer_Neg, gif_bind hII, iv_di, F_unidiv_divided, gif_bind ⟨h, hcm⟩, iv_di, if_pos h1]
      congr 2
      exact List.map_congr_left fun x hx => exq_dvd (Int.neg_dvd.2 (hd x hx))
    · rw [if_neg (by rw [decide_eq_true_eq]; unfold sg; (repeat' split) <;> omega), F_unidiv_divided, gif_bind ⟨h, hcc⟩, iv_di, if_neg h1]
      congr 2
      exact List.map_congr_left fun x hx => exq_dvd (hd x hx)
end Go.W

set_option linter.unusedVariables false
set_option linter.unusedSimpArgs false
namespace Go.W

def XG : Nat := 500000000
theorem three_pow1 : ∀ d : Nat, d + 2 ≤ 3 ^ (d + 1)
  | 0 => by decide
  | d + 1 => by
    have := three_pow1 d
    rw [Nat.pow_succ]; omega
theorem prem_TL (a b : List Int) : TL (prem a b) := by
  unfold prem
  split
  · exact TL.nil
  · rename_i h; exact pseudo_TL (trimL_tl a) (trimL_tl b) h
theorem prem_len {a b : List Int} (h : trimL b ≠ []) : (prem a b).length < (trimL b).length := by
  unfold prem; rw [if_neg h]; exact pseudo_len (trimL_tl a) (trimL_tl b) h
theorem prem_PB {a b : List Int} {K : Nat} (ha : PB K a) (hb : PB K b) (hl : (trimL b).length ≤ (trimL a).length) : PB (K + ((trimL a).length - (trimL b).length + 1) * (K + 2) + 1) (prem a b) := by
  unfold prem
  split
  · exact .nil _
  · rename_i h
    have := (pseudo_PB (trimL_tl a) (trimL_tl b) h ha.trim hb.trim).1
    have e : (((trimL a).length : Int) - (trimL b).length + 1).toNat = (trimL a).length - (trimL b).length + 1 := by omega
    rwa [e] at this
/-- a state of the sequence -/
structure GT (a b : List Int) (d s be : Int) (K : Nat) : Prop where
  la : a.length ≤ 13
  lb : b.length ≤ 13
  le : (trimL b).length ≤ (trimL a).length
  pa : PB K a
  pb : PB K b
  d0 : 0 ≤ d
  d1 : d ≤ 13
  hs : Bd 7000000000 (ab s)
  hbe : Bd 110000000000 (ab be)
  pot : (K + ((trimL a).length - (trimL b).length + 1) * (K + 2) + 1 + 3) * 3 ^ (trimL b).length ≤ XG
theorem GT.K {a b : List Int} {d s be : Int} {K : Nat} (h : GT a b d s be K) : K + ((trimL a).length - (trimL b).length + 1) * (K + 2) + 1 + 3 ≤ XG :=
  Nat.le_trans (Nat.le_mul_of_pos_right _ (Nat.pow_pos (by decide))) h.pot
theorem pot_step {K m n : Nat} (h : (K + 3) * 3 ^ m ≤ XG) (hn : n < m) : (K + (m - n + 1) * (K + 2) + 1 + 3) * 3 ^ n ≤ XG := by
  obtain ⟨d, rfl⟩ : ∃ d, m = n + (d + 1) := ⟨m - n - 1, by omega⟩
  have e : n + (d + 1) - n + 1 = d + 2 := by omega
  rw [e]
  have h1 := three_pow1 d
  have h2 : K + (d + 2) * (K + 2) + 1 + 3 ≤ (d + 3) * (K + 3) := by
    have : (d + 3) * (K + 3) = (d + 2) * (K + 2) + (d + 2) + (K + 3) := by
      rw [show d + 3 = (d + 2) + 1 by omega, Nat.add_mul, Nat.one_mul, show K + 3 = (K + 2) + 1 by omega, Nat.mul_add, Nat.mul_one]
    omega
  have h3 : d + 3 ≤ 3 ^ (d + 1) := by
    cases d with
    | zero => decide
    | succ d => have := three_pow1 d; rw [Nat.pow_succ] at h1 ⊢; omega
  calc (K + (d + 2) * (K + 2) + 1 + 3) * 3 ^ n ≤ ((d + 3) * (K + 3)) * 3 ^ n := Nat.mul_le_mul_right _ h2
    _ ≤ (3 ^ (d + 1) * (K + 3)) * 3 ^ n := Nat.mul_le_mul_right _ (Nat.mul_le_mul_right _ h3)
    _ = (K + 3) * 3 ^ (n + (d + 1)) := by rw [Nat.pow_add 3 n (d + 1), Nat.mul_comm (3 ^ (d + 1)) (K + 3), Nat.mul_assoc, Nat.mul_comm (3 ^ (d + 1)) (3 ^ n)]
    _ ≤ XG := h

theorem PPd {l : List Int} {k : Nat} (hl : l.length ≤ 13) (h : PB k l) (hk : k ≤ XG) : PP (dp l) := PP.dp' (by omega) h (by unfold XG at hk; unfold KP; omega)
theorem pow_Bd {k n : Nat} {c : Int} (h : Bd k (ab c)) (N : Nat) (hn : k * n + 1 ≤ N) : Bd N (ab (c ^ n)) := (h.pow' n).mono hn
theorem power_b {σ : Type} {c n : Int} {k : Nat} (hk : Bd k (ab c)) (n0 : 0 ≤ n) (n1 : n ≤ 13) (h : k ≤ 7000000000) {K : Bool × List Int → Option σ} : (F_unidiv_power (di c) n).bind K = K (di (c ^ n.toNat)) := by
  refine power_bind hk n0 (by omega) ?_ (by unfold KP; omega)
  have h1 : (k : Int) * n ≤ (7000000000 : Int) * 13 := Int.mul_le_mul (by omega) n1 n0 (by decide)
  unfold KP; omega

theorem gc_loop : ∀ (n : Nat) (a b : List Int) (d s be : Int) (K : Nat), GT a b d s be K → (trimL b).length < n → L_seq n (dp a) (dp b) d (di s) (di be) = some (dp (gcL n a b d s be))
  | 0, _, _, _, _, _, _, _, hn => by omega
  | n + 1, a, b, d, s, be, K, h, hn => by
    have hK := h.K
    have kX : K ≤ XG := by have := Nat.zero_le (((trimL a).length - (trimL b).length + 1) * (K + 2)); omega
    have ppa := PPd h.la h.pa kX
    have ppb := PPd h.lb h.pb kX
    have hpr := prem_PB h.pa h.pb h.le
    have tp := prem_TL a b
    have la2 := trimL_len a
    have lb2 := trimL_len b
    have hla := h.la
    have hlb := h.lb
    have eP : ∃ q e, F_unidiv_Pseudo (dp a) (dp b) = some (q, dp (prem a b), e) := by
      unfold prem
      rw [F_unidiv_Pseudo, gif_pos ⟨ppa, ppb, by rw [dp_len]; omega, by rw [dp_len]; omega, K, K, by rw [pv_dp]; exact h.pa, by rw [pv_dp]; exact h.pb, by
        have h15 : (a.length + 2) * (K + 4) ≤ 15 * (K + 4) := Nat.mul_le_mul_right _ (by omega)
        rw [dp_len]; unfold XG at kX; omega⟩, pv_dp, pv_dp]
      by_cases h0 : trimL b = []
      · rw [if_pos h0, if_pos h0]; exact ⟨_, _, rfl⟩
      · rw [if_neg h0, if_neg h0]; exact ⟨_, _, rfl⟩
    obtain ⟨q, e, eP⟩ := eP
    have lpr : (prem a b).length ≤ 13 := by
      by_cases h0 : trimL b = []
      · unfold prem; rw [if_pos h0]; simp
      · have := prem_len (a := a) h0; omega
    have ppr : PP (dp (prem a b)) := PPd lpr hpr (by omega)
    simp only [L_seq, S_seq, gcL]
    rw [eP, Option.bind_some]
    dsimp only
    rw [F_unidiv_zero, gif_bind ppr, pv_dp, trim_of tp]
    by_cases h0 : prem a b = []
    · rw [if_pos (decide_eq_true h0), if_pos h0]
    · rw [if_neg (by simpa using h0), if_neg h0]
      have hb0 : trimL b ≠ [] := fun hb => h0 (by unfold prem; rw [if_pos hb])
      have hlt := prem_len (a := a) hb0
      rw [divided_bind (by omega) hpr (by unfold KP; unfold XG at hK; omega) h.hbe (by unfold KP; omega), trim_of tp]
      have hc := exq_PB (c := be) hpr
      have lc1 : ((prem a b).map fun x => exq x be).length = (prem a b).length := List.length_map _
      generalize hcc : ((prem a b).map fun x => exq x be) = c at hc lc1 ⊢
      generalize hKK : K + ((trimL a).length - (trimL b).length + 1) * (K + 2) + 1 = K' at hc hpr hK
      have hpot := h.pot
      rw [hKK] at hpot
      have lc2 := trimL_len c
      have ppc : PP (dp c) := PPd (by omega) hc (by omega)
      rw [Degree_bind ppc, pv_dp]
      by_cases h1 : (trimL c).length = 1
      · rw [if_pos (by omega), if_pos h1]
      · rw [if_neg (by omega), if_neg h1]
        have blc : Bd K (ab (lc (trimL b))) := h.pb.trim.lc
        have bl : Bd K (ab (-(lc (trimL b)))) := by rw [ab_neg]; exact blc
        have IIl : II (di (lc (trimL b))) := II.di blc (by unfold XG at kX; omega)
        have IIn : II (di (-(lc (trimL b)))) := II.di bl (by unfold XG at kX; omega)
        simp only [L_next]
        rw [Lead_bind ppb, pv_dp, F_integer_Neg, gif_bind IIl, iv_di]
        have kk' : K ≤ K' := by omega
        have hd0 := h.d0
        have hd1 := h.d1
        have tail : ∀ s', Bd 7000000000 (ab s') → L_tail (L_seq n) (dp b) (dp c) (di s') (di (-(lc (trimL b)))) = some (dp (gcL n b c (((trimL b).length : Int) - (trimL c).length) s' (-(lc (trimL b)) * s' ^ (((trimL b).length : Int) - (trimL c).length).toNat))) := fun s' hs' => by
          simp only [L_tail]
          have ew : IntKind.wrap .i64 (((trimL b).length : Int) - 1 - (((trimL c).length : Int) - 1)) = ((trimL b).length : Int) - (trimL c).length := by rw [i64w (by omega) (by omega)]; omega
          have hpw : Bd 92000000000 (ab (s' ^ (((trimL b).length : Int) - (trimL c).length).toNat)) := pow_Bd hs' _ (by
            have : 7000000000 * (((trimL b).length : Int) - (trimL c).length).toNat ≤ 7000000000 * 13 := Nat.mul_le_mul_left _ (by omega)
            omega)
          rw [Degree_bind ppb, pv_dp, Degree_bind ppc, pv_dp, ew, power_b hs' (by omega) (by omega) (by omega), F_integer_Mul, gif_bind ⟨IIn, II.di hpw (by omega)⟩, iv_di, iv_di]
          refine gc_loop n b c _ s' _ K' ⟨by omega, by omega, by omega, h.pb.mono kk', hc, by omega, by omega, hs', ?_, pot_step hpot (by omega)⟩ (by omega)
          exact (bl.ab_mul hpw).mono (by unfold XG at kX; omega)
        by_cases h2 : 0 < d
        · rw [if_pos (decide_eq_true h2), if_pos h2]
          have hp1 : Bd 6600000000 (ab ((-(lc (trimL b))) ^ d.toNat)) := pow_Bd bl _ (by
            have : K * d.toNat ≤ K * 13 := Nat.mul_le_mul_left _ (by omega)
            unfold XG at kX; omega)
          have hp2 : Bd 92000000000 (ab (s ^ (d - 1).toNat)) := pow_Bd h.hs _ (by
            have : 7000000000 * (d - 1).toNat ≤ 7000000000 * 13 := Nat.mul_le_mul_left _ (by omega)
            omega)
          have hw : IntKind.wrap .i64 (d - 1) = d - 1 := i64w (by omega) (by omega)
          rw [power_b bl (by omega) (by omega) (by unfold XG at kX; omega), hw, power_b h.hs (by omega) (by omega) (by omega)]
          obtain ⟨e', he'⟩ := Exact_exq (K := fun e => L_tail (L_seq n) (dp b) (dp c) e.1 (di (-(lc (trimL b))))) hp1 hp2 (by unfold KP; omega) (by unfold KP; omega)
          rw [he']
          exact tail _ (exq_Bd (hp1.mono (by omega)))
        · rw [if_neg (by simpa using h2), if_neg h2]
          exact tail s h.hs

theorem primL_len (l : List Int) : (primL l).length = (trimL l).length := List.length_map _
theorem primL_PB {k : Nat} {l : List Int} (h : PB k l) : PB k (primL l) := fun y hy => by
  unfold primL at hy
  obtain ⟨x, hx, rfl⟩ := List.mem_map.1 hy
  have := h.trim x hx
  exact this.le (by unfold ab; split <;> omega) (ab_tdiv_le x _)
theorem init_pot : ∀ (la lb : Nat), la ≤ 13 → lb ≤ la → (100 + (la - lb + 1) * (100 + 2) + 1 + 3) * 3 ^ lb ≤ XG := fun la lb h1 h2 => by
  obtain ⟨d, rfl⟩ : ∃ d, la = lb + d := ⟨la - lb, by omega⟩
  have e : lb + d - lb + 1 = d + 1 := by omega
  rw [e]
  have h3 := three_pow1 d
  have h4 : 100 + (d + 1) * (100 + 2) + 1 + 3 ≤ (d + 2) * 103 := by omega
  calc (100 + (d + 1) * (100 + 2) + 1 + 3) * 3 ^ lb ≤ ((d + 2) * 103) * 3 ^ lb := Nat.mul_le_mul_right _ h4
    _ ≤ (3 ^ (d + 1) * 103) * 3 ^ lb := Nat.mul_le_mul_right _ (Nat.mul_le_mul_right _ h3)
    _ = 103 * 3 ^ (lb + d + 1) := by rw [Nat.mul_comm (3 ^ (d + 1)) 103, Nat.mul_assoc, ← Nat.pow_add, show d + 1 + lb = lb + d + 1 by omega]
    _ ≤ 103 * 3 ^ 14 := Nat.mul_le_mul_left _ (Nat.pow_le_pow_right (by decide) (by omega))
    _ ≤ XG := by decide
theorem Of_neg {σ : Type} {K : Bool × List Int → Option σ} : (F_integer_Of (-1)).bind K = K (di (-1)) := by
  rw [F_integer_Of, gif_bind (by omega)]

theorem gseq_ok {a b : List Int} (la : a.length ≤ 13) (lb : b.length ≤ 13) (pa : PB 100 a) (pb : PB 100 b) (hle : (trimL b).length ≤ (trimL a).length) : T_seq 30 (dp a) (dp b) = some (dp (gseq a b)) := by
  have ppa : PP (dp a) := PPd la pa (by decide)
  have ppb : PP (dp b) := PPd lb pb (by decide)
  have la2 := trimL_len a
  have lb2 := trimL_len b
  have pta : PP (dp (trimL a)) := PPd (by omega) pa.trim (by decide)
  have ptb : PP (dp (trimL b)) := PPd (by omega) pb.trim (by decide)
  simp only [T_seq, gseq]
  rw [Normal_bind ppa, pv_dp, Normal_bind ppb, pv_dp, Degree_bind pta, pv_dp, trimL_idem]
  by_cases h1 : (trimL a).length = 1
  · rw [if_pos (by omega), if_pos h1]
  · rw [if_neg (by omega), if_neg h1, Degree_bind ptb, pv_dp, trimL_idem]
    by_cases h2 : (trimL b).length = 1
    · rw [if_pos (by omega), if_pos h2]
    · have e1 : IntKind.wrap .i64 (((trimL a).length : Int) - 1 - (((trimL b).length : Int) - 1)) = ((trimL a).length : Int) - (trimL b).length := by rw [i64w (by omega) (by omega)]; omega
      have e2 : IntKind.wrap .i64 (((trimL a).length : Int) - (trimL b).length + 1) = ((trimL a).length : Int) - (trimL b).length + 1 := i64w (by omega) (by omega)
      have b1 : Bd 1 (ab (-1)) := by constructor <;> decide
      rw [if_neg (by omega), if_neg h2, e1, e2, Of_neg, power_bind b1 (by omega) (by omega) (by unfold KP; omega) (by unfold KP; omega)]
      refine gc_loop 30 (trimL a) (trimL b) _ _ _ 100 ⟨by omega, by omega, by rw [trimL_idem, trimL_idem]; exact hle, pa.trim, pb.trim, by omega, by omega, b1.mono (by omega), pow_Bd b1 _ (by omega), ?_⟩ (by rw [trimL_idem]; omega)
      rw [trimL_idem, trimL_idem]
      exact init_pot _ _ (by omega) hle
/-- bounds of what the sequence ends with -/
theorem gcL_PB : ∀ (n : Nat) (a b : List Int) (d s be : Int) (K : Nat), GT a b d s be K → (trimL b).length < n → PB XG (gcL n a b d s be) ∧ (gcL n a b d s be).length ≤ 13
  | 0, _, _, _, _, _, _, _, hn => by omega
  | n + 1, a, b, d, s, be, K, h, hn => by
    have hK := h.K
    have kX : K ≤ XG := by have := Nat.zero_le (((trimL a).length - (trimL b).length + 1) * (K + 2)); omega
    simp only [gcL]
    by_cases h0 : prem a b = []
    · rw [if_pos h0]; exact ⟨h.pb.mono kX, h.lb⟩
    · rw [if_neg h0]
      have hb0 : trimL b ≠ [] := fun hb => h0 (by unfold prem; rw [if_pos hb])
      have hlt := prem_len (a := a) hb0
      have hpr := prem_PB h.pa h.pb h.le
      have hc := exq_PB (c := be) hpr
      have lc1 : ((prem a b).map fun x => exq x be).length = (prem a b).length := List.length_map _
      have lb2 := trimL_len b
      have hlb := h.lb
      generalize hcc : ((prem a b).map fun x => exq x be) = c at hc lc1 ⊢
      generalize hKK : K + ((trimL a).length - (trimL b).length + 1) * (K + 2) + 1 = K' at hc hpr hK
      have hpot := h.pot
      rw [hKK] at hpot
      have lc2 := trimL_len c
      by_cases h1 : (trimL c).length = 1
      · rw [if_pos h1]; exact ⟨hc.mono (by omega), by omega⟩
      · rw [if_neg h1]
        have bl : Bd K (ab (-(lc (trimL b)))) := by rw [ab_neg]; exact h.pb.trim.lc
        have kk' : K ≤ K' := by omega
        have hd0 := h.d0
        have hd1 := h.d1
        generalize hs0 : (if 0 < d then exq ((-(lc (trimL b))) ^ d.toNat) (s ^ (d - 1).toNat) else s) = s'
        have hs' : Bd 7000000000 (ab s') := by
          rw [← hs0]
          split
          · refine (exq_Bd (pow_Bd bl 6600000000 ?_)).mono (by omega)
            have : K * d.toNat ≤ K * 13 := Nat.mul_le_mul_left _ (by omega)
            unfold XG at kX; omega
          · exact h.hs
        have hpw : Bd 92000000000 (ab (s' ^ (((trimL b).length : Int) - (trimL c).length).toNat)) := pow_Bd hs' _ (by
          have : 7000000000 * (((trimL b).length : Int) - (trimL c).length).toNat ≤ 7000000000 * 13 := Nat.mul_le_mul_left _ (by omega)
          omega)
        exact gcL_PB n b c _ s' _ K' ⟨by omega, by omega, by omega, h.pb.mono kk', hc, by omega, by omega, hs', (bl.ab_mul hpw).mono (by unfold XG at kX; omega), pot_step hpot (by omega)⟩ (by omega)
theorem gseq_PB {a b : List Int} (la : a.length ≤ 13) (lb : b.length ≤ 13) (pa : PB 100 a) (pb : PB 100 b) (hle : (trimL b).length ≤ (trimL a).length) : PB XG (gseq a b) ∧ (gseq a b).length ≤ 13 := by
  have la2 := trimL_len a
  have lb2 := trimL_len b
  unfold gseq
  split
  · exact ⟨pa.trim.mono (by decide), by omega⟩
  · split
    · exact ⟨pb.trim.mono (by decide), by omega⟩
    · have b1 : Bd 1 (ab (-1)) := by constructor <;> decide
      refine gcL_PB 30 (trimL a) (trimL b) _ _ _ 100 ⟨by omega, by omega, by rw [trimL_idem, trimL_idem]; exact hle, pa.trim, pb.trim, by omega, by omega, b1.mono (by omega), pow_Bd b1 _ (by omega), ?_⟩ (by rw [trimL_idem]; omega)
      rw [trimL_idem, trimL_idem]
      exact init_pot _ _ (by omega) hle

theorem Rn_unidiv_Gcd (f g r : NP) (h : F_unidiv_Gcd f g = some r) : ∃ m, T_unidiv_Gcd m f g = some r := by
  obtain ⟨⟨hf, hg⟩, rfl⟩ := gif_some.1 h
  refine ⟨30, ?_⟩
  have ppf : PP f := ⟨by have := hf.1; omega, hf.2.1, hf.2.2.mono (by decide)⟩
  have ppg : PP g := ⟨by have := hg.1; omega, hg.2.1, hg.2.2.mono (by decide)⟩
  have lf := trimL_len (pv f)
  have lg := trimL_len (pv g)
  rw [pv_len] at lf lg
  have hf1 := hf.1
  have hg1 := hg.1
  have cf := gcdL_Bd hf.2.2
  have cg := gcdL_Bd hg.2.2
  have cfn := gcdL_nonneg (pv f)
  have cgn := gcdL_nonneg (pv g)
  have lpf := primL_len (pv f)
  have lpg := primL_len (pv g)
  have bpf := primL_PB hf.2.2
  have bpg := primL_PB hg.2.2
  have ppp : PP (dp (primL (pv f))) := PPd (by omega) bpf (by decide)
  have ppq : PP (dp (primL (pv g))) := PPd (by omega) bpg (by decide)
  simp only [T_unidiv_Gcd, gcdA]
  rw [F_unidiv_Content, gif_bind ppf, F_unidiv_Content, gif_bind ppg, F_division_Gcd, gif_bind ⟨II.di (by rw [ab_pos cfn]; exact cf) (by decide), II.di (by rw [ab_pos cgn]; exact cg) (by decide)⟩, iv_di, iv_di, F_unidiv_Primitive, gif_bind ppf, F_unidiv_Primitive, gif_bind ppg, Degree_bind ppp, pv_dp, Degree_bind ppq, pv_dp]
  have hif : ((((trimL (primL (pv f))).length : Int) - 1 < ((trimL (primL (pv g))).length : Int) - 1) ↔ (trimL (primL (pv f))).length < (trimL (primL (pv g))).length) := by omega
  simp only [hif]
  obtain ⟨p, hp⟩ : ∃ p, (if (trimL (primL (pv f))).length < (trimL (primL (pv g))).length then primL (pv g) else primL (pv f)) = p := ⟨_, rfl⟩
  obtain ⟨q, hq⟩ : ∃ q, (if (trimL (primL (pv f))).length < (trimL (primL (pv g))).length then primL (pv f) else primL (pv g)) = q := ⟨_, rfl⟩
  have hp' : (if (trimL (primL (pv f))).length < (trimL (primL (pv g))).length then dp (primL (pv g)) else dp (primL (pv f))) = dp p := by rw [← hp]; split <;> rfl
  have hq' : (if (trimL (primL (pv f))).length < (trimL (primL (pv g))).length then dp (primL (pv f)) else dp (primL (pv g))) = dp q := by rw [← hq]; split <;> rfl
  rw [hp', hq', hp, hq]
  have P : p.length ≤ 13 ∧ q.length ≤ 13 ∧ PB 100 p ∧ PB 100 q ∧ (trimL q).length ≤ (trimL p).length := by
    rw [← hp, ← hq]
    split
    · rename_i h; exact ⟨by omega, by omega, bpg, bpf, by omega⟩
    · rename_i h; exact ⟨by omega, by omega, bpf, bpg, by omega⟩
  obtain ⟨P1, P2, P3, P4, P5⟩ := P
  rw [F_unidiv_zero, gif_bind (PPd P2 P4 (by decide)), pv_dp]
  have fin : ∀ l : List Int, PB XG l → l.length ≤ 13 → ((F_unidiv_Primitive (dp l)).bind fun p => F_unipoly_Scale p (di (Int.gcd (gcdL (pv f)) (gcdL (pv g)) : Int))) = some (dp (scl (Int.gcd (gcdL (pv f)) (gcdL (pv g)) : Int) (primL l))) := fun l hl hl2 => by
    have ll := primL_len l
    have lt := trimL_len l
    rw [F_unidiv_Primitive, gif_bind (PPd hl2 hl (Nat.le_refl _)), pv_dp]
    have hgb : Bd 100 (ab (Int.gcd (gcdL (pv f)) (gcdL (pv g)) : Int)) := by
      rw [ab_pos (by omega)]
      by_cases h0 : gcdL (pv f) = 0
      · rw [h0, Int.gcd_zero_left]
        have : ((gcdL (pv g)).natAbs : Int) = gcdL (pv g) := Int.natAbs_of_nonneg cgn
        rw [this]; exact cg
      · exact cf.le (by omega) (Int.le_of_dvd (by omega) (Int.gcd_dvd_left ..))
    have := Scale_bind (σ := NP) (l := primL l) (j := XG) (k := 100) (by omega) (primL_PB hl) hgb (by unfold XG KP; omega) (K := some)
    cases hx : F_unipoly_Scale (dp (primL l)) (di (Int.gcd (gcdL (pv f)) (gcdL (pv g)) : Int)) with
    | none => rw [hx] at this; cases this
    | some y => rw [hx] at this; exact this
  by_cases h0 : trimL q = []
  · rw [if_pos (decide_eq_true h0), if_pos h0, Option.bind_some]
    exact fin p (P3.mono (by decide)) P1
  · rw [if_neg (by simpa using h0), if_neg h0, gseq_ok P1 P2 P3 P4 P5, Option.bind_some]
    have := gseq_PB P1 P2 P3 P4 P5
    exact fin _ this.1 this.2
end Go.W

set_option linter.unusedVariables false
namespace Go.W
/-! ### the square-free part; isolation -/
def quoL (f g : List Int) : List Int := if trimL g = [] then [] else match exact (trimL f) (trimL g) with
  | some q => q
  | none => []
noncomputable def F_squarefree_quotient (f g : NP) : Option NP := gif (PP f ∧ PP g ∧ DB f g) (dp (quoL (pv f) (pv g)))
def partL (l : List Int) : List Int := if (trimL (primL l)).length < 2 then primL l else quoL (primL l) (gcdA (primL l) (derL (trimL (primL l))))
/-- small enough for the square-free part -/
def GP (f : NP) : Prop := f.length ≤ 13 ∧ (∀ c ∈ f, II c) ∧ PB 90 (pv f)
noncomputable def F_squarefree_Part (f : NP) : Option NP := gif (GP f) (dp (partL (pv f)))
def cauT (lead : Int) : Int → List Int → Int
  | most, [] => most
  | most, c :: l => cauT lead (if (if Int.fmod (ab c) lead ≠ 0 then Int.fdiv (ab c) lead + 1 else Int.fdiv (ab c) lead) > most then (if Int.fmod (ab c) lead ≠ 0 then Int.fdiv (ab c) lead + 1 else Int.fdiv (ab c) lead) else most) l
def cauL (l : List Int) : Int := if (trimL l).length < 2 then 0 else cauT (ab (lc (trimL l))) 0 ((trimL l).take ((trimL l).length - 1)) + 1
noncomputable def F_rootbound_Cauchy (f : NP) : Option (Bool × List Int) := gif (PP f) (di (cauL (pv f)))
abbrev NS := NP × List NP
def SR (s : NS) : Prop := (s.1.length ≤ 100 ∧ (∀ c ∈ s.1, II c) ∧ PB 1000000000 (pv s.1)) ∧ s.2.length ≤ 1000 ∧ ∀ f ∈ s.2, f.length ≤ 100 ∧ (∀ c ∈ f, II c) ∧ PB 1000000000 (pv f)
noncomputable def F_isolate_search_count (s : NS) (a b : NQ) : Option Int := gif (SR s ∧ QQ a ∧ QB 1000 (rv a) ∧ QQ b ∧ QB 1000 (rv b)) (vA (s.2.map pv) (rv a) - vA (s.2.map pv) (rv b))
/-- small enough -/
def okq (x : Rat) : Bool := decide (x.num.natAbs < 2 ^ 400) && decide (x.den < 2 ^ 400)
/-- the loop that makes the interval about a root narrow -/
def btwI : Nat → List Int → List (List Int) → Rat → Rat → Option (Rat × Rat)
  | 0, _, _, _, _ => none
  | n + 1, p, ch, mid, step => if okq mid = true ∧ okq step = true then
      (if evR p (mid - step) = 0 ∨ evR p (mid + step) = 0 ∨ vA ch (mid - step) - vA ch (mid + step) ≠ 1 then btwI n p ch mid ((((0 : Int) : Rat) + step) / 2) else some (mid - step, mid + step))
    else none
def iDepth : Nat := 3000
def btw : Nat → List Int → List (List Int) → Rat → Rat → Option (List (Rat × Rat))
  | 0, _, _, _, _ => none
  | d + 1, p, ch, lo, hi => if okq lo = true ∧ okq hi = true then
      (if vA ch lo - vA ch hi = 0 then some []
      else if vA ch lo - vA ch hi = 1 then some [(lo, hi)]
      else if evR p ((lo + hi) / 2) ≠ 0 then
        match btw d p ch lo ((lo + hi) / 2), btw d p ch ((lo + hi) / 2) hi with
        | some l, some r => if l.length + r.length ≤ 1000 then some (l ++ r) else none
        | _, _ => none
      else
        match btwI iDepth p ch ((lo + hi) / 2) ((((0 : Int) : Rat) + ((lo + hi) / 2 - lo)) / 2) with
        | some (a, b) => match btw d p ch lo a, btw d p ch b hi with
          | some l, some r => if l.length + r.length ≤ 1000 then some (l ++ [((lo + hi) / 2, (lo + hi) / 2)] ++ r) else none
          | _, _ => none
        | none => none)
    else none
def drs (l : List (Rat × Rat)) : List (NQ × NQ) := l.map fun x => (dr x.1, dr x.2)
noncomputable def R_isolate_search_between (d : Nat) (s : NS) (a b : NQ) : Option (List (NQ × NQ)) := (gif (SR s ∧ a = dr (rv a) ∧ b = dr (rv b)) ()).bind fun _ => (btw d (pv s.1) (s.2.map pv) (rv a) (rv b)).map drs
def bDepth : Nat := 1000
noncomputable def F_isolate_search_between (s : NS) (a b : NQ) : Option (List (NQ × NQ)) := R_isolate_search_between bDepth s a b
/-- isolating intervals -/
def rootsL (l : List Int) : Option (List (Rat × Rat)) := if (trimL (partL l)).length < 2 then some [] else btw bDepth (partL l) (chL (partL l) (derL (trimL (partL l)))) (-((cauL (partL l) : Int) : Rat)) ((cauL (partL l) : Int) : Rat)
/-- what Roots needs of the square-free part and its chain -/
def RP (l : List Int) : Prop := (partL l).length ≤ 14 ∧ PB 90 (partL l) ∧ (chL (partL l) (derL (trimL (partL l)))).length ≤ 1000 ∧ ∀ f ∈ chL (partL l) (derL (trimL (partL l))), f.length ≤ 100 ∧ PB 1000000000 f
noncomputable def F_isolate_Roots (f : NP) : Option (List (NQ × NQ)) := (gif (GP f ∧ RP (pv f)) ()).bind fun _ => (rootsL (pv f)).map drs
noncomputable def F_law16_awake : Option Bool := gif True true
end Go.W

set_option linter.unusedVariables false
namespace Go.W
noncomputable section

/-! cylinder/squarefree.quotient -/
def T_squarefree_quotient (a0 : List (Bool × List Int)) (a1 : List (Bool × List Int)) : Option (List (Bool × List Int)) :=
  (F_unidiv_Exact a0 a1).bind fun r1 =>
  some r1.1
def Run_squarefree_quotient : Prop := ∀ a0 : List (Bool × List Int), ∀ a1 : List (Bool × List Int), Ok (F_squarefree_quotient a0 a1) (fun _ => T_squarefree_quotient a0 a1)

/-! cylinder/squarefree.Part -/
def T_squarefree_Part (a0 : List (Bool × List Int)) : Option (List (Bool × List Int)) :=
  (F_unidiv_Primitive a0).bind fun r1 =>
  (F_unipoly_Degree r1).bind fun r2 =>
  if (decide (r2 < (1 : Int))) = true then
    some r1
  else
    (F_unipoly_Derivative r1).bind fun r3 =>
    (F_unidiv_Gcd r1 r3).bind fun r4 =>
    (F_squarefree_quotient r1 r4).bind fun r5 =>
    some r5
def Run_squarefree_Part : Prop := ∀ a0 : List (Bool × List Int), Ok (F_squarefree_Part a0) (fun _ => T_squarefree_Part a0)

/-! cylinder/rootbound.Cauchy -/
def T_rootbound_Cauchy (s33 : (List (Bool × List Int)) → Int → Int → (Bool × List Int) → (Bool × List Int) → (Bool × List Int) → Option ((Bool × List Int))) (a0 : List (Bool × List Int)) : Option (Bool × List Int) :=
  (F_unipoly_Normal a0).bind fun r1 =>
  (F_unipoly_Degree r1).bind fun r2 =>
  if (decide (r2 < (1 : Int))) = true then
    (F_integer_Of (0 : Int)).bind fun r3 =>
    some r3
  else
    (F_unipoly_Lead r1).bind fun r4 =>
    (F_integer_Abs r4).bind fun r5 =>
    (F_integer_Of (0 : Int)).bind fun r6 =>
    if 0 ≤ r2 ∧ r2 ≤ (List.length r1 : Int) then
      s33 (List.take (Int.toNat r2) (List.drop (Int.toNat (0 : Int)) r1)) r2 (0 : Int) (false, ([] : List Int)) r5 r6
    else none
def S_rootbound_Cauchy_33 (s33 : (List (Bool × List Int)) → Int → Int → (Bool × List Int) → (Bool × List Int) → (Bool × List Int) → Option ((Bool × List Int))) (x25 : List (Bool × List Int)) (x26 : Int) (x27 : Int) (x2 : Bool × List Int) (x5 : Bool × List Int) (x6 : Bool × List Int) : Option (Bool × List Int) :=
  if (decide (x27 < x26)) = true then
    if 0 ≤ x27 ∧ x27 < (List.length x25 : Int) then
      (F_integer_Abs (List.getD x25 (Int.toNat x27) (false, ([] : List Int)))).bind fun r1 =>
      (F_division_Floor r1 x5).bind fun r2 =>
      (F_integer_Sign r2.2.1).bind fun r3 =>
      if (r3 != (0 : Int)) = true then
        (F_integer_Of (1 : Int)).bind fun r4 =>
        (F_integer_Add r2.1 r4).bind fun r5 =>
        (F_integer_Cmp r5 x6).bind fun r6 =>
        if (decide (r6 > (0 : Int))) = true then
          s33 x25 x26 (IntKind.wrap .i64 (x27 + (1 : Int))) x2 x5 r5
        else
          s33 x25 x26 (IntKind.wrap .i64 (x27 + (1 : Int))) x2 x5 x6
      else
        (F_integer_Cmp r2.1 x6).bind fun r7 =>
        if (decide (r7 > (0 : Int))) = true then
          s33 x25 x26 (IntKind.wrap .i64 (x27 + (1 : Int))) x2 x5 r2.1
        else
          s33 x25 x26 (IntKind.wrap .i64 (x27 + (1 : Int))) x2 x5 x6
    else none
  else
    (F_integer_Of (1 : Int)).bind fun r8 =>
    (F_integer_Add x6 r8).bind fun r9 =>
    some r9
def Run_rootbound_Cauchy : Prop := ∀ s33 : Nat → (List (Bool × List Int)) → Int → Int → (Bool × List Int) → (Bool × List Int) → (Bool × List Int) → Option ((Bool × List Int)), (∀ m x25 x26 x27 x2 x5 x6, s33 (m + 1) x25 x26 x27 x2 x5 x6 = S_rootbound_Cauchy_33 (s33 m) x25 x26 x27 x2 x5 x6) → ∀ a0 : List (Bool × List Int), Ok (F_rootbound_Cauchy a0) (fun m => T_rootbound_Cauchy (s33 m) a0)

/-! (cylinder/isolate.search).count -/
def T_isolate_search_count (a0 : List (Bool × List Int) × List (List (Bool × List Int))) (a1 : (Bool × List Int) × List Int) (a2 : (Bool × List Int) × List Int) : Option Int :=
  (F_sturm_Variations a0.2 a1).bind fun r1 =>
  (F_sturm_Variations a0.2 a2).bind fun r2 =>
  some ((IntKind.wrap .i64 (r1 - r2)))
def Run_isolate_search_count : Prop := ∀ a0 : List (Bool × List Int) × List (List (Bool × List Int)), ∀ a1 : (Bool × List Int) × List Int, ∀ a2 : (Bool × List Int) × List Int, Ok (F_isolate_search_count a0 a1 a2) (fun _ => T_isolate_search_count a0 a1 a2)

/-! (cylinder/isolate.search).between -/
def T_isolate_search_between (G_isolate_search_between : (List (Bool × List Int) × List (List (Bool × List Int))) → ((Bool × List Int) × List Int) → ((Bool × List Int) × List Int) → Option (List (((Bool × List Int) × List Int) × (Bool × List Int) × List Int))) (s45 : (List (Bool × List Int) × List (List (Bool × List Int))) → ((Bool × List Int) × List Int) → ((Bool × List Int) × List Int) → ((Bool × List Int) × List Int) → ((Bool × List Int) × List Int) → ((Bool × List Int) × List Int) → ((Bool × List Int) × List Int) → Option ((List (((Bool × List Int) × List Int) × (Bool × List Int) × List Int)))) (a0 : List (Bool × List Int) × List (List (Bool × List Int))) (a1 : (Bool × List Int) × List Int) (a2 : (Bool × List Int) × List Int) : Option (List (((Bool × List Int) × List Int) × (Bool × List Int) × List Int)) :=
  (F_isolate_search_count a0 a1 a2).bind fun r1 =>
  if (r1 == (0 : Int)) = true then
    some (([] : List (((Bool × List Int) × List Int) × (Bool × List Int) × List Int)))
  else
    if (r1 == (1 : Int)) = true then
      some (([(a1, a2)] : List (((Bool × List Int) × List Int) × (Bool × List Int) × List Int)))
    else
      (F_rational_Mid a1 a2).bind fun r2 =>
      (F_unipoly_SignAt a0.1 r2).bind fun r3 =>
      if (r3 != (0 : Int)) = true then
        (G_isolate_search_between a0 a1 r2).bind fun r4 =>
        (G_isolate_search_between a0 r2 a2).bind fun r5 =>
        if List.length r4 + List.length r5 ≤ 70368744177664 / 112 then
          some ((r4 ++ r5))
        else none
      else
        (F_rational_Of (0 : Int)).bind fun r6 =>
        (F_rational_Sub r2 a1).bind fun r7 =>
        (F_rational_Mid r6 r7).bind fun r8 =>
        (F_rational_Sub r2 r8).bind fun r9 =>
        (F_rational_Add r2 r8).bind fun r10 =>
        s45 a0 a1 a2 r2 r8 r9 r10
def S_isolate_search_between_45 (G_isolate_search_between : (List (Bool × List Int) × List (List (Bool × List Int))) → ((Bool × List Int) × List Int) → ((Bool × List Int) × List Int) → Option (List (((Bool × List Int) × List Int) × (Bool × List Int) × List Int))) (s45 : (List (Bool × List Int) × List (List (Bool × List Int))) → ((Bool × List Int) × List Int) → ((Bool × List Int) × List Int) → ((Bool × List Int) × List Int) → ((Bool × List Int) × List Int) → ((Bool × List Int) × List Int) → ((Bool × List Int) × List Int) → Option ((List (((Bool × List Int) × List Int) × (Bool × List Int) × List Int)))) (x3 : List (Bool × List Int) × List (List (Bool × List Int))) (x4 : (Bool × List Int) × List Int) (x5 : (Bool × List Int) × List Int) (x7 : (Bool × List Int) × List Int) (x8 : (Bool × List Int) × List Int) (x9 : (Bool × List Int) × List Int) (x10 : (Bool × List Int) × List Int) : Option (List (((Bool × List Int) × List Int) × (Bool × List Int) × List Int)) :=
  (F_unipoly_SignAt x3.1 x9).bind fun r1 =>
  if (r1 == (0 : Int)) = true then
    (F_rational_Of (0 : Int)).bind fun r2 =>
    (F_rational_Mid r2 x8).bind fun r3 =>
    (F_rational_Sub x7 r3).bind fun r4 =>
    (F_rational_Add x7 r3).bind fun r5 =>
    s45 x3 x4 x5 x7 r3 r4 r5
  else
    (F_unipoly_SignAt x3.1 x10).bind fun r6 =>
    if (r6 == (0 : Int)) = true then
      (F_rational_Of (0 : Int)).bind fun r7 =>
      (F_rational_Mid r7 x8).bind fun r8 =>
      (F_rational_Sub x7 r8).bind fun r9 =>
      (F_rational_Add x7 r8).bind fun r10 =>
      s45 x3 x4 x5 x7 r8 r9 r10
    else
      (F_isolate_search_count x3 x9 x10).bind fun r11 =>
      if (r11 != (1 : Int)) = true then
        (F_rational_Of (0 : Int)).bind fun r12 =>
        (F_rational_Mid r12 x8).bind fun r13 =>
        (F_rational_Sub x7 r13).bind fun r14 =>
        (F_rational_Add x7 r13).bind fun r15 =>
        s45 x3 x4 x5 x7 r13 r14 r15
      else
        (G_isolate_search_between x3 x4 x9).bind fun r16 =>
        if List.length r16 + List.length ([(x7, x7)] : List (((Bool × List Int) × List Int) × (Bool × List Int) × List Int)) ≤ 70368744177664 / 112 then
          let v17 : List (((Bool × List Int) × List Int) × (Bool × List Int) × List Int) := (r16 ++ ([(x7, x7)] : List (((Bool × List Int) × List Int) × (Bool × List Int) × List Int)))
          (G_isolate_search_between x3 x10 x5).bind fun r18 =>
          if List.length v17 + List.length r18 ≤ 70368744177664 / 112 then
            some ((v17 ++ r18))
          else none
        else none
def Run_isolate_search_between : Prop := ∀ (G_isolate_search_between : (List (Bool × List Int) × List (List (Bool × List Int))) → ((Bool × List Int) × List Int) → ((Bool × List Int) × List Int) → Option (List (((Bool × List Int) × List Int) × (Bool × List Int) × List Int))), ∀ s45 : Nat → (List (Bool × List Int) × List (List (Bool × List Int))) → ((Bool × List Int) × List Int) → ((Bool × List Int) × List Int) → ((Bool × List Int) × List Int) → ((Bool × List Int) × List Int) → ((Bool × List Int) × List Int) → ((Bool × List Int) × List Int) → Option ((List (((Bool × List Int) × List Int) × (Bool × List Int) × List Int))), (∀ m x3 x4 x5 x7 x8 x9 x10, s45 (m + 1) x3 x4 x5 x7 x8 x9 x10 = S_isolate_search_between_45 G_isolate_search_between (s45 m) x3 x4 x5 x7 x8 x9 x10) → ∀ d, (∀ a0 a1 a2, G_isolate_search_between a0 a1 a2 = R_isolate_search_between d a0 a1 a2) → ∀ a0 : List (Bool × List Int) × List (List (Bool × List Int)), ∀ a1 : (Bool × List Int) × List Int, ∀ a2 : (Bool × List Int) × List Int, Ok (R_isolate_search_between (d + 1) a0 a1 a2) (fun m => T_isolate_search_between G_isolate_search_between (s45 m) a0 a1 a2)

/-! cylinder/isolate.Roots -/
def T_isolate_Roots (a0 : List (Bool × List Int)) : Option (List (((Bool × List Int) × List Int) × (Bool × List Int) × List Int)) :=
  (F_squarefree_Part a0).bind fun r1 =>
  (F_unipoly_Degree r1).bind fun r2 =>
  if (decide (r2 < (1 : Int))) = true then
    some (([] : List (((Bool × List Int) × List Int) × (Bool × List Int) × List Int)))
  else
    (F_rootbound_Cauchy r1).bind fun r3 =>
    (F_rational_From r3).bind fun r4 =>
    (F_sturm_Of r1).bind fun r5 =>
    (F_rational_Neg r4).bind fun r6 =>
    (F_isolate_search_between (r1, r5) r6 r4).bind fun r7 =>
    some r7
def Run_isolate_Roots : Prop := ∀ a0 : List (Bool × List Int), Ok (F_isolate_Roots a0) (fun _ => T_isolate_Roots a0)

/-! cylinder/cylinderlaw16.awake -/
def T_law16_awake : Option Bool :=
  (F_unipoly_Of ([(-2 : Int), (0 : Int), (1 : Int)] : List Int)).bind fun r1 =>
  (F_isolate_Roots r1).bind fun r2 =>
  some (((List.length r2 : Int) == (2 : Int)))
def Run_law16_awake : Prop := Ok (F_law16_awake) (fun _ => T_law16_awake)
end
end Go.W

set_option linter.unusedVariables false
set_option linter.unusedSimpArgs false
namespace Go.W

theorem Rn_squarefree_quotient : Run_squarefree_quotient := fun f g => Ok.gif_const fun ⟨hf, hg, hd⟩ => by
  rw [T_squarefree_quotient, F_unidiv_Exact, gif_bind ⟨hf, hg, hd⟩]
  unfold quoL
  by_cases h0 : trimL (pv g) = []
  · rw [if_pos h0, if_pos h0]; rfl
  · rw [if_neg h0, if_neg h0]
    cases exact (trimL (pv f)) (trimL (pv g)) <;> rfl
theorem derL_lenle (l : List Int) : (derL l).length ≤ l.length := by rw [derL_len]; omega
theorem gcdA_PB {f g : List Int} (lf : f.length ≤ 13) (lg : g.length ≤ 13) (hf : PB 100 f) (hg : PB 100 g) : PB (XG + 100) (gcdA f g) ∧ (gcdA f g).length ≤ 13 := by
  have l1 := trimL_len f
  have l2 := trimL_len g
  have lpf := primL_len f
  have lpg := primL_len g
  have bpf := primL_PB hf
  have bpg := primL_PB hg
  have cf := gcdL_Bd hf
  have cg := gcdL_Bd hg
  have cfn := gcdL_nonneg f
  have cgn := gcdL_nonneg g
  unfold gcdA
  obtain ⟨p, hp⟩ : ∃ p, (if (trimL (primL f)).length < (trimL (primL g)).length then primL g else primL f) = p := ⟨_, rfl⟩
  obtain ⟨q, hq⟩ : ∃ q, (if (trimL (primL f)).length < (trimL (primL g)).length then primL f else primL g) = q := ⟨_, rfl⟩
  simp only [hp, hq]
  have P : p.length ≤ 13 ∧ q.length ≤ 13 ∧ PB 100 p ∧ PB 100 q ∧ (trimL q).length ≤ (trimL p).length := by
    rw [← hp, ← hq]
    split
    · rename_i h; exact ⟨by omega, by omega, bpg, bpf, by omega⟩
    · rename_i h; exact ⟨by omega, by omega, bpf, bpg, by omega⟩
  obtain ⟨P1, P2, P3, P4, P5⟩ := P
  have hgb : Bd 100 (ab (Int.gcd (gcdL f) (gcdL g) : Int)) := by
    rw [ab_pos (by omega)]
    by_cases h0 : gcdL f = 0
    · rw [h0, Int.gcd_zero_left]
      have : ((gcdL g).natAbs : Int) = gcdL g := Int.natAbs_of_nonneg cgn
      rw [this]; exact cg
    · exact cf.le (by omega) (Int.le_of_dvd (by omega) (Int.gcd_dvd_left ..))
  have fin : ∀ l : List Int, PB XG l → l.length ≤ 13 → PB (XG + 100) (scl (Int.gcd (gcdL f) (gcdL g) : Int) (primL l)) ∧ (scl (Int.gcd (gcdL f) (gcdL g) : Int) (primL l)).length ≤ 13 := fun l hl hl2 => by
    have ll := primL_len l
    have lt := trimL_len l
    have ls := scl_len (Int.gcd (gcdL f) (gcdL g) : Int) (primL l)
    exact ⟨PB.scl hgb (primL_PB hl) (by omega), by omega⟩
  split
  · exact fin p (P3.mono (by decide)) P1
  · have := gseq_PB P1 P2 P3 P4 P5
    exact fin _ this.1 this.2
theorem Rn_squarefree_Part : Run_squarefree_Part := fun f => Ok.gif_const fun ⟨h1, h2, h3⟩ => by
  have hpp : PP f := ⟨by omega, h2, h3.mono (by decide)⟩
  have lp := primL_len (pv f)
  have lt := trimL_len (pv f)
  rw [pv_len] at lt
  have bp := primL_PB h3
  have ppp : PP (dp (primL (pv f))) := PP.dp' (by omega) bp (by decide)
  rw [T_squarefree_Part, F_unidiv_Primitive, gif_bind hpp, Degree_bind ppp, pv_dp]
  unfold partL
  by_cases h0 : (trimL (primL (pv f))).length < 2
  · rw [if_pos (by rw [decide_eq_true_eq]; omega), if_pos h0]
  · have ld := derL_lenle (trimL (primL (pv f)))
    have lt2 := trimL_len (primL (pv f))
    have bd : PB 100 (derL (trimL (primL (pv f)))) := (derL_PB bp.trim (by omega)).mono (by omega)
    have gs : GS (dp (primL (pv f))) := ⟨by rw [dp_len]; omega, ppp.2.1, by rw [pv_dp]; exact bp.mono (by omega)⟩
    have gd : GS (dp (derL (trimL (primL (pv f))))) := ⟨by rw [dp_len]; omega, (PP.dp' (k := 100) (by omega) bd (by decide)).2.1, by rw [pv_dp]; exact bd⟩
    have hg := gcdA_PB (f := primL (pv f)) (g := derL (trimL (primL (pv f)))) (by omega) (by omega) (bp.mono (by omega)) bd
    rw [if_neg (by rw [decide_eq_true_eq]; omega), if_neg h0, F_unipoly_Derivative, gif_bind ⟨ppp, by rw [pv_dp]; exact bp.mono (by decide)⟩, pv_dp, F_unidiv_Gcd, gif_bind ⟨gs, gd⟩, pv_dp, pv_dp, F_squarefree_quotient, gif_bind ⟨ppp, PP.dp' (by omega) hg.1 (by decide), by rw [dp_len]; omega, by rw [dp_len]; omega, 90, XG + 100, by rw [pv_dp]; exact bp, by rw [pv_dp]; exact hg.1, by
      rw [dp_len]
      have : ((primL (pv f)).length + 2) * (XG + 100 + 4) ≤ 15 * (XG + 100 + 4) := Nat.mul_le_mul_right _ (by omega)
      unfold XG at this ⊢; omega⟩, pv_dp, pv_dp]

/-! ### the bound of the roots -/
theorem cauT_Bd {k : Nat} {lead : Int} : ∀ (l : List Int) (most : Int), PB k l → 0 ≤ lead → Bd (k + 1) most → Bd (k + 1) (cauT lead most l)
  | [], _, _, _, h => h
  | c :: l, most, hl, h0, h => by
    simp only [cauT]
    have hc := hl c (by simp)
    have h1 : 0 ≤ Int.fdiv (ab c) lead := Int.fdiv_nonneg hc.1 h0
    have h2 : Int.fdiv (ab c) lead ≤ ab c := by
      rw [Int.fdiv_eq_ediv_of_nonneg _ h0]; exact Int.ediv_le_self _ hc.1
    have h3 := hc.2
    have h4 : (2 : Int) ^ (k + 1) = 2 * 2 ^ k := by rw [Int.pow_succ]; omega
    have h5 := two_pow_pos k
    have hx : Bd (k + 1) (if Int.fmod (ab c) lead ≠ 0 then Int.fdiv (ab c) lead + 1 else Int.fdiv (ab c) lead) := by
      constructor
      · split <;> omega
      · rw [h4]; split <;> omega
    refine cauT_Bd l _ (fun x hx => hl x (by simp [hx])) h0 ?_
    generalize (if Int.fmod (ab c) lead ≠ 0 then Int.fdiv (ab c) lead + 1 else Int.fdiv (ab c) lead) = x at hx ⊢
    split
    · exact hx
    · exact h
theorem Rn_rootbound_Cauchy : Run_rootbound_Cauchy := fun s hs f => Ok.gif fun h => by
  have hl := trimL_len (pv f); rw [pv_len] at hl
  have hl0 := h.1
  have pt : PP (dp (trimL (pv f))) := PP.dp (by omega) h.2.2.trim
  have e0 : ∀ {σ : Type} (K : Bool × List Int → Option σ), (F_integer_Of (0 : Int)).bind K = K (di 0) := fun K => by rw [F_integer_Of, gif_bind (by omega)]
  have e1 : ∀ {σ : Type} (K : Bool × List Int → Option σ), (F_integer_Of (1 : Int)).bind K = K (di 1) := fun K => by rw [F_integer_Of, gif_bind (by omega)]
  simp only [T_rootbound_Cauchy, cauL]
  by_cases h0 : (trimL (pv f)).length < 2
  · rw [if_pos h0]
    refine Ev.congr (t := fun _ => some _) (fun m => ?_) Ev.ret
    rw [Normal_bind h, Degree_bind pt, pv_dp, trimL_idem, if_pos (by rw [decide_eq_true_eq]; omega), e0]
  · rw [if_neg h0]
    have hne : trimL (pv f) ≠ [] := fun e => by rw [e] at h0; exact h0 (by decide)
    have hlead := h.2.2.trim.lc
    have hlp : 0 < ab (lc (trimL (pv f))) := by
      have := lc_ne (trimL_tl (pv f)) hne
      unfold ab; split <;> omega
    have hIIl : II (di (lc (trimL (pv f)))) := II.di hlead (by unfold KP; omega)
    have hla : Bd KP (ab (ab (lc (trimL (pv f))))) := by rw [ab_pos (by omega)]; exact hlead
    have hIIa : II (di (ab (lc (trimL (pv f))))) := II.di hla (by unfold KP; omega)
    obtain ⟨lead, hld⟩ : ∃ x, ab (lc (trimL (pv f))) = x := ⟨_, rfl⟩
    have hcs : PB KP ((trimL (pv f)).take ((trimL (pv f)).length - 1)) := fun c hc => h.2.2.trim c (List.mem_of_mem_take hc)
    obtain ⟨cs, hcse⟩ : ∃ x, (trimL (pv f)).take ((trimL (pv f)).length - 1) = x := ⟨_, rfl⟩
    have hcl : cs.length = (trimL (pv f)).length - 1 := by rw [← hcse, List.length_take]; omega
    rw [hld] at hlp hIIa ⊢
    rw [hcse] at hcs ⊢
    have key : ∀ (k i : Nat) (most : Int) (x2 : Bool × List Int), i + k = cs.length → Bd (KP + 1) most → Ev (fun m => s m (dp cs) (cs.length : Int) (i : Int) x2 (di lead) (di most)) (di (cauT lead most (cs.drop i) + 1)) := by
      intro k
      induction k with
      | zero =>
        intro i most x2 hi hm
        refine Ev.step (t := fun _ => some _) (fun m => ?_) Ev.ret
        rw [hs]; unfold S_rootbound_Cauchy_33
        rw [if_neg (by rw [decide_eq_true_eq]; omega), List.drop_of_length_le (by omega), e1, F_integer_Add, gif_bind ⟨II.di (k := KP + 1) (by rw [ab_pos hm.1]; exact hm) (by unfold KP; omega), II.di (k := 1) (by constructor <;> decide) (by decide)⟩, iv_di, iv_di]
        rfl
      | succ k ih =>
        intro i most x2 hi hm
        have hi' : i < cs.length := by omega
        obtain ⟨c, hc⟩ : ∃ c, cs[i] = c := ⟨_, rfl⟩
        have hdrop : cs.drop i = c :: cs.drop (i + 1) := by rw [← hc]; exact List.drop_eq_getElem_cons hi'
        have hcB : Bd KP (ab c) := hcs c (by rw [← hc]; exact List.getElem_mem hi')
        have hget : (dp cs).getD i (false, ([] : List Int)) = di c := by simp [List.getD, dp, List.getElem?_map, List.getElem?_eq_getElem hi', hc]
        rw [hdrop]
        simp only [cauT]
        have hac : Bd KP (ab (ab c)) := by rw [ab_pos hcB.1]; exact hcB
        have hq0 : 0 ≤ Int.fdiv (ab c) lead := Int.fdiv_nonneg hcB.1 (by omega)
        have hq1 : Int.fdiv (ab c) lead ≤ ab c := by rw [Int.fdiv_eq_ediv_of_nonneg _ (by omega)]; exact Int.ediv_le_self _ hcB.1
        have hr0 : 0 ≤ Int.fmod (ab c) lead := Int.fmod_nonneg hcB.1 (by omega)
        have hr1 : Int.fmod (ab c) lead ≤ ab c := by
          rw [Int.fmod_eq_emod_of_nonneg _ (by omega)]
          have := Int.mul_ediv_add_emod (ab c) lead
          have := Int.mul_nonneg (show 0 ≤ lead by omega) (show 0 ≤ ab c / lead by rw [← Int.fdiv_eq_ediv_of_nonneg _ (by omega)]; exact hq0)
          omega
        have h4 : (2 : Int) ^ (KP + 1) = 2 * 2 ^ KP := by rw [Int.pow_succ]; omega
        have h5 := two_pow_pos KP
        have h6 := hcB.2
        have bq : Bd KP (Int.fdiv (ab c) lead) := ⟨hq0, by omega⟩
        have br : Bd KP (Int.fmod (ab c) lead) := ⟨hr0, by omega⟩
        have bq1 : Bd (KP + 1) (Int.fdiv (ab c) lead + 1) := ⟨by omega, by rw [h4]; omega⟩
        have IIq : II (di (Int.fdiv (ab c) lead)) := II.di (k := KP) (by rw [ab_pos hq0]; exact bq) (by unfold KP; omega)
        have IIr : II (di (Int.fmod (ab c) lead)) := II.di (k := KP) (by rw [ab_pos hr0]; exact br) (by unfold KP; omega)
        have IIq1 : II (di (Int.fdiv (ab c) lead + 1)) := II.di (k := KP + 1) (by rw [ab_pos (by omega)]; exact bq1) (by unfold KP; omega)
        have IIm : II (di most) := II.di (k := KP + 1) (by rw [ab_pos hm.1]; exact hm) (by unfold KP; omega)
        have II1 : II (di 1) := II.di (k := 1) (by constructor <;> decide) (by decide)
        have hcm : ∀ x y : Int, (decide (cm x y > 0)) = true ↔ x > y := fun x y => by
          rw [decide_eq_true_eq]; unfold cm; (repeat' split) <;> omega
        have hsg : (sg (Int.fmod (ab c) lead) != (0 : Int)) = true ↔ Int.fmod (ab c) lead ≠ 0 := by
          rw [bne_iff_ne]; unfold sg; (repeat' split) <;> omega
        have ihx := fun most' hm' => ih (i + 1) most' x2 (by omega) hm'
        have stepS : ∀ m, s (m + 1) (dp cs) (cs.length : Int) (i : Int) x2 (di lead) (di most) = s m (dp cs) (cs.length : Int) ((i + 1 : Nat) : Int) x2 (di lead) (di (if (if Int.fmod (ab c) lead ≠ 0 then Int.fdiv (ab c) lead + 1 else Int.fdiv (ab c) lead) > most then (if Int.fmod (ab c) lead ≠ 0 then Int.fdiv (ab c) lead + 1 else Int.fdiv (ab c) lead) else most)) := fun m => by
          rw [hs]; unfold S_rootbound_Cauchy_33
          rw [if_pos (by rw [decide_eq_true_eq]; omega), if_pos (by rw [dp_len]; omega), Int.toNat_natCast, hget, F_integer_Abs, gif_bind (II.di hcB (by unfold KP; omega)), iv_di, F_division_Floor, gif_bind ⟨II.di hac (by unfold KP; omega), hIIa⟩, iv_di, iv_di, if_neg (by omega)]
          dsimp only
          rw [F_integer_Sign, gif_bind IIr, iv_di, wrap_succ (by omega)]
          by_cases hr : Int.fmod (ab c) lead ≠ 0
          · rw [if_pos (hsg.2 hr), e1, F_integer_Add, gif_bind ⟨IIq, II1⟩, iv_di, iv_di, F_integer_Cmp, gif_bind ⟨IIq1, IIm⟩, iv_di, iv_di, if_pos hr]
            by_cases hb : Int.fdiv (ab c) lead + 1 > most
            · rw [if_pos ((hcm _ _).2 hb), if_pos hb]
            · rw [if_neg (fun h => hb ((hcm _ _).1 h)), if_neg hb]
          · rw [if_neg (fun h => hr (hsg.1 h)), F_integer_Cmp, gif_bind ⟨IIq, IIm⟩, iv_di, iv_di, if_neg hr]
            by_cases hb : Int.fdiv (ab c) lead > most
            · rw [if_pos ((hcm _ _).2 hb), if_pos hb]
            · rw [if_neg (fun h => hb ((hcm _ _).1 h)), if_neg hb]
        have hx : Bd (KP + 1) (if Int.fmod (ab c) lead ≠ 0 then Int.fdiv (ab c) lead + 1 else Int.fdiv (ab c) lead) := by
          split
          · exact bq1
          · exact bq.mono (by omega)
        refine Ev.step stepS (ihx _ ?_)
        generalize (if Int.fmod (ab c) lead ≠ 0 then Int.fdiv (ab c) lead + 1 else Int.fdiv (ab c) lead) = x at hx ⊢
        split
        · exact hx
        · exact hm
    have := key cs.length 0 0 (false, []) (by omega) (Bd.zero _)
    rw [List.drop_zero] at this
    refine Ev.congr (fun m => ?_) this
    rw [Normal_bind h, Degree_bind pt, pv_dp, trimL_idem, if_neg (by rw [decide_eq_true_eq]; omega), Lead_bind pt, pv_dp, trimL_idem, F_integer_Abs, gif_bind hIIl, iv_di, hld, e0, if_pos (by rw [dp_len]; omega)]
    have et : List.take (Int.toNat (((trimL (pv f)).length : Int) - 1)) (List.drop (Int.toNat (0 : Int)) (dp (trimL (pv f)))) = dp cs := by
      rw [show Int.toNat (0 : Int) = 0 from rfl, List.drop_zero, show Int.toNat (((trimL (pv f)).length : Int) - 1) = (trimL (pv f)).length - 1 by omega, ← hcse]
      unfold dp; rw [List.map_take]
    rw [et, show (((trimL (pv f)).length : Int) - 1) = (cs.length : Int) by omega]
    rfl
end Go.W

set_option linter.unusedVariables false
set_option linter.unusedSimpArgs false
namespace Go.W

theorem vA_bd (ch : List (List Int)) (x : Rat) : 0 ≤ vA ch x ∧ vA ch x ≤ ch.length := by
  unfold vA
  have := chg_bd (ch.map fun f => rsg (evR f x)) 0
  rw [List.length_map] at this
  exact this
theorem Rn_isolate_search_count : Run_isolate_search_count := fun s a b => Ok.gif_const fun ⟨⟨h1, h2, h3⟩, qa, ba, qb, bb⟩ => by
  have b1 := vA_bd (s.2.map pv) (rv a)
  have b2 := vA_bd (s.2.map pv) (rv b)
  rw [List.length_map] at b1 b2
  rw [T_isolate_search_count, F_sturm_Variations, gif_bind ⟨h2, h3, qa, ba⟩, F_sturm_Variations, gif_bind ⟨h2, h3, qb, bb⟩, i64w (by omega) (by omega)]
set_option exponentiation.threshold 1000 in
theorem okq_QB {x : Rat} (h : okq x = true) : QB 400 x := by
  unfold okq at h
  simp only [Bool.and_eq_true, decide_eq_true_eq] at h
  have e : ((2 ^ 400 : Nat) : Int) = 2 ^ 400 := by rw [Int.natCast_pow]; rfl
  have h1 : (x.num.natAbs : Int) < 2 ^ 400 := by rw [← e]; exact Int.ofNat_lt.2 h.1
  have h2 : (x.den : Int) < 2 ^ 400 := by rw [← e]; exact Int.ofNat_lt.2 h.2
  constructor
  · constructor
    · unfold ab; split <;> omega
    · unfold ab; split <;> omega
  · exact ⟨by omega, h2⟩

attribute [local irreducible] okq
theorem V.mid {j k : Nat} {r s : Rat} (ha : QB j r) (hb : QB k s) (hj : j ≤ 32000) (hk : k ≤ 32000) : F_rational_Mid (dr r) (dr s) = some (dr ((r + s) / 2)) := by
  have len : ∀ {x : Rat}, QB 32000 x → (dr x).1.2.length ≤ 1000 ∧ (dr x).2.length ≤ 1000 := fun {x} h => ⟨dn_len (k := 1000) (by have := h.1.2; exact this), dn_len (k := 1000) (by have := h.2.2; exact this)⟩
  have h1 := len (ha.mono hj)
  have h2 := len (hb.mono hk)
  rw [F_rational_Mid, gif_pos ⟨(QV.dr ha (by omega)).1, (QV.dr hb (by omega)).1, h1.1, h1.2, h2.1, h2.2⟩, rv_dr, rv_dr]
theorem QB.half {k : Nat} {x : Rat} (h : QB k x) : QB (k + 2) (x / 2) := by
  rw [Rat.div_def]
  refine (h.mul (k := 2) ?_)
  have : QB 2 ((2 : Int) : Rat) := QB.int (by constructor <;> decide) (by decide)
  exact QB.inv this (by decide)
theorem QB.z0 : QB 1 (((0 : Int) : Rat)) := QB.int (Bd.zero 1) (by decide)
theorem V.of0 {σ : Type} {K : NQ → Option σ} : (F_rational_Of (0 : Int)).bind K = K (dr ((0 : Int) : Rat)) := by rw [F_rational_Of, gif_bind (by omega)]
/-- the sign at a number -/
theorem sgn_at {s : NS} (hs : SR s) {x : Rat} (hx : QB 1000 x) : F_unipoly_SignAt s.1 (dr x) = some (rsg (evR (pv s.1) x)) := by
  obtain ⟨⟨h1, h2, h3⟩, _⟩ := hs
  rw [F_unipoly_SignAt, gif_pos ⟨h1, h2, h3, (QV.dr hx (by omega)).1, by rw [rv_dr]; exact hx⟩, rv_dr]
theorem cnt_at {s : NS} (hs : SR s) {x y : Rat} (hx : QB 1000 x) (hy : QB 1000 y) : F_isolate_search_count s (dr x) (dr y) = some (vA (s.2.map pv) x - vA (s.2.map pv) y) := by
  rw [F_isolate_search_count, gif_pos ⟨hs, (QV.dr hx (by omega)).1, by rw [rv_dr]; exact hx, (QV.dr hy (by omega)).1, by rw [rv_dr]; exact hy⟩, rv_dr, rv_dr]
theorem drs_append (l r : List (Rat × Rat)) : drs (l ++ r) = drs l ++ drs r := List.map_append
theorem drs_len (l : List (Rat × Rat)) : (drs l).length = l.length := List.length_map _
/-- the narrowing loop -/
theorem btwI_ok {s : NS} (hs : SR s) {G : NS → NQ → NQ → Option (List (NQ × NQ))} {s45 : Nat → NS → NQ → NQ → NQ → NQ → NQ → NQ → Option (List (NQ × NQ))}
    (h45 : ∀ m x3 x4 x5 x7 x8 x9 x10, s45 (m + 1) x3 x4 x5 x7 x8 x9 x10 = S_isolate_search_between_45 G (s45 m) x3 x4 x5 x7 x8 x9 x10) {lo hi mid a b : Rat} {l r : List (Rat × Rat)}
    (hl : G s (dr lo) (dr a) = some (drs l)) (hr : G s (dr b) (dr hi) = some (drs r)) (hn : l.length + r.length ≤ 1000) : ∀ (n : Nat) (step : Rat), btwI n (pv s.1) (s.2.map pv) mid step = some (a, b) →
      Ev (fun m => s45 m s (dr lo) (dr hi) (dr mid) (dr step) (dr (mid - step)) (dr (mid + step))) (drs (l ++ [(mid, mid)] ++ r))
  | 0, _, h => by cases h
  | n + 1, step, h => by
    simp only [btwI] at h
    by_cases hok : okq mid = true ∧ okq step = true
    · rw [if_pos hok] at h
      have bm := okq_QB hok.1
      have bs := okq_QB hok.2
      have ba : QB 1000 (mid - step) := (bm.sub bs).mono (by omega)
      have bb : QB 1000 (mid + step) := (bm.add bs).mono (by omega)
      have bst : QB 404 ((((0 : Int) : Rat) + step) / 2) := ((QB.z0.add bs).half).mono (by omega)
      -- one more round
      have more : btwI n (pv s.1) (s.2.map pv) mid ((((0 : Int) : Rat) + step) / 2) = some (a, b) → ∀ m, ((F_rational_Of (0 : Int)).bind fun r2 => (F_rational_Mid r2 (dr step)).bind fun r3 => (F_rational_Sub (dr mid) r3).bind fun r4 => (F_rational_Add (dr mid) r3).bind fun r5 => s45 m s (dr lo) (dr hi) (dr mid) r3 r4 r5) =
          s45 m s (dr lo) (dr hi) (dr mid) (dr ((((0 : Int) : Rat) + step) / 2)) (dr (mid - (((0 : Int) : Rat) + step) / 2)) (dr (mid + (((0 : Int) : Rat) + step) / 2)) := fun _ m => by
        rw [V.of0, V.mid QB.z0 bs (by omega) (by omega), Option.bind_some, V.sub (QV.dr bm (by omega)) (QV.dr bst (by omega)), Option.bind_some, V.add (QV.dr bm (by omega)) (QV.dr bst (by omega)), Option.bind_some]
      by_cases h1 : evR (pv s.1) (mid - step) = 0
      · rw [if_pos (.inl h1)] at h
        refine Ev.step (fun m => ?_) (btwI_ok hs h45 hl hr hn n _ h)
        rw [h45]; unfold S_isolate_search_between_45
        rw [sgn_at hs ba, Option.bind_some, if_pos (by rw [beq_iff_eq, rsg0]; exact h1), more h]
      · by_cases h2 : evR (pv s.1) (mid + step) = 0
        · rw [if_pos (.inr (.inl h2))] at h
          refine Ev.step (fun m => ?_) (btwI_ok hs h45 hl hr hn n _ h)
          rw [h45]; unfold S_isolate_search_between_45
          rw [sgn_at hs ba, Option.bind_some, if_neg (by rw [beq_iff_eq, rsg0]; exact h1), sgn_at hs bb, Option.bind_some, if_pos (by rw [beq_iff_eq, rsg0]; exact h2), more h]
        · by_cases h3 : vA (s.2.map pv) (mid - step) - vA (s.2.map pv) (mid + step) ≠ 1
          · rw [if_pos (.inr (.inr h3))] at h
            refine Ev.step (fun m => ?_) (btwI_ok hs h45 hl hr hn n _ h)
            rw [h45]; unfold S_isolate_search_between_45
            rw [sgn_at hs ba, Option.bind_some, if_neg (by rw [beq_iff_eq, rsg0]; exact h1), sgn_at hs bb, Option.bind_some, if_neg (by rw [beq_iff_eq, rsg0]; exact h2), cnt_at hs ba bb, Option.bind_some, if_pos (by rw [bne_iff_ne]; exact h3), more h]
          · rw [if_neg (by rintro (h | h | h) <;> contradiction)] at h
            injection h with h
            obtain ⟨rfl, rfl⟩ := Prod.mk.inj h
            refine Ev.step (t := fun _ => some _) (fun m => ?_) Ev.ret
            rw [h45]; unfold S_isolate_search_between_45
            rw [sgn_at hs ba, Option.bind_some, if_neg (by rw [beq_iff_eq, rsg0]; exact h1), sgn_at hs bb, Option.bind_some, if_neg (by rw [beq_iff_eq, rsg0]; exact h2), cnt_at hs ba bb, Option.bind_some, if_neg (by rw [bne_iff_ne]; exact h3), hl, Option.bind_some, if_pos (by rw [drs_len]; simp only [List.length_singleton]; omega), hr, Option.bind_some, if_pos (by rw [List.length_append, drs_len, drs_len]; simp only [List.length_singleton]; omega), drs_append, drs_append]
            rfl
    · rw [if_neg hok] at h; cases h

theorem Rz_isolate_search_between (s : NS) (a b : NQ) : R_isolate_search_between 0 s a b = none := by
  unfold R_isolate_search_between
  cases h : (gif (SR s ∧ a = dr (rv a) ∧ b = dr (rv b)) ()) <;> rfl
theorem Rl_isolate_search_between (s : NS) (a b : NQ) (r : List (NQ × NQ)) (h : F_isolate_search_between s a b = some r) : ∃ d, R_isolate_search_between d s a b = some r := by
  unfold F_isolate_search_between at h
  exact ⟨_, h⟩
theorem R_inv {d : Nat} {s : NS} {a b : NQ} {r : List (NQ × NQ)} (h : R_isolate_search_between d s a b = some r) : SR s ∧ a = dr (rv a) ∧ b = dr (rv b) ∧ ∃ l, btw d (pv s.1) (s.2.map pv) (rv a) (rv b) = some l ∧ r = drs l := by
  unfold R_isolate_search_between at h
  cases hg : (gif (SR s ∧ a = dr (rv a) ∧ b = dr (rv b)) ()) with
  | none => rw [hg] at h; cases h
  | some u =>
    obtain ⟨⟨h1, h2, h3⟩, _⟩ := gif_some.1 hg
    rw [hg, Option.bind_some] at h
    cases hb : btw d (pv s.1) (s.2.map pv) (rv a) (rv b) with
    | none => rw [hb] at h; cases h
    | some l => rw [hb] at h; injection h with h; exact ⟨h1, h2, h3, l, rfl, h.symm⟩
theorem R_dr {d : Nat} {s : NS} (hs : SR s) {x y : Rat} {l : List (Rat × Rat)} (h : btw d (pv s.1) (s.2.map pv) x y = some l) : R_isolate_search_between d s (dr x) (dr y) = some (drs l) := by
  unfold R_isolate_search_between
  rw [gif_bind ⟨hs, by rw [rv_dr], by rw [rv_dr]⟩, rv_dr, rv_dr, h]; rfl
theorem btw_succ (d : Nat) (p : List Int) (ch : List (List Int)) (lo hi : Rat) : btw (d + 1) p ch lo hi = (if okq lo = true ∧ okq hi = true then
      (if vA ch lo - vA ch hi = 0 then some []
      else if vA ch lo - vA ch hi = 1 then some [(lo, hi)]
      else if evR p ((lo + hi) / 2) ≠ 0 then
        match btw d p ch lo ((lo + hi) / 2), btw d p ch ((lo + hi) / 2) hi with
        | some l, some r => if l.length + r.length ≤ 1000 then some (l ++ r) else none
        | _, _ => none
      else
        match btwI iDepth p ch ((lo + hi) / 2) ((((0 : Int) : Rat) + ((lo + hi) / 2 - lo)) / 2) with
        | some (a, b) => match btw d p ch lo a, btw d p ch b hi with
          | some l, some r => if l.length + r.length ≤ 1000 then some (l ++ [((lo + hi) / 2, (lo + hi) / 2)] ++ r) else none
          | _, _ => none
        | none => none)
    else none) := rfl
theorem Rn_isolate_search_between : Run_isolate_search_between := fun G s45 h45 d hG s a b r h => by
  obtain ⟨hs, ea, eb, l, hl, rfl⟩ := R_inv h
  generalize hlo : rv a = lo at ea hl
  generalize hhi : rv b = hi at eb hl
  subst ea eb
  clear hlo hhi h
  rw [btw_succ] at hl
  by_cases hok : okq lo = true ∧ okq hi = true
  · rw [if_pos hok] at hl
    have bl := okq_QB hok.1
    have bh := okq_QB hok.2
    have bl' := bl.mono (show 400 ≤ 1000 by omega)
    have bh' := bh.mono (show 400 ≤ 1000 by omega)
    have bm : QB 803 ((lo + hi) / 2) := ((bl.add bh).half).mono (by omega)
    have bm' := bm.mono (show 803 ≤ 1000 by omega)
    simp only [T_isolate_search_between]
    by_cases h0 : vA (s.2.map pv) lo - vA (s.2.map pv) hi = 0
    · rw [if_pos h0] at hl
      injection hl with hl; subst hl
      refine Ev.congr (t := fun _ => some _) (fun m => ?_) Ev.ret
      rw [cnt_at hs bl' bh', Option.bind_some, if_pos (by rw [beq_iff_eq]; exact h0)]; rfl
    · rw [if_neg h0] at hl
      by_cases h1 : vA (s.2.map pv) lo - vA (s.2.map pv) hi = 1
      · rw [if_pos h1] at hl
        injection hl with hl; subst hl
        refine Ev.congr (t := fun _ => some _) (fun m => ?_) Ev.ret
        rw [cnt_at hs bl' bh', Option.bind_some, if_neg (by rw [beq_iff_eq]; exact h0), if_pos (by rw [beq_iff_eq]; exact h1)]; rfl
      · rw [if_neg h1] at hl
        by_cases h2 : evR (pv s.1) ((lo + hi) / 2) ≠ 0
        · rw [if_pos h2] at hl
          split at hl
          · rename_i l1 r1 e1 e2
            split at hl
            · rename_i hn
              injection hl with hl; subst hl
              refine Ev.congr (t := fun _ => some _) (fun m => ?_) Ev.ret
              rw [cnt_at hs bl' bh', Option.bind_some, if_neg (by rw [beq_iff_eq]; exact h0), if_neg (by rw [beq_iff_eq]; exact h1), V.mid bl bh (by omega) (by omega), Option.bind_some, sgn_at hs bm', Option.bind_some, if_pos (by rw [bne_iff_ne, ne_eq, rsg0]; exact h2), hG, R_dr hs e1, Option.bind_some, hG, R_dr hs e2, Option.bind_some, if_pos (by rw [drs_len, drs_len]; omega), drs_append]
            · cases hl
          · cases hl
        · rw [if_neg h2] at hl
          split at hl
          · rename_i a b e0
            split at hl
            · rename_i l1 r1 e1 e2
              split at hl
              · rename_i hn
                injection hl with hl; subst hl
                have b7 : QB 1204 ((lo + hi) / 2 - lo) := (bm.sub bl).mono (by omega)
                have b8 : QB 1300 ((((0 : Int) : Rat) + ((lo + hi) / 2 - lo)) / 2) := ((QB.z0.add b7).half).mono (by omega)
                refine Ev.congr (fun m => ?_) (btwI_ok hs h45 ((hG _ _ _).trans (R_dr hs e1)) ((hG _ _ _).trans (R_dr hs e2)) hn iDepth _ e0)
                rw [cnt_at hs bl' bh', Option.bind_some, if_neg (by rw [beq_iff_eq]; exact h0), if_neg (by rw [beq_iff_eq]; exact h1), V.mid bl bh (by omega) (by omega), Option.bind_some, sgn_at hs bm', Option.bind_some, if_neg (by rw [bne_iff_ne, ne_eq, rsg0]; exact h2), V.of0, V.sub (QV.dr bm (by omega)) (QV.dr bl (by omega)), Option.bind_some, V.mid QB.z0 b7 (by omega) (by omega), Option.bind_some, V.sub (QV.dr bm (by omega)) (QV.dr b8 (by omega)), Option.bind_some, V.add (QV.dr bm (by omega)) (QV.dr b8 (by omega)), Option.bind_some]
              · cases hl
            · cases hl
          · cases hl
  · rw [if_neg hok] at hl; cases hl
end Go.W

set_option linter.unusedVariables false
set_option linter.unusedSimpArgs false
namespace Go.W
theorem Rn_isolate_Roots : Run_isolate_Roots := fun f r h => by
  unfold F_isolate_Roots at h
  cases hg : (gif (GP f ∧ RP (pv f)) ()) with
  | none => rw [hg] at h; cases h
  | some u =>
    obtain ⟨⟨hp, h1, h2, h3, h4⟩, _⟩ := gif_some.1 hg
    rw [hg, Option.bind_some] at h
    cases hr : rootsL (pv f) with
    | none => rw [hr] at h; cases h
    | some l =>
      rw [hr] at h; injection h with h; subst h
      unfold rootsL at hr
      obtain ⟨p, hpe⟩ : ∃ p, partL (pv f) = p := ⟨_, rfl⟩
      rw [hpe] at h1 h2 h3 h4 hr
      have pp : PP (dp p) := PP.dp' (by omega) h2 (by decide)
      refine ⟨0, fun _ _ => ?_⟩
      simp only [T_isolate_Roots]
      rw [F_squarefree_Part, gif_bind hp, hpe, Degree_bind pp, pv_dp]
      by_cases h0 : (trimL p).length < 2
      · rw [if_pos h0] at hr
        injection hr with hr; subst hr
        rw [if_pos (by rw [decide_eq_true_eq]; omega)]; rfl
      · rw [if_neg h0] at hr
        have hc : Bd 200 (cauL p) := by
          unfold cauL
          rw [if_neg h0]
          have hb : PB 90 ((trimL p).take ((trimL p).length - 1)) := fun c hc => h2.trim c (List.mem_of_mem_take hc)
          have h0' : 0 ≤ ab (lc (trimL p)) := by unfold ab; split <;> omega
          have := cauT_Bd (k := 90) _ 0 hb h0' (Bd.zero _)
          exact ((this.add (k := 1) ⟨by decide, by decide⟩)).mono (by omega)
        have hca : Bd 200 (ab (cauL p)) := by rw [ab_pos hc.1]; exact hc
        have bq : QB 200 ((cauL p : Int) : Rat) := QB.int hca (by decide)
        have spd : SP (dp p) := SP.dp h1 h2 (by omega)
        have hsr : SR (dp p, (chL p (derL (trimL p))).map dp) := by
          refine ⟨⟨by rw [dp_len]; omega, pp.2.1, by rw [pv_dp]; exact h2.mono (by decide)⟩, by rw [List.length_map]; exact h3, fun g hg => ?_⟩
          obtain ⟨g', hg', rfl⟩ := List.mem_map.1 hg
          obtain ⟨q1, q2⟩ := h4 g' hg'
          exact ⟨by rw [dp_len]; exact q1, (PP.dp' (by omega) q2 (by decide)).2.1, by rw [pv_dp]; exact q2⟩
        rw [if_neg (by rw [decide_eq_true_eq]; omega), F_rootbound_Cauchy, gif_bind pp, pv_dp, F_rational_From, gif_bind (II.di hca (by omega)), iv_di, F_sturm_Of, gif_bind ⟨spd, by rw [pv_dp]; exact h2⟩, pv_dp, V.neg (QV.dr bq (by omega)), Option.bind_some]
        have em : ((chL p (derL (trimL p))).map dp).map pv = chL p (derL (trimL p)) := by
          rw [List.map_map]
          conv => rhs; rw [← List.map_id (chL p (derL (trimL p)))]
          exact List.map_congr_left fun g _ => pv_dp g
        have hb : btw bDepth (pv (dp p, (chL p (derL (trimL p))).map dp).1) ((dp p, (chL p (derL (trimL p))).map dp).2.map pv) (-((cauL p : Int) : Rat)) ((cauL p : Int) : Rat) = some l := by
          show btw bDepth (pv (dp p)) (((chL p (derL (trimL p))).map dp).map pv) _ _ = _
          rw [pv_dp, em]; exact hr
        rw [F_isolate_search_between, R_dr hsr hb]
        rfl
theorem roots2 : F_isolate_Roots (dp [-2, 0, 1]) = some (drs [(-3, 0), (0, 3)]) := by
  have hPB : PB 80 [-2, 0, 1] := fun c hc => by
    simp only [List.mem_cons, List.not_mem_nil, or_false] at hc
    rcases hc with rfl | rfl | rfl <;> constructor <;> decide
  have hp : partL [-2, 0, 1] = [-2, 0, 1] := by decide +kernel
  have hch : chL [-2, 0, 1] (derL (trimL [-2, 0, 1])) = [[-2, 0, 1], [0, 1], [1]] := by decide +kernel
  have hr : rootsL [-2, 0, 1] = some [(-3, 0), (0, 3)] := by decide +kernel
  have gp : GP (dp [-2, 0, 1]) := ⟨by rw [dp_len]; decide, (PP.dp' (k := 80) (by decide) hPB (by decide)).2.1, by rw [pv_dp]; exact hPB.mono (by decide)⟩
  rw [F_isolate_Roots, pv_dp, gif_bind ⟨gp, by
    unfold RP
    rw [hp, hch]
    refine ⟨by decide, hPB.mono (by decide), by decide, fun f hf => ?_⟩
    simp only [List.mem_cons, List.not_mem_nil, or_false] at hf
    rcases hf with rfl | rfl | rfl
    · exact ⟨by decide, hPB.mono (by decide)⟩
    · refine ⟨by decide, fun c hc => ?_⟩
      simp only [List.mem_cons, List.not_mem_nil, or_false] at hc
      rcases hc with rfl | rfl
      · exact Bd.zero _
      · exact (show Bd 1 (ab 1) by constructor <;> decide).mono (by decide)
    · refine ⟨by decide, fun c hc => ?_⟩
      simp only [List.mem_cons, List.not_mem_nil, or_false] at hc
      subst hc
      exact (show Bd 1 (ab 1) by constructor <;> decide).mono (by decide)⟩, hr]
  rfl
theorem Rn_law16_awake : Run_law16_awake := Ok.gif_const fun _ => by
  have e : (F_unipoly_Of ([(-2 : Int), (0 : Int), (1 : Int)] : List Int)) = some (dp [-2, 0, 1]) := by
    rw [F_unipoly_Of, gif_pos ⟨by decide, fun c hc => by
      simp only [List.mem_cons, List.not_mem_nil, or_false] at hc
      omega⟩]
    rfl
  rw [T_law16_awake, e, Option.bind_some, roots2, Option.bind_some]
  rfl
end Go.W

set_option linter.unusedVariables false
namespace Go.W
/-! ### gaps -/
def gapT : Rat × Rat → List (Rat × Rat) → Option (List Rat)
  | prev, [] => some [prev.2 + ((1 : Int) : Rat)]
  | prev, x :: l => if x.2 < x.1 then none else if x.1 < prev.2 ∨ (prev.2 = x.1 ∧ (prev.1 = prev.2 ∨ x.1 = x.2)) then none else match gapT x l with
    | some g => some ((prev.2 + x.1) / 2 :: g)
    | none => none
def gapsL : List (Rat × Rat) → List Rat
  | [] => [((0 : Int) : Rat)]
  | x :: l => if x.2 < x.1 then [] else match gapT x l with
    | some g => (x.1 - ((1 : Int) : Rat)) :: g
    | none => []
def rvs (l : List (NQ × NQ)) : List (Rat × Rat) := l.map fun x => (rv x.1, rv x.2)
def QL (L : List (Rat × Rat)) : Prop := L.length ≤ 1000 ∧ ∀ x ∈ L, QB 400 x.1 ∧ QB 400 x.2
noncomputable def F_isolate_Gaps (l : List (NQ × NQ)) : Option (List NQ) := gif (l = drs (rvs l) ∧ QL (rvs l)) ((gapsL (rvs l)).map dr)
def Q8 (q : List Int) : Prop := q.length = 2 ∧ ∀ c ∈ q, -128 ≤ c ∧ c ≤ 127
def fq (q : List Int) : Rat := Rat.divInt (if q.getD 1 0 < 0 then -(q.getD 0 0) else q.getD 0 0) (if q.getD 1 0 = 0 then 1 else ab (q.getD 1 0))
noncomputable def F_ref15_Less (a b : List Int) : Option Bool := gif (Q8 a ∧ Q8 b) (decide (fq a < fq b))
def I8 (x : List (List Int)) : Prop := x.length = 2 ∧ ∀ q ∈ x, Q8 q
def ivl (x : List (List Int)) : Rat × Rat := (fq (x.getD 0 (List.replicate 2 (0 : Int))), fq (x.getD 1 (List.replicate 2 (0 : Int))))
noncomputable def F_ref16_Point (x : List (List Int)) : Option Bool := gif (I8 x) (decide ((ivl x).1 = (ivl x).2))
def sepT : Rat × Rat → List (Rat × Rat) → Bool
  | _, [] => true
  | prev, x :: l => if x.2 < x.1 then false else if x.1 < prev.2 ∨ (prev.2 = x.1 ∧ (prev.1 = prev.2 ∨ x.1 = x.2)) then false else sepT x l
def sepL : List (Rat × Rat) → Bool
  | [] => true
  | x :: l => if x.2 < x.1 then false else sepT x l
noncomputable def F_ref16_Separate (l : List (List (List Int))) : Option Bool := gif (l.length ≤ 1000 ∧ ∀ x ∈ l, I8 x) (sepL (l.map ivl))
noncomputable def F_law16_IsolateSeparates (l : List (List (List Int))) : Option Bool := gif (l.length ≤ maxLen ∧ ∀ x ∈ l, I8 x) true
end Go.W

set_option linter.unusedVariables false
namespace Go.W
noncomputable section

/-! cylinder/isolate.Gaps -/
def T_isolate_Gaps (s21 : (List (((Bool × List Int) × List Int) × (Bool × List Int) × List Int)) → (List (((Bool × List Int) × List Int) × (Bool × List Int) × List Int)) → Int → Int → (List ((Bool × List Int) × List Int)) → Option ((List ((Bool × List Int) × List Int)))) (s52 : (List (((Bool × List Int) × List Int) × (Bool × List Int) × List Int)) → (List (((Bool × List Int) × List Int) × (Bool × List Int) × List Int)) → Int → Int → Bool → (List ((Bool × List Int) × List Int)) → (((Bool × List Int) × List Int) × (Bool × List Int) × List Int) → (((Bool × List Int) × List Int) × (Bool × List Int) × List Int) → Option ((List ((Bool × List Int) × List Int)))) (a0 : List (((Bool × List Int) × List Int) × (Bool × List Int) × List Int)) : Option (List ((Bool × List Int) × List Int)) :=
  if ((List.length a0 : Int) == (0 : Int)) = true then
    (F_rational_Of (0 : Int)).bind fun r1 =>
    some (([r1] : List ((Bool × List Int) × List Int)))
  else
    if 0 ≤ (0 : Int) ∧ (0 : Int) < (List.length a0 : Int) then
      let v2 : (Bool × List Int) × List Int := (List.getD a0 (Int.toNat (0 : Int)) (((false, ([] : List Int)), ([] : List Int)), ((false, ([] : List Int)), ([] : List Int)))).1
      (F_rational_Of (1 : Int)).bind fun r3 =>
      (F_rational_Sub v2 r3).bind fun r4 =>
      s21 a0 a0 (List.length a0 : Int) (0 : Int) ([r4] : List ((Bool × List Int) × List Int))
    else none
def S_isolate_Gaps_21 (s21 : (List (((Bool × List Int) × List Int) × (Bool × List Int) × List Int)) → (List (((Bool × List Int) × List Int) × (Bool × List Int) × List Int)) → Int → Int → (List ((Bool × List Int) × List Int)) → Option ((List ((Bool × List Int) × List Int)))) (s52 : (List (((Bool × List Int) × List Int) × (Bool × List Int) × List Int)) → (List (((Bool × List Int) × List Int) × (Bool × List Int) × List Int)) → Int → Int → Bool → (List ((Bool × List Int) × List Int)) → (((Bool × List Int) × List Int) × (Bool × List Int) × List Int) → (((Bool × List Int) × List Int) × (Bool × List Int) × List Int) → Option ((List ((Bool × List Int) × List Int)))) (x0 : List (((Bool × List Int) × List Int) × (Bool × List Int) × List Int)) (x20 : List (((Bool × List Int) × List Int) × (Bool × List Int) × List Int)) (x21 : Int) (x22 : Int) (x3 : List ((Bool × List Int) × List Int)) : Option (List ((Bool × List Int) × List Int)) :=
  if (decide (x22 < x21)) = true then
    if 0 ≤ x22 ∧ x22 < (List.length x20 : Int) then
      let v1 : ((Bool × List Int) × List Int) × (Bool × List Int) × List Int := (List.getD x20 (Int.toNat x22) (((false, ([] : List Int)), ([] : List Int)), ((false, ([] : List Int)), ([] : List Int))))
      (F_rational_Cmp v1.1 v1.2).bind fun r2 =>
      if (decide (r2 > (0 : Int))) = true then
        some (([] : List ((Bool × List Int) × List Int)))
      else
        if (x22 == (0 : Int)) = true then
          s21 x0 x20 x21 (IntKind.wrap .i64 (x22 + (1 : Int))) x3
        else
          if 0 ≤ (IntKind.wrap .i64 (x22 - (1 : Int))) ∧ (IntKind.wrap .i64 (x22 - (1 : Int))) < (List.length x0 : Int) then
            let v3 : ((Bool × List Int) × List Int) × (Bool × List Int) × List Int := (List.getD x0 (Int.toNat (IntKind.wrap .i64 (x22 - (1 : Int)))) (((false, ([] : List Int)), ([] : List Int)), ((false, ([] : List Int)), ([] : List Int))))
            (F_rational_Cmp v3.2 v1.1).bind fun r4 =>
            if (decide (r4 > (0 : Int))) = true then
              s52 x0 x20 x21 x22 true x3 v1 v3
            else
              if (r4 == (0 : Int)) = true then
                (F_rational_Cmp v3.1 v3.2).bind fun r5 =>
                if (r5 == (0 : Int)) = true then
                  s52 x0 x20 x21 x22 true x3 v1 v3
                else
                  (F_rational_Cmp v1.1 v1.2).bind fun r6 =>
                  s52 x0 x20 x21 x22 (r6 == (0 : Int)) x3 v1 v3
              else
                s52 x0 x20 x21 x22 false x3 v1 v3
          else none
    else none
  else
    if 0 ≤ (IntKind.wrap .i64 ((List.length x0 : Int) - (1 : Int))) ∧ (IntKind.wrap .i64 ((List.length x0 : Int) - (1 : Int))) < (List.length x0 : Int) then
      let v7 : (Bool × List Int) × List Int := (List.getD x0 (Int.toNat (IntKind.wrap .i64 ((List.length x0 : Int) - (1 : Int)))) (((false, ([] : List Int)), ([] : List Int)), ((false, ([] : List Int)), ([] : List Int)))).2
      (F_rational_Of (1 : Int)).bind fun r8 =>
      (F_rational_Add v7 r8).bind fun r9 =>
      if List.length x3 + List.length ([r9] : List ((Bool × List Int) × List Int)) ≤ 70368744177664 / 56 then
        some ((x3 ++ ([r9] : List ((Bool × List Int) × List Int))))
      else none
    else none
def S_isolate_Gaps_52 (s21 : (List (((Bool × List Int) × List Int) × (Bool × List Int) × List Int)) → (List (((Bool × List Int) × List Int) × (Bool × List Int) × List Int)) → Int → Int → (List ((Bool × List Int) × List Int)) → Option ((List ((Bool × List Int) × List Int)))) (s52 : (List (((Bool × List Int) × List Int) × (Bool × List Int) × List Int)) → (List (((Bool × List Int) × List Int) × (Bool × List Int) × List Int)) → Int → Int → Bool → (List ((Bool × List Int) × List Int)) → (((Bool × List Int) × List Int) × (Bool × List Int) × List Int) → (((Bool × List Int) × List Int) × (Bool × List Int) × List Int) → Option ((List ((Bool × List Int) × List Int)))) (x0 : List (((Bool × List Int) × List Int) × (Bool × List Int) × List Int)) (x20 : List (((Bool × List Int) × List Int) × (Bool × List Int) × List Int)) (x21 : Int) (x22 : Int) (x66 : Bool) (x3 : List ((Bool × List Int) × List Int)) (x5 : ((Bool × List Int) × List Int) × (Bool × List Int) × List Int) (x6 : ((Bool × List Int) × List Int) × (Bool × List Int) × List Int) : Option (List ((Bool × List Int) × List Int)) :=
  if x66 = true then
    some (([] : List ((Bool × List Int) × List Int)))
  else
    (F_rational_Mid x6.2 x5.1).bind fun r1 =>
    if List.length x3 + List.length ([r1] : List ((Bool × List Int) × List Int)) ≤ 70368744177664 / 56 then
      s21 x0 x20 x21 (IntKind.wrap .i64 (x22 + (1 : Int))) (x3 ++ ([r1] : List ((Bool × List Int) × List Int)))
    else none
def Run_isolate_Gaps : Prop := ∀ s21 : Nat → (List (((Bool × List Int) × List Int) × (Bool × List Int) × List Int)) → (List (((Bool × List Int) × List Int) × (Bool × List Int) × List Int)) → Int → Int → (List ((Bool × List Int) × List Int)) → Option ((List ((Bool × List Int) × List Int))), ∀ s52 : Nat → (List (((Bool × List Int) × List Int) × (Bool × List Int) × List Int)) → (List (((Bool × List Int) × List Int) × (Bool × List Int) × List Int)) → Int → Int → Bool → (List ((Bool × List Int) × List Int)) → (((Bool × List Int) × List Int) × (Bool × List Int) × List Int) → (((Bool × List Int) × List Int) × (Bool × List Int) × List Int) → Option ((List ((Bool × List Int) × List Int))), (∀ m x0 x20 x21 x22 x3, s21 (m + 1) x0 x20 x21 x22 x3 = S_isolate_Gaps_21 (s21 m) (s52 m) x0 x20 x21 x22 x3) → (∀ m x0 x20 x21 x22 x66 x3 x5 x6, s52 (m + 1) x0 x20 x21 x22 x66 x3 x5 x6 = S_isolate_Gaps_52 (s21 m) (s52 m) x0 x20 x21 x22 x66 x3 x5 x6) → ∀ a0 : List (((Bool × List Int) × List Int) × (Bool × List Int) × List Int), Ok (F_isolate_Gaps a0) (fun m => T_isolate_Gaps (s21 m) (s52 m) a0)

/-! cylinder/cylinderref15.Less -/
def T_ref15_Less (a0 : List Int) (a1 : List Int) : Option Bool :=
  (F_ref15_Frac a0).bind fun r1 =>
  (F_ref15_Frac a1).bind fun r2 =>
  let v3 : Bool := (decide ((IntKind.wrap .i64 (r1.1 * r2.2)) < (IntKind.wrap .i64 (r2.1 * r1.2))))
  some v3
def Run_ref15_Less : Prop := ∀ a0 : List Int, ∀ a1 : List Int, Ok (F_ref15_Less a0 a1) (fun _ => T_ref15_Less a0 a1)

/-! cylinder/cylinderref16.Point -/
def T_ref16_Point (a0 : List (List Int)) : Option Bool :=
  if 0 ≤ (0 : Int) ∧ (0 : Int) < ((2 : Nat) : Int) then
    if 0 ≤ (1 : Int) ∧ (1 : Int) < ((2 : Nat) : Int) then
      (F_ref15_Less (List.getD a0 (Int.toNat (0 : Int)) (List.replicate 2 (0 : Int))) (List.getD a0 (Int.toNat (1 : Int)) (List.replicate 2 (0 : Int)))).bind fun r1 =>
      if (!r1) = true then
        if 0 ≤ (1 : Int) ∧ (1 : Int) < ((2 : Nat) : Int) then
          if 0 ≤ (0 : Int) ∧ (0 : Int) < ((2 : Nat) : Int) then
            (F_ref15_Less (List.getD a0 (Int.toNat (1 : Int)) (List.replicate 2 (0 : Int))) (List.getD a0 (Int.toNat (0 : Int)) (List.replicate 2 (0 : Int)))).bind fun r2 =>
            some (!r2)
          else none
        else none
      else
        some false
    else none
  else none
def Run_ref16_Point : Prop := ∀ a0 : List (List Int), Ok (F_ref16_Point a0) (fun _ => T_ref16_Point a0)

/-! cylinder/cylinderref16.Separate -/
def T_ref16_Separate (s9 : List (List (List Int)) → Int → Option Bool) (a0 : List (List (List Int))) : Option Bool :=
  s9 a0 (0 : Int)
def S_ref16_Separate_9 (s9 : List (List (List Int)) → Int → Option Bool) (x0 : List (List (List Int))) (x3 : Int) : Option Bool :=
  if (decide (x3 < (List.length x0 : Int))) = true then
    if 0 ≤ x3 ∧ x3 < (List.length x0 : Int) then
      if 0 ≤ (1 : Int) ∧ (1 : Int) < ((2 : Nat) : Int) then
        let v1 : List Int := (List.getD (List.getD x0 (Int.toNat x3) (List.replicate 2 (List.replicate 2 (0 : Int)))) (Int.toNat (1 : Int)) (List.replicate 2 (0 : Int)))
        if 0 ≤ x3 ∧ x3 < (List.length x0 : Int) then
          if 0 ≤ (0 : Int) ∧ (0 : Int) < ((2 : Nat) : Int) then
            let v2 : List Int := (List.getD (List.getD x0 (Int.toNat x3) (List.replicate 2 (List.replicate 2 (0 : Int)))) (Int.toNat (0 : Int)) (List.replicate 2 (0 : Int)))
            (F_ref15_Less v1 v2).bind fun r3 =>
            if r3 = true then
              some false
            else
              if (x3 == (0 : Int)) = true then
                s9 x0 (IntKind.wrap .i64 (x3 + (1 : Int)))
              else
                if 0 ≤ x3 ∧ x3 < (List.length x0 : Int) then
                  if 0 ≤ (0 : Int) ∧ (0 : Int) < ((2 : Nat) : Int) then
                    let v4 : List Int := (List.getD (List.getD x0 (Int.toNat x3) (List.replicate 2 (List.replicate 2 (0 : Int)))) (Int.toNat (0 : Int)) (List.replicate 2 (0 : Int)))
                    if 0 ≤ (IntKind.wrap .i64 (x3 - (1 : Int))) ∧ (IntKind.wrap .i64 (x3 - (1 : Int))) < (List.length x0 : Int) then
                      if 0 ≤ (1 : Int) ∧ (1 : Int) < ((2 : Nat) : Int) then
                        let v5 : List Int := (List.getD (List.getD x0 (Int.toNat (IntKind.wrap .i64 (x3 - (1 : Int)))) (List.replicate 2 (List.replicate 2 (0 : Int)))) (Int.toNat (1 : Int)) (List.replicate 2 (0 : Int)))
                        (F_ref15_Less v4 v5).bind fun r6 =>
                        if r6 = true then
                          some false
                        else
                          if 0 ≤ (IntKind.wrap .i64 (x3 - (1 : Int))) ∧ (IntKind.wrap .i64 (x3 - (1 : Int))) < (List.length x0 : Int) then
                            if 0 ≤ (1 : Int) ∧ (1 : Int) < ((2 : Nat) : Int) then
                              let v7 : List Int := (List.getD (List.getD x0 (Int.toNat (IntKind.wrap .i64 (x3 - (1 : Int)))) (List.replicate 2 (List.replicate 2 (0 : Int)))) (Int.toNat (1 : Int)) (List.replicate 2 (0 : Int)))
                              if 0 ≤ x3 ∧ x3 < (List.length x0 : Int) then
                                if 0 ≤ (0 : Int) ∧ (0 : Int) < ((2 : Nat) : Int) then
                                  let v8 : List Int := (List.getD (List.getD x0 (Int.toNat x3) (List.replicate 2 (List.replicate 2 (0 : Int)))) (Int.toNat (0 : Int)) (List.replicate 2 (0 : Int)))
                                  (F_ref15_Less v7 v8).bind fun r9 =>
                                  if (!r9) = true then
                                    if 0 ≤ x3 ∧ x3 < (List.length x0 : Int) then
                                      let v10 : List (List Int) := (List.getD x0 (Int.toNat x3) (List.replicate 2 (List.replicate 2 (0 : Int))))
                                      (F_ref16_Point v10).bind fun r11 =>
                                      if r11 = true then
                                        some false
                                      else
                                        if 0 ≤ (IntKind.wrap .i64 (x3 - (1 : Int))) ∧ (IntKind.wrap .i64 (x3 - (1 : Int))) < (List.length x0 : Int) then
                                          let v12 : List (List Int) := (List.getD x0 (Int.toNat (IntKind.wrap .i64 (x3 - (1 : Int)))) (List.replicate 2 (List.replicate 2 (0 : Int))))
                                          (F_ref16_Point v12).bind fun r13 =>
                                          if r13 = true then
                                            some false
                                          else
                                            s9 x0 (IntKind.wrap .i64 (x3 + (1 : Int)))
                                        else none
                                    else none
                                  else
                                    s9 x0 (IntKind.wrap .i64 (x3 + (1 : Int)))
                                else none
                              else none
                            else none
                          else none
                      else none
                    else none
                  else none
                else none
          else none
        else none
      else none
    else none
  else
    some true
def Run_ref16_Separate : Prop := ∀ s9 : Nat → List (List (List Int)) → Int → Option Bool, (∀ m x0 x3, s9 (m + 1) x0 x3 = S_ref16_Separate_9 (s9 m) x0 x3) → ∀ a0 : List (List (List Int)), Ok (F_ref16_Separate a0) (fun m => T_ref16_Separate (s9 m) a0)

/-! cylinder/cylinderlaw16.IsolateSeparates -/
def T_law16_IsolateSeparates (s21 : List (List (List Int)) → Int → (List (((Bool × List Int) × List Int) × (Bool × List Int) × List Int)) → Option Bool) (s57 : List (List (List Int)) → (List (((Bool × List Int) × List Int) × (Bool × List Int) × List Int)) → (List ((Bool × List Int) × List Int)) → Int → Option Bool) (a0 : List (List (List Int))) : Option Bool :=
  (F_law16_awake).bind fun r1 =>
  if (!r1) = true then
    (F_law16_awake).bind fun r2 =>
    some r2
  else
    if (decide ((List.length a0 : Int) > (5 : Int))) = true then
      (F_law16_awake).bind fun r3 =>
      some r3
    else
      s21 a0 (0 : Int) ([] : List (((Bool × List Int) × List Int) × (Bool × List Int) × List Int))
def S_law16_IsolateSeparates_21 (s21 : List (List (List Int)) → Int → (List (((Bool × List Int) × List Int) × (Bool × List Int) × List Int)) → Option Bool) (s57 : List (List (List Int)) → (List (((Bool × List Int) × List Int) × (Bool × List Int) × List Int)) → (List ((Bool × List Int) × List Int)) → Int → Option Bool) (x0 : List (List (List Int))) (x4 : Int) (x3 : List (((Bool × List Int) × List Int) × (Bool × List Int) × List Int)) : Option Bool :=
  if (decide (x4 < (List.length x0 : Int))) = true then
    if 0 ≤ x4 ∧ x4 < (List.length x0 : Int) then
      if 0 ≤ (0 : Int) ∧ (0 : Int) < ((2 : Nat) : Int) then
        let v1 : List Int := (List.getD (List.getD x0 (Int.toNat x4) (List.replicate 2 (List.replicate 2 (0 : Int)))) (Int.toNat (0 : Int)) (List.replicate 2 (0 : Int)))
        (F_law15_Rat v1).bind fun r2 =>
        if 0 ≤ x4 ∧ x4 < (List.length x0 : Int) then
          if 0 ≤ (1 : Int) ∧ (1 : Int) < ((2 : Nat) : Int) then
            let v3 : List Int := (List.getD (List.getD x0 (Int.toNat x4) (List.replicate 2 (List.replicate 2 (0 : Int)))) (Int.toNat (1 : Int)) (List.replicate 2 (0 : Int)))
            (F_law15_Rat v3).bind fun r4 =>
            if List.length x3 + List.length ([(r2, r4)] : List (((Bool × List Int) × List Int) × (Bool × List Int) × List Int)) ≤ 70368744177664 / 112 then
              let v5 : List (((Bool × List Int) × List Int) × (Bool × List Int) × List Int) := (x3 ++ ([(r2, r4)] : List (((Bool × List Int) × List Int) × (Bool × List Int) × List Int)))
              s21 x0 (IntKind.wrap .i64 (x4 + (1 : Int))) v5
            else none
          else none
        else none
      else none
    else none
  else
    (F_isolate_Gaps x3).bind fun r6 =>
    (F_ref16_Separate x0).bind fun r7 =>
    if (!r7) = true then
      some (((List.length r6 : Int) == (0 : Int)))
    else
      let v8 : Bool := ((List.length r6 : Int) != (IntKind.wrap .i64 ((List.length x3 : Int) + (1 : Int))))
      if v8 = true then
        some false
      else
        s57 x0 x3 r6 (0 : Int)
def S_law16_IsolateSeparates_57 (s21 : List (List (List Int)) → Int → (List (((Bool × List Int) × List Int) × (Bool × List Int) × List Int)) → Option Bool) (s57 : List (List (List Int)) → (List (((Bool × List Int) × List Int) × (Bool × List Int) × List Int)) → (List ((Bool × List Int) × List Int)) → Int → Option Bool) (x0 : List (List (List Int))) (x3 : List (((Bool × List Int) × List Int) × (Bool × List Int) × List Int)) (x5 : List ((Bool × List Int) × List Int)) (x6 : Int) : Option Bool :=
  if (decide (x6 < (List.length x3 : Int))) = true then
    if 0 ≤ x6 ∧ x6 < (List.length x5 : Int) then
      let v1 : (Bool × List Int) × List Int := (List.getD x5 (Int.toNat x6) ((false, ([] : List Int)), ([] : List Int)))
      if 0 ≤ x6 ∧ x6 < (List.length x3 : Int) then
        let v2 : (Bool × List Int) × List Int := (List.getD x3 (Int.toNat x6) (((false, ([] : List Int)), ([] : List Int)), ((false, ([] : List Int)), ([] : List Int)))).1
        (F_rational_Cmp v1 v2).bind fun r3 =>
        if 0 ≤ (IntKind.wrap .i64 (x6 + (1 : Int))) ∧ (IntKind.wrap .i64 (x6 + (1 : Int))) < (List.length x5 : Int) then
          let v4 : (Bool × List Int) × List Int := (List.getD x5 (Int.toNat (IntKind.wrap .i64 (x6 + (1 : Int)))) ((false, ([] : List Int)), ([] : List Int)))
          if 0 ≤ x6 ∧ x6 < (List.length x3 : Int) then
            let v5 : (Bool × List Int) × List Int := (List.getD x3 (Int.toNat x6) (((false, ([] : List Int)), ([] : List Int)), ((false, ([] : List Int)), ([] : List Int)))).2
            (F_rational_Cmp v4 v5).bind fun r6 =>
            if (decide (r3 > (0 : Int))) = true then
              some false
            else
              if (decide (r6 < (0 : Int))) = true then
                some false
              else
                if 0 ≤ x6 ∧ x6 < (List.length x0 : Int) then
                  let v7 : List (List Int) := (List.getD x0 (Int.toNat x6) (List.replicate 2 (List.replicate 2 (0 : Int))))
                  (F_ref16_Point v7).bind fun r8 =>
                  if r8 = true then
                    if (r3 == (0 : Int)) = true then
                      some false
                    else
                      if (r6 == (0 : Int)) = true then
                        some false
                      else
                        s57 x0 x3 x5 (IntKind.wrap .i64 (x6 + (1 : Int)))
                  else
                    s57 x0 x3 x5 (IntKind.wrap .i64 (x6 + (1 : Int)))
                else none
          else none
        else none
      else none
    else none
  else
    some true
def Run_law16_IsolateSeparates : Prop := ∀ s21 : Nat → List (List (List Int)) → Int → (List (((Bool × List Int) × List Int) × (Bool × List Int) × List Int)) → Option Bool, ∀ s57 : Nat → List (List (List Int)) → (List (((Bool × List Int) × List Int) × (Bool × List Int) × List Int)) → (List ((Bool × List Int) × List Int)) → Int → Option Bool, (∀ m x0 x4 x3, s21 (m + 1) x0 x4 x3 = S_law16_IsolateSeparates_21 (s21 m) (s57 m) x0 x4 x3) → (∀ m x0 x3 x5 x6, s57 (m + 1) x0 x3 x5 x6 = S_law16_IsolateSeparates_57 (s21 m) (s57 m) x0 x3 x5 x6) → ∀ a0 : List (List (List Int)), Ok (F_law16_IsolateSeparates a0) (fun m => T_law16_IsolateSeparates (s21 m) (s57 m) a0)
end
end Go.W

set_option linter.unusedVariables false
set_option linter.unusedSimpArgs false
namespace Go.W

/-! the plain law -/
theorem gapT_none : ∀ (l : List (Rat × Rat)) (x : Rat × Rat), gapT x l = none ↔ sepT x l = false
  | [], x => by simp [gapT, sepT]
  | y :: l, x => by
    simp only [gapT, sepT]
    split
    · simp
    · split
      · simp
      · rw [← gapT_none l y]
        cases gapT y l <;> simp
theorem gapT_len : ∀ (l : List (Rat × Rat)) (x : Rat × Rat) (g : List Rat), gapT x l = some g → g.length = l.length + 1
  | [], x, g, h => by simp only [gapT] at h; injection h with h; subst h; rfl
  | y :: l, x, g, h => by
    simp only [gapT] at h
    split at h
    · cases h
    · split at h
      · cases h
      · cases hg : gapT y l with
        | none => rw [hg] at h; cases h
        | some g' => rw [hg] at h; injection h with h; subst h; simp [gapT_len l y g' hg]
/-- where the numbers lie -/
def GP2 (x : Rat × Rat) (a b : Rat) : Prop := a ≤ x.1 ∧ x.2 ≤ b ∧ (x.1 = x.2 → a < x.1 ∧ x.2 < b)
theorem gapT_ok : ∀ (l : List (Rat × Rat)) (x : Rat × Rat) (g : List Rat) (g0 : Rat), gapT x l = some g → g0 ≤ x.1 → (x.1 = x.2 → g0 < x.1) →
    ∀ i (h1 : i < (x :: l).length), GP2 ((x :: l)[i]) ((g0 :: g).getD i 0) ((g0 :: g).getD (i + 1) 0)
  | [], x, g, g0, h, ha, hb, i, h1 => by
    simp only [gapT] at h
    injection h with h; subst h
    obtain rfl : i = 0 := by simpa using h1
    refine ⟨ha, ?_, fun hp => ⟨hb hp, ?_⟩⟩
    · show x.2 ≤ x.2 + ((1 : Int) : Rat); grind
    · show x.2 < x.2 + ((1 : Int) : Rat); grind
  | y :: l, x, g, g0, h, ha, hb, i, h1 => by
    simp only [gapT] at h
    split at h
    · cases h
    · rename_i hy
      split at h
      · cases h
      · rename_i hc
        cases hg : gapT y l with
        | none => rw [hg] at h; cases h
        | some g' =>
          rw [hg] at h; injection h with h; subst h
          have h2 : x.2 ≤ y.1 := Rat.not_lt.1 fun e => hc (.inl e)
          have h3 : x.2 = y.1 → x.1 ≠ x.2 ∧ y.1 ≠ y.2 := fun e => ⟨fun e1 => hc (.inr ⟨e, .inl e1⟩), fun e1 => hc (.inr ⟨e, .inr e1⟩)⟩
          cases i with
          | zero =>
            refine ⟨ha, ?_, fun hp => ⟨hb hp, ?_⟩⟩
            · show x.2 ≤ (x.2 + y.1) / 2; grind
            · show x.2 < (x.2 + y.1) / 2
              have : x.2 ≠ y.1 := fun e => (h3 e).1 hp
              grind
          | succ i =>
            refine gapT_ok l y g' ((x.2 + y.1) / 2) hg (by grind) (fun hp => ?_) i (by simpa using h1)
            have : x.2 ≠ y.1 := fun e => (h3 e).2 hp
            grind
theorem gapsL_sep (l : List (Rat × Rat)) : (sepL l = false → gapsL l = []) ∧ (sepL l = true → (gapsL l).length = l.length + 1 ∧ ∀ i (h : i < l.length), GP2 l[i] ((gapsL l).getD i 0) ((gapsL l).getD (i + 1) 0)) := by
  cases l with
  | nil => exact ⟨fun h => (by cases h), fun _ => ⟨rfl, fun i h => absurd h (by simp)⟩⟩
  | cons x l =>
    simp only [sepL, gapsL]
    by_cases hx : x.2 < x.1
    · rw [if_pos hx, if_pos hx]
      exact ⟨fun _ => rfl, fun h => by cases h⟩
    · rw [if_neg hx, if_neg hx]
      cases hg : gapT x l with
      | none =>
        have := (gapT_none l x).1 hg
        exact ⟨fun _ => rfl, fun h => by rw [this] at h; cases h⟩
      | some g =>
        have h1 : sepT x l = true := by
          cases hs : sepT x l with
          | true => rfl
          | false => rw [(gapT_none l x).2 hs] at hg; cases hg
        refine ⟨fun h => (by rw [h1] at h; cases h), fun _ => ⟨by simp [gapT_len l x g hg], fun i h => ?_⟩⟩
        exact gapT_ok l x g (x.1 - ((1 : Int) : Rat)) hg (by grind) (fun _ => by grind) i h

/-! the texts -/
theorem Frac_some {q : List Int} (h : Q8 q) : F_ref15_Frac q = some (if q.getD 1 0 < 0 then -(q.getD 0 0) else q.getD 0 0, if q.getD 1 0 = 0 then 1 else ab (q.getD 1 0)) := gif_pos h
theorem Q8.get {q : List Int} (h : Q8 q) (i : Nat) : -128 ≤ q.getD i 0 ∧ q.getD i 0 ≤ 127 := by
  by_cases hi : i < q.length
  · rw [getD_in hi]; exact h.2 _ (List.getElem_mem hi)
  · rw [getD_out (by omega)]; omega
theorem Q8.nd {q : List Int} (h : Q8 q) : (-128 ≤ (if q.getD 1 0 < 0 then -(q.getD 0 0) else q.getD 0 0) ∧ (if q.getD 1 0 < 0 then -(q.getD 0 0) else q.getD 0 0) ≤ 128) ∧ 1 ≤ (if q.getD 1 0 = 0 then 1 else ab (q.getD 1 0)) ∧ (if q.getD 1 0 = 0 then 1 else ab (q.getD 1 0)) ≤ 128 := by
  have h0 := h.get 0
  have h1 := h.get 1
  refine ⟨by split <;> omega, ?_, ?_⟩
  · split
    · omega
    · unfold ab; split <;> omega
  · split
    · omega
    · unfold ab; split <;> omega
theorem mul128 {a b : Int} (ha : -128 ≤ a ∧ a ≤ 128) (hb : 1 ≤ b ∧ b ≤ 128) : -16384 ≤ a * b ∧ a * b ≤ 16384 := by
  obtain ⟨n, rfl⟩ : ∃ n : Nat, b = n := ⟨b.toNat, by omega⟩
  constructor
  · have : -128 * (n : Int) ≤ a * n := Int.mul_le_mul_of_nonneg_right ha.1 (by omega)
    omega
  · have : a * n ≤ 128 * (n : Int) := Int.mul_le_mul_of_nonneg_right ha.2 (by omega)
    omega
theorem Rn_ref15_Less : Run_ref15_Less := fun a b => Ok.gif_const fun ⟨ha, hb⟩ => by
  have na := ha.nd
  have nb := hb.nd
  simp only [T_ref15_Less]
  rw [Frac_some ha, Option.bind_some, Frac_some hb, Option.bind_some]
  dsimp only
  unfold fq
  generalize (if a.getD 1 0 < 0 then -(a.getD 0 0) else a.getD 0 0) = n1 at na ⊢
  generalize (if a.getD 1 0 = 0 then 1 else ab (a.getD 1 0)) = d1 at na ⊢
  generalize (if b.getD 1 0 < 0 then -(b.getD 0 0) else b.getD 0 0) = n2 at nb ⊢
  generalize (if b.getD 1 0 = 0 then 1 else ab (b.getD 1 0)) = d2 at nb ⊢
  have m1 := mul128 na.1 nb.2
  have m2 := mul128 nb.1 na.2
  rw [i64w (by omega) (by omega), i64w (by omega) (by omega)]
  congr 1
  have hr := rcm_div (n := n1) (d := d1) (m := n2) (e := d2) (by omega) (by omega)
  have hiff : Rat.divInt n1 d1 < Rat.divInt n2 d2 ↔ n1 * d2 < n2 * d1 := by
    rw [← rcm_lt0, hr]; unfold cm; (repeat' split) <;> omega
  exact decide_eq_decide.2 hiff.symm
theorem I8.q {x : List (List Int)} (h : I8 x) {i : Nat} (hi : i < 2) : Q8 (x.getD i (List.replicate 2 (0 : Int))) := by
  have : i < x.length := by rw [h.1]; exact hi
  simp only [List.getD, List.getElem?_eq_getElem this, Option.getD_some]
  exact h.2 _ (List.getElem_mem this)
theorem Rn_ref16_Point : Run_ref16_Point := fun x => Ok.gif_const fun h => by
  have q0 := h.q (i := 0) (by decide)
  have q1 := h.q (i := 1) (by decide)
  simp only [T_ref16_Point]
  rw [if_pos (by omega), if_pos (by omega), show Int.toNat (0 : Int) = 0 from rfl, show Int.toNat (1 : Int) = 1 from rfl, F_ref15_Less, gif_bind ⟨q0, q1⟩]
  unfold ivl
  dsimp only
  by_cases h1 : fq (x.getD 0 (List.replicate 2 (0 : Int))) < fq (x.getD 1 (List.replicate 2 (0 : Int)))
  · rw [if_neg (by rw [decide_eq_true h1]; decide)]
    congr 1
    exact (decide_eq_false (by grind)).symm
  · rw [if_pos (by rw [decide_eq_false h1]; rfl), if_pos (by omega), if_pos (by omega), F_ref15_Less, gif_bind ⟨q1, q0⟩]
    congr 1
    by_cases h2 : fq (x.getD 1 (List.replicate 2 (0 : Int))) < fq (x.getD 0 (List.replicate 2 (0 : Int)))
    · rw [decide_eq_true h2, decide_eq_false (by grind)]; rfl
    · rw [decide_eq_false h2, decide_eq_true (by grind)]; rfl

theorem Less_some {x y : List Int} (hx : Q8 x) (hy : Q8 y) : F_ref15_Less x y = some (decide (fq x < fq y)) := gif_pos ⟨hx, hy⟩
theorem Rn_ref16_Separate : Run_ref16_Separate := fun s hs l => Ok.gif fun ⟨hl, hI⟩ => by
  have hget : ∀ i (h : i < l.length), l.getD i (List.replicate 2 (List.replicate 2 (0 : Int))) = l[i] := fun i h => by simp [List.getD, List.getElem?_eq_getElem h]
  have key : ∀ (k i : Nat), i + k = l.length → 1 ≤ i → Ev (fun m => s m l (i : Int)) (sepT (ivl (l.getD (i - 1) (List.replicate 2 (List.replicate 2 (0 : Int))))) ((l.drop i).map ivl)) := by
    intro k
    induction k with
    | zero =>
      intro i hi h1
      refine Ev.step (t := fun _ => some _) (fun m => ?_) Ev.ret
      rw [hs]; unfold S_ref16_Separate_9
      rw [if_neg (by rw [decide_eq_true_eq]; omega), List.drop_of_length_le (by omega)]; rfl
    | succ k ih =>
      intro i hi h1
      have hil : i < l.length := by omega
      have hdrop : l.drop i = l[i] :: l.drop (i + 1) := List.drop_eq_getElem_cons hil
      have hp : i - 1 < l.length := by omega
      have Ix := hI _ (List.getElem_mem hil)
      have Ip := hI _ (List.getElem_mem hp)
      have ew : IntKind.wrap .i64 ((i : Int) - 1) = ((i - 1 : Nat) : Int) := by rw [i64w (by omega) (by omega)]; omega
      have x0 := Ix.q (i := 0) (by decide)
      have x1 := Ix.q (i := 1) (by decide)
      have p0 := Ip.q (i := 0) (by decide)
      have p1 := Ip.q (i := 1) (by decide)
      rw [hdrop, List.map_cons, hget _ hp]
      simp only [sepT]
      have ihx := ih (i + 1) (by omega) (by omega)
      rw [show i + 1 - 1 = i by omega, hget _ hil] at ihx
      have step : ∀ (r : Bool), (∀ m, s (m + 1) l (i : Int) = some r) → Ev (fun m => s m l (i : Int)) r := fun r h => Ev.step (t := fun _ => some r) h Ev.ret
      have base : ∀ m, s (m + 1) l (i : Int) = S_ref16_Separate_9 (s m) l (i : Int) := fun m => hs m l i
      have h01 : Int.toNat (0 : Int) = 0 := rfl
      have h11 : Int.toNat (1 : Int) = 1 := rfl
      have c2 : (0 : Int) ≤ (1 : Int) ∧ (1 : Int) < ((2 : Nat) : Int) := by omega
      have c1 : (0 : Int) ≤ (0 : Int) ∧ (0 : Int) < ((2 : Nat) : Int) := by omega
      have ci : (0 : Int) ≤ (i : Int) ∧ (i : Int) < (l.length : Int) := by omega
      have cp : (0 : Int) ≤ ((i - 1 : Nat) : Int) ∧ ((i - 1 : Nat) : Int) < (l.length : Int) := by omega
      have e0 : fq (l[i].getD 0 (List.replicate 2 (0 : Int))) = (ivl l[i]).1 := rfl
      have e1 : fq (l[i].getD 1 (List.replicate 2 (0 : Int))) = (ivl l[i]).2 := rfl
      have f0 : fq (l[i - 1].getD 0 (List.replicate 2 (0 : Int))) = (ivl l[i - 1]).1 := rfl
      have f1 : fq (l[i - 1].getD 1 (List.replicate 2 (0 : Int))) = (ivl l[i - 1]).2 := rfl
      have pX : F_ref16_Point l[i] = some (decide ((ivl l[i]).1 = (ivl l[i]).2)) := gif_pos Ix
      have pY : F_ref16_Point l[i - 1] = some (decide ((ivl l[i - 1]).1 = (ivl l[i - 1]).2)) := gif_pos Ip
      generalize ivl l[i] = X at e0 e1 ihx pX ⊢
      generalize ivl l[i - 1] = Y at f0 f1 pY ⊢
      have body : ∀ m, s (m + 1) l (i : Int) = if X.2 < X.1 then some false else if X.1 < Y.2 then some false else if ¬ Y.2 < X.1 then (if X.1 = X.2 then some false else if Y.1 = Y.2 then some false else s m l ((i + 1 : Nat) : Int)) else s m l ((i + 1 : Nat) : Int) := fun m => by
        rw [base]; unfold S_ref16_Separate_9
        simp only [if_pos ci, if_pos c1, if_pos c2, Int.toNat_natCast, h01, h11, hget _ hil, ew, if_pos cp, hget _ hp]
        rw [if_pos (by rw [decide_eq_true_eq]; omega), Less_some x1 x0, Option.bind_some, e0, e1]
        by_cases a1 : X.2 < X.1
        · rw [if_pos (decide_eq_true a1), if_pos a1]
        · rw [if_neg (by rw [decide_eq_false a1]; decide), if_neg a1, if_neg (by rw [beq_iff_eq]; omega), Less_some x0 p1, Option.bind_some, e0, f1]
          by_cases a2 : X.1 < Y.2
          · rw [if_pos (decide_eq_true a2), if_pos a2]
          · rw [if_neg (by rw [decide_eq_false a2]; decide), if_neg a2, Less_some p1 x0, Option.bind_some, e0, f1]
            by_cases a3 : Y.2 < X.1
            · rw [if_neg (by rw [decide_eq_true a3]; decide), if_neg (fun h => h a3), wrap_succ (by omega)]
            · rw [if_pos (by rw [decide_eq_false a3]; rfl), if_pos a3, pX, Option.bind_some]
              by_cases a4 : X.1 = X.2
              · rw [if_pos (decide_eq_true a4), if_pos a4]
              · rw [if_neg (by rw [decide_eq_false a4]; decide), if_neg a4, pY, Option.bind_some]
                by_cases a5 : Y.1 = Y.2
                · rw [if_pos (decide_eq_true a5), if_pos a5]
                · rw [if_neg (by rw [decide_eq_false a5]; decide), if_neg a5, wrap_succ (by omega)]
      by_cases a1 : X.2 < X.1
      · rw [if_pos a1]
        exact step _ fun m => by rw [body, if_pos a1]
      · rw [if_neg a1]
        by_cases a2 : X.1 < Y.2
        · rw [if_pos (.inl a2)]
          exact step _ fun m => by rw [body, if_neg a1, if_pos a2]
        · by_cases a3 : Y.2 < X.1
          · rw [if_neg (by rintro (h | ⟨h, _⟩); exact a2 h; rw [h] at a3; exact Rat.lt_irrefl a3)]
            exact Ev.step (fun m => by rw [body, if_neg a1, if_neg a2, if_neg (fun h => h a3)]) ihx
          · have a6 : Y.2 = X.1 := by grind
            by_cases a4 : X.1 = X.2
            · rw [if_pos (.inr ⟨a6, .inr a4⟩)]
              exact step _ fun m => by rw [body, if_neg a1, if_neg a2, if_pos a3, if_pos a4]
            · by_cases a5 : Y.1 = Y.2
              · rw [if_pos (.inr ⟨a6, .inl a5⟩)]
                exact step _ fun m => by rw [body, if_neg a1, if_neg a2, if_pos a3, if_neg a4, if_pos a5]
              · rw [if_neg (by rintro (h | ⟨_, h | h⟩) <;> contradiction)]
                exact Ev.step (fun m => by rw [body, if_neg a1, if_neg a2, if_pos a3, if_neg a4, if_neg a5]) ihx
  simp only [T_ref16_Separate]
  cases l with
  | nil =>
    refine Ev.step (t := fun _ => some _) (fun m => ?_) Ev.ret
    rw [hs]; unfold S_ref16_Separate_9
    rw [if_neg (by rw [decide_eq_true_eq]; simp)]; rfl
  | cons x l =>
    have Ix := hI x (by simp)
    have x0 := Ix.q (i := 0) (by decide)
    have x1 := Ix.q (i := 1) (by decide)
    have hk := key l.length 1 (by simp; omega) (by omega)
    have hb : ∀ m, s (m + 1) (x :: l) (0 : Int) = if (ivl x).2 < (ivl x).1 then some false else s m (x :: l) ((1 : Nat) : Int) := fun m => by
      rw [hs]; unfold S_ref16_Separate_9
      have c2 : (0 : Int) ≤ (1 : Int) ∧ (1 : Int) < ((2 : Nat) : Int) := by omega
      have c1 : (0 : Int) ≤ (0 : Int) ∧ (0 : Int) < ((2 : Nat) : Int) := by omega
      have ci : (0 : Int) ≤ (0 : Int) ∧ (0 : Int) < ((x :: l).length : Int) := by simp
      have g0 : (x :: l).getD 0 (List.replicate 2 (List.replicate 2 (0 : Int))) = x := rfl
      simp only [if_pos ci, if_pos c1, if_pos c2, show Int.toNat (0 : Int) = 0 from rfl, show Int.toNat (1 : Int) = 1 from rfl, g0]
      rw [if_pos (by rw [decide_eq_true_eq]; simp), Less_some x1 x0, Option.bind_some]
      show (if (decide ((ivl x).2 < (ivl x).1)) = true then some false else _) = _
      by_cases a1 : (ivl x).2 < (ivl x).1
      · rw [if_pos (decide_eq_true a1), if_pos a1]
      · rw [if_neg (by rw [decide_eq_false a1]; decide), if_neg a1, if_pos (by rfl)]
        rfl
    rw [List.map_cons]
    simp only [sepL]
    by_cases a1 : (ivl x).2 < (ivl x).1
    · rw [if_pos a1]
      exact Ev.step (t := fun _ => some _) (fun m => by rw [hb, if_pos a1]) Ev.ret
    · rw [if_neg a1]
      exact Ev.step (fun m => by rw [hb, if_neg a1]) hk
end Go.W

set_option linter.unusedVariables false
set_option linter.unusedSimpArgs false
namespace Go.W

def zQQ : NQ × NQ := (((false, ([] : List Int)), ([] : List Int)), ((false, ([] : List Int)), ([] : List Int)))
theorem rvs_drs (L : List (Rat × Rat)) : rvs (drs L) = L := by
  unfold rvs drs
  rw [List.map_map]
  conv => rhs; rw [← List.map_id L]
  exact List.map_congr_left fun x _ => by simp [rv_dr]
theorem drs_get {L : List (Rat × Rat)} {i : Nat} (h : i < L.length) : (drs L).getD i zQQ = (dr L[i].1, dr L[i].2) := by
  unfold drs
  simp [List.getD, List.getElem?_eq_getElem h]
theorem rcm_dec {x y : Rat} : (decide (rcm x y > 0)) = true ↔ y < x := by rw [decide_eq_true_eq, rcm_gt0]
theorem rcm_eq0 {x y : Rat} : (rcm x y == (0 : Int)) = true ↔ x = y := by
  rw [beq_iff_eq]; unfold rcm
  constructor
  · intro h
    split at h
    · omega
    · split at h
      · omega
      · grind
  · intro h; subst h
    rw [if_neg (Rat.lt_irrefl), if_neg (Rat.lt_irrefl)]
theorem one_QB : QB 2 (((1 : Int) : Rat)) := QB.int (by constructor <;> decide) (by decide)
theorem V.of1 {σ : Type} {K : NQ → Option σ} : (F_rational_Of (1 : Int)).bind K = K (dr ((1 : Int) : Rat)) := by rw [F_rational_Of, gif_bind (by omega)]
theorem Rn_isolate_Gaps : Run_isolate_Gaps := fun s21 s52 h21 h52 l r h => by
  obtain ⟨⟨hl, hn, hq⟩, rfl⟩ := gif_some.1 h
  obtain ⟨L, hL⟩ : ∃ L, rvs l = L := ⟨_, rfl⟩
  rw [hL] at hl hn hq ⊢
  subst hl
  clear hL h
  have hlen : (drs L).length = L.length := drs_len L
  have Q1 : ∀ i (h : i < L.length), QV 400 (dr L[i].1) L[i].1 := fun i h => QV.dr (hq _ (List.getElem_mem h)).1 (by omega)
  have Q2 : ∀ i (h : i < L.length), QV 400 (dr L[i].2) L[i].2 := fun i h => QV.dr (hq _ (List.getElem_mem h)).2 (by omega)
  have gz : ∀ i (h : i < L.length), (drs L).getD i ((((false, ([] : List Int)), ([] : List Int)), ((false, ([] : List Int)), ([] : List Int)))) = (dr L[i].1, dr L[i].2) := fun i h => drs_get h
  -- the numbers from i on
  have key : ∀ (k i : Nat) (acc : List Rat), i + k = L.length → (h1 : 1 ≤ i) → acc.length = i → (hp : i - 1 < L.length) → Ev (fun m => s21 m (drs L) (drs L) (L.length : Int) (i : Int) (acc.map dr)) ((match gapT L[i - 1] (L.drop i) with | some g => acc ++ g | none => []).map dr) := by
    intro k
    induction k with
    | zero =>
      intro i acc hi h1 ha hp
      refine Ev.step (t := fun _ => some _) (fun m => ?_) Ev.ret
      rw [h21]; unfold S_isolate_Gaps_21
      have ew : IntKind.wrap .i64 ((L.length : Int) - 1) = ((i - 1 : Nat) : Int) := by rw [i64w (by omega) (by omega)]; omega
      rw [if_neg (by rw [decide_eq_true_eq]; omega), hlen, ew, if_pos (by omega), Int.toNat_natCast, gz _ hp, V.of1]
      dsimp only
      rw [V.add (Q2 _ hp) (QV.dr one_QB (by omega)), Option.bind_some, if_pos (by simp; omega), List.drop_of_length_le (by omega)]
      simp [gapT]
    | succ k ih =>
      intro i acc hi h1 ha hp
      have hil : i < L.length := by omega
      have hdrop : L.drop i = L[i] :: L.drop (i + 1) := List.drop_eq_getElem_cons hil
      have ew : IntKind.wrap .i64 ((i : Int) - 1) = ((i - 1 : Nat) : Int) := by rw [i64w (by omega) (by omega)]; omega
      rw [hdrop]
      simp only [gapT]
      have ci : (0 : Int) ≤ (i : Int) ∧ (i : Int) < (L.length : Int) := by omega
      have cp : (0 : Int) ≤ ((i - 1 : Nat) : Int) ∧ ((i - 1 : Nat) : Int) < (L.length : Int) := by omega
      have q1 := Q1 i hil
      have q2 := Q2 i hil
      have p1 := Q1 _ hp
      have p2 := Q2 _ hp
      have gi := gz i hil
      have gp := gz _ hp
      have ihx := fun acc' h' => ih (i + 1) acc' (by omega) (by omega) h' (by omega)
      simp only [show i + 1 - 1 = i by omega] at ihx
      have ihx2 : ∀ acc' : List Rat, acc'.length = i + 1 → Ev (fun m => s21 m (drs L) (drs L) (L.length : Int) ((i + 1 : Nat) : Int) (acc'.map dr)) ((match gapT L[i] (L.drop (i + 1)) with | some g => acc' ++ g | none => []).map dr) := fun a h => ihx a h
      clear ihx ih
      generalize L[i] = X at *
      generalize L[i - 1] = Y at *
      have stop : ∀ m, s52 (m + 1) (drs L) (drs L) (L.length : Int) (i : Int) true (acc.map dr) (dr X.1, dr X.2) (dr Y.1, dr Y.2) = some [] := fun m => by
        rw [h52]; unfold S_isolate_Gaps_52; rw [if_pos rfl]
      have go : ∀ m, s52 (m + 1) (drs L) (drs L) (L.length : Int) (i : Int) false (acc.map dr) (dr X.1, dr X.2) (dr Y.1, dr Y.2) = s21 m (drs L) (drs L) (L.length : Int) ((i + 1 : Nat) : Int) ((acc ++ [(Y.2 + X.1) / 2]).map dr) := fun m => by
        rw [h52]; unfold S_isolate_Gaps_52
        rw [if_neg (by decide), V.mid p2.2.2 q1.2.2 (by omega) (by omega), Option.bind_some, if_pos (by simp; omega), wrap_succ (by omega), List.map_append]
        rfl
      have body : ∀ m, s21 (m + 1) (drs L) (drs L) (L.length : Int) (i : Int) (acc.map dr) = if X.2 < X.1 then some [] else if X.1 < Y.2 ∨ (Y.2 = X.1 ∧ (Y.1 = Y.2 ∨ X.1 = X.2)) then s52 m (drs L) (drs L) (L.length : Int) (i : Int) true (acc.map dr) (dr X.1, dr X.2) (dr Y.1, dr Y.2) else s52 m (drs L) (drs L) (L.length : Int) (i : Int) false (acc.map dr) (dr X.1, dr X.2) (dr Y.1, dr Y.2) := fun m => by
        rw [h21]; unfold S_isolate_Gaps_21
        simp only [hlen, if_pos ci, Int.toNat_natCast, gi, ew, if_pos cp, gp]
        rw [if_pos (by rw [decide_eq_true_eq]; omega), V.cmp q1 q2, Option.bind_some]
        by_cases a1 : X.2 < X.1
        · rw [if_pos (rcm_dec.2 a1), if_pos a1]
        · rw [if_neg (fun h => a1 (rcm_dec.1 h)), if_neg a1, if_neg (by rw [beq_iff_eq]; omega), V.cmp p2 q1, Option.bind_some]
          by_cases a2 : X.1 < Y.2
          · rw [if_pos (rcm_dec.2 a2), if_pos (.inl a2)]
          · rw [if_neg (fun h => a2 (rcm_dec.1 h))]
            by_cases a3 : Y.2 = X.1
            · rw [if_pos (rcm_eq0.2 a3), V.cmp p1 p2, Option.bind_some]
              by_cases a4 : Y.1 = Y.2
              · rw [if_pos (rcm_eq0.2 a4), if_pos (.inr ⟨a3, .inl a4⟩)]
              · rw [if_neg (fun h => a4 (rcm_eq0.1 h)), Option.bind_some]
                by_cases a5 : X.1 = X.2
                · rw [rcm_eq0.2 a5, if_pos (.inr ⟨a3, .inr a5⟩)]
                · have : (rcm X.1 X.2 == (0 : Int)) = false := by
                    cases hx : (rcm X.1 X.2 == (0 : Int)) with
                    | false => rfl
                    | true => exact absurd (rcm_eq0.1 hx) a5
                  rw [this, if_neg (by rintro (h | ⟨_, h | h⟩) <;> contradiction)]
            · rw [if_neg (fun h => a3 (rcm_eq0.1 h)), if_neg (by rintro (h | ⟨h, _⟩) <;> contradiction)]
      by_cases a1 : X.2 < X.1
      · rw [if_pos a1]
        exact Ev.step (t := fun _ => some _) (fun m => by rw [body, if_pos a1]; rfl) Ev.ret
      · rw [if_neg a1]
        by_cases a2 : X.1 < Y.2 ∨ (Y.2 = X.1 ∧ (Y.1 = Y.2 ∨ X.1 = X.2))
        · rw [if_pos a2]
          refine Ev.step (t := fun m => s52 m (drs L) (drs L) (L.length : Int) (i : Int) true (acc.map dr) (dr X.1, dr X.2) (dr Y.1, dr Y.2)) (fun m => by rw [body, if_neg a1, if_pos a2]) ?_
          exact Ev.step (t := fun _ => some _) (fun m => by rw [stop]; rfl) Ev.ret
        · rw [if_neg a2]
          have hx := ihx2 (acc ++ [(Y.2 + X.1) / 2]) (by simp [ha])
          refine Ev.step (t := fun m => s52 m (drs L) (drs L) (L.length : Int) (i : Int) false (acc.map dr) (dr X.1, dr X.2) (dr Y.1, dr Y.2)) (fun m => by rw [body, if_neg a1, if_neg a2]) ?_
          refine Ev.step (fun m => go m) ?_
          cases hg : gapT X (L.drop (i + 1)) with
          | none => rw [hg] at hx; exact hx
          | some g =>
            rw [hg] at hx
            have e : acc ++ [(Y.2 + X.1) / 2] ++ g = acc ++ ((Y.2 + X.1) / 2 :: g) := by simp
            dsimp only at hx
            rw [e] at hx
            exact hx
  simp only [T_isolate_Gaps]
  cases L with
  | nil =>
    refine Ev.congr (t := fun _ => some _) (fun m => ?_) Ev.ret
    rw [if_pos (by rw [hlen]; rfl), V.of0]; rfl
  | cons x L =>
    have g0 := gz 0 (by simp)
    have q1 := Q1 0 (by simp)
    have q2 := Q2 0 (by simp)
    simp only [List.getElem_cons_zero] at g0 q1 q2
    have hk := key L.length 1 [x.1 - ((1 : Int) : Rat)] (by simp; omega) (by omega) rfl (by simp)
    have hb : ∀ m, s21 (m + 1) (drs (x :: L)) (drs (x :: L)) ((x :: L).length : Int) (0 : Int) [dr (x.1 - ((1 : Int) : Rat))] = if x.2 < x.1 then some [] else s21 m (drs (x :: L)) (drs (x :: L)) ((x :: L).length : Int) ((1 : Nat) : Int) [dr (x.1 - ((1 : Int) : Rat))] := fun m => by
      rw [h21]; unfold S_isolate_Gaps_21
      have ci : (0 : Int) ≤ (0 : Int) ∧ (0 : Int) < ((x :: L).length : Int) := by simp
      simp only [hlen, if_pos ci, show Int.toNat (0 : Int) = 0 from rfl, g0]
      rw [if_pos (by rw [decide_eq_true_eq]; simp), V.cmp q1 q2, Option.bind_some]
      by_cases a1 : x.2 < x.1
      · rw [if_pos (rcm_dec.2 a1), if_pos a1]
      · rw [if_neg (fun h => a1 (rcm_dec.1 h)), if_neg a1, if_pos (by rfl)]; rfl
    have start : ∀ m, T_isolate_Gaps (s21 m) (s52 m) (drs (x :: L)) = s21 m (drs (x :: L)) (drs (x :: L)) ((x :: L).length : Int) (0 : Int) [dr (x.1 - ((1 : Int) : Rat))] := fun m => by
      simp only [T_isolate_Gaps]
      rw [if_neg (by rw [beq_iff_eq, hlen]; simp; omega), if_pos (by rw [hlen]; simp), show Int.toNat (0 : Int) = 0 from rfl, g0, V.of1]
      dsimp only
      rw [V.sub q1 (QV.dr one_QB (by omega)), Option.bind_some, hlen]
    refine Ev.congr start ?_
    simp only [gapsL]
    by_cases a1 : x.2 < x.1
    · rw [if_pos a1]
      exact Ev.step (t := fun _ => some _) (fun m => by rw [hb, if_pos a1]; rfl) Ev.ret
    · rw [if_neg a1]
      refine Ev.step (fun m => by rw [hb, if_neg a1]) ?_
      cases hg : gapT x L with
      | none =>
        have hk' := hk
        simp only [show 1 - 1 = 0 from rfl, List.getElem_cons_zero, List.drop_succ_cons, List.drop_zero, hg] at hk'
        exact hk'
      | some g =>
        have hk' := hk
        simp only [show 1 - 1 = 0 from rfl, List.getElem_cons_zero, List.drop_succ_cons, List.drop_zero, hg] at hk'
        exact hk'
end Go.W

set_option linter.unusedVariables false
set_option linter.unusedSimpArgs false
namespace Go.W
theorem fq_QB {q : List Int} (h : Q8 q) : QB 400 (fq q) := by
  have n := h.nd
  unfold fq
  generalize (if q.getD 1 0 < 0 then -(q.getD 0 0) else q.getD 0 0) = a at n ⊢
  generalize (if q.getD 1 0 = 0 then 1 else ab (q.getD 1 0)) = d at n ⊢
  have h1 : Bd 9 (ab a) := by
    constructor
    · unfold ab; split <;> omega
    · unfold ab; split <;> omega
  have h2 : Bd 9 d := ⟨by omega, by omega⟩
  exact (QB.div h1 h2 (by omega)).mono (by omega)
theorem Rat_some {q : List Int} (h : Q8 q) : F_law15_Rat q = some (dr (fq q)) := gif_pos h
theorem awake16 : F_law16_awake = some true := gif_pos trivial
theorem gapT_QB : ∀ (l : List (Rat × Rat)) (x : Rat × Rat) (g : List Rat), gapT x l = some g → QB 400 x.2 → (∀ y ∈ l, QB 400 y.1 ∧ QB 400 y.2) → ∀ z ∈ g, QB 900 z
  | [], x, g, h, hx, _, z, hz => by
    simp only [gapT] at h
    injection h with h; subst h
    simp only [List.mem_cons, List.not_mem_nil, or_false] at hz
    subst hz
    exact (hx.add one_QB).mono (by omega)
  | y :: l, x, g, h, hx, hl, z, hz => by
    simp only [gapT] at h
    split at h
    · cases h
    · split at h
      · cases h
      · cases hg : gapT y l with
        | none => rw [hg] at h; cases h
        | some g' =>
          rw [hg] at h; injection h with h; subst h
          rcases List.mem_cons.1 hz with rfl | hz
          · exact ((hx.add (hl y (by simp)).1).half).mono (by omega)
          · exact gapT_QB l y g' hg (hl y (by simp)).2 (fun w hw => hl w (by simp [hw])) z hz
theorem gapsL_QB (L : List (Rat × Rat)) (hq : ∀ x ∈ L, QB 400 x.1 ∧ QB 400 x.2) : ∀ z ∈ gapsL L, QB 900 z := by
  cases L with
  | nil => intro z hz; simp only [gapsL, List.mem_cons, List.not_mem_nil, or_false] at hz; subst hz; exact QB.z0.mono (by omega)
  | cons x l =>
    intro z hz
    simp only [gapsL] at hz
    split at hz
    · cases hz
    · cases hg : gapT x l with
      | none => rw [hg] at hz; cases hz
      | some g =>
        rw [hg] at hz
        rcases List.mem_cons.1 hz with rfl | hz
        · exact ((hq x (by simp)).1.sub one_QB).mono (by omega)
        · exact gapT_QB l x g hg (hq x (by simp)).2 (fun w hw => hq w (by simp [hw])) z hz
theorem Rn_law16_IsolateSeparates : Run_law16_IsolateSeparates := fun s21 s57 h21 h57 l => Ok.gif fun ⟨_, hI⟩ => by
  simp only [T_law16_IsolateSeparates]
  rw [awake16]
  by_cases h5 : l.length > 5
  · refine Ev.congr (t := fun _ => some _) (fun m => ?_) Ev.ret
    rw [Option.bind_some, if_neg (by decide), if_pos (by rw [decide_eq_true_eq]; omega), Option.bind_some]
  · refine Ev.congr (t := fun m => s21 m l (0 : Int) []) (fun m => by rw [Option.bind_some, if_neg (by decide), if_neg (by rw [decide_eq_true_eq]; omega)]) ?_
    obtain ⟨L, hL⟩ : ∃ L, l.map ivl = L := ⟨_, rfl⟩
    have hn : L.length = l.length := by rw [← hL, List.length_map]
    have hget : ∀ i (h : i < l.length), l.getD i (List.replicate 2 (List.replicate 2 (0 : Int))) = l[i] := fun i h => by simp [List.getD, List.getElem?_eq_getElem h]
    have hLi : ∀ i (h : i < l.length), L[i]'(by omega) = ivl l[i] := fun i h => by simp [← hL]
    have hq : ∀ x ∈ L, QB 400 x.1 ∧ QB 400 x.2 := fun x hx => by
      rw [← hL] at hx
      obtain ⟨y, hy, rfl⟩ := List.mem_map.1 hx
      exact ⟨fq_QB ((hI y hy).q (by decide)), fq_QB ((hI y hy).q (by decide))⟩
    have sep := gapsL_sep L
    have eG : F_isolate_Gaps (drs L) = some ((gapsL L).map dr) := by
      rw [F_isolate_Gaps, rvs_drs, gif_pos ⟨rfl, by omega, hq⟩]
    have eS : F_ref16_Separate l = some (sepL L) := by
      rw [F_ref16_Separate, gif_pos ⟨by omega, hI⟩, hL]
    -- the intervals are read
    have key : ∀ (k i : Nat), i + k = l.length → Ev (fun m => s21 m l (i : Int) (drs (L.take i))) true := by
      intro k
      induction k with
      | succ k ih =>
        intro i hi
        have hil : i < l.length := by omega
        have Ii := hI _ (List.getElem_mem hil)
        refine Ev.step (fun m => ?_) (ih (i + 1) (by omega))
        rw [h21]; unfold S_law16_IsolateSeparates_21
        have ci : (0 : Int) ≤ (i : Int) ∧ (i : Int) < (l.length : Int) := by omega
        have c2 : (0 : Int) ≤ (1 : Int) ∧ (1 : Int) < ((2 : Nat) : Int) := by omega
        have c1 : (0 : Int) ≤ (0 : Int) ∧ (0 : Int) < ((2 : Nat) : Int) := by omega
        simp only [if_pos ci, if_pos c1, if_pos c2, Int.toNat_natCast, show Int.toNat (0 : Int) = 0 from rfl, show Int.toNat (1 : Int) = 1 from rfl, hget _ hil]
        have ht : L.take (i + 1) = L.take i ++ [L[i]'(by omega)] := by rw [List.take_add_one, List.getElem?_eq_getElem (by omega)]; rfl
        rw [if_pos (by rw [decide_eq_true_eq]; omega), Rat_some (Ii.q (i := 0) (by decide)), Option.bind_some, Rat_some (Ii.q (i := 1) (by decide)), Option.bind_some, if_pos (by rw [drs_len, List.length_take]; simp; omega), wrap_succ (by omega), ht, drs_append, hLi i hil]
        rfl
      | zero =>
        intro i hi
        rw [List.take_of_length_le (by omega)]
        -- the comparison
        have cmp : sepL L = true → ∀ (k i : Nat), i + k = l.length → Ev (fun m => s57 m l (drs L) ((gapsL L).map dr) (i : Int)) true := fun hs => by
          obtain ⟨gl, gp⟩ := sep.2 hs
          intro k
          induction k with
          | zero =>
            intro i hi
            refine Ev.step (t := fun _ => some _) (fun m => ?_) Ev.ret
            rw [h57]; unfold S_law16_IsolateSeparates_57
            rw [if_neg (by rw [decide_eq_true_eq, drs_len]; omega)]
          | succ k ih =>
            intro i hi
            have hil : i < l.length := by omega
            have hiL : i < L.length := by omega
            have Ii := hI _ (List.getElem_mem hil)
            refine Ev.step (fun m => ?_) (ih (i + 1) (by omega))
            rw [h57]; unfold S_law16_IsolateSeparates_57
            have ew : IntKind.wrap .i64 ((i : Int) + 1) = ((i + 1 : Nat) : Int) := wrap_succ (by omega)
            have cg : (0 : Int) ≤ (i : Int) ∧ (i : Int) < (((gapsL L).map dr).length : Int) := by rw [List.length_map, gl]; omega
            have cg1 : (0 : Int) ≤ ((i + 1 : Nat) : Int) ∧ ((i + 1 : Nat) : Int) < (((gapsL L).map dr).length : Int) := by rw [List.length_map, gl]; omega
            have cd : (0 : Int) ≤ (i : Int) ∧ (i : Int) < ((drs L).length : Int) := by rw [drs_len]; omega
            have ci : (0 : Int) ≤ (i : Int) ∧ (i : Int) < (l.length : Int) := by omega
            have gg : ∀ j, j < (gapsL L).length → ((gapsL L).map dr).getD j ((false, ([] : List Int)), ([] : List Int)) = dr ((gapsL L).getD j 0) := fun j hj => by simp [List.getD, List.getElem?_eq_getElem hj]
            have gd : (drs L).getD i ((((false, ([] : List Int)), ([] : List Int)), ((false, ([] : List Int)), ([] : List Int)))) = (dr (L[i]'hiL).1, dr (L[i]'hiL).2) := drs_get hiL
            simp only [if_pos cg, if_pos cd, if_pos ci, ew, if_pos cg1, Int.toNat_natCast, gg i (by omega), gg (i + 1) (by omega), gd, hget _ hil]
            obtain ⟨g1, g2, g3⟩ := gp i hiL
            -- bounds of the numbers
            have qx := hq _ (List.getElem_mem hiL)
            have hgb : ∀ j, j < (gapsL L).length → QB 900 ((gapsL L).getD j 0) := fun j hj => by
              simp only [List.getD, List.getElem?_eq_getElem hj, Option.getD_some]
              exact gapsL_QB L hq _ (List.getElem_mem hj)
            have b1 := hgb i (by omega)
            have b2 := hgb (i + 1) (by omega)
            rw [if_pos (by rw [decide_eq_true_eq, drs_len]; omega), V.cmp (QV.dr b1 (by omega)) (QV.dr qx.1 (by omega)), Option.bind_some, V.cmp (QV.dr b2 (by omega)) (QV.dr qx.2 (by omega)), Option.bind_some, if_neg (fun h => absurd (rcm_dec.1 h) (Rat.not_lt.2 g1)), if_neg (fun h => by
              rw [decide_eq_true_eq, rcm_lt0] at h; exact absurd h (Rat.not_lt.2 g2)), show F_ref16_Point l[i] = some (decide ((ivl l[i]).1 = (ivl l[i]).2)) from gif_pos Ii, Option.bind_some, ← hLi i hil]
            by_cases hp : (L[i]'hiL).1 = (L[i]'hiL).2
            · obtain ⟨g4, g5⟩ := g3 hp
              rw [if_pos (decide_eq_true hp), if_neg (fun h => by have := rcm_eq0.1 h; rw [this] at g4; exact Rat.lt_irrefl g4), if_neg (fun h => by have := rcm_eq0.1 h; rw [this] at g5; exact Rat.lt_irrefl g5)]
            · rw [if_neg (by rw [decide_eq_false hp]; decide)]
        have body : ∀ m, s21 (m + 1) l (i : Int) (drs L) = if sepL L = false then some (decide ((gapsL L).length = 0)) else if (gapsL L).length ≠ L.length + 1 then some false else s57 m l (drs L) ((gapsL L).map dr) (0 : Int) := fun m => by
          rw [h21]; unfold S_law16_IsolateSeparates_21
          rw [if_neg (by rw [decide_eq_true_eq]; omega), eG, Option.bind_some, eS, Option.bind_some]
          cases hs : sepL L with
          | false =>
            rw [if_pos (by rfl), if_pos rfl]
            congr 1
            rw [List.length_map]
            cases (gapsL L) <;> simp
            omega
          | true =>
            rw [if_neg (show ¬ ((!true) = true) by decide), if_neg (show ¬ (true = false) by decide)]
            simp only [List.length_map, drs_len]
            rw [wrap_succ (by omega)]
            by_cases hx : (gapsL L).length ≠ L.length + 1
            · rw [if_pos hx, if_pos (by rw [bne_iff_ne]; omega)]
            · rw [if_neg hx, if_neg (by rw [bne_iff_ne]; omega)]
        cases hs : sepL L with
        | false =>
          refine Ev.step (t := fun _ => some _) (fun m => ?_) Ev.ret
          rw [body, if_pos hs, sep.1 hs]; rfl
        | true =>
          refine Ev.step (fun m => ?_) (cmp hs l.length 0 (by omega))
          rw [body, if_neg (by rw [hs]; decide), if_neg (fun h => h (sep.2 hs).1)]
          rfl
    have := key l.length 0 (by omega)
    rw [List.take_zero] at this
    exact this
end Go.W

