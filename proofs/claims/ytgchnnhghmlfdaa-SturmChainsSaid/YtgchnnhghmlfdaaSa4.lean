/- A part of the proof: texts P61, P62, P63, P64. What is proved in the end stands in the last file. -/
import Derived.Test.YtgchnnhghmlfdaaSa3
set_option linter.unusedVariables false
set_option linter.unusedSimpArgs false
set_option linter.unusedSectionVars false
set_option linter.unusedVariables false
set_option linter.unusedSimpArgs false
namespace Go.W

theorem fill_loop2 {α ρ : Type} {n : Nat} (v : Nat → α) (z : α) (step : Nat → Nat → List α → Option ρ) (res : ρ)
    (hstep : ∀ i out, i < n → out.length = n → Ev (fun m => step m (i + 1) (out.set i (v i))) res → Ev (fun m => step m i out) res)
    (hend : Ev (fun m => step m n ((List.range n).map v)) res) : Ev (fun m => step m 0 (List.replicate n z)) res := by
  have key : ∀ (k i : Nat) (out : List α), i + k = n → out.length = n → (∀ j, j < i → out[j]? = some (v j)) → Ev (fun m => step m i out) res := by
    intro k
    induction k with
    | zero =>
      intro i out hi hl ho
      obtain rfl : i = n := by omega
      have : out = (List.range i).map v := by
        apply List.ext_getElem? fun j => ?_
        by_cases hj : j < i
        · rw [ho j hj]; simp [hj]
        · rw [List.getElem?_eq_none (by omega), List.getElem?_eq_none (by simp; omega)]
      rw [this]; exact hend
    | succ k ih =>
      intro i out hi hl ho
      refine hstep i out (by omega) hl (ih (i + 1) _ (by omega) (by simpa using hl) fun j hj => ?_)
      by_cases he : j = i
      · subst he; rw [List.getElem?_set_self (by omega)]
      · rw [List.getElem?_set_ne (by omega)]; exact ho j (by omega)
  exact key n 0 _ (by omega) (by simp) fun j hj => by omega
theorem scl_trim (c : Int) (l : List Int) : scl c (trimL l) = scl c l := (scl_TL _ _).ext (scl_TL _ _) fun i => by rw [scl_get, scl_get, trimL_get]
theorem shf_trim (c : Int) (n : Nat) (l : List Int) : shf c n (trimL l) = shf c n l := by unfold shf; rw [scl_trim]
theorem Rn_unipoly_Scale : Run_unipoly_Scale := fun s hs a c => Ok.gif fun ⟨h, hc, j, k, hj, hk, hjk⟩ => by
  have hl := h.1
  have hl2 := trimL_len (pv a); rw [pv_len] at hl2
  have := fill_loop (n := (trimL (pv a)).length) (fun i => di (iv c * (trimL (pv a)).getD i 0)) (false, ([] : List Int)) (fun m i out => s m a ((trimL (pv a)).length : Int) (i : Int) c out) (dp (scl (iv c) (pv a))) (fun m i out hi ho => by
    rw [hs]; unfold S_unipoly_Scale_13
    rw [if_pos (by rw [decide_eq_true_eq]; omega), if_pos (by omega), Int.toNat_natCast, F_integer_Mul, gif_bind ⟨hc.1, h.ii i⟩, if_pos (by omega), wrap_succ (by omega), pv_get, trimL_get]) (by
    rw [range_dp]
    have e : (List.range (trimL (pv a)).length).map (fun i => iv c * (trimL (pv a)).getD i 0) = (trimL (pv a)).map fun x => iv c * x := by
      conv => rhs; rw [← range_get (trimL (pv a)), List.map_map]
      rfl
    rw [e]
    have hb : PB KP ((trimL (pv a)).map fun x => iv c * x) := .of fun i => by
      rw [map_get (f := fun x => iv c * x) (by simp), trimL_get]
      exact (hk.ab_mul (hj.get i)).mono (by omega)
    have hp : PP (dp ((trimL (pv a)).map fun x => iv c * x)) := PP.dp (by simp; omega) hb
    refine Ev.step (t := fun _ => some _) (fun m => ?_) Ev.ret
    rw [hs]; unfold S_unipoly_Scale_13
    rw [if_neg (by rw [decide_eq_true_eq]; omega), poly_end (x := []) (y := []) hp]
    congr 2
    exact scl_trim _ _)
  simp only [T_unipoly_Scale]
  refine Ev.congr (fun m => ?_) this
  rw [trim_bind h, take_len, if_pos (by omega), rep_len, List.length_replicate]
  rfl
theorem Scale_bind {σ : Type} {l : List Int} {c : Int} {j k : Nat} (hl : l.length ≤ 1000) (hj : PB j l) (hk : Bd k (ab c)) (hjk : j + k ≤ KP) {K : NP → Option σ} : (F_unipoly_Scale (dp l) (di c)).bind K = K (dp (scl c l)) := by
  have h1 : CC (di c) := ⟨II.di hk (by unfold KP at hjk; omega), by rw [iv_di]; exact hk.mono (by omega)⟩
  rw [F_unipoly_Scale, gif_bind ⟨PP.dp' hl hj (by omega), h1, j, k, by rw [pv_dp]; exact hj, by rw [iv_di]; exact hk, hjk⟩, iv_di, pv_dp]
theorem max_eq (a b : Nat) : (if (b : Int) > (a : Int) then (b : Int) else (a : Int)) = ((max a b : Nat) : Int) := by split <;> omega
theorem combine_v (op : Int → Int → Int) (a b : NP) : (List.range (max a.length b.length)).map (fun i => di (op ((pv a).getD i 0) ((pv b).getD i 0))) = dp (cmb op (pv a) (pv b)) := by
  unfold cmb; rw [range_dp, pv_len, pv_len]
theorem Rn_unipoly_combine_Add : Run_unipoly_combine_Add := fun s17 s36 k17 k36 a b u => Ok.gif fun ⟨ha, hb⟩ => by
  have hla := ha.1
  have hlb := hb.1
  have := fill_loop2 (n := max a.length b.length) (fun i => di ((pv a).getD i 0 + (pv b).getD i 0)) (false, ([] : List Int)) (fun m i out => s17 m a b u ((max a.length b.length : Nat) : Int) (i : Int) out (false, ([] : List Int))) (dp (cmb (· + ·) (pv a) (pv b))) (fun i out hi ho hev => by
    have two : Ev (fun m => s36 m a b u (i : Int) ((max a.length b.length : Nat) : Int) (i : Int) out (false, ([] : List Int)) (a.getD i (false, ([] : List Int))) (false, ([] : List Int))) (dp (cmb (· + ·) (pv a) (pv b))) := by
      refine Ev.step (fun m => ?_) hev
      rw [k36]; unfold S_unipoly_combine_Add_36
      by_cases h2 : i < b.length
      · rw [if_pos (by rw [decide_eq_true_eq]; omega), if_pos (by omega), Int.toNat_natCast, F_integer_Add, gif_bind ⟨ha.ii i, hb.ii i⟩, if_pos (by omega), wrap_succ (by omega), pv_get, pv_get]
      · rw [if_neg (by rw [decide_eq_true_eq]; omega), F_integer_Add, gif_bind ⟨ha.ii i, II_zero⟩, if_pos (by omega), wrap_succ (by omega), pv_get, zI_di, iv_di, getD_out (l := pv b) (by rw [pv_len]; omega), Int.toNat_natCast]
    refine Ev.step (fun m => ?_) two
    rw [k17]; unfold S_unipoly_combine_Add_17
    rw [if_pos (by rw [decide_eq_true_eq]; omega)]
    by_cases h1 : i < a.length
    · rw [if_pos (by rw [decide_eq_true_eq]; omega), if_pos (by omega), Int.toNat_natCast]
    · rw [if_neg (by rw [decide_eq_true_eq]; omega)]
      have e : a.getD i (false, ([] : List Int)) = (false, ([] : List Int)) := by simp [List.getD, List.getElem?_eq_none (show a.length ≤ i by omega)]
      rw [e]) (by
    rw [combine_v]
    refine Ev.step (t := fun _ => some _) (fun m => ?_) Ev.ret
    rw [k17]; unfold S_unipoly_combine_Add_17
    rw [if_neg (by simp)])
  simp only [T_unipoly_combine_Add]
  refine Ev.congr (fun m => ?_) this
  rw [max_eq, if_pos (by omega), rep_len, List.length_replicate]
  rfl
theorem Rn_unipoly_combine_Sub : Run_unipoly_combine_Sub := fun s17 s36 k17 k36 a b u => Ok.gif fun ⟨ha, hb⟩ => by
  have hla := ha.1
  have hlb := hb.1
  have := fill_loop2 (n := max a.length b.length) (fun i => di ((pv a).getD i 0 - (pv b).getD i 0)) (false, ([] : List Int)) (fun m i out => s17 m a b u ((max a.length b.length : Nat) : Int) (i : Int) out (false, ([] : List Int))) (dp (cmb (· - ·) (pv a) (pv b))) (fun i out hi ho hev => by
    have two : Ev (fun m => s36 m a b u (i : Int) ((max a.length b.length : Nat) : Int) (i : Int) out (false, ([] : List Int)) (a.getD i (false, ([] : List Int))) (false, ([] : List Int))) (dp (cmb (· - ·) (pv a) (pv b))) := by
      refine Ev.step (fun m => ?_) hev
      rw [k36]; unfold S_unipoly_combine_Sub_36
      by_cases h2 : i < b.length
      · rw [if_pos (by rw [decide_eq_true_eq]; omega), if_pos (by omega), Int.toNat_natCast, F_integer_Sub, gif_bind ⟨ha.ii i, hb.ii i⟩, if_pos (by omega), wrap_succ (by omega), pv_get, pv_get]
      · rw [if_neg (by rw [decide_eq_true_eq]; omega), F_integer_Sub, gif_bind ⟨ha.ii i, II_zero⟩, if_pos (by omega), wrap_succ (by omega), pv_get, zI_di, iv_di, getD_out (l := pv b) (by rw [pv_len]; omega), Int.toNat_natCast]
    refine Ev.step (fun m => ?_) two
    rw [k17]; unfold S_unipoly_combine_Sub_17
    rw [if_pos (by rw [decide_eq_true_eq]; omega)]
    by_cases h1 : i < a.length
    · rw [if_pos (by rw [decide_eq_true_eq]; omega), if_pos (by omega), Int.toNat_natCast]
    · rw [if_neg (by rw [decide_eq_true_eq]; omega)]
      have e : a.getD i (false, ([] : List Int)) = (false, ([] : List Int)) := by simp [List.getD, List.getElem?_eq_none (show a.length ≤ i by omega)]
      rw [e]) (by
    rw [combine_v]
    refine Ev.step (t := fun _ => some _) (fun m => ?_) Ev.ret
    rw [k17]; unfold S_unipoly_combine_Sub_17
    rw [if_neg (by simp)])
  simp only [T_unipoly_combine_Sub]
  refine Ev.congr (fun m => ?_) this
  rw [max_eq, if_pos (by omega), rep_len, List.length_replicate]
  rfl
theorem trim_dp_bind {σ : Type} {l : List Int} (h : PP (dp l)) {K : NP → Option σ} : (F_unipoly_trim (dp l)).bind K = K (dp (trimL l)) := by rw [trim_bind h, pv_dp, take_dp]
theorem cmb_PB {k : Nat} {a b : List Int} (hk : 1 ≤ k) (ha : PB (k - 1) a) (hb : PB (k - 1) b) : PB k (cmb (· + ·) a b) ∧ PB k (cmb (· - ·) a b) :=
  ⟨.of fun i => by rw [cmb_get (by decide)]; exact ((ha.get i).ab_add (hb.get i)).mono (by omega), .of fun i => by rw [cmb_get (by decide)]; exact ((ha.get i).ab_sub (hb.get i)).mono (by omega)⟩
theorem Rn_unipoly_Add : Run_unipoly_Add := fun a b => Ok.gif_const fun ⟨ha, hb, pa, pb⟩ => by
  have hla := ha.1
  have hlb := hb.1
  rw [T_unipoly_Add, F_unipoly_combine_Add, gif_bind ⟨ha, hb⟩, trim_dp_bind (PP.dp (by rw [cmb_len, pv_len, pv_len]; omega) (cmb_PB (by unfold KP; omega) pa pb).1)]
  rfl
theorem Rn_unipoly_Sub : Run_unipoly_Sub := fun a b => Ok.gif_const fun ⟨ha, hb, pa, pb⟩ => by
  have hla := ha.1
  have hlb := hb.1
  rw [T_unipoly_Sub, F_unipoly_combine_Sub, gif_bind ⟨ha, hb⟩, trim_dp_bind (PP.dp (by rw [cmb_len, pv_len, pv_len]; omega) (cmb_PB (by unfold KP; omega) pa pb).2)]
  rfl
theorem Add_bind {σ : Type} {a b : List Int} (la : a.length ≤ 1000) (lb : b.length ≤ 1000) {j : Nat} (ha : PB j a) (hb : PB j b) (hj : j + 1 ≤ KP) {K : NP → Option σ} : (F_unipoly_Add (dp a) (dp b)).bind K = K (dp (addL a b)) := by
  rw [F_unipoly_Add, gif_bind ⟨PP.dp' la ha (by omega), PP.dp' lb hb (by omega), by rw [pv_dp]; exact ha.mono (by omega), by rw [pv_dp]; exact hb.mono (by omega)⟩, pv_dp, pv_dp]
theorem Sub_bind {σ : Type} {a b : List Int} (la : a.length ≤ 1000) (lb : b.length ≤ 1000) {j : Nat} (ha : PB j a) (hb : PB j b) (hj : j + 1 ≤ KP) {K : NP → Option σ} : (F_unipoly_Sub (dp a) (dp b)).bind K = K (dp (subL a b)) := by
  rw [F_unipoly_Sub, gif_bind ⟨PP.dp' la ha (by omega), PP.dp' lb hb (by omega), by rw [pv_dp]; exact ha.mono (by omega), by rw [pv_dp]; exact hb.mono (by omega)⟩, pv_dp, pv_dp]
theorem Rn_unipoly_Neg : Run_unipoly_Neg := fun a => Ok.gif_const fun ⟨ha, pa⟩ => by
  rw [T_unipoly_Neg, F_unipoly_Sub, gif_bind ⟨PP.nil, ha, .nil _, pa⟩]
  rfl
theorem Neg_bind {σ : Type} {a : List Int} (la : a.length ≤ 1000) {j : Nat} (ha : PB j a) (hj : j + 1 ≤ KP) {K : NP → Option σ} : (F_unipoly_Neg (dp a)).bind K = K (dp (subL [] a)) := by
  rw [F_unipoly_Neg, gif_bind ⟨PP.dp' la ha (by omega), by rw [pv_dp]; exact ha.mono (by omega)⟩, pv_dp]
theorem Rn_unidiv_shifted : Run_unidiv_shifted := fun a c n => Ok.gif_const fun ⟨h, hc, hm, n0, n1⟩ => by
  have hl := h.1
  have h2 := scl_len (iv c) (pv a); rw [pv_len] at h2
  rw [T_unidiv_shifted, if_pos (by omega), F_unipoly_Scale, gif_bind ⟨h, hc, hm⟩, if_pos (by rw [dp_len]; simp; omega)]
  congr 1
  unfold shf dp
  rw [List.map_append, List.map_replicate, ← zI_di]
theorem shifted_bind {σ : Type} {f : NP} {c n : Int} {j k : Nat} (h : PP f) (hj : PB j (pv f)) (hk : Bd k (ab c)) (hjk : j + k ≤ KP) (n0 : 0 ≤ n) (n1 : n ≤ 1000) {K : NP → Option σ} : (F_unidiv_shifted f (di c) n).bind K = K (dp (shf c n.toNat (pv f))) := by
  have h1 : CC (di c) := ⟨II.di hk (by unfold KP at hjk; omega), by rw [iv_di]; exact hk.mono (by omega)⟩
  rw [F_unidiv_shifted, gif_bind ⟨h, h1, ⟨j, k, hj, by rw [iv_di]; exact hk, hjk⟩, n0, n1⟩, iv_di]
theorem Rn_unidiv_power : Run_unidiv_power := fun s hs a n => Ok.gif fun ⟨hc, n0, n1, k, hk, hkn⟩ => by
  obtain ⟨N, rfl⟩ : ∃ N : Nat, n = N := ⟨n.toNat, by omega⟩
  have key : ∀ d i : Nat, i + d = N → Ev (fun m => s m (N : Int) (i : Int) a (false, ([] : List Int)) (di (iv a ^ i))) (di (iv a ^ N)) := by
    intro d
    induction d with
    | zero =>
      intro i hi
      obtain rfl : i = N := by omega
      refine Ev.step (t := fun _ => some _) (fun m => ?_) Ev.ret
      rw [hs]; unfold S_unidiv_power_13
      rw [if_neg (by simp)]
    | succ d ih =>
      intro i hi
      refine Ev.step (fun m => ?_) (ih (i + 1) (by omega))
      have hb := Bd.pow' hk i
      have hki : (k : Int) * i ≤ (k : Int) * N := Int.mul_le_mul_of_nonneg_left (by omega) (by omega)
      have hcast : ((k * i : Nat) : Int) = (k : Int) * i := by simp
      rw [hs]; unfold S_unidiv_power_13
      rw [if_pos (by rw [decide_eq_true_eq]; omega), F_integer_Mul, gif_bind ⟨II.di hb (by unfold KP at hkn; omega), hc.1⟩, iv_di, wrap_succ (by omega), ← Int.pow_succ]
  have := key N 0 (by omega)
  rw [Int.pow_zero] at this
  simp only [T_unidiv_power]
  refine Ev.congr (fun m => ?_) this
  rw [F_integer_Of, gif_bind (by omega)]
  rfl
theorem power_bind {σ : Type} {c n : Int} {k : Nat} (hk : Bd k (ab c)) (n0 : 0 ≤ n) (n1 : n ≤ 1000) (h : (k : Int) * n + 1 ≤ KP) (hkK : k ≤ KP) {K : Bool × List Int → Option σ} : (F_unidiv_power (di c) n).bind K = K (di (c ^ n.toNat)) := by
  rw [F_unidiv_power, gif_bind ⟨⟨II.di hk (by unfold KP at hkK; omega), by rw [iv_di]; exact hk.mono hkK⟩, n0, n1, k, by rw [iv_di]; exact hk, h⟩, iv_di]
theorem Rn_unipoly_Derivative : Run_unipoly_Derivative := fun s hs a => Ok.gif fun ⟨h, hb⟩ => by
  have hl := h.1
  have hl2 := trimL_len (pv a); rw [pv_len] at hl2
  simp only [T_unipoly_Derivative]
  by_cases h2 : (trimL (pv a)).length < 2
  · refine Ev.congr (t := fun _ => some (dp (derL (trimL (pv a))))) (fun m => ?_) Ev.ret
    rw [trim_bind h, take_len, if_pos (by rw [decide_eq_true_eq]; omega)]
    have : derL (trimL (pv a)) = [] := by unfold derL; rw [show (trimL (pv a)).length - 1 = 0 by omega]; rfl
    rw [this]; rfl
  · have e1 : IntKind.wrap .i64 (((trimL (pv a)).length : Int) - 1) = (((trimL (pv a)).length - 1 : Nat) : Int) := by rw [i64w (by omega) (by omega)]; omega
    have hII : ∀ i, II ((a.take (trimL (pv a)).length).getD i (false, ([] : List Int))) := fun i => II_get (fun c hc => h.2.1 c (List.mem_of_mem_take hc)) _
    have := fill_loop (n := (trimL (pv a)).length - 1) (fun i => di ((trimL (pv a)).getD (i + 1) 0 * ((i + 1 : Nat) : Int))) (false, ([] : List Int)) (fun m i out => s m (a.take (trimL (pv a)).length) (((trimL (pv a)).length - 1 : Nat) : Int) (i : Int) out) (dp (derL (trimL (pv a)))) (fun m i out hi ho => by
      rw [hs]; unfold S_unipoly_Derivative_25
      rw [if_pos (by rw [decide_eq_true_eq]; omega), wrap_succ (by omega), if_pos (by rw [take_len]; omega)]
      simp only [Int.toNat_natCast]
      rw [F_integer_Of, gif_bind (by omega), F_integer_Mul, gif_bind ⟨hII _, II.di (k := 64) (by rw [ab_pos (by omega)]; constructor <;> omega) (by omega)⟩, iv_di, if_pos (by omega), pv_get, take_trim]) (by
      rw [range_dp]
      refine Ev.step (t := fun _ => some _) (fun m => ?_) Ev.ret
      rw [hs]; unfold S_unipoly_Derivative_25
      rw [if_neg (by simp)]
      rfl)
    refine Ev.congr (fun m => ?_) this
    rw [trim_bind h, take_len, if_neg (by rw [decide_eq_true_eq]; omega), e1, if_pos (by omega), rep_len, List.length_replicate]
    rfl
theorem cm_zero {x y : Int} : cm x y = 0 ↔ x = y := by unfold cm; (repeat' split) <;> omega
theorem cmpT_zero : ∀ {a b : List Int}, a.length = b.length → (cmpT a b = 0 ↔ a = b)
  | [], [], _ => by simp [cmpT]
  | x :: a, y :: b, h => by
    simp only [cmpT]
    by_cases hc : cm x y = 0
    · rw [if_neg (by rw [hc]; decide), cmpT_zero (by simpa using h), cm_zero.1 hc]; simp
    · rw [if_pos hc]
      constructor
      · intro h1; exact absurd h1 hc
      · intro h1; injection h1 with h1 _; exact absurd (cm_zero.2 h1) hc
theorem cmpL_zero {a b : List Int} : cmpL a b = 0 ↔ a = b := by
  unfold cmpL
  by_cases h1 : b.length < a.length
  · rw [if_pos h1]; constructor
    · intro h; omega
    · intro h; rw [h] at h1; omega
  · rw [if_neg h1]
    by_cases h2 : a.length < b.length
    · rw [if_pos h2]; constructor
      · intro h; omega
      · intro h; rw [h] at h2; omega
    · rw [if_neg h2, cmpT_zero (by simp; omega)]
      constructor
      · intro h; have := congrArg List.reverse h; simpa using this
      · intro h; rw [h]
theorem Rn_unipoly_Compare : Run_unipoly_Compare := fun s hs a b => Ok.gif fun ⟨ha, hb⟩ => by
  have hla := ha.1
  have hlb := hb.1
  have hla2 := trimL_len (pv a); rw [pv_len] at hla2
  have hlb2 := trimL_len (pv b); rw [pv_len] at hlb2
  simp only [T_unipoly_Compare]
  by_cases h1 : (trimL (pv b)).length < (trimL (pv a)).length
  · refine Ev.congr (t := fun _ => some (cmpL (trimL (pv a)) (trimL (pv b)))) (fun m => ?_) Ev.ret
    rw [trim_bind ha, trim_bind hb, take_len, take_len, if_pos (by rw [decide_eq_true_eq]; omega)]
    unfold cmpL; rw [if_pos h1]
  · by_cases h2 : (trimL (pv a)).length < (trimL (pv b)).length
    · refine Ev.congr (t := fun _ => some (cmpL (trimL (pv a)) (trimL (pv b)))) (fun m => ?_) Ev.ret
      rw [trim_bind ha, trim_bind hb, take_len, take_len, if_neg (by rw [decide_eq_true_eq]; omega), if_pos (by rw [decide_eq_true_eq]; omega)]
      unfold cmpL; rw [if_neg h1, if_pos h2]
    · have hia : ∀ i, II ((a.take (trimL (pv a)).length).getD i (false, ([] : List Int))) := fun i => II_get (fun c hc => ha.2.1 c (List.mem_of_mem_take hc)) _
      have hib : ∀ i, II ((b.take (trimL (pv b)).length).getD i (false, ([] : List Int))) := fun i => II_get (fun c hc => hb.2.1 c (List.mem_of_mem_take hc)) _
      have key : ∀ k : Nat, k ≤ (trimL (pv a)).length → Ev (fun m => s m (a.take (trimL (pv a)).length) (b.take (trimL (pv b)).length) ((k : Int) - 1)) (cmpT ((trimL (pv a)).take k).reverse ((trimL (pv b)).take k).reverse) := by
        intro k
        induction k with
        | zero =>
          intro _
          refine Ev.step (t := fun _ => some _) (fun m => ?_) Ev.ret
          rw [hs]; unfold S_unipoly_Compare_29
          rw [if_neg (by decide)]; rfl
        | succ k ih =>
          intro hk
          have hka : k < (trimL (pv a)).length := by omega
          have hkb : k < (trimL (pv b)).length := by omega
          have ea : ((trimL (pv a)).take (k + 1)).reverse = (trimL (pv a)).getD k 0 :: ((trimL (pv a)).take k).reverse := by
            rw [List.take_succ_eq_append_getElem hka, List.reverse_append, getD_in hka]; rfl
          have eb : ((trimL (pv b)).take (k + 1)).reverse = (trimL (pv b)).getD k 0 :: ((trimL (pv b)).take k).reverse := by
            rw [List.take_succ_eq_append_getElem hkb, List.reverse_append, getD_in hkb]; rfl
          rw [ea, eb]
          simp only [cmpT]
          have e1 : ((k + 1 : Nat) : Int) - 1 = (k : Int) := by omega
          have pre : ∀ m, s (m + 1) (a.take (trimL (pv a)).length) (b.take (trimL (pv b)).length) (((k + 1 : Nat) : Int) - 1) = if cm ((trimL (pv a)).getD k 0) ((trimL (pv b)).getD k 0) ≠ 0 then some (cm ((trimL (pv a)).getD k 0) ((trimL (pv b)).getD k 0)) else s m (a.take (trimL (pv a)).length) (b.take (trimL (pv b)).length) ((k : Int) - 1) := fun m => by
            rw [hs, e1]; unfold S_unipoly_Compare_29
            rw [if_pos (by rw [decide_eq_true_eq]; omega), if_pos (by rw [take_len]; omega), if_pos (by rw [take_len]; omega), Int.toNat_natCast, F_integer_Cmp, gif_bind ⟨hia k, hib k⟩, pv_get, pv_get, take_trim, take_trim, i64w (by omega) (by omega)]
            by_cases hc : cm ((trimL (pv a)).getD k 0) ((trimL (pv b)).getD k 0) ≠ 0
            · rw [if_pos (by rw [bne_iff_ne]; exact hc), if_pos hc]
            · rw [if_neg (by rw [bne_iff_ne]; exact hc), if_neg hc]
          by_cases hc : cm ((trimL (pv a)).getD k 0) ((trimL (pv b)).getD k 0) ≠ 0
          · rw [if_pos hc]
            exact Ev.step (t := fun _ => some _) (fun m => by rw [pre, if_pos hc]) Ev.ret
          · rw [if_neg hc]
            exact Ev.step (fun m => by rw [pre, if_neg hc]) (ih (by omega))
      have := key _ (Nat.le_refl _)
      have e2 : cmpL (trimL (pv a)) (trimL (pv b)) = cmpT ((trimL (pv a)).take (trimL (pv a)).length).reverse ((trimL (pv b)).take (trimL (pv a)).length).reverse := by
        unfold cmpL
        rw [if_neg h1, if_neg h2, List.take_length, show (trimL (pv a)).length = (trimL (pv b)).length by omega, List.take_length]
      rw [e2]
      refine Ev.congr (fun m => ?_) this
      rw [trim_bind ha, trim_bind hb, take_len, take_len, if_neg (by rw [decide_eq_true_eq]; omega), if_neg (by rw [decide_eq_true_eq]; omega), i64w (by omega) (by omega)]
theorem Rn_unipoly_Same : Run_unipoly_Same := fun a b => Ok.gif_const fun ⟨ha, hb⟩ => by
  rw [T_unipoly_Same, F_unipoly_Compare, gif_bind ⟨ha, hb⟩]
  congr 1
  rw [Bool.eq_iff_iff, beq_iff_eq, decide_eq_true_eq]; exact cmpL_zero
end Go.W

set_option linter.unusedVariables false
set_option linter.unusedSimpArgs false
namespace Go.W

theorem one_PB : PB 1 [1] := fun c hc => by
  simp only [List.mem_cons, List.not_mem_nil, or_false] at hc
  subst hc; constructor <;> decide
theorem trim_of {l : List Int} (h : TL l) : trimL l = l := h
theorem Of_one {σ : Type} {K : NP → Option σ} : (F_unipoly_Of ([(1 : Int)] : List Int)).bind K = K (dp [1]) := by
  rw [F_unipoly_Of, gif_bind ⟨by simp, fun c hc => by simp only [List.mem_cons, List.not_mem_nil, or_false] at hc; omega⟩]
  rfl
def psOut (c : Int) (x : List Int × List Int × Int) : NP × NP × Int := if 0 < x.2.2 then (dp (scl (c ^ x.2.2.toNat) x.1), dp (scl (c ^ x.2.2.toNat) x.2.1), 0) else (dp x.1, dp x.2.1, 0)
def exOut : Option (List Int × List Int) → NP × Int
  | some (q, []) => (dp (trimL q), 0)
  | _ => ([], 3)
/-- the loop of a pseudo-division -/
theorem Pseudo_loop {s : Nat → NP → NP → NP → Int → Int → (Bool × List Int) → Option (NP × NP × Int)} (hs : ∀ m x1 x4 x5 x7 x9 x8, s (m + 1) x1 x4 x5 x7 x9 x8 = S_unidiv_Pseudo_25 (s m) x1 x4 x5 x7 x9 x8)
    {g : NP} (hg : PP g) {k : Nat} (hk : PB k (pv g)) (hg0 : trimL (pv g) ≠ []) : ∀ (n : Nat) (q r : List Int) (left : Int) (J : Nat), TL r → r.length < n → r.length ≤ 100 → q.length ≤ 100 → PB J r → PB J q →
      (r.length : Int) - (trimL (pv g)).length + 1 ≤ left → left ≤ 200 → -200 ≤ left → J + left.toNat * (k + 2) + (k + 4) ≤ 900000000000 →
      Ev (fun m => s m g (dp q) (dp r) (((trimL (pv g)).length : Int) - 1) left (di (lc (trimL (pv g)))))
        (psOut (lc (trimL (pv g))) (psL (trimL (pv g)) n q r left))
  | 0, q, r, left, J, hr, hn, _, _, _, _, _, _, _, _ => by omega
  | n + 1, q, r, left, J, hr, hn, hr1, hq1, pr, pq, hle, hl2, hl3, hJ => by
    have hlg := List.length_pos_iff.2 hg0
    have kg := hk.trim
    have er : trimL r = r := hr
    have ppr : PP (dp r) := PP.dp' (by omega) pr (by unfold KP; omega)
    by_cases h1 : (trimL (pv g)).length ≤ r.length
    · rw [show psL (trimL (pv g)) (n + 1) q r left = psL (trimL (pv g)) n (addL (scl (lc (trimL (pv g))) q) (shf (lc r) (r.length - (trimL (pv g)).length) [1])) (subL (scl (lc (trimL (pv g))) r) (shf (lc r) (r.length - (trimL (pv g)).length) (trimL (pv g)))) (left - 1) by simp only [psL]; rw [if_pos h1]]
      have hlen := ps_len (trimL_tl (pv g)) hg0 hr h1
      have eshf : shf (lc r) (r.length - (trimL (pv g)).length) (pv g) = shf (lc r) (r.length - (trimL (pv g)).length) (trimL (pv g)) := (shf_trim _ _ _).symm
      have b1 : PB (J + k) (scl (lc (trimL (pv g))) q) := PB.scl kg.lc pq (by omega)
      have b2 : PB (J + 1) (shf (lc r) (r.length - (trimL (pv g)).length) [1]) := PB.shf pr.lc one_PB (by omega)
      have b3 : PB (J + k) (scl (lc (trimL (pv g))) r) := PB.scl kg.lc pr (by omega)
      have b4 : PB (J + k) (shf (lc r) (r.length - (trimL (pv g)).length) (trimL (pv g))) := PB.shf pr.lc kg (by omega)
      have l1 := scl_len (lc (trimL (pv g))) q
      have l2 := shf_len (lc r) (r.length - (trimL (pv g)).length) [1]
      have l3 := scl_len (lc (trimL (pv g))) r
      have l4 := shf_len (lc r) (r.length - (trimL (pv g)).length) (trimL (pv g))
      have l5 := addL_len (scl (lc (trimL (pv g))) q) (shf (lc r) (r.length - (trimL (pv g)).length) [1])
      rw [List.length_singleton] at l2
      have hpos : 0 < left := by omega
      have hmul : left.toNat * (k + 2) = (left - 1).toNat * (k + 2) + (k + 2) := by
        have : left.toNat = (left - 1).toNat + 1 := by omega
        rw [this, Nat.add_mul, Nat.one_mul]
      have ih := Pseudo_loop hs hg hk hg0 n (addL (scl (lc (trimL (pv g))) q) (shf (lc r) (r.length - (trimL (pv g)).length) [1])) (subL (scl (lc (trimL (pv g))) r) (shf (lc r) (r.length - (trimL (pv g)).length) (trimL (pv g)))) (left - 1) (J + (k + 2)) (subL_TL _ _) (by omega) (by omega) (by omega) (b3.sub b4 (by omega)) (b1.add b2 (by omega)) (by omega) (by omega) (by omega) (by omega)
      refine Ev.step (fun m => ?_) ih
      have e2 : IntKind.wrap .i64 ((r.length : Int) - 1 - (((trimL (pv g)).length : Int) - 1)) = ((r.length - (trimL (pv g)).length : Nat) : Int) := by rw [i64w (by omega) (by omega)]; omega
      rw [hs]; unfold S_unidiv_Pseudo_25
      rw [Degree_bind ppr, pv_dp, er, if_pos (by rw [decide_eq_true_eq]; omega), Lead_bind ppr, pv_dp, er, Degree_bind ppr, pv_dp, er,
        Scale_bind (j := J) (k := k) (by omega) pq kg.lc (by unfold KP; omega), Of_one, e2,
        shifted_bind (j := 1) (k := J) (PP.dp' (by simp) one_PB (by unfold KP; omega)) (by rw [pv_dp]; exact one_PB) pr.lc (by unfold KP; omega) (by omega) (by omega), pv_dp, Int.toNat_natCast,
        Add_bind (j := J + k + 1) (by omega) (by omega) (b1.mono (by omega)) (b2.mono (by omega)) (by unfold KP; omega),
        Scale_bind (j := J) (k := k) (by omega) pr kg.lc (by unfold KP; omega),
        shifted_bind (j := k) (k := J) hg hk pr.lc (by unfold KP; omega) (by omega) (by omega), Int.toNat_natCast, eshf,
        Sub_bind (j := J + k) (by omega) (by omega) b3 b4 (by unfold KP; omega), i64w (by omega) (by omega)]
    · rw [show psL (trimL (pv g)) (n + 1) q r left = (q, r, left) by simp only [psL]; rw [if_neg h1]]
      refine Ev.step (t := fun _ => some _) (fun m => ?_) Ev.ret
      rw [hs]; unfold S_unidiv_Pseudo_25 psOut
      rw [Degree_bind ppr, pv_dp, er, if_neg (by rw [decide_eq_true_eq]; omega)]
      dsimp only
      by_cases h2 : 0 < left
      · have hkl : k * left.toNat ≤ left.toNat * (k + 2) := by rw [Nat.mul_comm]; exact Nat.mul_le_mul_left _ (by omega)
        have hpb := Bd.pow' kg.lc left.toNat
        have hci : (k : Int) * left = ((k * left.toNat : Nat) : Int) := by rw [Int.natCast_mul]; congr 1; omega
        rw [if_pos (decide_eq_true h2), if_pos h2, power_bind kg.lc (by omega) (by omega) (by rw [hci]; unfold KP; omega) (by unfold KP; omega),
          Scale_bind (j := J) (k := k * left.toNat + 1) (by omega) pq hpb (by unfold KP; omega), Scale_bind (j := J) (k := k * left.toNat + 1) (by omega) pr hpb (by unfold KP; omega)]
      · rw [if_neg (by rw [decide_eq_true_eq]; exact h2), if_neg h2]
theorem Rn_unidiv_Pseudo : Run_unidiv_Pseudo := fun s hs a b => Ok.gif fun ⟨ha, hb, la, lb, j, k, hj, hk, hjk⟩ => by
  simp only [T_unidiv_Pseudo]
  have ez : F_unidiv_zero b = some (decide (trimL (pv b) = [])) := gif_pos hb
  have l1 := trimL_len (pv a)
  have l2 := trimL_len (pv b)
  rw [pv_len] at l1 l2
  by_cases h0 : trimL (pv b) = []
  · rw [if_pos h0]
    refine Ev.congr (fun m => ?_) Ev.ret
    rw [ez, Option.bind_some, if_pos (decide_eq_true h0)]
  · rw [if_neg h0]
    have hp0 := List.length_pos_iff.2 h0
    have ppa : PP (dp (trimL (pv a))) := PP.dp (by omega) ha.2.2.trim
    have hm : ((((trimL (pv a)).length : Int) - (trimL (pv b)).length + 1).toNat) * (k + 2) + (k + 4) ≤ (a.length + 2) * (k + 4) := by
      have h1 : ((((trimL (pv a)).length : Int) - (trimL (pv b)).length + 1).toNat) * (k + 2) ≤ (a.length + 1) * (k + 4) := Nat.mul_le_mul (by omega) (by omega)
      have h2 : (a.length + 2) * (k + 4) = (a.length + 1) * (k + 4) + (k + 4) := by rw [Nat.add_mul (a.length + 1) 1, Nat.one_mul]
      omega
    have := Pseudo_loop hs hb hk h0 ((trimL (pv a)).length + 1) [] (trimL (pv a)) (((trimL (pv a)).length : Int) - (trimL (pv b)).length + 1) j (trimL_tl _) (by omega) (by omega) (by simp) hj.trim (.nil _) (by omega) (by omega) (by omega) (by omega)
    have e : psOut (lc (trimL (pv b))) (psL (trimL (pv b)) ((trimL (pv a)).length + 1) [] (trimL (pv a)) (((trimL (pv a)).length : Int) - (trimL (pv b)).length + 1)) = (dp (pseudo (trimL (pv a)) (trimL (pv b))).1, dp (pseudo (trimL (pv a)) (trimL (pv b))).2, 0) := by
      unfold pseudo psOut
      generalize psL (trimL (pv b)) ((trimL (pv a)).length + 1) [] (trimL (pv a)) (((trimL (pv a)).length : Int) - (trimL (pv b)).length + 1) = x
      obtain ⟨q, r, left⟩ := x
      dsimp only
      split <;> rfl
    rw [e] at this
    refine Ev.congr (fun m => ?_) this
    rw [ez, Option.bind_some, if_neg (by rw [decide_eq_true_eq]; exact h0), Normal_bind ha, Degree_bind hb, Lead_bind hb, Degree_bind ppa, pv_dp, trimL_idem, i64w (n := ((trimL (pv a)).length : Int) - 1 - (((trimL (pv b)).length : Int) - 1)) (by omega) (by omega), i64w (by omega) (by omega)]
    congr 1
    omega
theorem Pseudo_bind {σ : Type} {a b : List Int} (ta : TL a) (tb : TL b) (b0 : b ≠ []) (la : a.length ≤ 100) (lb : b.length ≤ 100) {j k : Nat} (hj : PB j a) (hk : PB k b) (h : j + (a.length + 2) * (k + 4) ≤ 900000000000) (hjK : j ≤ KP) (hkK : k ≤ KP) {K : NP × NP × Int → Option σ} :
    (F_unidiv_Pseudo (dp a) (dp b)).bind K = K (dp (pseudo a b).1, dp (pseudo a b).2, 0) := by
  rw [F_unidiv_Pseudo, gif_bind ⟨PP.dp' (by omega) hj hjK, PP.dp' (by omega) hk hkK, by rw [dp_len]; exact la, by rw [dp_len]; exact lb, j, k, by rw [pv_dp]; exact hj, by rw [pv_dp]; exact hk, by rw [dp_len]; exact h⟩, pv_dp, pv_dp, trim_of ta, trim_of tb, if_neg b0]
/-- the loop of an exact division -/
theorem Exact_loop {s : Nat → NP → NP → Int → (Bool × List Int) → NP → Option (NP × Int)} (hs : ∀ m x1 x6 x7 x8 x9, s (m + 1) x1 x6 x7 x8 x9 = S_unidiv_Exact_25 (s m) x1 x6 x7 x8 x9)
    {g : NP} (hg : PP g) {k : Nat} (hk : PB k (pv g)) (hg0 : trimL (pv g) ≠ []) : ∀ (n : Nat) (q r : List Int) (J Q : Nat), TL r → r.length < n → r.length ≤ 100 → q.length ≤ 101 → r.length + 1 - (trimL (pv g)).length ≤ q.length → PB J r → PB Q q → Q ≤ 900000000000 →
      J + r.length * (k + 2) + (k + 4) ≤ 900000000000 →
      Ev (fun m => s m g (dp r) (((trimL (pv g)).length : Int) - 1) (di (lc (trimL (pv g)))) (dp q))
        (exOut (exL (trimL (pv g)) n q r))
  | 0, q, r, J, Q, hr, hn, _, _, _, _, _, _, _ => by omega
  | n + 1, q, r, J, Q, hr, hn, hr1, hq1, hqr, pr, pq, hQ, hJ => by
    have hlg := List.length_pos_iff.2 hg0
    have kg := hk.trim
    have er : trimL r = r := hr
    have ppr : PP (dp r) := PP.dp' (by omega) pr (by unfold KP; omega)
    simp only [exL]
    by_cases h1 : (trimL (pv g)).length ≤ r.length
    · rw [if_pos h1]
      have hlg0 := lc_ne (trimL_tl (pv g)) hg0
      have e2 : IntKind.wrap .i64 ((r.length : Int) - 1 - (((trimL (pv g)).length : Int) - 1)) = ((r.length - (trimL (pv g)).length : Nat) : Int) := by rw [i64w (by omega) (by omega)]; omega
      have ex : F_division_Exact (di (lc r)) (di (lc (trimL (pv g)))) = some (if Int.tmod (lc r) (lc (trimL (pv g))) = 0 then (di (Int.tdiv (lc r) (lc (trimL (pv g)))), 0) else ((false, []), 3)) := by
        rw [F_division_Exact, gif_pos ⟨II.di pr.lc (by omega), II.di kg.lc (by omega)⟩, iv_di, iv_di, if_neg hlg0]
      by_cases h2 : Int.tmod (lc r) (lc (trimL (pv g))) = 0
      · rw [if_pos h2]
        obtain ⟨c, hc⟩ : ∃ c, Int.tdiv (lc r) (lc (trimL (pv g))) = c := ⟨_, rfl⟩
        rw [hc]
        have hcb : Bd J (ab c) := by
          rw [← hc]
          refine pr.lc.le (ab_nonneg _) ?_
          rw [ab_eq, ab_eq]
          have := Int.natAbs_tdiv_le_natAbs (lc r) (lc (trimL (pv g)))
          omega
        have b4 : PB (J + k) (shf c (r.length - (trimL (pv g)).length) (trimL (pv g))) := PB.shf hcb kg (by omega)
        have l4 := shf_len c (r.length - (trimL (pv g)).length) (trimL (pv g))
        have eshf : shf c (r.length - (trimL (pv g)).length) (pv g) = shf c (r.length - (trimL (pv g)).length) (trimL (pv g)) := (shf_trim _ _ _).symm
        have hlen : (subL r (shf c (r.length - (trimL (pv g)).length) (trimL (pv g)))).length ≤ r.length - 1 := len_le_of (subL_TL _ _) fun i hi => by
          rw [subL_get, shf_get, if_neg (by omega)]
          by_cases h5 : i = r.length - 1
          · subst h5
            rw [show r.length - 1 - (r.length - (trimL (pv g)).length) = (trimL (pv g)).length - 1 by omega]
            show lc r - c * lc (trimL (pv g)) = 0
            rw [← hc, Int.tdiv_mul_cancel (Int.dvd_of_tmod_eq_zero h2)]; omega
          · rw [getD_out (l := r) (by omega), getD_out (l := trimL (pv g)) (by omega)]; simp
        have pq' : PB (max Q J) (q.set (r.length - (trimL (pv g)).length) c) := fun x hx => by
          rcases List.mem_or_eq_of_mem_set hx with h | h
          · exact (pq x h).mono (by omega)
          · rw [h]; exact hcb.mono (by omega)
        have hmul : r.length * (k + 2) = (r.length - 1) * (k + 2) + (k + 2) := by
          have : r.length = (r.length - 1) + 1 := by omega
          conv => lhs; rw [this, Nat.add_mul, Nat.one_mul]
        have hmul2 : (subL r (shf c (r.length - (trimL (pv g)).length) (trimL (pv g)))).length * (k + 2) ≤ (r.length - 1) * (k + 2) := Nat.mul_le_mul_right _ hlen
        have ih := Exact_loop hs hg hk hg0 n (q.set (r.length - (trimL (pv g)).length) c) (subL r (shf c (r.length - (trimL (pv g)).length) (trimL (pv g)))) (J + (k + 2)) (max Q J) (subL_TL _ _) (by omega) (by omega) (by simpa using hq1) (by simp; omega) (pr.sub b4 (by omega)) pq' (by omega) (by omega)
        refine Ev.step (fun m => ?_) ih
        rw [hs]; unfold S_unidiv_Exact_25
        rw [Degree_bind ppr, pv_dp, er, if_pos (by rw [decide_eq_true_eq]; omega), Degree_bind ppr, pv_dp, er, Lead_bind ppr, pv_dp, er, ex, Option.bind_some, if_pos h2, hc]
        dsimp only
        rw [if_neg (by decide), e2, if_pos (by rw [dp_len]; omega), shifted_bind (j := k) (k := J) hg hk hcb (by unfold KP; omega) (by omega) (by omega), Int.toNat_natCast, eshf,
          Sub_bind (j := J + k) (by omega) (by omega) (pr.mono (by omega)) b4 (by unfold KP; omega)]
        congr 1
        unfold dp; rw [List.map_set]
      · rw [if_neg h2]
        refine Ev.step (t := fun _ => some _) (fun m => ?_) Ev.ret
        rw [hs]; unfold S_unidiv_Exact_25
        rw [Degree_bind ppr, pv_dp, er, if_pos (by rw [decide_eq_true_eq]; omega), Degree_bind ppr, pv_dp, er, Lead_bind ppr, pv_dp, er, ex, Option.bind_some, if_neg h2]
        rfl
    · rw [if_neg h1]
      have ez : F_unidiv_zero (dp r) = some (decide (r = [])) := by rw [F_unidiv_zero, gif_pos ppr, pv_dp, er]
      refine Ev.step (t := fun _ => some _) (fun m => ?_) Ev.ret
      rw [hs]; unfold S_unidiv_Exact_25
      rw [Degree_bind ppr, pv_dp, er, if_neg (by rw [decide_eq_true_eq]; omega), ez, Option.bind_some]
      cases r with
      | nil =>
        rw [if_neg (by simp), Normal_bind (PP.dp' (by omega) pq (by unfold KP; omega)), pv_dp]; rfl
      | cons c r => rw [if_pos (by simp)]; rfl
theorem Rn_unidiv_Exact : Run_unidiv_Exact := fun s hs a b => Ok.gif fun ⟨ha, hb, la, lb, j, k, hj, hk, hjk⟩ => by
  simp only [T_unidiv_Exact]
  have ez : F_unidiv_zero b = some (decide (trimL (pv b) = [])) := gif_pos hb
  have l1 := trimL_len (pv a)
  have l2 := trimL_len (pv b)
  rw [pv_len] at l1 l2
  by_cases h0 : trimL (pv b) = []
  · rw [if_pos h0]
    refine Ev.congr (fun m => ?_) Ev.ret
    rw [ez, Option.bind_some, if_pos (decide_eq_true h0)]
  · rw [if_neg h0]
    have hp0 := List.length_pos_iff.2 h0
    have hm : (trimL (pv a)).length * (k + 2) + (k + 4) ≤ (a.length + 2) * (k + 4) := by
      have h1 : (trimL (pv a)).length * (k + 2) ≤ (a.length + 1) * (k + 4) := Nat.mul_le_mul (by omega) (by omega)
      have h2 : (a.length + 2) * (k + 4) = (a.length + 1) * (k + 4) + (k + 4) := by rw [Nat.add_mul (a.length + 1) 1, Nat.one_mul]
      omega
    have := Exact_loop hs hb hk h0 ((trimL (pv a)).length + 1) (List.replicate ((trimL (pv a)).length + 1 - (trimL (pv b)).length) 0) (trimL (pv a)) j 0 (trimL_tl _) (by omega) (by omega) (by simp; omega) (by simp) hj.trim (fun c hc => by rw [List.eq_of_mem_replicate hc]; exact Bd.zero 0) (by omega) (by omega)
    have e : exOut (exL (trimL (pv b)) ((trimL (pv a)).length + 1) (List.replicate ((trimL (pv a)).length + 1 - (trimL (pv b)).length) 0) (trimL (pv a))) = (match exact (trimL (pv a)) (trimL (pv b)) with
          | some q => (dp q, 0)
          | none => ([], 3)) := by
      unfold exact
      cases exL (trimL (pv b)) ((trimL (pv a)).length + 1) (List.replicate ((trimL (pv a)).length + 1 - (trimL (pv b)).length) 0) (trimL (pv a)) with
      | none => rfl
      | some x =>
        obtain ⟨q, r⟩ := x
        cases r <;> rfl
    rw [e] at this
    refine Ev.congr (fun m => ?_) this
    rw [ez, Option.bind_some, if_neg (by rw [decide_eq_true_eq]; exact h0), Normal_bind ha, Degree_bind hb, Lead_bind hb, dp_len]
    have e1 : (if (0 : Int) > (IntKind.wrap .i64 (((trimL (pv a)).length : Int) - (((trimL (pv b)).length : Int) - 1))) then (0 : Int) else (IntKind.wrap .i64 (((trimL (pv a)).length : Int) - (((trimL (pv b)).length : Int) - 1)))) = (((trimL (pv a)).length + 1 - (trimL (pv b)).length : Nat) : Int) := by
      rw [i64w (by omega) (by omega)]
      split <;> omega
    simp only [e1]
    rw [if_pos (by omega), rep_len]
    congr 1
    unfold dp; rw [List.map_replicate, ← zI_di]
theorem Rn_sturm_reduced : Run_sturm_reduced := fun s hs a => Ok.gif fun h => by
  have hl := h.1
  have hc : F_unidiv_Content a = some (di (gcdL (pv a))) := gif_pos h
  have hg := gcdL_Bd h.2.2
  have hgn := gcdL_nonneg (pv a)
  have hgb : Bd KP (ab (gcdL (pv a))) := by rw [ab_pos hgn]; exact hg
  have hII : II (di (gcdL (pv a))) := II.di hgb (by unfold KP; omega)
  have es : F_integer_Sign (di (gcdL (pv a))) = some (sg (gcdL (pv a))) := by rw [F_integer_Sign, gif_pos hII, iv_di]
  simp only [T_sturm_reduced]
  by_cases h0 : gcdL (pv a) = 0
  · have e : redL (pv a) = [] := redL_nil.2 (trimL_nil.2 (gcdL_zero.1 h0))
    rw [e]
    refine Ev.congr (t := fun _ => some (dp [])) (fun m => ?_) Ev.ret
    rw [hc, Option.bind_some, es, Option.bind_some, if_pos (by rw [h0]; rfl)]; rfl
  · have hb : PB KP ((List.range a.length).map fun i => Int.tdiv ((pv a).getD i 0) (gcdL (pv a))) := fun c hc => by
      obtain ⟨i, hi, rfl⟩ := List.mem_map.1 hc
      have := (redL_PB h.2.2).get i
      rw [redL_get] at this; exact this
    have := fill_loop (n := a.length) (fun i => di (Int.tdiv ((pv a).getD i 0) (gcdL (pv a)))) (false, ([] : List Int)) (fun m i out => s m a (a.length : Int) (i : Int) (di (gcdL (pv a))) out) (dp (redL (pv a))) (fun m i out hi ho => by
      rw [hs]; unfold S_sturm_reduced_25
      rw [if_pos (by rw [decide_eq_true_eq]; omega), if_pos (by omega), Int.toNat_natCast, F_division_Exact, gif_bind ⟨h.ii i, hII⟩, iv_di, if_neg h0, pv_get, if_pos (Int.tmod_eq_zero_of_dvd (gcdL_get _ _)), if_pos (by omega), wrap_succ (by omega)]) (by
      rw [range_dp]
      refine Ev.step (t := fun _ => some _) (fun m => ?_) Ev.ret
      rw [hs]; unfold S_sturm_reduced_25
      rw [if_neg (by simp), Normal_bind (PP.dp (by simp; omega) hb), pv_dp]
      congr 2
      refine (trimL_tl _).ext (redL_TL _) fun i => ?_
      rw [trimL_get, redL_get]
      by_cases hi : i < a.length
      · rw [getD_in (by simpa using hi)]; simp
      · rw [getD_out (by simp; omega), getD_out (l := pv a) (by rw [pv_len]; omega), Int.zero_tdiv])
    refine Ev.congr (fun m => ?_) this
    rw [hc, Option.bind_some, es, Option.bind_some, if_neg (by rw [beq_iff_eq]; unfold sg; (repeat' split) <;> omega), if_pos (by omega), rep_len]; rfl
theorem reduced_bind {σ : Type} {a : List Int} (la : a.length ≤ 1000) {j : Nat} (ha : PB j a) (hj : j ≤ KP) {K : NP → Option σ} : (F_sturm_reduced (dp a)).bind K = K (dp (redL a)) := by
  rw [F_sturm_reduced, gif_bind (PP.dp' la ha hj), pv_dp]
theorem nrm_if {a b : List Int} : nrm a b = if lc b < 0 then (if Int.tmod (if (0 : Int) > ((a.length : Int) - b.length + 1) then 0 else ((a.length : Int) - b.length + 1)) 2 = 1 then redL (pseudo a b).2 else subL [] (redL (pseudo a b).2)) else subL [] (redL (pseudo a b).2) := by
  unfold nrm
  by_cases h1 : lc b < 0
  · rw [if_pos h1]
    by_cases h2 : (0 : Int) > ((a.length : Int) - b.length + 1)
    · rw [if_pos h2, if_neg (by omega), if_neg (by decide)]
    · rw [if_neg h2]
      by_cases h3 : Int.tmod ((a.length : Int) - b.length + 1) 2 = 1
      · rw [if_pos ⟨h1, by omega, h3⟩, if_pos h3]
      · rw [if_neg (fun h => h3 h.2.2), if_neg h3]
  · rw [if_neg (fun h => h1 h.1), if_neg h1]
theorem Rn_sturm_negRemainder : Run_sturm_negRemainder := fun a b => Ok.gif_const fun ⟨ha, hb, ⟨la, lb, j, k, hj, hk, hjk⟩, h0⟩ => by
  have l1 := trimL_len (pv a)
  have l2 := trimL_len (pv b)
  rw [pv_len] at l1 l2
  have hp0 := List.length_pos_iff.2 h0
  have hpb := (pseudo_PB (trimL_tl (pv a)) (trimL_tl (pv b)) h0 hj.trim hk.trim).1
  have hpl := pseudo_len (trimL_tl (pv a)) (trimL_tl (pv b)) h0
  have hbd : j + (((trimL (pv a)).length : Int) - (trimL (pv b)).length + 1).toNat * (k + 2) + 1 + 1 ≤ KP := by
    have h1 : ((((trimL (pv a)).length : Int) - (trimL (pv b)).length + 1).toNat) * (k + 2) ≤ (a.length + 2) * (k + 4) := Nat.mul_le_mul (by omega) (by omega)
    unfold KP; omega
  have hrb := redL_PB hpb
  have hrl := redL_len (pseudo (trimL (pv a)) (trimL (pv b))).2
  have hrl2 := trimL_len (pseudo (trimL (pv a)) (trimL (pv b))).2
  have e1 : IntKind.wrap .i64 (IntKind.wrap .i64 (((trimL (pv a)).length : Int) - 1 - (((trimL (pv b)).length : Int) - 1)) + 1) = ((trimL (pv a)).length : Int) - (trimL (pv b)).length + 1 := by
    rw [i64w (n := ((trimL (pv a)).length : Int) - 1 - (((trimL (pv b)).length : Int) - 1)) (by omega) (by omega), i64w (by omega) (by omega)]; omega
  rw [T_sturm_negRemainder, F_unidiv_Pseudo, gif_bind ⟨ha, hb, la, lb, j, k, hj, hk, hjk⟩, if_neg h0, Degree_bind ha, Degree_bind hb, Lead_bind hb, F_integer_Sign, gif_bind (II.di (hb.2.2.trim).lc (by unfold KP; omega)), iv_di, nrm_if]
  simp only [e1]
  have er : ∀ {σ : Type} {K : NP → Option σ}, (F_sturm_reduced (dp (pseudo (trimL (pv a)) (trimL (pv b))).2)).bind K = K (dp (redL (pseudo (trimL (pv a)) (trimL (pv b))).2)) := reduced_bind (by omega) hpb (by omega)
  have en : ∀ {σ : Type} {K : NP → Option σ}, (F_unipoly_Neg (dp (redL (pseudo (trimL (pv a)) (trimL (pv b))).2))).bind K = K (dp (subL [] (redL (pseudo (trimL (pv a)) (trimL (pv b))).2))) := Neg_bind (by omega) hrb (by omega)
  by_cases h1 : lc (trimL (pv b)) < 0
  · rw [if_pos (by rw [decide_eq_true_eq]; unfold sg; rw [if_pos h1]; decide), if_pos h1, if_neg (by decide)]
    by_cases h3 : Int.tmod (if (0 : Int) > (((trimL (pv a)).length : Int) - (trimL (pv b)).length + 1) then 0 else (((trimL (pv a)).length : Int) - (trimL (pv b)).length + 1)) 2 = 1
    · rw [if_pos (by rw [beq_iff_eq]; exact h3), if_pos h3, er]
    · rw [if_neg (by rw [beq_iff_eq]; exact h3), if_neg h3, er, en]
  · rw [if_neg (by rw [decide_eq_true_eq]; unfold sg; (repeat' split) <;> omega), if_neg h1, er, en]
theorem negR_bind {σ : Type} {a b : List Int} (ta : TL a) (tb : TL b) (b0 : b ≠ []) (la : a.length ≤ 100) (lb : b.length ≤ 100) {j k : Nat} (hj : PB j a) (hk : PB k b) (h : j + (a.length + 2) * (k + 4) ≤ 900000000000) (hjK : j ≤ KP) (hkK : k ≤ KP) {K : NP → Option σ} :
    (F_sturm_negRemainder (dp a) (dp b)).bind K = K (dp (nrm a b)) := by
  rw [F_sturm_negRemainder, gif_bind ⟨PP.dp' (by omega) hj hjK, PP.dp' (by omega) hk hkK, ⟨by rw [dp_len]; exact la, by rw [dp_len]; exact lb, j, k, by rw [pv_dp]; exact hj, by rw [pv_dp]; exact hk, by rw [dp_len]; exact h⟩, by rw [pv_dp, trim_of tb]; exact b0⟩, pv_dp, pv_dp, trim_of ta, trim_of tb]
end Go.W

set_option linter.unusedVariables false
set_option linter.unusedSimpArgs false
namespace Go.W

theorem SP.pp {f : NP} (h : SP f) : PP f := ⟨by have := h.1; omega, h.2.1, h.2.2.mono (by unfold KP; omega)⟩
theorem chF_nil (n : Nat) (a : List Int) : chF n a [] = [a] := by cases n <;> rfl
theorem chF_cons (n : Nat) (a : List Int) {b : List Int} (h : b ≠ []) : chF (n + 1) a b = a :: chF n b (nrm a b) := by simp only [chF]; rw [if_neg h]
theorem Chain_loop {s : Nat → NP → NP → List NP → Option (List NP)} (hs : ∀ m x5 x6 x7, s (m + 1) x5 x6 x7 = S_sturm_Chain_21 (s m) x5 x6 x7) :
    ∀ (n : Nat) (a b : List Int) (K : Nat) (out : List NP), CS XC a b K → b.length < n → out.length + n ≤ 100 → Ev (fun m => s m (dp a) (dp b) (out ++ [dp a])) (out ++ (chF n a b).map dp)
  | 0, a, b, K, out, h, hb, _ => by omega
  | n + 1, a, b, K, out, h, hb, ho => by
    have hK := h.db
    have hla := h.la
    have hlt := h.lt
    by_cases h0 : b = []
    · subst h0
      rw [chF_nil]
      refine Ev.step (t := fun _ => some _) (fun m => ?_) Ev.ret
      rw [hs]; unfold S_sturm_Chain_21
      rw [if_neg (by simp [dp])]; rfl
    · obtain ⟨K', h', _⟩ := h.next h0
      have hl := nrm_len h.ta h.tb h0
      have hb0 := List.length_pos_iff.2 h0
      rw [chF_cons n a h0]
      have ih := Chain_loop hs n b (nrm a b) K' (out ++ [dp a]) h' (by omega) (by simp; omega)
      have hm : (a.length + 2) * (K + 4) ≤ 16 * (K + 4) := Nat.mul_le_mul_right _ (by omega)
      have e : (out ++ [dp a]) ++ List.map dp (chF n b (nrm a b)) = out ++ List.map dp (a :: chF n b (nrm a b)) := by simp
      rw [e] at ih
      refine Ev.step (fun m => ?_) ih
      rw [hs]; unfold S_sturm_Chain_21
      rw [if_pos (by rw [decide_eq_true_eq, dp_len]; omega), if_pos (by simp; omega), negR_bind h.ta h.tb h0 (by omega) (by omega) h.pa h.pb (by omega) (by omega) (by omega)]
theorem Rn_sturm_Chain : Run_sturm_Chain := fun s hs f g => Ok.gif fun ⟨hf, hg⟩ => by
  have pf := hf.pp
  have pg := hg.pp
  have hlf := hf.1
  have hlg := hg.1
  have ef : F_sturm_reduced f = some (dp (redL (pv f))) := gif_pos pf
  have eg : F_sturm_reduced g = some (dp (redL (pv g))) := gif_pos pg
  have l1 := trimL_len (pv f)
  have l2 := trimL_len (pv g)
  rw [pv_len] at l1 l2
  have l3 := redL_len (pv f)
  have l4 := redL_len (pv g)
  simp only [T_sturm_Chain]
  unfold chL
  by_cases h0 : redL (pv f) = []
  · rw [if_pos h0]
    refine Ev.congr (fun m => ?_) Ev.ret
    rw [ef, Option.bind_some, eg, Option.bind_some, if_pos (by rw [h0]; rfl)]; rfl
  · rw [if_neg h0]
    have hp0 := List.length_pos_iff.2 h0
    have start : Ev (fun m => s m (dp (redL (pv f))) (dp (redL (pv g))) [dp (redL (pv f))]) ((chF 100 (redL (pv f)) (redL (pv g))).map dp) := by
      by_cases h1 : redL (pv g) = []
      · rw [h1, chF_nil]
        refine Ev.step (t := fun _ => some _) (fun m => ?_) Ev.ret
        rw [hs]; unfold S_sturm_Chain_21
        rw [if_neg (by simp [dp])]; rfl
      · have hp1 := List.length_pos_iff.2 h1
        obtain ⟨K, hC, _⟩ := CS.first (redL_TL (pv f)) (redL_TL (pv g)) h1 (by omega) (by omega) (redL_PB hf.2.2) (redL_PB hg.2.2)
        have hl := nrm_len (redL_TL (pv f)) (redL_TL (pv g)) h1
        rw [chF_cons 99 _ h1]
        have := Chain_loop hs 99 (redL (pv g)) (nrm (redL (pv f)) (redL (pv g))) K [dp (redL (pv f))] hC (by omega) (by simp)
        have hm : ((redL (pv f)).length + 2) * (100 + 4) ≤ 16 * 104 := Nat.mul_le_mul_right _ (by omega)
        refine Ev.step (fun m => ?_) this
        rw [hs]; unfold S_sturm_Chain_21
        rw [if_pos (by rw [decide_eq_true_eq, dp_len]; omega), if_pos (by simp), negR_bind (redL_TL _) (redL_TL _) h1 (by omega) (by omega) (redL_PB hf.2.2) (redL_PB hg.2.2) (by omega) (by unfold KP; omega) (by unfold KP; omega)]
    refine Ev.congr (fun m => ?_) start
    rw [ef, Option.bind_some, eg, Option.bind_some, if_neg (by rw [dp_len, beq_iff_eq]; omega)]
theorem derL_PB {k : Nat} {l : List Int} (h : PB k l) (hl : l.length ≤ 1024) : PB (k + 10) (derL l) := .of fun i => by
  rw [derL_get]
  by_cases hi : i + 1 < l.length
  · exact (h.get (i + 1)).ab_mul (z := ((i + 1 : Nat) : Int)) (k := 10) (by rw [ab_pos (by omega)]; constructor <;> omega)
  · rw [getD_out (by omega), Int.zero_mul]; exact Bd.zero _
theorem derL_len (l : List Int) : (derL l).length = l.length - 1 := by simp [derL]
theorem SP.dp {k : Nat} {l : List Int} (hl : l.length ≤ 14) (h : PB k l) (hk : k ≤ 100) : SP (Go.W.dp l) :=
  ⟨by rw [dp_len]; exact hl, (PP.dp' (by omega) h (by unfold KP; omega)).2.1, by rw [pv_dp]; exact h.mono hk⟩
theorem Rn_sturm_Of : Run_sturm_Of := fun f => Ok.gif_const fun ⟨hf, hb⟩ => by
  have hl := hf.1
  have l1 := trimL_len (pv f)
  rw [pv_len] at l1
  rw [T_sturm_Of, F_unipoly_Derivative, gif_bind ⟨hf.pp, hb.mono (by omega)⟩, F_sturm_Chain, gif_bind ⟨hf, SP.dp (by rw [derL_len]; omega) (derL_PB hb.trim (by omega)) (by omega)⟩, pv_dp]
theorem chF_bd {X : Nat} : ∀ (n : Nat) (a b : List Int) (K : Nat), CS X a b K → ∀ f ∈ chF n a b, f.length ≤ 14 ∧ PB X f ∧ TL f
  | 0, a, b, K, h, f, hf => by
    simp only [chF, List.mem_cons, List.not_mem_nil, or_false] at hf
    subst hf
    exact ⟨h.la, h.pa.mono (by have := h.K; omega), h.ta⟩
  | n + 1, a, b, K, h, f, hf => by
    by_cases h0 : b = []
    · subst h0
      rw [chF_nil] at hf
      simp only [List.mem_cons, List.not_mem_nil, or_false] at hf
      subst hf
      exact ⟨h.la, h.pa.mono (by have := h.K; omega), h.ta⟩
    · rw [chF_cons n a h0] at hf
      rcases List.mem_cons.1 hf with rfl | hf
      · exact ⟨h.la, h.pa.mono (by have := h.K; omega), h.ta⟩
      · obtain ⟨K', h', _⟩ := h.next h0
        exact chF_bd n _ _ K' h' f hf
theorem chL_bd {f g : List Int} (lf : f.length ≤ 14) (lg : g.length ≤ 14) (pf : PB 100 f) (pg : PB 100 g) : ∀ h ∈ chL f g, h.length ≤ 14 ∧ PB XC h ∧ TL h := by
  intro h hh
  unfold chL at hh
  have l1 := trimL_len f
  have l2 := trimL_len g
  have l3 := redL_len f
  have l4 := redL_len g
  by_cases h0 : redL f = []
  · rw [if_pos h0] at hh; cases hh
  · rw [if_neg h0] at hh
    have first : (redL f).length ≤ 14 ∧ PB XC (redL f) ∧ TL (redL f) := ⟨by omega, (redL_PB pf).mono (by unfold XC; omega), redL_TL _⟩
    by_cases h1 : redL g = []
    · rw [h1, chF_nil] at hh
      simp only [List.mem_cons, List.not_mem_nil, or_false] at hh
      subst hh; exact first
    · rw [chF_cons 99 _ h1] at hh
      rcases List.mem_cons.1 hh with rfl | hh
      · exact first
      · obtain ⟨K, hC, _⟩ := CS.first (redL_TL f) (redL_TL g) h1 (by omega) (by omega) (redL_PB pf) (redL_PB pg)
        exact chF_bd 99 _ _ K hC h hh
theorem chF_len : ∀ (n : Nat) (a b : List Int), (chF n a b).length ≤ n + 1
  | 0, a, b => by simp [chF]
  | n + 1, a, b => by
    simp only [chF]
    split
    · simp
    · have := chF_len n b (nrm a b); simp; omega
theorem chL_len (f g : List Int) : (chL f g).length ≤ 101 := by
  unfold chL; split
  · simp
  · exact chF_len _ _ _
/-! ### sign changes -/
theorem chg_bd : ∀ (l : List Int) (x : Int), 0 ≤ chg x l ∧ chg x l ≤ l.length
  | [], x => by simp [chg]
  | s :: l, x => by
    simp only [chg]
    have := chg_bd l (if s ≠ 0 then s else x)
    simp only [List.length_cons]
    split <;> omega
theorem i64_small {a b : Int} (ha : -1 ≤ a ∧ a ≤ 1) (hb : -1 ≤ b ∧ b ≤ 1) : IntKind.wrap .i64 (a * b) = a * b := by
  have : a = -1 ∨ a = 0 ∨ a = 1 := by omega
  rcases this with rfl | rfl | rfl
  · rw [i64w] <;> omega
  · rw [i64w] <;> omega
  · rw [i64w] <;> omega
theorem Rn_sturm_changes : Run_sturm_changes := fun s hs l => Ok.gif fun ⟨hl, hb⟩ => by
  have key : ∀ (k i : Nat) (n last : Int), i + k = l.length → 0 ≤ n → n ≤ i → -1 ≤ last ∧ last ≤ 1 → Ev (fun m => s m n last l (l.length : Int) (i : Int)) (n + chg last (l.drop i)) := by
    intro k
    induction k with
    | zero =>
      intro i n last hi h0 hn hla
      refine Ev.step (t := fun _ => some _) (fun m => ?_) Ev.ret
      rw [hs]; unfold S_sturm_changes_13
      rw [if_neg (by rw [decide_eq_true_eq]; omega), List.drop_of_length_le (by omega)]
      simp [chg]
    | succ k ih =>
      intro i n last hi h0 hn hla
      have hil : i < l.length := by omega
      have hx := hb _ (List.getElem_mem hil)
      rw [List.drop_eq_getElem_cons hil]
      simp only [chg]
      have e := getD_in hil
      have pre : ∀ m, s (m + 1) n last l (l.length : Int) (i : Int) = s m (if l[i] * last < 0 then n + 1 else n) (if l[i] ≠ 0 then l[i] else last) l (l.length : Int) ((i + 1 : Nat) : Int) := fun m => by
        rw [hs]; unfold S_sturm_changes_13
        rw [if_pos (by rw [decide_eq_true_eq]; omega), if_pos (by omega), Int.toNat_natCast]
        simp only [e]
        rw [i64_small hx hla, wrap_succ (by omega), i64w (n := n + 1) (by omega) (by omega)]
        by_cases h1 : l[i] * last < 0
        · rw [if_pos (decide_eq_true h1), if_pos h1]
          by_cases h2 : l[i] ≠ 0
          · rw [if_pos (by rw [bne_iff_ne]; exact h2), if_pos h2]
          · rw [if_neg (by rw [bne_iff_ne]; exact h2), if_neg h2]
        · rw [if_neg (by rw [decide_eq_true_eq]; exact h1), if_neg h1]
          by_cases h2 : l[i] ≠ 0
          · rw [if_pos (by rw [bne_iff_ne]; exact h2), if_pos h2]
          · rw [if_neg (by rw [bne_iff_ne]; exact h2), if_neg h2]
      have := ih (i + 1) (if l[i] * last < 0 then n + 1 else n) (if l[i] ≠ 0 then l[i] else last) (by omega) (by split <;> omega) (by split <;> omega) (by split <;> assumption)
      have e3 : n + ((if l[i] * last < 0 then 1 else 0) + chg (if l[i] ≠ 0 then l[i] else last) (l.drop (i + 1))) = (if l[i] * last < 0 then n + 1 else n) + chg (if l[i] ≠ 0 then l[i] else last) (l.drop (i + 1)) := by split <;> omega
      rw [e3]
      exact Ev.step pre this
  have := key l.length 0 0 0 (by omega) (by omega) (by omega) (by omega)
  rw [List.drop_zero, Int.zero_add] at this
  simp only [T_sturm_changes]
  exact this
theorem sgE_range (l : List Int) (b : Bool) : -1 ≤ sgE l b ∧ sgE l b ≤ 1 := by
  unfold sgE
  have := sg_range (lc l)
  split <;> omega
theorem map_range_get {α β : Type} (l : List α) (z : α) (f : α → β) : (List.range l.length).map (fun i => f (l.getD i z)) = l.map f := by
  apply List.ext_getElem (by simp)
  intro i h1 h2
  simp at h1 h2
  simp [List.getD, h2]
theorem getD_mem' {α : Type} {l : List α} {i : Nat} {z : α} (h : i < l.length) : l.getD i z ∈ l := by
  simp [List.getD, List.getElem?_eq_getElem h]
theorem Rn_sturm_VariationsEnd : Run_sturm_VariationsEnd := fun s hs ch mi => Ok.gif fun ⟨hl, hp⟩ => by
  have := fill_loop (n := ch.length) (fun i => sgE (trimL (pv (ch.getD i []))) mi) (0 : Int) (fun m i out => s m mi ch (ch.length : Int) (i : Int) out) (vE (ch.map fun f => trimL (pv f)) mi) (fun m i out hi ho => by
    rw [hs]; unfold S_sturm_VariationsEnd_13
    rw [if_pos (by rw [decide_eq_true_eq]; omega), if_pos (by omega), Int.toNat_natCast, F_unipoly_SignEnd, gif_bind (hp _ (getD_mem' hi)), if_pos (by omega), wrap_succ (by omega)]) (by
    have e : (List.range ch.length).map (fun i => sgE (trimL (pv (ch.getD i []))) mi) = (ch.map fun f => trimL (pv f)).map fun f => sgE f mi := by
      rw [map_range_get ch [] (fun f => sgE (trimL (pv f)) mi), List.map_map]; rfl
    rw [e]
    refine Ev.step (t := fun _ => some _) (fun m => ?_) Ev.ret
    rw [hs]; unfold S_sturm_VariationsEnd_13
    rw [if_neg (by simp), F_sturm_changes, gif_bind ⟨by simp; exact hl, fun x hx => by
      obtain ⟨f, _, rfl⟩ := List.mem_map.1 hx
      exact sgE_range _ _⟩]
    rfl)
  simp only [T_sturm_VariationsEnd]
  refine Ev.congr (fun m => ?_) this
  rw [if_pos (by omega), rep_len]
  rfl
theorem vE_bd (ch : List (List Int)) (b : Bool) : 0 ≤ vE ch b ∧ vE ch b ≤ ch.length := by
  have := chg_bd (ch.map fun f => sgE f b) 0
  unfold vE; simpa using this
theorem chain_dp {ch : List (List Int)} (h : ∀ f ∈ ch, f.length ≤ 14 ∧ PB XC f ∧ TL f) : (∀ f ∈ ch.map dp, PP f) ∧ (ch.map dp).map (fun f => trimL (pv f)) = ch := by
  constructor
  · intro f hf
    obtain ⟨x, hx, rfl⟩ := List.mem_map.1 hf
    exact PP.dp' (by have := (h x hx).1; omega) (h x hx).2.1 (by unfold XC KP; omega)
  · rw [List.map_map]
    conv => rhs; rw [← List.map_id ch]
    exact List.map_congr_left fun x hx => by
      show trimL (pv (dp x)) = x
      rw [pv_dp]; exact (h x hx).2.2
theorem Rn_sturm_All : Run_sturm_All := fun f => Ok.gif_const fun ⟨hf, hb⟩ => by
  have hl := hf.1
  have l1 := trimL_len (pv f)
  rw [pv_len] at l1
  have hbd := chL_bd (f := pv f) (g := derL (trimL (pv f))) (by rw [pv_len]; exact hl) (by rw [derL_len]; omega) (hb.mono (by omega)) (derL_PB hb.trim (by omega))
  obtain ⟨c1, c2⟩ := chain_dp hbd
  have cl := chL_len (pv f) (derL (trimL (pv f)))
  have v1 := vE_bd (chL (pv f) (derL (trimL (pv f)))) true
  have v2 := vE_bd (chL (pv f) (derL (trimL (pv f)))) false
  have ev : ∀ b, F_sturm_VariationsEnd ((chL (pv f) (derL (trimL (pv f)))).map dp) b = some (vE (chL (pv f) (derL (trimL (pv f)))) b) := fun b => by
    rw [F_sturm_VariationsEnd, gif_pos ⟨by simp; omega, c1⟩, c2]
  rw [T_sturm_All, F_sturm_Of, gif_bind ⟨hf, hb⟩, ev, Option.bind_some, ev, Option.bind_some, i64w (by omega) (by omega)]
theorem awake_chain : vE (chL [-2, 0, 1] (derL (trimL [-2, 0, 1]))) true - vE (chL [-2, 0, 1] (derL (trimL [-2, 0, 1]))) false = 2 := by decide +kernel
theorem Rn_law15_awake : Run_law15_awake := Ok.gif_const fun _ => by
  have hPB : PB 3 [-2, 0, 1] := fun c hc => by
    simp only [List.mem_cons, List.not_mem_nil, or_false] at hc
    rcases hc with rfl | rfl | rfl <;> constructor <;> decide
  have e : trimL [-2, 0, 1] = [-2, 0, 1] := by decide
  rw [T_law15_awake, F_unipoly_Of, gif_bind ⟨by simp, fun c hc => by
    simp only [List.mem_cons, List.not_mem_nil, or_false] at hc
    omega⟩, e, F_sturm_All, gif_bind ⟨SP.dp (by simp) hPB (by omega), by rw [pv_dp]; exact hPB.mono (by omega)⟩, pv_dp, awake_chain]
  rfl
theorem Rn_law15_Short : Run_law15_Short := fun s hs l n => Ok.gif fun ⟨hl, hb, n0, n1⟩ => by
  obtain ⟨N, rfl⟩ : ∃ N : Nat, n = N := ⟨n.toNat, by omega⟩
  have hof : ∀ k, k ≤ N → F_unipoly_Of (l.take k) = some (dp (trimL (l.take k))) := fun k hk => gif_pos ⟨by simp; omega, fun c hc => by have := hb c (List.mem_of_mem_take hc); omega⟩
  unfold maxLen at hl
  have key : ∀ d k : Nat, k + d = min N l.length → Ev (fun m => s m l (N : Int) (k : Int) (l.take k)) (dp (trimL (l.take N))) := by
    intro d
    induction d with
    | zero =>
      intro k hk
      have e : l.take N = l.take k := by
        by_cases h : N ≤ l.length
        · rw [show N = k by omega]
        · rw [List.take_of_length_le (by omega), List.take_of_length_le (by omega)]
      refine Ev.step (t := fun _ => some _) (fun m => ?_) Ev.ret
      rw [hs]; unfold S_law15_Short_13
      by_cases h1 : k < l.length
      · rw [if_pos (by rw [decide_eq_true_eq]; omega), if_neg (by rw [decide_eq_true_eq]; omega), hof k (by omega), e]; rfl
      · rw [if_neg (by rw [decide_eq_true_eq]; omega), hof k (by omega), e]; rfl
    | succ d ih =>
      intro k hk
      have hkl : k < l.length := by omega
      have hc := hb _ (List.getElem_mem hkl)
      refine Ev.step (fun m => ?_) (ih (k + 1) (by omega))
      rw [hs]; unfold S_law15_Short_13
      rw [if_pos (by rw [decide_eq_true_eq]; omega), if_pos (by rw [decide_eq_true_eq]; omega), if_pos (by omega), Int.toNat_natCast, if_pos (by simp; omega), getD_in hkl, i64w (n := l[k]) (by omega) (by omega), wrap_succ (by omega), List.take_succ_eq_append_getElem hkl]
  have := key (min N l.length) 0 (by omega)
  simp only [T_law15_Short, Int.toNat_natCast]
  exact this
theorem Rn_law15_signed : Run_law15_signed := fun f => Ok.gif_const fun ⟨hp, la, _, j, k, hj, hk, hjk⟩ => by
  have l1 := trimL_len (pv f)
  rw [pv_len] at l1
  rw [T_law15_signed, Degree_bind hp]
  by_cases h0 : trimL (pv f) = []
  · rw [if_pos (by rw [decide_eq_true_eq, h0]; decide), redL_nil.2 h0]; rfl
  · have hp0 := List.length_pos_iff.2 h0
    rw [if_neg (by rw [decide_eq_true_eq]; omega), F_unidiv_Content, gif_bind hp]
    have hg := gcdL_Bd hk
    have hgn := gcdL_nonneg (pv f)
    have hg0 : gcdL (pv f) ≠ 0 := fun h => h0 (trimL_nil.2 (gcdL_zero.1 h))
    have hc : PB k [gcdL (pv f)] := fun c hc => by
      simp only [List.mem_cons, List.not_mem_nil, or_false] at hc
      subst hc; rw [ab_pos hgn]; exact hg
    have hkK : k ≤ KP := by
      have : 2 * (k + 4) ≤ (f.length + 2) * (k + 4) := Nat.mul_le_mul_right _ (by omega)
      unfold KP; omega
    have et : trimL [gcdL (pv f)] = [gcdL (pv f)] := by simp [trimL, hg0]
    have e1 : ([di (gcdL (pv f))] : NP) = dp [gcdL (pv f)] := rfl
    rw [e1, F_unidiv_Exact, gif_bind ⟨hp, PP.dp' (by simp) hc hkK, la, by rw [dp_len]; simp, j, k, hj, by rw [pv_dp]; exact hc, hjk⟩, pv_dp, et, if_neg (by simp), exact_content h0]
end Go.W

set_option linter.unusedVariables false
set_option linter.unusedSimpArgs false
namespace Go.W

/-- two neighbours of a chain -/
structure Pr (x y : List Int) : Prop where
  tx : TL x
  ty : TL y
  y0 : y ≠ []
  lx : x.length ≤ 14
  ly : y.length ≤ 14
  pb : ∃ K, PB K x ∧ PB K y ∧ K + 16 * (K + 4) ≤ 900000000000
  nx : ∃ K, CS XC y (nrm x y) K ∧ PB K (pseudo x y).2
theorem Pr.of {x y : List Int} {K : Nat} (h : CS XC x y K) (h0 : y ≠ []) : Pr x y :=
  ⟨h.ta, h.tb, h0, h.la, by have := h.la; have := h.lt; omega, ⟨K, h.pa, h.pb, h.db.1⟩, h.next h0⟩
theorem chF_head : ∀ (n : Nat) (a b : List Int), ∃ t, chF n a b = a :: t
  | 0, a, b => ⟨[], rfl⟩
  | n + 1, a, b => by
    simp only [chF]; split
    · exact ⟨[], rfl⟩
    · exact ⟨_, rfl⟩
theorem same_bind {σ : Type} {a b : NP} (ha : PP a) (hb : PP b) {K : Bool → Option σ} : (F_unipoly_Same a b).bind K = K (decide (trimL (pv a) = trimL (pv b))) := gif_bind ⟨ha, hb⟩
theorem getD_map_dp (l : List (List Int)) (i : Nat) (h : i < l.length) : (l.map dp).getD i ([] : NP) = dp l[i] := by
  simp [List.getD, h]
theorem Chains_loop {s32 : Nat → NP → List NP → Bool → Option Bool} {s57 : Nat → List NP → Int → Option Bool} {s84 : Nat → List NP → Int → NP → Bool → Option Bool} {s88 : Nat → List NP → Int → NP → Option Bool}
    (k57 : ∀ m x7 x8, s57 (m + 1) x7 x8 = S_law15_SturmChains_57 (s32 m) (s57 m) (s84 m) (s88 m) x7 x8)
    (k84 : ∀ m x7 x8 x10 x108, s84 (m + 1) x7 x8 x10 x108 = S_law15_SturmChains_84 (s32 m) (s57 m) (s84 m) (s88 m) x7 x8 x10 x108)
    (k88 : ∀ m x7 x8 x10, s88 (m + 1) x7 x8 x10 = S_law15_SturmChains_88 (s32 m) (s57 m) (s84 m) (s88 m) x7 x8 x10) {L : List (List Int)} (hL : L.length ≤ 200) :
    ∀ (n : Nat) (pre : List (List Int)) (x y : List Int), L = pre ++ x :: chF n y (nrm x y) → Pr x y → (nrm x y).length < n → Ev (fun m => s57 m (L.map dp) ((pre.length + 2 : Nat) : Int)) true
  | 0, pre, x, y, hl, hp, hn => by omega
  | n + 1, pre, x, y, hl, hp, hn => by
    obtain ⟨K, px, py, hK⟩ := hp.pb
    obtain ⟨K', hC, pr⟩ := hp.nx
    have hKK : K ≤ KP := by unfold KP; omega
    have lx := hp.lx
    have ly := hp.ly
    have ly0 := List.length_pos_iff.2 hp.y0
    have hlc := lc_ne hp.ty hp.y0
    have hm : (x.length + 2) * (K + 4) ≤ 16 * (K + 4) := Nat.mul_le_mul_right _ (by omega)
    obtain ⟨r, hr⟩ : ∃ r, (pseudo x y).2 = r := ⟨_, rfl⟩
    have tr : TL r := by rw [← hr]; exact pseudo_TL hp.tx hp.ty hp.y0
    have lr : r.length < y.length := by rw [← hr]; exact pseudo_len hp.tx hp.ty hp.y0
    rw [hr] at pr
    have hdb := hC.db
    -- the list at i - 2 and i - 1
    have hlen : L.length = pre.length + 1 + (chF (n + 1) y (nrm x y)).length := by rw [hl]; simp; omega
    obtain ⟨t, ht⟩ := chF_head (n + 1) y (nrm x y)
    rw [ht] at hlen hl
    simp only [List.length_cons] at hlen
    have gx : (L.map dp).getD pre.length ([] : NP) = dp x := by rw [getD_map_dp _ _ (by omega)]; simp [hl]
    have gy : (L.map dp).getD (pre.length + 1) ([] : NP) = dp y := by rw [getD_map_dp _ _ (by omega)]; simp [hl]
    have ppx : PP (dp x) := PP.dp' (by omega) px hKK
    have ppy : PP (dp y) := PP.dp' (by omega) py hKK
    -- the remainder, with its sign
    obtain ⟨kk, hkk⟩ : ∃ kk : Int, (if (0 : Int) > ((x.length : Int) - y.length + 1) then 0 else ((x.length : Int) - y.length + 1)) = kk := ⟨_, rfl⟩
    have hkn : 0 ≤ kk := by rw [← hkk]; split <;> omega
    obtain ⟨fl, hfl⟩ : ∃ fl : Bool, (decide (0 < lc y) || (Int.tmod kk 2 == 0)) = fl := ⟨_, rfl⟩
    have hz : redL (if fl = true then subL [] r else r) = nrm x y := by
      rw [nrm_if, hkk, hr, ← hfl]
      have hmod := Int.emod_nonneg kk (show (2 : Int) ≠ 0 by decide)
      have hmod2 := Int.emod_lt_of_pos kk (show (0 : Int) < 2 by decide)
      rw [← Int.tmod_eq_emod_of_nonneg hkn] at hmod hmod2
      by_cases h1 : lc y < 0
      · rw [if_pos h1, decide_eq_false (show ¬ 0 < lc y by omega), Bool.false_or]
        by_cases h2 : Int.tmod kk 2 = 1
        · rw [if_pos h2, h2]; rfl
        · have h3 : Int.tmod kk 2 = 0 := by omega
          rw [if_neg h2, h3, if_pos (show ((0 : Int) == 0) = true from rfl), redL_neg]
      · rw [if_neg h1, decide_eq_true (show 0 < lc y by omega), Bool.true_or, if_pos rfl, redL_neg]
    obtain ⟨r', hr'⟩ : ∃ r', (if fl = true then subL [] r else r) = r' := ⟨_, rfl⟩
    rw [hr'] at hz
    have tr' : TL r' := by rw [← hr']; split; exact subL_TL _ _; exact tr
    have lr' : r'.length = r.length := by rw [← hr']; split; exact neg_len tr; rfl
    have pr' : PB K' r' := by rw [← hr']; split; exact pr.neg; exact pr
    have ppr' : PP (dp r') := PP.dp' (by omega) pr' hdb.2
    have last : Ev (fun m => s88 m (L.map dp) ((pre.length + 2 : Nat) : Int) (dp r')) true := by
      by_cases hz0 : nrm x y = []
      · have ht0 : t = [] := by rw [hz0, chF_nil] at ht; injection ht with _ ht; exact ht.symm
        have hr0 : r' = [] := by rw [← tr']; exact redL_nil.1 (hz.trans hz0)
        refine Ev.step (t := fun _ => some true) (fun m => ?_) Ev.ret
        rw [k88]; unfold S_law15_SturmChains_88
        rw [if_pos (by rw [beq_iff_eq, List.length_map, hlen, ht0, List.length_nil]), Degree_bind ppr', pv_dp, trim_of tr', hr0]
        rfl
      · have ht1 : t = chF n (nrm x y) (nrm y (nrm x y)) := by rw [chF_cons n y hz0] at ht; injection ht with _ ht; exact ht.symm
        obtain ⟨t', ht'⟩ := chF_head n (nrm x y) (nrm y (nrm x y))
        rw [← ht1] at ht'
        have hr0 : r' ≠ [] := fun h => hz0 (by rw [← hz, h]; rfl)
        have hrp := List.length_pos_iff.2 hr0
        have hlt : pre.length + 2 < L.length := by rw [hlen, ht', List.length_cons]; omega
        have gz : (L.map dp).getD (pre.length + 2) ([] : NP) = dp (nrm x y) := by
          rw [getD_map_dp _ _ hlt]
          simp only [hl, ht']
          congr 1
          rw [List.getElem_append_right (by omega)]
          simp
        have hnl := nrm_len hp.tx hp.ty hp.y0
        have ih := Chains_loop k57 k84 k88 hL n (pre ++ [x]) y (nrm x y) (by rw [hl, ht1]; simp) (Pr.of hC hz0) (by have := nrm_len hp.ty nrm_TL hz0; omega)
        have hm2 : ((dp r').length + 2) * (K' + 4) ≤ 16 * (K' + 4) := Nat.mul_le_mul_right _ (by rw [dp_len]; omega)
        have es : F_law15_signed (dp r') = some (dp (nrm x y)) := by
          rw [F_law15_signed, gif_pos ⟨ppr', by rw [dp_len]; omega, by rw [dp_len]; omega, K', K', by rw [pv_dp]; exact pr', by rw [pv_dp]; exact pr', by omega⟩, pv_dp, hz]
        have ppz : PP (dp (nrm x y)) := PP.dp' (by omega) hC.pb hdb.2
        refine Ev.step (fun m => ?_) ih
        rw [k88]; unfold S_law15_SturmChains_88
        rw [if_neg (by rw [beq_iff_eq, List.length_map]; omega), Degree_bind ppr', pv_dp, trim_of tr', if_neg (by rw [decide_eq_true_eq]; omega), if_pos (by rw [List.length_map]; omega), es, Option.bind_some, Int.toNat_natCast, gz, same_bind ppz ppz, if_neg (by simp), wrap_succ (by omega), show (pre ++ [x]).length + 2 = pre.length + 2 + 1 by rw [List.length_append, List.length_singleton]]
    have mid : Ev (fun m => s84 m (L.map dp) ((pre.length + 2 : Nat) : Int) (dp r) fl) true := by
      refine Ev.step (fun m => ?_) last
      rw [k84]; unfold S_law15_SturmChains_84
      rw [← hr']
      by_cases hf : fl = true
      · rw [if_pos hf, if_pos hf, Neg_bind (by omega) pr (by have := hC.K; unfold XC at this; unfold KP; omega)]
      · rw [if_neg hf, if_neg hf]
    refine Ev.step (fun m => ?_) mid
    have e2 : IntKind.wrap .i64 (((pre.length + 2 : Nat) : Int) - 2) = (pre.length : Int) := by rw [i64w (by omega) (by omega)]; omega
    have e1 : IntKind.wrap .i64 (((pre.length + 2 : Nat) : Int) - 1) = ((pre.length + 1 : Nat) : Int) := by rw [i64w (by omega) (by omega)]; omega
    have e3 : IntKind.wrap .i64 (IntKind.wrap .i64 ((x.length : Int) - 1 - ((y.length : Int) - 1)) + 1) = (x.length : Int) - y.length + 1 := by
      rw [i64w (n := (x.length : Int) - 1 - ((y.length : Int) - 1)) (by omega) (by omega), i64w (by omega) (by omega)]; omega
    rw [k57]; unfold S_law15_SturmChains_57
    rw [if_pos (by rw [decide_eq_true_eq, List.length_map]; omega)]
    simp only [e1, e2, Int.toNat_natCast, gx, gy]
    rw [if_pos (by rw [List.length_map]; omega), if_pos (by rw [List.length_map]; omega), Pseudo_bind hp.tx hp.ty hp.y0 (by omega) (by omega) px py (by omega) hKK hKK]
    dsimp only
    rw [if_neg (by decide), if_pos (by rw [List.length_map]; omega), Degree_bind ppx, pv_dp, trim_of hp.tx, if_pos (by rw [List.length_map]; omega), Degree_bind ppy, pv_dp, trim_of hp.ty]
    simp only [e3, hkk]
    rw [if_pos (by rw [List.length_map]; omega), Lead_bind ppy, pv_dp, trim_of hp.ty, F_integer_Sign, gif_bind (II.di py.lc (by omega)), iv_di, hr]
    by_cases h1 : 0 < lc y
    · rw [if_pos (by rw [decide_eq_true_eq]; unfold sg; rw [if_neg (by omega), if_neg (by omega)]; decide)]
      rw [← hfl, decide_eq_true h1, Bool.true_or]
    · rw [if_neg (by rw [decide_eq_true_eq]; unfold sg; (repeat' split) <;> omega), if_neg (by decide)]
      rw [← hfl, decide_eq_false h1, Bool.false_or]
theorem awake15 : F_law15_awake = some true := gif_pos trivial
theorem short_PB {c : List Int} (hc : ∀ x ∈ c, -32768 ≤ x ∧ x ≤ 32767) (n : Nat) : PB 16 (trimL (c.take n)) := PB.trim fun x hx => by
  have := hc x (List.mem_of_mem_take hx)
  unfold ab; constructor <;> split <;> omega
theorem short_len (c : List Int) (n : Nat) : (trimL (c.take n)).length ≤ n := by
  have h1 := trimL_len (c.take n)
  have h2 : (c.take n).length ≤ n := by simp; omega
  omega
theorem Rn_law15_SturmChains : Run_law15_SturmChains := fun s32 s57 s84 s88 k32 k57 k84 k88 c d => Ok.gif fun ⟨⟨hc, hcb⟩, hd, hdb⟩ => by
  have ef : F_law15_Short c 7 = some (dp (trimL (c.take 7))) := gif_pos ⟨hc, hcb, by omega, by omega⟩
  have eg : F_law15_Short d 7 = some (dp (trimL (d.take 7))) := gif_pos ⟨hd, hdb, by omega, by omega⟩
  have pF := short_PB hcb 7
  have pG := short_PB hdb 7
  have lF := short_len c 7
  have lG := short_len d 7
  have tF := trimL_tl (c.take 7)
  have tG := trimL_tl (d.take 7)
  generalize trimL (c.take 7) = F at *
  generalize trimL (d.take 7) = G at *
  have ppF : PP (dp F) := PP.dp' (by omega) pF (by unfold KP; omega)
  have ppG : PP (dp G) := PP.dp' (by omega) pG (by unfold KP; omega)
  have ec : F_sturm_Chain (dp F) (dp G) = some ((chL F G).map dp) := by
    rw [F_sturm_Chain, gif_pos ⟨SP.dp (by omega) pF (by omega), SP.dp (by omega) pG (by omega)⟩, pv_dp, pv_dp]
  have sgn : ∀ {H : List Int}, H.length ≤ 7 → PB 16 H → F_law15_signed (dp H) = some (dp (redL H)) := fun {H} hl hp => by
    have hm : ((dp H).length + 2) * (16 + 4) ≤ 9 * 20 := Nat.mul_le_mul_right _ (by rw [dp_len]; omega)
    rw [F_law15_signed, gif_pos ⟨PP.dp' (by omega) hp (by unfold KP; omega), by rw [dp_len]; omega, by rw [dp_len]; omega, 16, 16, by rw [pv_dp]; exact hp, by rw [pv_dp]; exact hp, by omega⟩, pv_dp]
  have ppr : ∀ {H : List Int}, H.length ≤ 7 → PB 16 H → PP (dp (redL H)) := fun {H} hl hp => by
    have h1 := redL_len H
    have h2 := trimL_len H
    exact PP.dp' (by omega) (redL_PB hp) (by unfold KP; omega)
  simp only [T_law15_SturmChains]
  by_cases h0 : F = []
  · refine Ev.congr (t := fun _ => some true) (fun m => ?_) Ev.ret
    rw [awake15, Option.bind_some, if_neg (by decide), ef, Option.bind_some, eg, Option.bind_some, ec, Option.bind_some, Degree_bind ppF, pv_dp, trim_of tF, h0, if_pos (by decide)]
    rfl
  · have hFp := List.length_pos_iff.2 h0
    have hr0 : redL F ≠ [] := fun h => h0 (by rw [← tF]; exact redL_nil.1 h)
    have eL : chL F G = chF 100 (redL F) (redL G) := by unfold chL; rw [if_neg hr0]
    have hlen := chL_len F G
    obtain ⟨t, ht⟩ := chF_head 100 (redL F) (redL G)
    rw [← eL] at ht
    have key : Ev (fun m => s32 m (dp G) ((chL F G).map dp) false) true := by
      by_cases h1 : G = []
      · refine Ev.step (t := fun _ => some true) (fun m => ?_) Ev.ret
        rw [k32]; unfold S_law15_SturmChains_32
        have e1 : chL F G = [redL F] := by rw [eL, h1]; exact chF_nil _ _
        rw [if_neg (by decide), Degree_bind ppG, pv_dp, trim_of tG, h1, if_pos (by decide), ← h1, e1]
        rfl
      · have hGp := List.length_pos_iff.2 h1
        have hg0 : redL G ≠ [] := fun h => h1 (by rw [← tG]; exact redL_nil.1 h)
        have lF2 := redL_len F
        have lG2 := redL_len G
        rw [trim_of tF] at lF2
        rw [trim_of tG] at lG2
        have e2 : chL F G = redL F :: chF 99 (redL G) (nrm (redL F) (redL G)) := by rw [eL, chF_cons 99 _ hg0]
        have hP : Pr (redL F) (redL G) := ⟨redL_TL _, redL_TL _, hg0, by omega, by omega, ⟨16, redL_PB pF, redL_PB pG, by omega⟩, CS.first (redL_TL _) (redL_TL _) hg0 (by omega) (by omega) ((redL_PB pF).mono (by omega)) ((redL_PB pG).mono (by omega))⟩
        have hnl := nrm_len (redL_TL F) (redL_TL G) hg0
        have loop := Chains_loop k57 k84 k88 (L := chL F G) (by omega) 99 [] (redL F) (redL G) e2 hP (by omega)
        obtain ⟨t2, ht2⟩ := chF_head 99 (redL G) (nrm (redL F) (redL G))
        rw [ht2] at e2
        refine Ev.step (fun m => ?_) loop
        rw [k32]; unfold S_law15_SturmChains_32
        rw [if_neg (by decide), Degree_bind ppG, pv_dp, trim_of tG, if_neg (by rw [decide_eq_true_eq]; omega), if_neg (by rw [decide_eq_true_eq, List.length_map, e2]; simp; omega), if_pos (by rw [List.length_map, e2]; simp; omega), sgn lG pG, Option.bind_some]
        have g1 : ((chL F G).map dp).getD (Int.toNat 1) ([] : NP) = dp (redL G) := by rw [e2]; rfl
        rw [g1, same_bind (ppr lG pG) (ppr lG pG), if_neg (by simp)]
        rfl
    refine Ev.congr (fun m => ?_) key
    have g0 : ((chL F G).map dp).getD (Int.toNat 0) ([] : NP) = dp (redL F) := by rw [ht]; rfl
    rw [awake15, Option.bind_some, if_neg (by decide), ef, Option.bind_some, eg, Option.bind_some, ec, Option.bind_some, Degree_bind ppF, pv_dp, trim_of tF, if_neg (by rw [decide_eq_true_eq]; omega), if_neg (by rw [beq_iff_eq, List.length_map, ht, List.length_cons]; omega), if_pos (by rw [List.length_map, ht, List.length_cons]; omega), sgn lF pF, Option.bind_some, g0, same_bind (ppr lF pF) (ppr lF pF)]
    simp
end Go.W

