/- A part of the proof: texts P62, P63, P64, P35, P36, P37, P38, P39, P40, P41, Sp7, Df5, P50, P51, P65. What is proved in the end stands in the last file. -/
import Derived.Test.YtgchnnhghmlfdaaSb3
import Derived.Laws.Strings
set_option linter.unusedVariables false
set_option linter.unusedSimpArgs false
set_option linter.unusedSectionVars false
set_option linter.unusedVariables false
set_option linter.unusedSimpArgs false
namespace Go.W

theorem one_PB : PB 1 [1] := fun c hc => by
  simp only [List.mem_cons, List.not_mem_nil, or_false] at hc
  subst hc; constructor <;> decide
theorem trim_of {l : List Int} (h : TL l) : trimL l = l := h
theorem Of_one {σ : Type} {K : NP → Option σ} : (F_unipoly_Of ([(1 : Int)] : List Int)).bind K = K (dp [1]) := by
  rw [F_unipoly_Of, gif_bind ⟨by simp, fun c hc => by simp only [List.mem_cons, List.not_mem_nil, or_false] at hc; omega⟩]
  rfl
def psOut (c : Int) (x : List Int × List Int × Int) : NP × NP × Int := if 0 < x.2.2 then (dp (scl (c ^ x.2.2.toNat) x.1), dp (scl (c ^ x.2.2.toNat) x.2.1), 0) else (dp x.1, dp x.2.1, 0)
/-- the loop of a pseudo-division -/
theorem Pseudo_loop {s : Nat → NP → NP → NP → Int → Int → (Bool × List Int) → Option (NP × NP × Int)} (hs : ∀ m x1 x4 x5 x7 x9 x8, s (m + 1) x1 x4 x5 x7 x9 x8 = S_unidiv_Pseudo_25 (s m) x1 x4 x5 x7 x9 x8)
    {g : NP} (hg : PP g) {k : Nat} (hk : PB k (pv g)) (hg0 : trimL (pv g) ≠ []) : ∀ (n : Nat) (q r : List Int) (left : Int) (J : Nat), TL r → r.length < n → r.length ≤ 100 → q.length ≤ 100 → PB J r → PB J q →
      (r.length : Int) - (trimL (pv g)).length + 1 ≤ left → left ≤ 200 → -200 ≤ left → J + left.toNat * (k + 2) + (k + 4) ≤ 900000000000 →
      Ev (fun m => s m g (dp q) (dp r) (((trimL (pv g)).length : Int) - 1) left (di (lc (trimL (pv g)))))
        (psOut (lc (trimL (pv g))) (psL (trimL (pv g)) n q r left))
  | 0, q, r, left, J, hr, hn, _, _, _, _, _, _, _, _ => by omega
  | n + 1, q, r, left, J, hr, hn, hr1, hq1, pr, pq, hle, hl2, hl3, hJ => by
    have hlg := List.length_pos_iff.2 hg0
    have kg := hk.trim
    have er : trimL r = r := hr
    have ppr : PP (dp r) := PP.dp' (by omega) pr (by unfold KP; omega)
    by_cases h1 : (trimL (pv g)).length ≤ r.length
    · rw [show psL (trimL (pv g)) (n + 1) q r left = psL (trimL (pv g)) n (addL (scl (lc (trimL (pv g))) q) (shf (lc r) (r.length - (trimL (pv g)).length) [1])) (subL (scl (lc (trimL (pv g))) r) (shf (lc r) (r.length - (trimL (pv g)).length) (trimL (pv g)))) (left - 1) by simp only [psL]; rw [if_pos h1]]
      have hlen := ps_len (trimL_tl (pv g)) hg0 hr h1
      have eshf : shf (lc r) (r.length - (trimL (pv g)).length) (pv g) = shf (lc r) (r.length - (trimL (pv g)).length) (trimL (pv g)) := (shf_trim _ _ _).symm
      have b1 : PB (J + k) (scl (lc (trimL (pv g))) q) := PB.scl kg.lc pq (by omega)
      have b2 : PB (J + 1) (shf (lc r) (r.length - (trimL (pv g)).length) [1]) := PB.shf pr.lc one_PB (by omega)
      have b3 : PB (J + k) (scl (lc (trimL (pv g))) r) := PB.scl kg.lc pr (by omega)
      have b4 : PB (J + k) (shf (lc r) (r.length - (trimL (pv g)).length) (trimL (pv g))) := PB.shf pr.lc kg (by omega)
      have l1 := scl_len (lc (trimL (pv g))) q
      have l2 := shf_len (lc r) (r.length - (trimL (pv g)).length) [1]
      have l3 := scl_len (lc (trimL (pv g))) r
      have l4 := shf_len (lc r) (r.length - (trimL (pv g)).length) (trimL (pv g))
      have l5 := addL_len (scl (lc (trimL (pv g))) q) (shf (lc r) (r.length - (trimL (pv g)).length) [1])
      rw [List.length_singleton] at l2
      have hpos : 0 < left := by omega
      have hmul : left.toNat * (k + 2) = (left - 1).toNat * (k + 2) + (k + 2) := by
        have : left.toNat = (left - 1).toNat + 1 := by omega
        rw [this, Nat.add_mul, Nat.one_mul]
      have ih := Pseudo_loop hs hg hk hg0 n (addL (scl (lc (trimL (pv g))) q) (shf (lc r) (r.length - (trimL (pv g)).length) [1])) (subL (scl (lc (trimL (pv g))) r) (shf (lc r) (r.length - (trimL (pv g)).length) (trimL (pv g)))) (left - 1) (J + (k + 2)) (subL_TL _ _) (by omega) (by omega) (by omega) (b3.sub b4 (by omega)) (b1.add b2 (by omega)) (by omega) (by omega) (by omega) (by omega)
      refine Ev.step (fun m => ?_) ih
      have e2 : IntKind.wrap .i64 ((r.length : Int) - 1 - (((trimL (pv g)).length : Int) - 1)) = ((r.length - (trimL (pv g)).length : Nat) : Int) := by rw [i64w (by omega) (by omega)]; omega
      rw [hs]; unfold S_unidiv_Pseudo_25
      rw [Degree_bind ppr, pv_dp, er, if_pos (by rw [decide_eq_true_eq]; omega), Lead_bind ppr, pv_dp, er, Degree_bind ppr, pv_dp, er,
        Scale_bind (j := J) (k := k) (by omega) pq kg.lc (by unfold KP; omega), Of_one, e2,
        shifted_bind (j := 1) (k := J) (PP.dp' (by simp) one_PB (by unfold KP; omega)) (by rw [pv_dp]; exact one_PB) pr.lc (by unfold KP; omega) (by omega) (by omega), pv_dp, Int.toNat_natCast,
        Add_bind (j := J + k + 1) (by omega) (by omega) (b1.mono (by omega)) (b2.mono (by omega)) (by unfold KP; omega),
        Scale_bind (j := J) (k := k) (by omega) pr kg.lc (by unfold KP; omega),
        shifted_bind (j := k) (k := J) hg hk pr.lc (by unfold KP; omega) (by omega) (by omega), Int.toNat_natCast, eshf,
        Sub_bind (j := J + k) (by omega) (by omega) b3 b4 (by unfold KP; omega), i64w (by omega) (by omega)]
    · rw [show psL (trimL (pv g)) (n + 1) q r left = (q, r, left) by simp only [psL]; rw [if_neg h1]]
      refine Ev.step (t := fun _ => some _) (fun m => ?_) Ev.ret
      rw [hs]; unfold S_unidiv_Pseudo_25 psOut
      rw [Degree_bind ppr, pv_dp, er, if_neg (by rw [decide_eq_true_eq]; omega)]
      dsimp only
      by_cases h2 : 0 < left
      · have hkl : k * left.toNat ≤ left.toNat * (k + 2) := by rw [Nat.mul_comm]; exact Nat.mul_le_mul_left _ (by omega)
        have hpb := Bd.pow' kg.lc left.toNat
        have hci : (k : Int) * left = ((k * left.toNat : Nat) : Int) := by rw [Int.natCast_mul]; congr 1; omega
        rw [if_pos (decide_eq_true h2), if_pos h2, power_bind kg.lc (by omega) (by omega) (by rw [hci]; unfold KP; omega) (by unfold KP; omega),
          Scale_bind (j := J) (k := k * left.toNat + 1) (by omega) pq hpb (by unfold KP; omega), Scale_bind (j := J) (k := k * left.toNat + 1) (by omega) pr hpb (by unfold KP; omega)]
      · rw [if_neg (by rw [decide_eq_true_eq]; exact h2), if_neg h2]
theorem Rn_unidiv_Pseudo : Run_unidiv_Pseudo := fun s hs a b => Ok.gif fun ⟨ha, hb, la, lb, j, k, hj, hk, hjk⟩ => by
  simp only [T_unidiv_Pseudo]
  have ez : F_unidiv_zero b = some (decide (trimL (pv b) = [])) := gif_pos hb
  have l1 := trimL_len (pv a)
  have l2 := trimL_len (pv b)
  rw [pv_len] at l1 l2
  by_cases h0 : trimL (pv b) = []
  · rw [if_pos h0]
    refine Ev.congr (fun m => ?_) Ev.ret
    rw [ez, Option.bind_some, if_pos (decide_eq_true h0)]
  · rw [if_neg h0]
    have hp0 := List.length_pos_iff.2 h0
    have ppa : PP (dp (trimL (pv a))) := PP.dp (by omega) ha.2.2.trim
    have hm : ((((trimL (pv a)).length : Int) - (trimL (pv b)).length + 1).toNat) * (k + 2) + (k + 4) ≤ (a.length + 2) * (k + 4) := by
      have h1 : ((((trimL (pv a)).length : Int) - (trimL (pv b)).length + 1).toNat) * (k + 2) ≤ (a.length + 1) * (k + 4) := Nat.mul_le_mul (by omega) (by omega)
      have h2 : (a.length + 2) * (k + 4) = (a.length + 1) * (k + 4) + (k + 4) := by rw [Nat.add_mul (a.length + 1) 1, Nat.one_mul]
      omega
    have := Pseudo_loop hs hb hk h0 ((trimL (pv a)).length + 1) [] (trimL (pv a)) (((trimL (pv a)).length : Int) - (trimL (pv b)).length + 1) j (trimL_tl _) (by omega) (by omega) (by simp) hj.trim (.nil _) (by omega) (by omega) (by omega) (by omega)
    have e : psOut (lc (trimL (pv b))) (psL (trimL (pv b)) ((trimL (pv a)).length + 1) [] (trimL (pv a)) (((trimL (pv a)).length : Int) - (trimL (pv b)).length + 1)) = (dp (pseudo (trimL (pv a)) (trimL (pv b))).1, dp (pseudo (trimL (pv a)) (trimL (pv b))).2, 0) := by
      unfold pseudo psOut
      generalize psL (trimL (pv b)) ((trimL (pv a)).length + 1) [] (trimL (pv a)) (((trimL (pv a)).length : Int) - (trimL (pv b)).length + 1) = x
      obtain ⟨q, r, left⟩ := x
      dsimp only
      split <;> rfl
    rw [e] at this
    refine Ev.congr (fun m => ?_) this
    rw [ez, Option.bind_some, if_neg (by rw [decide_eq_true_eq]; exact h0), Normal_bind ha, Degree_bind hb, Lead_bind hb, Degree_bind ppa, pv_dp, trimL_idem, i64w (n := ((trimL (pv a)).length : Int) - 1 - (((trimL (pv b)).length : Int) - 1)) (by omega) (by omega), i64w (by omega) (by omega)]
    congr 1
    omega
theorem Rn_sturm_reduced : Run_sturm_reduced := fun s hs a => Ok.gif fun h => by
  have hl := h.1
  have hc : F_unidiv_Content a = some (di (gcdL (pv a))) := gif_pos h
  have hg := gcdL_Bd h.2.2
  have hgn := gcdL_nonneg (pv a)
  have hgb : Bd KP (ab (gcdL (pv a))) := by rw [ab_pos hgn]; exact hg
  have hII : II (di (gcdL (pv a))) := II.di hgb (by unfold KP; omega)
  have es : F_integer_Sign (di (gcdL (pv a))) = some (sg (gcdL (pv a))) := by rw [F_integer_Sign, gif_pos hII, iv_di]
  simp only [T_sturm_reduced]
  by_cases h0 : gcdL (pv a) = 0
  · have e : redL (pv a) = [] := redL_nil.2 (trimL_nil.2 (gcdL_zero.1 h0))
    rw [e]
    refine Ev.congr (t := fun _ => some (dp [])) (fun m => ?_) Ev.ret
    rw [hc, Option.bind_some, es, Option.bind_some, if_pos (by rw [h0]; rfl)]; rfl
  · have hb : PB KP ((List.range a.length).map fun i => Int.tdiv ((pv a).getD i 0) (gcdL (pv a))) := fun c hc => by
      obtain ⟨i, hi, rfl⟩ := List.mem_map.1 hc
      have := (redL_PB h.2.2).get i
      rw [redL_get] at this; exact this
    have := fill_loop (n := a.length) (fun i => di (Int.tdiv ((pv a).getD i 0) (gcdL (pv a)))) (false, ([] : List Int)) (fun m i out => s m a (a.length : Int) (i : Int) (di (gcdL (pv a))) out) (dp (redL (pv a))) (fun m i out hi ho => by
      rw [hs]; unfold S_sturm_reduced_25
      rw [if_pos (by rw [decide_eq_true_eq]; omega), if_pos (by omega), Int.toNat_natCast, F_division_Exact, gif_bind ⟨h.ii i, hII⟩, iv_di, if_neg h0, pv_get, if_pos (Int.tmod_eq_zero_of_dvd (gcdL_get _ _)), if_pos (by omega), wrap_succ (by omega)]) (by
      rw [range_dp]
      refine Ev.step (t := fun _ => some _) (fun m => ?_) Ev.ret
      rw [hs]; unfold S_sturm_reduced_25
      rw [if_neg (by simp), Normal_bind (PP.dp (by simp; omega) hb), pv_dp]
      congr 2
      refine (trimL_tl _).ext (redL_TL _) fun i => ?_
      rw [trimL_get, redL_get]
      by_cases hi : i < a.length
      · rw [getD_in (by simpa using hi)]; simp
      · rw [getD_out (by simp; omega), getD_out (l := pv a) (by rw [pv_len]; omega), Int.zero_tdiv])
    refine Ev.congr (fun m => ?_) this
    rw [hc, Option.bind_some, es, Option.bind_some, if_neg (by rw [beq_iff_eq]; unfold sg; (repeat' split) <;> omega), if_pos (by omega), rep_len]; rfl
theorem reduced_bind {σ : Type} {a : List Int} (la : a.length ≤ 1000) {j : Nat} (ha : PB j a) (hj : j ≤ KP) {K : NP → Option σ} : (F_sturm_reduced (dp a)).bind K = K (dp (redL a)) := by
  rw [F_sturm_reduced, gif_bind (PP.dp' la ha hj), pv_dp]
theorem nrm_if {a b : List Int} : nrm a b = if lc b < 0 then (if Int.tmod (if (0 : Int) > ((a.length : Int) - b.length + 1) then 0 else ((a.length : Int) - b.length + 1)) 2 = 1 then redL (pseudo a b).2 else subL [] (redL (pseudo a b).2)) else subL [] (redL (pseudo a b).2) := by
  unfold nrm
  by_cases h1 : lc b < 0
  · rw [if_pos h1]
    by_cases h2 : (0 : Int) > ((a.length : Int) - b.length + 1)
    · rw [if_pos h2, if_neg (by omega), if_neg (by decide)]
    · rw [if_neg h2]
      by_cases h3 : Int.tmod ((a.length : Int) - b.length + 1) 2 = 1
      · rw [if_pos ⟨h1, by omega, h3⟩, if_pos h3]
      · rw [if_neg (fun h => h3 h.2.2), if_neg h3]
  · rw [if_neg (fun h => h1 h.1), if_neg h1]
theorem Rn_sturm_negRemainder : Run_sturm_negRemainder := fun a b => Ok.gif_const fun ⟨ha, hb, ⟨la, lb, j, k, hj, hk, hjk⟩, h0⟩ => by
  have l1 := trimL_len (pv a)
  have l2 := trimL_len (pv b)
  rw [pv_len] at l1 l2
  have hp0 := List.length_pos_iff.2 h0
  have hpb := (pseudo_PB (trimL_tl (pv a)) (trimL_tl (pv b)) h0 hj.trim hk.trim).1
  have hpl := pseudo_len (trimL_tl (pv a)) (trimL_tl (pv b)) h0
  have hbd : j + (((trimL (pv a)).length : Int) - (trimL (pv b)).length + 1).toNat * (k + 2) + 1 + 1 ≤ KP := by
    have h1 : ((((trimL (pv a)).length : Int) - (trimL (pv b)).length + 1).toNat) * (k + 2) ≤ (a.length + 2) * (k + 4) := Nat.mul_le_mul (by omega) (by omega)
    unfold KP; omega
  have hrb := redL_PB hpb
  have hrl := redL_len (pseudo (trimL (pv a)) (trimL (pv b))).2
  have hrl2 := trimL_len (pseudo (trimL (pv a)) (trimL (pv b))).2
  have e1 : IntKind.wrap .i64 (IntKind.wrap .i64 (((trimL (pv a)).length : Int) - 1 - (((trimL (pv b)).length : Int) - 1)) + 1) = ((trimL (pv a)).length : Int) - (trimL (pv b)).length + 1 := by
    rw [i64w (n := ((trimL (pv a)).length : Int) - 1 - (((trimL (pv b)).length : Int) - 1)) (by omega) (by omega), i64w (by omega) (by omega)]; omega
  rw [T_sturm_negRemainder, F_unidiv_Pseudo, gif_bind ⟨ha, hb, la, lb, j, k, hj, hk, hjk⟩, if_neg h0, Degree_bind ha, Degree_bind hb, Lead_bind hb, F_integer_Sign, gif_bind (II.di (hb.2.2.trim).lc (by unfold KP; omega)), iv_di, nrm_if]
  simp only [e1]
  have er : ∀ {σ : Type} {K : NP → Option σ}, (F_sturm_reduced (dp (pseudo (trimL (pv a)) (trimL (pv b))).2)).bind K = K (dp (redL (pseudo (trimL (pv a)) (trimL (pv b))).2)) := reduced_bind (by omega) hpb (by omega)
  have en : ∀ {σ : Type} {K : NP → Option σ}, (F_unipoly_Neg (dp (redL (pseudo (trimL (pv a)) (trimL (pv b))).2))).bind K = K (dp (subL [] (redL (pseudo (trimL (pv a)) (trimL (pv b))).2))) := Neg_bind (by omega) hrb (by omega)
  by_cases h1 : lc (trimL (pv b)) < 0
  · rw [if_pos (by rw [decide_eq_true_eq]; unfold sg; rw [if_pos h1]; decide), if_pos h1, if_neg (by decide)]
    by_cases h3 : Int.tmod (if (0 : Int) > (((trimL (pv a)).length : Int) - (trimL (pv b)).length + 1) then 0 else (((trimL (pv a)).length : Int) - (trimL (pv b)).length + 1)) 2 = 1
    · rw [if_pos (by rw [beq_iff_eq]; exact h3), if_pos h3, er]
    · rw [if_neg (by rw [beq_iff_eq]; exact h3), if_neg h3, er, en]
  · rw [if_neg (by rw [decide_eq_true_eq]; unfold sg; (repeat' split) <;> omega), if_neg h1, er, en]
theorem negR_bind {σ : Type} {a b : List Int} (ta : TL a) (tb : TL b) (b0 : b ≠ []) (la : a.length ≤ 100) (lb : b.length ≤ 100) {j k : Nat} (hj : PB j a) (hk : PB k b) (h : j + (a.length + 2) * (k + 4) ≤ 900000000000) (hjK : j ≤ KP) (hkK : k ≤ KP) {K : NP → Option σ} :
    (F_sturm_negRemainder (dp a) (dp b)).bind K = K (dp (nrm a b)) := by
  rw [F_sturm_negRemainder, gif_bind ⟨PP.dp' (by omega) hj hjK, PP.dp' (by omega) hk hkK, ⟨by rw [dp_len]; exact la, by rw [dp_len]; exact lb, j, k, by rw [pv_dp]; exact hj, by rw [pv_dp]; exact hk, by rw [dp_len]; exact h⟩, by rw [pv_dp, trim_of tb]; exact b0⟩, pv_dp, pv_dp, trim_of ta, trim_of tb]
end Go.W

set_option linter.unusedVariables false
set_option linter.unusedSimpArgs false
namespace Go.W

theorem SP.pp {f : NP} (h : SP f) : PP f := ⟨by have := h.1; omega, h.2.1, h.2.2.mono (by unfold KP; omega)⟩
theorem chF_nil (n : Nat) (a : List Int) : chF n a [] = [a] := by cases n <;> rfl
theorem chF_cons (n : Nat) (a : List Int) {b : List Int} (h : b ≠ []) : chF (n + 1) a b = a :: chF n b (nrm a b) := by simp only [chF]; rw [if_neg h]
theorem Chain_loop {s : Nat → NP → NP → List NP → Option (List NP)} (hs : ∀ m x5 x6 x7, s (m + 1) x5 x6 x7 = S_sturm_Chain_21 (s m) x5 x6 x7) :
    ∀ (n : Nat) (a b : List Int) (K : Nat) (out : List NP), CS XC a b K → b.length < n → out.length + n ≤ 100 → Ev (fun m => s m (dp a) (dp b) (out ++ [dp a])) (out ++ (chF n a b).map dp)
  | 0, a, b, K, out, h, hb, _ => by omega
  | n + 1, a, b, K, out, h, hb, ho => by
    have hK := h.db
    have hla := h.la
    have hlt := h.lt
    by_cases h0 : b = []
    · subst h0
      rw [chF_nil]
      refine Ev.step (t := fun _ => some _) (fun m => ?_) Ev.ret
      rw [hs]; unfold S_sturm_Chain_21
      rw [if_neg (by simp [dp])]; rfl
    · obtain ⟨K', h', _⟩ := h.next h0
      have hl := nrm_len h.ta h.tb h0
      have hb0 := List.length_pos_iff.2 h0
      rw [chF_cons n a h0]
      have ih := Chain_loop hs n b (nrm a b) K' (out ++ [dp a]) h' (by omega) (by simp; omega)
      have hm : (a.length + 2) * (K + 4) ≤ 16 * (K + 4) := Nat.mul_le_mul_right _ (by omega)
      have e : (out ++ [dp a]) ++ List.map dp (chF n b (nrm a b)) = out ++ List.map dp (a :: chF n b (nrm a b)) := by simp
      rw [e] at ih
      refine Ev.step (fun m => ?_) ih
      rw [hs]; unfold S_sturm_Chain_21
      rw [if_pos (by rw [decide_eq_true_eq, dp_len]; omega), if_pos (by simp; omega), negR_bind h.ta h.tb h0 (by omega) (by omega) h.pa h.pb (by omega) (by omega) (by omega)]
theorem Rn_sturm_Chain : Run_sturm_Chain := fun s hs f g => Ok.gif fun ⟨hf, hg⟩ => by
  have pf := hf.pp
  have pg := hg.pp
  have hlf := hf.1
  have hlg := hg.1
  have ef : F_sturm_reduced f = some (dp (redL (pv f))) := gif_pos pf
  have eg : F_sturm_reduced g = some (dp (redL (pv g))) := gif_pos pg
  have l1 := trimL_len (pv f)
  have l2 := trimL_len (pv g)
  rw [pv_len] at l1 l2
  have l3 := redL_len (pv f)
  have l4 := redL_len (pv g)
  simp only [T_sturm_Chain]
  unfold chL
  by_cases h0 : redL (pv f) = []
  · rw [if_pos h0]
    refine Ev.congr (fun m => ?_) Ev.ret
    rw [ef, Option.bind_some, eg, Option.bind_some, if_pos (by rw [h0]; rfl)]; rfl
  · rw [if_neg h0]
    have hp0 := List.length_pos_iff.2 h0
    have start : Ev (fun m => s m (dp (redL (pv f))) (dp (redL (pv g))) [dp (redL (pv f))]) ((chF 100 (redL (pv f)) (redL (pv g))).map dp) := by
      by_cases h1 : redL (pv g) = []
      · rw [h1, chF_nil]
        refine Ev.step (t := fun _ => some _) (fun m => ?_) Ev.ret
        rw [hs]; unfold S_sturm_Chain_21
        rw [if_neg (by simp [dp])]; rfl
      · have hp1 := List.length_pos_iff.2 h1
        obtain ⟨K, hC, _⟩ := CS.first (redL_TL (pv f)) (redL_TL (pv g)) h1 (by omega) (by omega) (redL_PB hf.2.2) (redL_PB hg.2.2)
        have hl := nrm_len (redL_TL (pv f)) (redL_TL (pv g)) h1
        rw [chF_cons 99 _ h1]
        have := Chain_loop hs 99 (redL (pv g)) (nrm (redL (pv f)) (redL (pv g))) K [dp (redL (pv f))] hC (by omega) (by simp)
        have hm : ((redL (pv f)).length + 2) * (100 + 4) ≤ 16 * 104 := Nat.mul_le_mul_right _ (by omega)
        refine Ev.step (fun m => ?_) this
        rw [hs]; unfold S_sturm_Chain_21
        rw [if_pos (by rw [decide_eq_true_eq, dp_len]; omega), if_pos (by simp), negR_bind (redL_TL _) (redL_TL _) h1 (by omega) (by omega) (redL_PB hf.2.2) (redL_PB hg.2.2) (by omega) (by unfold KP; omega) (by unfold KP; omega)]
    refine Ev.congr (fun m => ?_) start
    rw [ef, Option.bind_some, eg, Option.bind_some, if_neg (by rw [dp_len, beq_iff_eq]; omega)]
theorem derL_PB {k : Nat} {l : List Int} (h : PB k l) (hl : l.length ≤ 1024) : PB (k + 10) (derL l) := .of fun i => by
  rw [derL_get]
  by_cases hi : i + 1 < l.length
  · exact (h.get (i + 1)).ab_mul (z := ((i + 1 : Nat) : Int)) (k := 10) (by rw [ab_pos (by omega)]; constructor <;> omega)
  · rw [getD_out (by omega), Int.zero_mul]; exact Bd.zero _
theorem derL_len (l : List Int) : (derL l).length = l.length - 1 := by simp [derL]
theorem SP.dp {k : Nat} {l : List Int} (hl : l.length ≤ 14) (h : PB k l) (hk : k ≤ 100) : SP (Go.W.dp l) :=
  ⟨by rw [dp_len]; exact hl, (PP.dp' (by omega) h (by unfold KP; omega)).2.1, by rw [pv_dp]; exact h.mono hk⟩
theorem Rn_sturm_Of : Run_sturm_Of := fun f => Ok.gif_const fun ⟨hf, hb⟩ => by
  have hl := hf.1
  have l1 := trimL_len (pv f)
  rw [pv_len] at l1
  rw [T_sturm_Of, F_unipoly_Derivative, gif_bind ⟨hf.pp, hb.mono (by omega)⟩, F_sturm_Chain, gif_bind ⟨hf, SP.dp (by rw [derL_len]; omega) (derL_PB hb.trim (by omega)) (by omega)⟩, pv_dp]
theorem chF_bd {X : Nat} : ∀ (n : Nat) (a b : List Int) (K : Nat), CS X a b K → ∀ f ∈ chF n a b, f.length ≤ 14 ∧ PB X f ∧ TL f
  | 0, a, b, K, h, f, hf => by
    simp only [chF, List.mem_cons, List.not_mem_nil, or_false] at hf
    subst hf
    exact ⟨h.la, h.pa.mono (by have := h.K; omega), h.ta⟩
  | n + 1, a, b, K, h, f, hf => by
    by_cases h0 : b = []
    · subst h0
      rw [chF_nil] at hf
      simp only [List.mem_cons, List.not_mem_nil, or_false] at hf
      subst hf
      exact ⟨h.la, h.pa.mono (by have := h.K; omega), h.ta⟩
    · rw [chF_cons n a h0] at hf
      rcases List.mem_cons.1 hf with rfl | hf
      · exact ⟨h.la, h.pa.mono (by have := h.K; omega), h.ta⟩
      · obtain ⟨K', h', _⟩ := h.next h0
        exact chF_bd n _ _ K' h' f hf
theorem chL_bd {f g : List Int} (lf : f.length ≤ 14) (lg : g.length ≤ 14) (pf : PB 100 f) (pg : PB 100 g) : ∀ h ∈ chL f g, h.length ≤ 14 ∧ PB XC h ∧ TL h := by
  intro h hh
  unfold chL at hh
  have l1 := trimL_len f
  have l2 := trimL_len g
  have l3 := redL_len f
  have l4 := redL_len g
  by_cases h0 : redL f = []
  · rw [if_pos h0] at hh; cases hh
  · rw [if_neg h0] at hh
    have first : (redL f).length ≤ 14 ∧ PB XC (redL f) ∧ TL (redL f) := ⟨by omega, (redL_PB pf).mono (by unfold XC; omega), redL_TL _⟩
    by_cases h1 : redL g = []
    · rw [h1, chF_nil] at hh
      simp only [List.mem_cons, List.not_mem_nil, or_false] at hh
      subst hh; exact first
    · rw [chF_cons 99 _ h1] at hh
      rcases List.mem_cons.1 hh with rfl | hh
      · exact first
      · obtain ⟨K, hC, _⟩ := CS.first (redL_TL f) (redL_TL g) h1 (by omega) (by omega) (redL_PB pf) (redL_PB pg)
        exact chF_bd 99 _ _ K hC h hh
theorem chF_len : ∀ (n : Nat) (a b : List Int), (chF n a b).length ≤ n + 1
  | 0, a, b => by simp [chF]
  | n + 1, a, b => by
    simp only [chF]
    split
    · simp
    · have := chF_len n b (nrm a b); simp; omega
theorem chL_len (f g : List Int) : (chL f g).length ≤ 101 := by
  unfold chL; split
  · simp
  · exact chF_len _ _ _
/-! ### sign changes -/
theorem chg_bd : ∀ (l : List Int) (x : Int), 0 ≤ chg x l ∧ chg x l ≤ l.length
  | [], x => by simp [chg]
  | s :: l, x => by
    simp only [chg]
    have := chg_bd l (if s ≠ 0 then s else x)
    simp only [List.length_cons]
    split <;> omega
theorem i64_small {a b : Int} (ha : -1 ≤ a ∧ a ≤ 1) (hb : -1 ≤ b ∧ b ≤ 1) : IntKind.wrap .i64 (a * b) = a * b := by
  have : a = -1 ∨ a = 0 ∨ a = 1 := by omega
  rcases this with rfl | rfl | rfl
  · rw [i64w] <;> omega
  · rw [i64w] <;> omega
  · rw [i64w] <;> omega
theorem Rn_sturm_changes : Run_sturm_changes := fun s hs l => Ok.gif fun ⟨hl, hb⟩ => by
  have key : ∀ (k i : Nat) (n last : Int), i + k = l.length → 0 ≤ n → n ≤ i → -1 ≤ last ∧ last ≤ 1 → Ev (fun m => s m n last l (l.length : Int) (i : Int)) (n + chg last (l.drop i)) := by
    intro k
    induction k with
    | zero =>
      intro i n last hi h0 hn hla
      refine Ev.step (t := fun _ => some _) (fun m => ?_) Ev.ret
      rw [hs]; unfold S_sturm_changes_13
      rw [if_neg (by rw [decide_eq_true_eq]; omega), List.drop_of_length_le (by omega)]
      simp [chg]
    | succ k ih =>
      intro i n last hi h0 hn hla
      have hil : i < l.length := by omega
      have hx := hb _ (List.getElem_mem hil)
      rw [List.drop_eq_getElem_cons hil]
      simp only [chg]
      have e := getD_in hil
      have pre : ∀ m, s (m + 1) n last l (l.length : Int) (i : Int) = s m (if l[i] * last < 0 then n + 1 else n) (if l[i] ≠ 0 then l[i] else last) l (l.length : Int) ((i + 1 : Nat) : Int) := fun m => by
        rw [hs]; unfold S_sturm_changes_13
        rw [if_pos (by rw [decide_eq_true_eq]; omega), if_pos (by omega), Int.toNat_natCast]
        simp only [e]
        rw [i64_small hx hla, wrap_succ (by omega), i64w (n := n + 1) (by omega) (by omega)]
        by_cases h1 : l[i] * last < 0
        · rw [if_pos (decide_eq_true h1), if_pos h1]
          by_cases h2 : l[i] ≠ 0
          · rw [if_pos (by rw [bne_iff_ne]; exact h2), if_pos h2]
          · rw [if_neg (by rw [bne_iff_ne]; exact h2), if_neg h2]
        · rw [if_neg (by rw [decide_eq_true_eq]; exact h1), if_neg h1]
          by_cases h2 : l[i] ≠ 0
          · rw [if_pos (by rw [bne_iff_ne]; exact h2), if_pos h2]
          · rw [if_neg (by rw [bne_iff_ne]; exact h2), if_neg h2]
      have := ih (i + 1) (if l[i] * last < 0 then n + 1 else n) (if l[i] ≠ 0 then l[i] else last) (by omega) (by split <;> omega) (by split <;> omega) (by split <;> assumption)
      have e3 : n + ((if l[i] * last < 0 then 1 else 0) + chg (if l[i] ≠ 0 then l[i] else last) (l.drop (i + 1))) = (if l[i] * last < 0 then n + 1 else n) + chg (if l[i] ≠ 0 then l[i] else last) (l.drop (i + 1)) := by split <;> omega
      rw [e3]
      exact Ev.step pre this
  have := key l.length 0 0 0 (by omega) (by omega) (by omega) (by omega)
  rw [List.drop_zero, Int.zero_add] at this
  simp only [T_sturm_changes]
  exact this
theorem sgE_range (l : List Int) (b : Bool) : -1 ≤ sgE l b ∧ sgE l b ≤ 1 := by
  unfold sgE
  have := sg_range (lc l)
  split <;> omega
theorem map_range_get {α β : Type} (l : List α) (z : α) (f : α → β) : (List.range l.length).map (fun i => f (l.getD i z)) = l.map f := by
  apply List.ext_getElem (by simp)
  intro i h1 h2
  simp at h1 h2
  simp [List.getD, h2]
theorem getD_mem' {α : Type} {l : List α} {i : Nat} {z : α} (h : i < l.length) : l.getD i z ∈ l := by
  simp [List.getD, List.getElem?_eq_getElem h]
theorem Rn_sturm_VariationsEnd : Run_sturm_VariationsEnd := fun s hs ch mi => Ok.gif fun ⟨hl, hp⟩ => by
  have := fill_loop (n := ch.length) (fun i => sgE (trimL (pv (ch.getD i []))) mi) (0 : Int) (fun m i out => s m mi ch (ch.length : Int) (i : Int) out) (vE (ch.map fun f => trimL (pv f)) mi) (fun m i out hi ho => by
    rw [hs]; unfold S_sturm_VariationsEnd_13
    rw [if_pos (by rw [decide_eq_true_eq]; omega), if_pos (by omega), Int.toNat_natCast, F_unipoly_SignEnd, gif_bind (hp _ (getD_mem' hi)), if_pos (by omega), wrap_succ (by omega)]) (by
    have e : (List.range ch.length).map (fun i => sgE (trimL (pv (ch.getD i []))) mi) = (ch.map fun f => trimL (pv f)).map fun f => sgE f mi := by
      rw [map_range_get ch [] (fun f => sgE (trimL (pv f)) mi), List.map_map]; rfl
    rw [e]
    refine Ev.step (t := fun _ => some _) (fun m => ?_) Ev.ret
    rw [hs]; unfold S_sturm_VariationsEnd_13
    rw [if_neg (by simp), F_sturm_changes, gif_bind ⟨by simp; exact hl, fun x hx => by
      obtain ⟨f, _, rfl⟩ := List.mem_map.1 hx
      exact sgE_range _ _⟩]
    rfl)
  simp only [T_sturm_VariationsEnd]
  refine Ev.congr (fun m => ?_) this
  rw [if_pos (by omega), rep_len]
  rfl
theorem vE_bd (ch : List (List Int)) (b : Bool) : 0 ≤ vE ch b ∧ vE ch b ≤ ch.length := by
  have := chg_bd (ch.map fun f => sgE f b) 0
  unfold vE; simpa using this
theorem chain_dp {ch : List (List Int)} (h : ∀ f ∈ ch, f.length ≤ 14 ∧ PB XC f ∧ TL f) : (∀ f ∈ ch.map dp, PP f) ∧ (ch.map dp).map (fun f => trimL (pv f)) = ch := by
  constructor
  · intro f hf
    obtain ⟨x, hx, rfl⟩ := List.mem_map.1 hf
    exact PP.dp' (by have := (h x hx).1; omega) (h x hx).2.1 (by unfold XC KP; omega)
  · rw [List.map_map]
    conv => rhs; rw [← List.map_id ch]
    exact List.map_congr_left fun x hx => by
      show trimL (pv (dp x)) = x
      rw [pv_dp]; exact (h x hx).2.2
theorem Rn_sturm_All : Run_sturm_All := fun f => Ok.gif_const fun ⟨hf, hb⟩ => by
  have hl := hf.1
  have l1 := trimL_len (pv f)
  rw [pv_len] at l1
  have hbd := chL_bd (f := pv f) (g := derL (trimL (pv f))) (by rw [pv_len]; exact hl) (by rw [derL_len]; omega) (hb.mono (by omega)) (derL_PB hb.trim (by omega))
  obtain ⟨c1, c2⟩ := chain_dp hbd
  have cl := chL_len (pv f) (derL (trimL (pv f)))
  have v1 := vE_bd (chL (pv f) (derL (trimL (pv f)))) true
  have v2 := vE_bd (chL (pv f) (derL (trimL (pv f)))) false
  have ev : ∀ b, F_sturm_VariationsEnd ((chL (pv f) (derL (trimL (pv f)))).map dp) b = some (vE (chL (pv f) (derL (trimL (pv f)))) b) := fun b => by
    rw [F_sturm_VariationsEnd, gif_pos ⟨by simp; omega, c1⟩, c2]
  rw [T_sturm_All, F_sturm_Of, gif_bind ⟨hf, hb⟩, ev, Option.bind_some, ev, Option.bind_some, i64w (by omega) (by omega)]
theorem awake_chain : vE (chL [-2, 0, 1] (derL (trimL [-2, 0, 1]))) true - vE (chL [-2, 0, 1] (derL (trimL [-2, 0, 1]))) false = 2 := by decide +kernel
theorem Rn_law15_awake : Run_law15_awake := Ok.gif_const fun _ => by
  have hPB : PB 3 [-2, 0, 1] := fun c hc => by
    simp only [List.mem_cons, List.not_mem_nil, or_false] at hc
    rcases hc with rfl | rfl | rfl <;> constructor <;> decide
  have e : trimL [-2, 0, 1] = [-2, 0, 1] := by decide
  rw [T_law15_awake, F_unipoly_Of, gif_bind ⟨by simp, fun c hc => by
    simp only [List.mem_cons, List.not_mem_nil, or_false] at hc
    omega⟩, e, F_sturm_All, gif_bind ⟨SP.dp (by simp) hPB (by omega), by rw [pv_dp]; exact hPB.mono (by omega)⟩, pv_dp, awake_chain]
  rfl
theorem Rn_law15_Short : Run_law15_Short := fun s hs l n => Ok.gif fun ⟨hl, hb, n0, n1⟩ => by
  obtain ⟨N, rfl⟩ : ∃ N : Nat, n = N := ⟨n.toNat, by omega⟩
  have hof : ∀ k, k ≤ N → F_unipoly_Of (l.take k) = some (dp (trimL (l.take k))) := fun k hk => gif_pos ⟨by simp; omega, fun c hc => by have := hb c (List.mem_of_mem_take hc); omega⟩
  unfold maxLen at hl
  have key : ∀ d k : Nat, k + d = min N l.length → Ev (fun m => s m l (N : Int) (k : Int) (l.take k)) (dp (trimL (l.take N))) := by
    intro d
    induction d with
    | zero =>
      intro k hk
      have e : l.take N = l.take k := by
        by_cases h : N ≤ l.length
        · rw [show N = k by omega]
        · rw [List.take_of_length_le (by omega), List.take_of_length_le (by omega)]
      refine Ev.step (t := fun _ => some _) (fun m => ?_) Ev.ret
      rw [hs]; unfold S_law15_Short_13
      by_cases h1 : k < l.length
      · rw [if_pos (by rw [decide_eq_true_eq]; omega), if_neg (by rw [decide_eq_true_eq]; omega), hof k (by omega), e]; rfl
      · rw [if_neg (by rw [decide_eq_true_eq]; omega), hof k (by omega), e]; rfl
    | succ d ih =>
      intro k hk
      have hkl : k < l.length := by omega
      have hc := hb _ (List.getElem_mem hkl)
      refine Ev.step (fun m => ?_) (ih (k + 1) (by omega))
      rw [hs]; unfold S_law15_Short_13
      rw [if_pos (by rw [decide_eq_true_eq]; omega), if_pos (by rw [decide_eq_true_eq]; omega), if_pos (by omega), Int.toNat_natCast, if_pos (by simp; omega), getD_in hkl, i64w (n := l[k]) (by omega) (by omega), wrap_succ (by omega), List.take_succ_eq_append_getElem hkl]
  have := key (min N l.length) 0 (by omega)
  simp only [T_law15_Short, Int.toNat_natCast]
  exact this
end Go.W

set_option linter.unusedVariables false
set_option linter.unusedSimpArgs false
namespace Go.W

/-- two neighbours of a chain -/
structure Pr (x y : List Int) : Prop where
  tx : TL x
  ty : TL y
  y0 : y ≠ []
  lx : x.length ≤ 14
  ly : y.length ≤ 14
  pb : ∃ K, PB K x ∧ PB K y ∧ K + 16 * (K + 4) ≤ 900000000000
  nx : ∃ K, CS XC y (nrm x y) K ∧ PB K (pseudo x y).2
theorem Pr.of {x y : List Int} {K : Nat} (h : CS XC x y K) (h0 : y ≠ []) : Pr x y :=
  ⟨h.ta, h.tb, h0, h.la, by have := h.la; have := h.lt; omega, ⟨K, h.pa, h.pb, h.db.1⟩, h.next h0⟩
theorem awake15 : F_law15_awake = some true := gif_pos trivial
theorem short_PB {c : List Int} (hc : ∀ x ∈ c, -32768 ≤ x ∧ x ≤ 32767) (n : Nat) : PB 16 (trimL (c.take n)) := PB.trim fun x hx => by
  have := hc x (List.mem_of_mem_take hx)
  unfold ab; constructor <;> split <;> omega
theorem short_len (c : List Int) (n : Nat) : (trimL (c.take n)).length ≤ n := by
  have h1 := trimL_len (c.take n)
  have h2 : (c.take n).length ≤ n := by simp; omega
  omega
end Go.W

set_option linter.unusedVariables false
set_option linter.unusedSimpArgs false
namespace Go.W

/-! ### the reference's text -/
end Go.W

set_option linter.unusedVariables false
set_option linter.unusedSimpArgs false
namespace Go.W

end Go.W

set_option linter.unusedVariables false
set_option linter.unusedSimpArgs false
namespace Go.W

/-! ### reading decimal digits -/
end Go.W

set_option linter.unusedVariables false
set_option linter.unusedSimpArgs false
namespace Go.W

end Go.W

set_option linter.unusedVariables false
set_option linter.unusedSimpArgs false
namespace Go.W

end Go.W

set_option linter.unusedVariables false
set_option linter.unusedSimpArgs false
namespace Go.W

end Go.W

set_option linter.unusedVariables false
set_option linter.unusedSimpArgs false
namespace Go.W

theorem divInt_i (n : Int) : Rat.divInt n 1 = (n : Rat) := by
  have := Rat.num_divInt_den (n : Rat)
  rw [Rat.num_intCast, Rat.den_intCast] at this
  exact this
end Go.W

set_option linter.unusedVariables false
namespace Go.W
/-! ### the simplest number between two -/
def Simp (a b q : Rat) : Prop := a < q ∧ q < b ∧ ∀ r : Rat, a < r → r < b → q.num ≤ r.num ∧ q.den ≤ r.den
open Classical in
noncomputable def simp (a b : Rat) : Rat := if h : ∃ q, Simp a b q then h.choose else 0
end Go.W

set_option linter.unusedVariables false
namespace Go.W
noncomputable section

/-! cylinder/rational.within -/
end
end Go.W

set_option linter.unusedVariables false
set_option linter.unusedSimpArgs false
namespace Go.W

/-! ### The simplest number between two -/
theorem num_eq (r : Rat) : (r.num : Rat) = r * ((r.den : Int) : Rat) := by
  have h := QB.as r
  have hd : ((r.den : Int) : Rat) ≠ 0 := by
    rw [Ne, Rat.intCast_eq_zero_iff]; have := r.den_pos; omega
  rw [Rat.divInt_eq_div] at h
  generalize ((r.den : Int) : Rat) = D at *
  generalize (r.num : Rat) = N at *
  grind
theorem den_ge (r : Rat) : (1 : Rat) ≤ ((r.den : Int) : Rat) := by
  have := r.den_pos
  exact Rat.intCast_le_intCast (a := 1) |>.2 (by omega)
theorem add_int (n : Int) (t : Rat) : ((n : Rat) + t).num = n * t.den + t.num ∧ ((n : Rat) + t).den = t.den := by
  have hp := t.den_pos
  have e : (n : Rat) + t = Rat.divInt (n * t.den + t.num) t.den := by
    have h : (n : Rat) = Rat.divInt n 1 := (divInt_i n).symm
    conv => lhs; rw [h, QB.as t]
    rw [Rat.divInt_add_divInt _ _ (by omega) (by omega)]
    congr 1 <;> omega
  have hg : Int.gcd (n * t.den + t.num) (t.den : Int) = 1 := by
    have := t.reduced
    rw [Int.gcd_comm, Int.add_comm]
    have h2 : Int.gcd (t.den : Int) (t.num + n * t.den) = Int.gcd (t.den : Int) t.num := by
      rw [Int.mul_comm]; exact Int.gcd_add_mul_left_right ..
    rw [h2, Int.gcd_comm]
    exact this
  have hn : ((n : Rat) + t).num = n * t.den + t.num := by rw [e, num_div (by omega), hg]; simp
  have hd : (((n : Rat) + t).den : Int) = t.den := by rw [e, den_div (by omega), hg]; simp
  exact ⟨hn, by omega⟩
theorem sub_int (n : Int) (t : Rat) : (t - (n : Rat)).num = t.num - n * t.den ∧ (t - (n : Rat)).den = t.den := by
  have h := add_int (-n) t
  have e : ((-n : Int) : Rat) + t = t - (n : Rat) := by rw [Rat.intCast_neg]; grind
  rw [e] at h
  exact ⟨by rw [h.1, Int.neg_mul]; omega, h.2⟩
theorem num_pos' {t : Rat} : 0 < t ↔ 0 < t.num := by
  have h1 := @Rat.num_nonneg t
  have h2 := @Rat.num_eq_zero t
  constructor
  · intro h
    have : 0 ≤ t.num := h1.2 (Rat.le_of_lt h)
    have h3 : t.num ≠ 0 := fun e => by rw [h2.1 e] at h; exact absurd h Rat.lt_irrefl
    omega
  · intro h
    have : 0 ≤ t := h1.1 (by omega)
    refine Rat.lt_of_le_of_ne this fun e => ?_
    rw [← e] at h; simp at h
theorem inv_parts {t : Rat} (h : 0 < t) : (t⁻¹).num = t.den ∧ ((t⁻¹).den : Int) = t.num := by
  have hp := num_pos'.1 h
  refine ⟨?_, ?_⟩
  · rw [Rat.num_inv, Int.sign_eq_one_of_pos hp, Int.one_mul]
  · rw [Rat.den_inv, if_neg (by omega)]; omega
theorem inv_lt {s t : Rat} (hs : 0 < s) (h : s < t) : t⁻¹ < s⁻¹ := by
  have ht : 0 < t := by grind
  have h1 := Rat.mul_inv_cancel s (by grind)
  have h2 := Rat.mul_inv_cancel t (by grind)
  have p1 := Rat.inv_pos.2 hs
  have p2 := Rat.inv_pos.2 ht
  have h3 := Rat.mul_lt_mul_of_pos_right (Rat.mul_lt_mul_of_pos_right h p1) p2
  generalize s⁻¹ = S at *
  generalize t⁻¹ = T at *
  have e1 : s * S * T = T := by rw [h1, Rat.one_mul]
  have e2 : t * S * T = S := by grind
  rw [e1, e2] at h3
  exact h3
theorem Simp.next {a b : Rat} (ha : 0 ≤ a) (h : ((a.floor + 1 : Int) : Rat) < b) : Simp a b ((a.floor + 1 : Int) : Rat) := by
  refine ⟨Rat.lt_floor_add_one a, h, fun r h1 h2 => ?_⟩
  rw [Rat.num_intCast, Rat.den_intCast]
  refine ⟨?_, r.den_pos⟩
  have hr : 0 < r := by grind
  have hf := Rat.floor_lt_iff (a := a) (x := r.num)
  have : a < (r.num : Rat) := by
    have e := num_eq r
    have d := den_ge r
    have : r * 1 ≤ r * ((r.den : Int) : Rat) := Rat.mul_le_mul_of_nonneg_left d (Rat.le_of_lt hr)
    grind
  have := hf.2 this
  omega
theorem floor_nonneg {a : Rat} (ha : 0 ≤ a) : 0 ≤ a.floor := Rat.le_floor_iff.2 (by simpa using ha)
theorem shift_in {a b r : Rat} (n : Int) (h1 : a < r) (h2 : r < b) : a - (n : Rat) < r - (n : Rat) ∧ r - (n : Rat) < b - (n : Rat) := by constructor <;> grind
theorem Simp.unit {a b : Rat} (ha : 0 ≤ a) (hab : a < b) (hx : a - (a.floor : Rat) = 0) :
    Simp a b ((a.floor : Rat) + ((((b - (a.floor : Rat))⁻¹).floor + 1 : Int) : Rat)⁻¹) := by
  have hn := floor_nonneg ha
  generalize ea : a.floor = n at *
  generalize ey : b - (n : Rat) = y at *
  have hy : 0 < y := by grind
  have hyi := Rat.inv_pos.2 hy
  generalize em : (y⁻¹).floor + 1 = m at *
  have hm1 : 1 ≤ m := by
    have := floor_nonneg (Rat.le_of_lt hyi)
    omega
  have hmr : (0 : Rat) < (m : Rat) := Rat.intCast_pos.2 (by omega)
  have hlt : y⁻¹ < (m : Rat) := by rw [← em]; exact Rat.lt_floor_add_one _
  have hmi := Rat.inv_pos.2 hmr
  have hinv : (m : Rat)⁻¹ < y := by
    have := inv_lt hyi hlt
    rwa [Rat.inv_inv] at this
  obtain ⟨p1, p2⟩ := inv_parts hmr
  rw [Rat.num_intCast] at p2
  rw [Rat.den_intCast] at p1
  obtain ⟨q1, q2⟩ := add_int n ((m : Rat)⁻¹)
  refine ⟨by grind, by grind, fun r h1 h2 => ?_⟩
  obtain ⟨t1, t2⟩ := shift_in n h1 h2
  obtain ⟨u1, u2⟩ := sub_int n r
  generalize r - (n : Rat) = t at *
  rw [hx] at t1
  rw [ey] at t2
  have ht := num_pos'.1 t1
  have hti := inv_lt t1 t2
  obtain ⟨v1, v2⟩ := inv_parts t1
  have hden : m ≤ (t.den : Int) := by
    have h3 : y⁻¹ < ((t.den : Int) : Rat) := by
      have e := num_eq t⁻¹
      rw [v1] at e
      have d := den_ge t⁻¹
      have hp := Rat.inv_pos.2 t1
      have : t⁻¹ * 1 ≤ t⁻¹ * (((t⁻¹).den : Int) : Rat) := Rat.mul_le_mul_of_nonneg_left d (Rat.le_of_lt hp)
      grind
    have := Rat.floor_lt_iff.2 h3
    omega
  have hmul : n * m ≤ n * (t.den : Int) := Int.mul_le_mul_of_nonneg_left hden hn
  refine ⟨?_, by omega⟩
  have e3 : r.num = t.num + n * (t.den : Int) := by rw [u2]; omega
  rw [q1, p1, e3, p2]; omega
theorem Simp.step {a b s : Rat} (ha : 0 ≤ a) (hab : a < b) (hx : 0 < a - (a.floor : Rat)) (hs : Simp (b - (a.floor : Rat))⁻¹ (a - (a.floor : Rat))⁻¹ s) :
    Simp a b ((a.floor : Rat) + s⁻¹) := by
  have hn := floor_nonneg ha
  generalize ea : a.floor = n at *
  generalize ey : b - (n : Rat) = y at *
  generalize ex : a - (n : Rat) = x at *
  have hy : 0 < y := by grind
  have hyi := Rat.inv_pos.2 hy
  have hxi := Rat.inv_pos.2 hx
  obtain ⟨s1, s2, s3⟩ := hs
  have hsp : 0 < s := by grind
  have i1 := inv_lt hyi s1
  have i2 := inv_lt hsp s2
  rw [Rat.inv_inv] at i1 i2
  obtain ⟨p1, p2⟩ := inv_parts hsp
  obtain ⟨q1, q2⟩ := add_int n (s⁻¹)
  refine ⟨by grind, by grind, fun r h1 h2 => ?_⟩
  obtain ⟨t1, t2⟩ := shift_in n h1 h2
  obtain ⟨u1, u2⟩ := sub_int n r
  generalize r - (n : Rat) = t at *
  rw [ex] at t1
  rw [ey] at t2
  have htp : 0 < t := by grind
  obtain ⟨v1, v2⟩ := inv_parts htp
  obtain ⟨w1, w2⟩ := s3 t⁻¹ (inv_lt htp t2) (inv_lt hx t1)
  rw [v1] at w1
  have hmul : n * s.num ≤ n * (t.den : Int) := Int.mul_le_mul_of_nonneg_left w1 hn
  have hsn := num_pos'.1 hsp
  refine ⟨?_, by omega⟩
  have e3 : r.num = t.num + n * (t.den : Int) := by rw [u2]; omega
  rw [q1, p1, e3, p2]; omega
end Go.W

set_option linter.unusedVariables false
set_option linter.unusedSimpArgs false
namespace Go.W

theorem QV.m {j k : Nat} {a : NQ} {r : Rat} (h : QV j a r) (hk : j ≤ k) : QV k a r := ⟨h.1, h.2.1, h.2.2.mono hk⟩
end Go.W

set_option linter.unusedVariables false
set_option linter.unusedSimpArgs false
namespace Go.W

theorem evR_trim : ∀ (l : List Int) (x : Rat), evR (trimL l) x = evR l x
  | [], x => rfl
  | c :: l, x => by
    have ih := evR_trim l x
    simp only [trimL]
    split
    · rename_i h
      obtain ⟨rfl, h⟩ := h
      rw [h] at ih
      simp only [evR] at ih ⊢
      rw [← ih]
      have : ((0 : Int) : Rat) = 0 := rfl
      grind
    · simp only [evR, ih]
theorem evZ_R : ∀ (l : List Int) (n d : Int) (x : Rat), x * (d : Rat) = (n : Rat) → ((evZ l n d : Int) : Rat) * (d : Rat) = evR l x * (d : Rat) ^ l.length
  | [], n, d, x, h => by
    simp only [evZ, evR]
    have : ((0 : Int) : Rat) = 0 := rfl
    rw [this, Rat.zero_mul, Rat.zero_mul]
  | c :: l, n, d, x, h => by
    have ih := evZ_R l n d x h
    simp only [evZ, evR, List.length_cons]
    rw [Rat.intCast_add, Rat.intCast_mul, Rat.intCast_mul, Rat.intCast_pow, Rat.pow_succ]
    generalize ((evZ l n d : Int) : Rat) = E at *
    generalize (d : Rat) = D at *
    generalize (n : Rat) = N at *
    generalize evR l x = V at *
    generalize (c : Rat) = C at *
    generalize D ^ l.length = W at *
    grind
theorem sg_rsg (z : Int) : sg z = rsg (z : Rat) := by
  unfold sg rsg
  have h1 : ((z : Rat) < 0) ↔ z < 0 := Rat.intCast_neg_iff
  have h2 : ((z : Rat) = 0) ↔ z = 0 := Rat.intCast_eq_zero_iff
  simp only [h1, h2]
theorem rsg_mul_pos {x y : Rat} (hy : 0 < y) : rsg (x * y) = rsg x := by
  have h1 : x * y < 0 ↔ x < 0 := by
    constructor
    · intro h
      rcases Std.lt_trichotomy x 0 with h2 | h2 | h2
      · exact h2
      · rw [h2, Rat.zero_mul] at h; exact absurd h Rat.lt_irrefl
      · have := Rat.mul_pos h2 hy; grind
    · intro h
      have := Rat.mul_lt_mul_of_pos_right h hy
      rwa [Rat.zero_mul] at this
  have h2 : x * y = 0 ↔ x = 0 := by
    constructor
    · intro h
      rcases Rat.mul_eq_zero.1 h with h | h
      · exact h
      · rw [h] at hy; exact absurd hy Rat.lt_irrefl
    · intro h; rw [h, Rat.zero_mul]
  unfold rsg
  simp only [h1, h2]
theorem rat_pow_pos {d : Rat} (h : 0 < d) : ∀ n : Nat, 0 < d ^ n
  | 0 => by rw [Rat.pow_zero]; decide +kernel
  | n + 1 => by rw [Rat.pow_succ]; exact Rat.mul_pos (rat_pow_pos h n) h
theorem evZ_sign (l : List Int) (r : Rat) : sg (evZ l r.num (r.den : Int)) = rsg (evR l r) := by
  have hd : (0 : Rat) < ((r.den : Int) : Rat) := Rat.intCast_pos.2 (by have := r.den_pos; omega)
  have h := evZ_R l r.num (r.den : Int) r (num_eq r).symm
  rw [sg_rsg, ← rsg_mul_pos hd, h, rsg_mul_pos (rat_pow_pos hd _)]
theorem den_di (r : Rat) : ((false, dn (r.den : Int)) : Bool × List Int) = di (r.den : Int) := by unfold di; rw [ab_pos (by omega)]; congr 1
theorem evZ_drop {l : List Int} {k : Nat} (hk : k < l.length) (n d : Int) : evZ (l.drop k) n d = l.getD k 0 * d ^ (l.length - (k + 1)) + n * evZ (l.drop (k + 1)) n d := by
  rw [List.drop_eq_getElem_cons hk]
  simp only [evZ, List.length_drop, getD_in hk]
theorem evZ_Bd {n d : Int} (bn : Bd 1000 (ab n)) (bd : Bd 1000 (ab d)) : ∀ l : List Int, PB 1000000000 l → Bd (1000000000 + 2000 * l.length) (ab (evZ l n d))
  | [], _ => Bd.zero _
  | c :: l, h => by
    have h1 := evZ_Bd bn bd l fun x hx => h x (by simp [hx])
    have h2 := Bd.pow' bd l.length
    have h3 := h c (by simp)
    simp only [evZ, List.length_cons]
    exact ((h3.ab_mul h2).ab_add (bn.ab_mul h1)).mono (by omega)
theorem scaled_num (f : NP) (a : NQ) (h : f.length ≤ 100 ∧ (∀ c ∈ f, II c) ∧ PB 1000000000 (pv f) ∧ QQ a ∧ QB 1000 (rv a)) : PP f := ⟨by omega, h.2.1, h.2.2.1.mono (by unfold KP; omega)⟩
theorem Rn_unipoly_scaled : Run_unipoly_scaled := fun s hs f a => Ok.gif fun h => by
  have hp := scaled_num f a h
  obtain ⟨hl, hI, hb, hq, hqb⟩ := h
  have l1 := trimL_len (pv f)
  rw [pv_len] at l1
  have hbt := hb.trim
  have hII : ∀ i, II ((f.take (trimL (pv f)).length).getD i (false, ([] : List Int))) := fun i => II_get (fun c hc => hI c (List.mem_of_mem_take hc)) _
  have eN : F_rational_Normal a = some (dr (rv a)) := gif_pos hq
  have gtake : ∀ i, iv ((f.take (trimL (pv f)).length).getD i (false, ([] : List Int))) = (trimL (pv f)).getD i 0 := fun i => by rw [pv_get, take_trim]
  have tl := take_len f
  obtain ⟨T, hT⟩ : ∃ T, f.take (trimL (pv f)).length = T := ⟨_, rfl⟩
  rw [hT] at tl
  simp only [hT] at hII gtake
  obtain ⟨l, hl0⟩ : ∃ l, trimL (pv f) = l := ⟨_, rfl⟩
  rw [hl0] at tl l1 hbt ⊢
  simp only [hl0] at gtake
  generalize rv a = r at *
  have bn : Bd 1000 (ab r.num) := hqb.1
  have bd : Bd 1000 (ab (r.den : Int)) := by rw [ab_pos (by omega)]; exact hqb.2
  have key : ∀ k : Nat, k ≤ l.length → Ev (fun m => s m T ((k : Int) - 1) (dr r) (false, ([] : List Int)) (false, ([] : List Int)) (di (evZ (l.drop k) r.num (r.den : Int))) (di ((r.den : Int) ^ (l.length - max k 1))) (false, dn (r.den : Int))) (di (if l = [] then 1 else (r.den : Int) ^ (l.length - 1)), di (evZ l r.num (r.den : Int))) := by
    have bound : ∀ k : Nat, k ≤ l.length → Bd (1000000000 + 2000 * (l.length - k)) (ab (evZ (l.drop k) r.num (r.den : Int))) := fun k _ => by
      have := evZ_Bd bn bd (l.drop k) fun x hx => hbt x (List.mem_of_mem_drop hx)
      rwa [List.length_drop] at this
    intro k
    induction k with
    | zero =>
      intro _
      refine Ev.step (t := fun _ => some _) (fun m => ?_) Ev.ret
      rw [hs]; unfold S_unipoly_scaled_21
      rw [if_neg (by decide), List.drop_zero]
      congr 2
      by_cases h0 : l = []
      · rw [if_pos h0, h0]; rfl
      · rw [if_neg h0]; rfl
    | succ k ih =>
      intro hk
      have hkl : k < l.length := by omega
      have ih := ih (by omega)
      have b1 := bound (k + 1) hk
      have b2 := Bd.pow' bd (l.length - (k + 1))
      have hc := hbt.get k
      have i1 : II (di (evZ (l.drop (k + 1)) r.num (r.den : Int))) := II.di b1 (by omega)
      have i2 : II (di ((r.den : Int) ^ (l.length - (k + 1)))) := II.di b2 (by omega)
      have i3 : II (di r.num) := II.di bn (by omega)
      have e1 : ((k + 1 : Nat) : Int) - 1 = (k : Int) := by omega
      have emax : max (k + 1) 1 = k + 1 := by omega
      rw [emax]
      refine Ev.step (fun m => ?_) ih
      rw [hs, e1]; unfold S_unipoly_scaled_21
      have m1 : F_integer_Mul (di (evZ (l.drop (k + 1)) r.num (r.den : Int))) (dr r).1 = some (di (evZ (l.drop (k + 1)) r.num (r.den : Int) * r.num)) := by
        show F_integer_Mul _ (di r.num) = _
        rw [F_integer_Mul, gif_pos ⟨i1, i3⟩, iv_di, iv_di]
      have m2 : F_integer_Mul (di ((r.den : Int) ^ (l.length - (k + 1)))) (T.getD k (false, ([] : List Int))) = some (di ((r.den : Int) ^ (l.length - (k + 1)) * l.getD k 0)) := by
        rw [F_integer_Mul, gif_pos ⟨i2, hII k⟩, iv_di, gtake]
      have ev : evZ (l.drop (k + 1)) r.num (r.den : Int) * r.num + (r.den : Int) ^ (l.length - (k + 1)) * l.getD k 0 = evZ (l.drop k) r.num (r.den : Int) := by
        rw [evZ_drop hkl, Int.mul_comm r.num, Int.mul_comm (l.getD k 0)]; omega
      have m3 : F_integer_Add (di (evZ (l.drop (k + 1)) r.num (r.den : Int) * r.num)) (di ((r.den : Int) ^ (l.length - (k + 1)) * l.getD k 0)) = some (di (evZ (l.drop k) r.num (r.den : Int))) := by
        rw [F_integer_Add, gif_pos ⟨II.di (b1.ab_mul bn) (by omega), II.di (b2.ab_mul hc) (by omega)⟩, iv_di, iv_di, ev]
      have m4 : F_integer_Mul (di ((r.den : Int) ^ (l.length - (k + 1)))) (false, dn (r.den : Int)) = some (di ((r.den : Int) ^ (l.length - (k + 1) + 1))) := by
        rw [den_di, F_integer_Mul, gif_pos ⟨i2, II.di bd (by omega)⟩, iv_di, iv_di, Int.pow_succ]
      rw [if_pos (by rw [decide_eq_true_eq]; omega), m1, Option.bind_some, if_pos (by rw [tl]; omega), Int.toNat_natCast, m2, Option.bind_some, m3, Option.bind_some, i64w (by omega) (by omega)]
      by_cases hk0 : 0 < k
      · rw [if_pos (by rw [decide_eq_true_eq]; omega), m4, Option.bind_some, show l.length - (k + 1) + 1 = l.length - max k 1 by omega]
      · rw [if_neg (by rw [decide_eq_true_eq]; omega), show l.length - (k + 1) = l.length - max k 1 by omega]
  have := key l.length (Nat.le_refl _)
  rw [List.drop_of_length_le (Nat.le_refl _)] at this
  have e0 : di (evZ [] r.num (r.den : Int)) = (false, ([] : List Int)) := di_zero
  have e1 : (r.den : Int) ^ (l.length - max l.length 1) = 1 := by rw [show l.length - max l.length 1 = 0 by omega, Int.pow_zero]
  rw [e0, e1] at this
  simp only [T_unipoly_scaled]
  refine Ev.congr (fun m => ?_) this
  rw [trim_bind hp, eN, Option.bind_some, F_integer_Of, gif_bind (by omega), hT, tl, i64w (by omega) (by omega)]
  rfl
theorem Rn_unipoly_SignAt : Run_unipoly_SignAt := fun f a => Ok.gif_const fun h => by
  obtain ⟨hl, hI, hb, hq, hqb⟩ := id h
  have l1 := trimL_len (pv f)
  rw [pv_len] at l1
  have hB := evZ_Bd (n := (rv a).num) (d := ((rv a).den : Int)) hqb.1 (by rw [ab_pos (by omega)]; exact hqb.2) (trimL (pv f)) hb.trim
  rw [T_unipoly_SignAt, F_unipoly_scaled, gif_bind h]
  show (F_integer_Sign (di (evZ (trimL (pv f)) (rv a).num ((rv a).den : Int)))).bind _ = _
  rw [F_integer_Sign, gif_bind (II.di hB (by omega)), iv_di, evZ_sign, evR_trim]
theorem rsg_range' (x : Rat) : -1 ≤ rsg x ∧ rsg x ≤ 1 := by unfold rsg; (repeat' split) <;> omega
theorem Rn_sturm_Variations : Run_sturm_Variations := fun s hs ch a => Ok.gif fun ⟨hl, hp, hq, hqb⟩ => by
  have := fill_loop (n := ch.length) (fun i => rsg (evR (pv (ch.getD i [])) (rv a))) (0 : Int) (fun m i out => s m ch (ch.length : Int) (i : Int) a out) (vA (ch.map pv) (rv a)) (fun m i out hi ho => by
    obtain ⟨h1, h2, h3⟩ := hp _ (getD_mem' (z := ([] : NP)) hi)
    rw [hs]; unfold S_sturm_Variations_13
    rw [if_pos (by rw [decide_eq_true_eq]; omega), if_pos (by omega), Int.toNat_natCast, F_unipoly_SignAt, gif_bind ⟨h1, h2, h3, hq, hqb⟩, if_pos (by omega), wrap_succ (by omega)]) (by
    have e : (List.range ch.length).map (fun i => rsg (evR (pv (ch.getD i [])) (rv a))) = (ch.map pv).map fun f => rsg (evR f (rv a)) := by
      rw [map_range_get ch [] (fun f => rsg (evR (pv f) (rv a))), List.map_map]; rfl
    rw [e]
    refine Ev.step (t := fun _ => some _) (fun m => ?_) Ev.ret
    rw [hs]; unfold S_sturm_Variations_13
    rw [if_neg (by simp), F_sturm_changes, gif_bind ⟨by simp; exact hl, fun x hx => by
      obtain ⟨f, _, rfl⟩ := List.mem_map.1 hx
      exact rsg_range' _⟩]
    rfl)
  simp only [T_sturm_Variations]
  refine Ev.congr (fun m => ?_) this
  rw [if_pos (by omega), rep_len]
  rfl
theorem Rn_law15_changes : Run_law15_changes := fun s hs l => Ok.gif fun ⟨hl, hb⟩ => by
  have key : ∀ (k i : Nat) (n last : Int), i + k = l.length → 0 ≤ n → n ≤ i → -1 ≤ last ∧ last ≤ 1 → Ev (fun m => s m l n last (i : Int)) (n + chg last (l.drop i)) := by
    intro k
    induction k with
    | zero =>
      intro i n last hi h0 hn hla
      refine Ev.step (t := fun _ => some _) (fun m => ?_) Ev.ret
      rw [hs]; unfold S_law15_changes_17
      rw [if_neg (by rw [decide_eq_true_eq]; omega), List.drop_of_length_le (by omega)]
      simp [chg]
    | succ k ih =>
      intro i n last hi h0 hn hla
      have hil : i < l.length := by omega
      have hx := hb _ (List.getElem_mem hil)
      rw [List.drop_eq_getElem_cons hil]
      simp only [chg]
      have e := getD_in hil
      have hprod : l[i] ≠ 0 → (last = -l[i] ↔ l[i] * last < 0) := fun h0 => by
        have h1 : l[i] = -1 ∨ l[i] = 1 := by omega
        rcases h1 with h1 | h1 <;> rw [h1] <;> omega
      have pre : ∀ m, s (m + 1) l n last (i : Int) = s m l (if l[i] * last < 0 then n + 1 else n) (if l[i] ≠ 0 then l[i] else last) ((i + 1 : Nat) : Int) := fun m => by
        rw [hs]; unfold S_law15_changes_17
        rw [if_pos (by rw [decide_eq_true_eq]; omega), if_pos (by omega), Int.toNat_natCast]
        simp only [e]
        rw [wrap_succ (by omega), i64w (n := n + 1) (by omega) (by omega), i64w (n := 0 - l[i]) (by omega) (by omega)]
        by_cases h2 : l[i] ≠ 0
        · rw [if_pos (by rw [bne_iff_ne]; exact h2), if_pos (by omega), if_pos h2]
          by_cases h1 : l[i] * last < 0
          · have h3 := (hprod h2).2 h1
            rw [if_pos (by rw [beq_iff_eq]; omega), if_pos (by omega), if_pos h1]
          · have h3 : ¬ last = -l[i] := fun h => h1 ((hprod h2).1 h)
            rw [if_neg (by rw [beq_iff_eq]; omega), if_pos (by omega), if_neg h1]
        · have h3 : l[i] = 0 := by omega
          rw [if_neg (by rw [bne_iff_ne]; exact h2), if_neg h2, h3, Int.zero_mul, if_neg (by decide)]
      have := ih (i + 1) (if l[i] * last < 0 then n + 1 else n) (if l[i] ≠ 0 then l[i] else last) (by omega) (by split <;> omega) (by split <;> omega) (by split <;> assumption)
      have e3 : n + ((if l[i] * last < 0 then 1 else 0) + chg (if l[i] ≠ 0 then l[i] else last) (l.drop (i + 1))) = (if l[i] * last < 0 then n + 1 else n) + chg (if l[i] ≠ 0 then l[i] else last) (l.drop (i + 1)) := by split <;> omega
      rw [e3]
      exact Ev.step pre this
  have := key l.length 0 0 0 (by omega) (by omega) (by omega) (by omega)
  rw [List.drop_zero, Int.zero_add] at this
  simp only [T_law15_changes]
  exact this
theorem frac_bd {q : List Int} (hq : q.length = 2 ∧ ∀ c ∈ q, -128 ≤ c ∧ c ≤ 127) : (-128 ≤ q.getD 0 0 ∧ q.getD 0 0 ≤ 127) ∧ -128 ≤ q.getD 1 0 ∧ q.getD 1 0 ≤ 127 := ⟨hq.2 _ (getD_mem (by omega)), hq.2 _ (getD_mem (by omega))⟩
theorem Rn_ref15_Frac : Run_ref15_Frac := fun q => Ok.gif_const fun hq => by
  obtain ⟨⟨a0, a1⟩, b0, b1⟩ := frac_bd hq
  rw [T_ref15_Frac, if_pos (by decide), if_pos (by decide)]
  show (if (IntKind.wrap .i64 (q.getD 1 0) == 0) = true then some (IntKind.wrap .i64 (q.getD 0 0), (1 : Int)) else if (decide (IntKind.wrap .i64 (q.getD 1 0) < 0)) = true then some (IntKind.wrap .i64 (0 - IntKind.wrap .i64 (q.getD 0 0)), IntKind.wrap .i64 (0 - IntKind.wrap .i64 (q.getD 1 0))) else some (IntKind.wrap .i64 (q.getD 0 0), IntKind.wrap .i64 (q.getD 1 0))) = _
  generalize q.getD 0 0 = n at *
  generalize q.getD 1 0 = d at *
  rw [i64w (n := n) (by omega) (by omega), i64w (n := d) (by omega) (by omega), i64w (n := 0 - n) (by omega) (by omega), i64w (n := 0 - d) (by omega) (by omega)]
  unfold ab
  by_cases h0 : d = 0
  · rw [if_pos (by rw [beq_iff_eq]; exact h0), if_pos h0, if_neg (by omega)]
  · rw [if_neg (by rw [beq_iff_eq]; exact h0), if_neg h0]
    by_cases h1 : d < 0
    · rw [if_pos (decide_eq_true h1), if_pos h1, if_pos h1, Int.zero_sub, Int.zero_sub]
    · rw [if_neg (by rw [decide_eq_true_eq]; exact h1), if_neg h1, if_neg h1]
theorem Rat_QB {q : List Int} (hq : q.length = 2 ∧ ∀ c ∈ q, -128 ≤ c ∧ c ≤ 127) : QB 8 (Rat.divInt (if q.getD 1 0 < 0 then -(q.getD 0 0) else q.getD 0 0) (if q.getD 1 0 = 0 then 1 else ab (q.getD 1 0))) := by
  obtain ⟨⟨a0, a1⟩, b0, b1⟩ := frac_bd hq
  generalize q.getD 0 0 = n at *
  generalize q.getD 1 0 = d at *
  refine (QB.div (j := 8) (k := 8) ?_ ?_ ?_).mono (by omega)
  · unfold ab; constructor <;> (repeat' split) <;> omega
  · unfold ab; constructor <;> (repeat' split) <;> omega
  · unfold ab; (repeat' split) <;> omega
theorem Rn_law15_Rat : Run_law15_Rat := fun q => Ok.gif_const fun hq => by
  obtain ⟨⟨a0, a1⟩, b0, b1⟩ := frac_bd hq
  have hQ := Rat_QB hq
  rw [T_law15_Rat, F_ref15_Frac, gif_bind hq]
  dsimp only
  generalize q.getD 0 0 = n at *
  generalize q.getD 1 0 = d at *
  have n1 : -128 ≤ (if d < 0 then -n else n) ∧ (if d < 0 then -n else n) ≤ 128 := by split <;> omega
  have d1 : 1 ≤ (if d = 0 then 1 else ab d) ∧ (if d = 0 then 1 else ab d) ≤ 128 := by unfold ab; (repeat' split) <;> omega
  generalize (if d < 0 then -n else n) = N at *
  generalize (if d = 0 then 1 else ab d) = E at *
  rw [F_integer_Of, gif_bind (by omega), F_integer_Of, gif_bind (by omega), F_rational_Make, gif_bind ⟨II.di (k := 8) (by unfold ab; constructor <;> split <;> omega) (by omega), II.di (k := 8) (by unfold ab; constructor <;> split <;> omega) (by omega)⟩, iv_di, iv_di, if_neg (by omega)]
theorem Rn_law15_SturmVariations : Run_law15_SturmVariations := fun s hs c a => Ok.gif fun ⟨⟨hc, hcb⟩, ha⟩ => by
  match c, hc with
  | [c0, c1, c2], _ =>
  have er : F_law15_Rat a = some (dr (Rat.divInt (if a.getD 1 0 < 0 then -(a.getD 0 0) else a.getD 0 0) (if a.getD 1 0 = 0 then 1 else ab (a.getD 1 0)))) := gif_pos ha
  have hQ := Rat_QB ha
  generalize Rat.divInt (if a.getD 1 0 < 0 then -(a.getD 0 0) else a.getD 0 0) (if a.getD 1 0 = 0 then 1 else ab (a.getD 1 0)) = x at *
  have hqq : QQ (dr x) := QQ.dr hQ (by omega)
  have one : ∀ c' ∈ [c0, c1, c2], ∃ F : List Int, F_law15_Short c' 6 = some (dp F) ∧ F.length ≤ 6 ∧ PB 16 F ∧ TL F := fun c' h' => by
    obtain ⟨h1, h2⟩ := hcb c' h'
    exact ⟨_, gif_pos ⟨h1, h2, by omega, by omega⟩, short_len c' 6, short_PB h2 6, trimL_tl _⟩
  obtain ⟨F0, e0, l0, p0, t0⟩ := one c0 (by simp)
  obtain ⟨F1, e1, l1, p1, t1⟩ := one c1 (by simp)
  obtain ⟨F2, e2, l2, p2, t2⟩ := one c2 (by simp)
  have pp : ∀ {F : List Int}, F.length ≤ 6 → PB 16 F → PP (dp F) := fun hl hp => PP.dp' (by omega) hp (by unfold KP; omega)
  have sat : ∀ {F : List Int}, F.length ≤ 6 → PB 16 F → F_unipoly_SignAt (dp F) (dr x) = some (rsg (evR F x)) := fun hl hp => by
    rw [F_unipoly_SignAt, gif_pos ⟨by rw [dp_len]; omega, (pp hl hp).2.1, by rw [pv_dp]; exact hp.mono (by omega), hqq, by rw [rv_dr]; exact hQ.mono (by omega)⟩, pv_dp, rv_dr]
  have sen : ∀ {F : List Int}, F.length ≤ 6 → PB 16 F → TL F → ∀ b, F_unipoly_SignEnd (dp F) b = some (sgE F b) := fun hl hp ht b => by
    rw [F_unipoly_SignEnd, gif_pos (pp hl hp), pv_dp, trim_of ht]
  have step : ∀ (i : Nat) (ci Fi : List Int) (A : List NP) (B C D : List Int), i < 3 → [c0, c1, c2].getD i [] = ci → F_law15_Short ci 6 = some (dp Fi) → Fi.length ≤ 6 → PB 16 Fi → TL Fi → A.length ≤ 10 → B.length ≤ 10 → C.length ≤ 10 → D.length ≤ 10 →
      ∀ m, s (m + 1) (i : Int) [c0, c1, c2] a A B C D = s m ((i + 1 : Nat) : Int) [c0, c1, c2] a (A ++ [dp Fi]) (B ++ [rsg (evR Fi x)]) (C ++ [sgE Fi false]) (D ++ [sgE Fi true]) := fun i ci Fi A B C D hi hci hsh hl hp ht hA hB hC hD m => by
    rw [hs]; unfold S_law15_SturmVariations_25
    rw [if_pos (by rw [decide_eq_true_eq]; omega), if_pos (by omega), Int.toNat_natCast, hci, hsh, Option.bind_some, if_pos (by simp; omega), er, Option.bind_some, sat hl hp, Option.bind_some, if_pos (by simp; omega), sen hl hp ht, Option.bind_some, if_pos (by simp; omega), sen hl hp ht, Option.bind_some, if_pos (by simp; omega), wrap_succ (by omega)]
  have fin : Ev (fun m => s m ((3 : Nat) : Int) [c0, c1, c2] a [dp F0, dp F1, dp F2] [rsg (evR F0 x), rsg (evR F1 x), rsg (evR F2 x)] [sgE F0 false, sgE F1 false, sgE F2 false] [sgE F0 true, sgE F1 true, sgE F2 true]) true := by
    have hmem : ∀ f ∈ [dp F0, dp F1, dp F2], ∃ F, f = dp F ∧ F.length ≤ 6 ∧ PB 16 F ∧ TL F := fun f hf => by
      simp only [List.mem_cons, List.not_mem_nil, or_false] at hf
      rcases hf with rfl | rfl | rfl
      · exact ⟨F0, rfl, l0, p0, t0⟩
      · exact ⟨F1, rfl, l1, p1, t1⟩
      · exact ⟨F2, rfl, l2, p2, t2⟩
    have ev : F_sturm_Variations [dp F0, dp F1, dp F2] (dr x) = some (chg 0 [rsg (evR F0 x), rsg (evR F1 x), rsg (evR F2 x)]) := by
      rw [F_sturm_Variations, gif_pos ⟨by simp, fun f hf => by
        obtain ⟨F, rfl, hl, hp, _⟩ := hmem f hf
        exact ⟨by rw [dp_len]; omega, (pp hl hp).2.1, by rw [pv_dp]; exact hp.mono (by omega)⟩, hqq, by rw [rv_dr]; exact hQ.mono (by omega)⟩, rv_dr]
      simp only [vA, List.map_cons, List.map_nil, pv_dp]
    have ee : ∀ b, F_sturm_VariationsEnd [dp F0, dp F1, dp F2] b = some (chg 0 [sgE F0 b, sgE F1 b, sgE F2 b]) := fun b => by
      rw [F_sturm_VariationsEnd, gif_pos ⟨by simp, fun f hf => by
        obtain ⟨F, rfl, hl, hp, _⟩ := hmem f hf
        exact pp hl hp⟩]
      simp only [vE, List.map_cons, List.map_nil, pv_dp, trim_of t0, trim_of t1, trim_of t2]
    have ec : ∀ u v w : Int, (-1 ≤ u ∧ u ≤ 1) → (-1 ≤ v ∧ v ≤ 1) → (-1 ≤ w ∧ w ≤ 1) → F_law15_changes [u, v, w] = some (chg 0 [u, v, w]) := fun u v w hu hv hw => gif_pos ⟨by simp, fun y hy => by
      simp only [List.mem_cons, List.not_mem_nil, or_false] at hy
      rcases hy with rfl | rfl | rfl <;> assumption⟩
    refine Ev.step (t := fun _ => some true) (fun m => ?_) Ev.ret
    rw [hs]; unfold S_law15_SturmVariations_25
    rw [if_neg (by decide), er, Option.bind_some, ev, Option.bind_some, ec _ _ _ (rsg_range' _) (rsg_range' _) (rsg_range' _), Option.bind_some, if_pos (by simp), ee, Option.bind_some, ec _ _ _ (sgE_range _ _) (sgE_range _ _) (sgE_range _ _), Option.bind_some, if_pos (by simp), ee, Option.bind_some, ec _ _ _ (sgE_range _ _) (sgE_range _ _) (sgE_range _ _), Option.bind_some]
    simp
  have s2 : Ev (fun m => s m ((2 : Nat) : Int) [c0, c1, c2] a [dp F0, dp F1] [rsg (evR F0 x), rsg (evR F1 x)] [sgE F0 false, sgE F1 false] [sgE F0 true, sgE F1 true]) true := Ev.step (fun m => step 2 c2 F2 _ _ _ _ (by omega) rfl e2 l2 p2 t2 (by simp) (by simp) (by simp) (by simp) m) fin
  have s1 : Ev (fun m => s m ((1 : Nat) : Int) [c0, c1, c2] a [dp F0] [rsg (evR F0 x)] [sgE F0 false] [sgE F0 true]) true := Ev.step (fun m => step 1 c1 F1 _ _ _ _ (by omega) rfl e1 l1 p1 t1 (by simp) (by simp) (by simp) (by simp) m) s2
  have s0 : Ev (fun m => s m ((0 : Nat) : Int) [c0, c1, c2] a [] [] [] []) true := Ev.step (fun m => step 0 c0 F0 _ _ _ _ (by omega) rfl e0 l0 p0 t0 (by simp) (by simp) (by simp) (by simp) m) s1
  simp only [T_law15_SturmVariations]
  refine Ev.congr (fun m => ?_) s0
  rw [awake15, Option.bind_some, if_neg (by decide)]
  rfl
end Go.W

