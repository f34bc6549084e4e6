/- A part of the proof: texts P26, P27, P28, P29, P30, Rev. What is proved in the end stands in the last file. -/
import Derived.Test.YtgjgjobaohakgaaWt4
import Derived.Test.YtgjgjobaohakgaaProg
import Derived.Shelf.RegionOpenPlain
import Derived.WalkKit
import Derived.Deep.LoopGhost
import Derived.Lib.Walk
import Derived.Sort.WalkB12
import Derived.Lib.SlicesMore
set_option linter.unusedVariables false
set_option linter.unusedSimpArgs false
set_option linter.unusedSectionVars false
set_option linter.unusedVariables false
set_option linter.unusedSimpArgs false
namespace Go.W

/-! ### least and greatest -/
theorem rmin_comm (x y : Rat) : rmin x y = rmin y x := by unfold rmin; (repeat' split) <;> grind
theorem rmax_comm (x y : Rat) : rmax x y = rmax y x := by unfold rmax; (repeat' split) <;> grind
theorem rmin_assoc (x y z : Rat) : rmin (rmin x y) z = rmin x (rmin y z) := by unfold rmin; (repeat' split) <;> grind
theorem rmax_assoc (x y z : Rat) : rmax (rmax x y) z = rmax x (rmax y z) := by unfold rmax; (repeat' split) <;> grind
instance : Std.Commutative rmin := ⟨rmin_comm⟩
instance : Std.Commutative rmax := ⟨rmax_comm⟩
instance : Std.Associative rmin := ⟨rmin_assoc⟩
instance : Std.Associative rmax := ⟨rmax_assoc⟩
theorem mulI_sw1 (x y u v : Rat) : mulI y x u v = mulI x y u v := by unfold mulI mn4 mx4; congr 1 <;> ac_rfl
theorem mulI_sw2 (x y u v : Rat) : mulI x y v u = mulI x y u v := by unfold mulI mn4 mx4; congr 1 <;> ac_rfl
theorem mulI_comm (x y u v : Rat) : mulI u v x y = mulI x y u v := by
  unfold mulI mn4 mx4
  rw [Rat.mul_comm u x, Rat.mul_comm u y, Rat.mul_comm v x, Rat.mul_comm v y]
  congr 1 <;> ac_rfl
theorem lohi (x y : Rat) : (rmin x y = x ∧ rmax x y = y) ∨ (rmin x y = y ∧ rmax x y = x) := by unfold rmin rmax; (repeat' split) <;> grind
theorem mulI_l (x y u v : Rat) : mulI (rmin x y) (rmax x y) u v = mulI x y u v := by
  rcases lohi x y with ⟨h1, h2⟩ | ⟨h1, h2⟩ <;> rw [h1, h2]
  exact mulI_sw1 _ _ _ _
theorem mulI_r (x y u v : Rat) : mulI x y (rmin u v) (rmax u v) = mulI x y u v := by
  rcases lohi u v with ⟨h1, h2⟩ | ⟨h1, h2⟩ <;> rw [h1, h2]
  exact mulI_sw2 _ _ _ _
theorem rmin_le (x y : Rat) : rmin x y ≤ x ∧ rmin x y ≤ y := by unfold rmin; split <;> constructor <;> grind
theorem le_rmax (x y : Rat) : x ≤ rmax x y ∧ y ≤ rmax x y := by unfold rmax; split <;> constructor <;> grind
theorem rmin_le_rmax (x y : Rat) : rmin x y ≤ rmax x y := by have := rmin_le x y; have := le_rmax x y; grind
theorem rmin_of_le {x y : Rat} (h : x ≤ y) : rmin x y = x ∧ rmax x y = y := by unfold rmin rmax; constructor <;> split <;> grind

/-! ### the reference's interval -/
theorem of_R {a : NI} (h : Q2 a) {m : Nat} (h1 : a.1.1.2.length ≤ m) (h2 : a.1.2.length ≤ m) (h3 : a.2.1.2.length ≤ m) (h4 : a.2.2.length ≤ m) (hm : 1 ≤ m) :
    ∃ p, F_law06_of a = some p ∧ QR (32 * m) p.1 (lo a) ∧ QR (32 * m) p.2 (hi a) := by
  have r1 : QR (32 * m) (mq (rn a.1) (rd a.1)) (rv a.1) := ⟨of_rq h.1 h1 h2 hm, of_v a.1⟩
  have r2 : QR (32 * m) (mq (rn a.2) (rd a.2)) (rv a.2) := ⟨of_rq h.2 h3 h4 hm, of_v a.2⟩
  refine ⟨_, gif_pos h, ?_⟩
  unfold lo hi rmin rmax
  by_cases hc : rv a.2 < rv a.1
  · rw [if_pos hc, if_pos hc, if_neg (by grind)]; exact ⟨r2, r1⟩
  · rw [if_neg hc, if_neg hc]
    by_cases hd : rv a.1 < rv a.2
    · rw [if_pos hd]; exact ⟨r1, r2⟩
    · rw [if_neg hd, show rv a.1 = rv a.2 by grind]
      rw [show rv a.1 = rv a.2 by grind] at r1
      exact ⟨r1, r2⟩
theorem fold_lo {k : Nat} {a b : FQ} {r s : Rat} (ha : QR k a r) (hb : QR k b s) : QR k (if qv b < qv a then b else a) (rmin r s) := by
  rw [ha.2, hb.2]; unfold rmin; split <;> assumption
theorem fold_hi {k : Nat} {a b : FQ} {r s : Rat} (ha : QR k a r) (hb : QR k b s) : QR k (if qv a < qv b then b else a) (rmax r s) := by
  rw [ha.2, hb.2]; unfold rmax; split <;> assumption
theorem hull4 {k : Nat} {a b c d : FQ} {r s t u : Rat} (h1 : QR k a r) (h2 : QR k b s) (h3 : QR k c t) (h4 : QR k d u) : QR k (hullL [a, b, c, d]).1 (mn4 r s t u) ∧ QR k (hullL [a, b, c, d]).2 (mx4 r s t u) :=
  ⟨fold_lo (fold_lo (fold_lo h1 h2) h3) h4, fold_hi (fold_hi (fold_hi h1 h2) h3) h4⟩
theorem R.hmul {k : Nat} {p q : FI} {x y u v : Rat} (h1 : QR k p.1 x) (h2 : QR k p.2 y) (h3 : QR k q.1 u) (h4 : QR k q.2 v) (hk : k ≤ 1000000) : ∃ z, F_ref06_Mul p q = some z ∧ QR (k + k) z.1 (mulI x y u v).1 ∧ QR (k + k) z.2 (mulI x y u v).2 := by
  have f : ∀ {a : FQ} {r : Rat}, QR k a r → RQ 1000000 a := fun h => h.1.mono hk
  exact ⟨_, gif_pos ⟨f h1, f h2, f h3, f h4⟩, hull4 (mulq_R h1 h3 (by omega)).2 (mulq_R h1 h4 (by omega)).2 (mulq_R h2 h3 (by omega)).2 (mulq_R h2 h4 (by omega)).2⟩
theorem R.his {k : Nat} {z : FI} {x y : Rat} (h1 : QR k z.1 x) (h2 : QR k z.2 y) (hk : k ≤ 1000000000) : F_law06_is (dI (x, y)) z = some true := by
  rw [F_law06_is, gif_pos ⟨h1.1.k hk, h2.1.k hk⟩, h1.2, h2.2]; simp
theorem invq_R {k : Nat} {q : FQ} {r : Rat} (h : QR k q r) (h0 : r ≠ 0) (hk : k ≤ 1000000) : QR (1 + k) (invq q) (1 / r) ∧ qn q ≠ 0 := by
  have hn : qn q ≠ 0 := fun e => h0 (h.zero.1 e)
  obtain ⟨z, e, hz⟩ := R.quo one_RQ h (by omega) h0
  have e2 : F_ref05_Quo (mq 1 1) q = some (invq q) := by
    rw [F_ref05_Quo, gif_pos ⟨one_RQ.1.k (by omega), h.1.k (by omega), hn⟩]
    simp only [qn_mq, qd_mq]; rfl
  rw [e2] at e; injection e with e; subst e
  exact ⟨hz, hn⟩
theorem R.inv {k : Nat} {p : FI} {x y : Rat} (h1 : QR k p.1 x) (h2 : QR k p.2 y) (hx : x ≠ 0) (hy : y ≠ 0) (hk : k ≤ 1000000) : ∃ z, F_ref06_Inverse p = some z ∧ QR (1 + k) z.1 (1 / y) ∧ QR (1 + k) z.2 (1 / x) :=
  ⟨_, gif_pos ⟨h1.1.mono hk, h2.1.mono hk, (invq_R h1 hx hk).2, (invq_R h2 hy hk).2⟩, (invq_R h2 hy hk).1, (invq_R h1 hx hk).1⟩

theorem rsg_le0 {r : Rat} : rsg r ≤ 0 ↔ r ≤ 0 := by
  unfold rsg
  by_cases h : r < 0
  · rw [if_pos h]; constructor
    · intro _; grind
    · intro _; omega
  · rw [if_neg h]; by_cases h0 : r = 0
    · rw [if_pos h0]; constructor
      · intro _; grind
      · intro _; omega
    · rw [if_neg h0]; constructor
      · intro h'; omega
      · intro h'; grind
theorem rsg_ge0 {r : Rat} : rsg r ≥ 0 ↔ 0 ≤ r := by
  unfold rsg
  by_cases h : r < 0
  · rw [if_pos h]; constructor
    · intro h'; omega
    · intro h'; grind
  · rw [if_neg h]; by_cases h0 : r = 0
    · rw [if_pos h0]; constructor
      · intro _; grind
      · intro _; omega
    · rw [if_neg h0]; constructor
      · intro h'; grind
      · intro h'; omega

theorem IQ_8 {s1 s2} {a b : NI} (hA : Q2 a) (hB : Q2 b) {p q : FI} (ep : F_law06_of a = some p) (eq : F_law06_of b = some q) {k : Nat} (q1 : QR k q.1 (lo b)) (q2 : QR k q.2 (hi b)) :
    S_law06_IntervalQuotients_8 s1 s2 false a b = s2 (rsg (lo b)) (rsg (hi b)) false a b p q := by
  have es : F_interval_Sign b = some (if rsg (rv b.1) = rsg (rv b.2) then (rsg (rv b.1), true) else (0, false)) := gif_pos hB
  unfold S_law06_IntervalQuotients_8
  simp only [ep, eq, es, Option.bind_some, Bool.false_eq_true, if_false, q1.sign, q2.sign]
  have hl : (rsg (lo b) = rsg (rv b.1) ∧ rsg (hi b) = rsg (rv b.2)) ∨ (rsg (lo b) = rsg (rv b.2) ∧ rsg (hi b) = rsg (rv b.1)) := by
    unfold lo hi
    rcases lohi (rv b.1) (rv b.2) with ⟨h1, h2⟩ | ⟨h1, h2⟩ <;> rw [h1, h2] <;> simp
  generalize rsg (lo b) = L at *
  generalize rsg (hi b) = H at *
  generalize rsg (rv b.1) = x at *
  generalize rsg (rv b.2) = y at *
  rcases hl with ⟨rfl, rfl⟩ | ⟨rfl, rfl⟩
  · by_cases h : L = H
    · simp [h]
    · simp [h]
  · by_cases h : H = L
    · simp [h]
    · have h' : ¬ L = H := fun e => h e.symm
      simp [h, h']

theorem IQ_28 {s1 s2} {a b : NI} (hA : Q2 a) (hB : Q2 b) (ba : QB 128 (rv a.1) ∧ QB 128 (rv a.2)) (bb : QB 128 (rv b.1) ∧ QB 128 (rv b.2)) {p q : FI} (p1 : QR 128 p.1 (lo a)) (p2 : QR 128 p.2 (hi a)) (q1 : QR 128 q.1 (lo b)) (q2 : QR 128 q.2 (hi b)) :
    S_law06_IntervalQuotients_28 s1 s2 (rsg (lo b)) (rsg (hi b)) false a b p q = some true := by
  have BIe : (128 : Nat) ≤ BI := by decide
  have eQ : F_interval_Quo a b = some (if lo b ≤ 0 ∧ 0 ≤ hi b then (zI, 2) else (dI (mulI (rv a.1) (rv a.2) (1 / rv b.1) (1 / rv b.2)), 0)) := gif_pos ⟨⟨hA.1, hA.2, ba.1.mono BIe, ba.2.mono BIe⟩, hB.1, hB.2, bb.1.mono BIe, bb.2.mono BIe⟩
  have hlh : lo b ≤ hi b := rmin_le_rmax _ _
  unfold S_law06_IntervalQuotients_28
  simp only [eQ, Option.bind_some, Bool.false_eq_true, if_false]
  have nz : F_law06_none zI = some true := by
    rw [F_law06_none, gif_pos ⟨zQ_ok.1, zQ_ok.1⟩]
    rw [show rv (zI : NI).1 = 0 from zQ_ok.2]; simp
  have main : ¬ (lo b ≤ 0 ∧ 0 ≤ hi b) → ∃ z w, F_ref06_Inverse q = some z ∧ F_ref06_Mul p z = some w ∧ F_law06_is (dI (mulI (rv a.1) (rv a.2) (1 / rv b.1) (1 / rv b.2))) w = some true := fun h => by
    have l0 : lo b ≠ 0 := fun e => h (by have h3 := hlh; rw [e] at h3; first | exact ⟨by rw [e]; exact Rat.le_refl, h3⟩ | exact ⟨h3, by rw [e]; exact Rat.le_refl⟩)
    have h0 : hi b ≠ 0 := fun e => h (by have h3 := hlh; rw [e] at h3; first | exact ⟨by rw [e]; exact Rat.le_refl, h3⟩ | exact ⟨h3, by rw [e]; exact Rat.le_refl⟩)
    obtain ⟨z, ez, z1, z2⟩ := R.inv q1 q2 l0 h0 (by omega)
    obtain ⟨w, ew, w1, w2⟩ := R.hmul (k := 1 + 128) (⟨p1.1.mono (by omega), p1.2⟩ : QR _ p.1 _) (⟨p2.1.mono (by omega), p2.2⟩ : QR _ p.2 _) z1 z2 (by omega)
    refine ⟨z, w, ez, ew, ?_⟩
    have e : mulI (rv a.1) (rv a.2) (1 / rv b.1) (1 / rv b.2) = mulI (lo a) (hi a) (1 / hi b) (1 / lo b) := by
      unfold lo hi
      rw [mulI_l]
      rcases lohi (rv b.1) (rv b.2) with ⟨h1, h2⟩ | ⟨h1, h2⟩ <;> rw [h1, h2]
      exact (mulI_sw2 _ _ _ _).symm
    rw [e]
    exact R.his w1 w2 (by omega)
  by_cases h1 : rsg (lo b) ≤ 0
  · rw [if_pos (decide_eq_true h1)]
    by_cases h2 : rsg (hi b) ≥ 0
    · have hc : lo b ≤ 0 ∧ 0 ≤ hi b := ⟨rsg_le0.1 h1, rsg_ge0.1 h2⟩
      rw [if_pos (decide_eq_true h2), if_pos hc]
      simp only [nz, Option.bind_some, beq_self_eq_true, if_true]
    · have hc : ¬ (lo b ≤ 0 ∧ 0 ≤ hi b) := fun x => h2 (rsg_ge0.2 x.2)
      obtain ⟨z, w, ez, ew, ei⟩ := main hc
      rw [if_neg (by rw [decide_eq_true_eq]; exact h2), if_neg hc]
      simp only [ez, ew, ei, Option.bind_some, beq_self_eq_true, if_true]
  · have hc : ¬ (lo b ≤ 0 ∧ 0 ≤ hi b) := fun x => h1 (rsg_le0.2 x.1)
    obtain ⟨z, w, ez, ew, ei⟩ := main hc
    rw [if_neg (by rw [decide_eq_true_eq]; exact h1), if_neg hc]
    simp only [ez, ew, ei, Option.bind_some, beq_self_eq_true, if_true]

theorem awake6_some : F_law06_awake = some true := gif_pos trivial
theorem few6_some {n : Int} {a b : NI} : F_law06_few n a b = some (decide (((a.1.1.2.length : Int) ≤ n ∧ (a.1.2.length : Int) ≤ n) ∧ ((a.2.1.2.length : Int) ≤ n ∧ (a.2.2.length : Int) ≤ n) ∧ ((b.1.1.2.length : Int) ≤ n ∧ (b.1.2.length : Int) ≤ n) ∧ (b.2.1.2.length : Int) ≤ n ∧ (b.2.2.length : Int) ≤ n)) := gif_pos trivial
theorem Rn_law06_IntervalQuotients : Run_law06_IntervalQuotients := fun s1 s2 k1 k2 a b => Ok.gif fun ⟨hA, hB⟩ => by
  simp only [T_law06_IntervalQuotients, awake6_some, few6_some, Option.bind_some, Bool.not_true, Bool.false_eq_true, if_false]
  by_cases hf : (((a.1.1.2.length : Int) ≤ 4 ∧ (a.1.2.length : Int) ≤ 4) ∧ ((a.2.1.2.length : Int) ≤ 4 ∧ (a.2.2.length : Int) ≤ 4) ∧ ((b.1.1.2.length : Int) ≤ 4 ∧ (b.1.2.length : Int) ≤ 4) ∧ (b.2.1.2.length : Int) ≤ 4 ∧ (b.2.2.length : Int) ≤ 4)
  · rw [decide_eq_true hf]
    obtain ⟨⟨f1, f2⟩, ⟨f3, f4⟩, ⟨f5, f6⟩, f7, f8⟩ := hf
    have a1 := hA.1.qq f1 f2 (by omega)
    have a2 := hA.2.qq f3 f4 (by omega)
    have b1 := hB.1.qq f5 f6 (by omega)
    have b2 := hB.2.qq f7 f8 (by omega)
    obtain ⟨p, ep, p1, p2⟩ := of_R (a := a) ⟨a1, a2⟩ (m := 4) (by omega) (by omega) (by omega) (by omega) (by omega)
    obtain ⟨q, eq, q1, q2⟩ := of_R (a := b) ⟨b1, b2⟩ (m := 4) (by omega) (by omega) (by omega) (by omega) (by omega)
    refine Ev.step (t := fun m => s2 m (rsg (lo b)) (rsg (hi b)) false a b p q) (fun m => ?_) (Ev.step (t := fun _ => some true) (fun m => ?_) Ev.ret)
    · rw [k1]; exact IQ_8 ⟨a1, a2⟩ ⟨b1, b2⟩ ep eq q1 q2
    · rw [k2]; exact IQ_28 ⟨a1, a2⟩ ⟨b1, b2⟩ ⟨QB.rv' a1 (m := 4) (by omega) (by omega) (by omega), QB.rv' a2 (m := 4) (by omega) (by omega) (by omega)⟩ ⟨QB.rv' b1 (m := 4) (by omega) (by omega) (by omega), QB.rv' b2 (m := 4) (by omega) (by omega) (by omega)⟩ p1 p2 q1 q2
  · rw [decide_eq_false hf]
    refine Ev.step (t := fun _ => some true) (fun m => ?_) Ev.ret
    rw [k1]; unfold S_law06_IntervalQuotients_8
    rw [if_pos (show (!false) = true from rfl), awake6_some]; rfl
end Go.W

set_option linter.unusedVariables false
set_option linter.unusedSimpArgs false
namespace Go.W

/-- an interval by its ends -/
def IV (k : Nat) (a : NI) (x y : Rat) : Prop := QV k a.1 x ∧ QV k a.2 y
theorem IV.dI {k : Nat} {x y : Rat} (h1 : QB k x) (h2 : QB k y) (hk : k ≤ 33554432) : IV k (Go.W.dI (x, y)) x y := ⟨QV.dr h1 hk, QV.dr h2 hk⟩
theorem IV.q2 {k : Nat} {a : NI} {x y : Rat} (h : IV k a x y) : Q2 a := ⟨h.1.1, h.2.1⟩
theorem IV.add {j k : Nat} {a b : NI} {x y u v : Rat} (ha : IV j a x y) (hb : IV k b u v) (hj : j ≤ 1000000) (hk : k ≤ 1000000) : F_interval_Add a b = some (Go.W.dI (rmin x y + rmin u v, rmax x y + rmax u v)) := by
  rw [F_interval_Add, gif_pos ⟨⟨ha.1.1, ha.2.1, by rw [ha.1.2.1]; exact ha.1.2.2.mono hj, by rw [ha.2.2.1]; exact ha.2.2.2.mono hj⟩, hb.1.1, hb.2.1, by rw [hb.1.2.1]; exact hb.1.2.2.mono hk, by rw [hb.2.2.1]; exact hb.2.2.2.mono hk⟩]
  unfold lo hi; rw [ha.1.2.1, ha.2.2.1, hb.1.2.1, hb.2.2.1]
theorem IV.mul {j k : Nat} {a b : NI} {x y u v : Rat} (ha : IV j a x y) (hb : IV k b u v) (hj : j ≤ 1000000) (hk : k ≤ 1000000) : F_interval_Mul a b = some (Go.W.dI (mulI x y u v)) := I.mul ha.1 ha.2 hb.1 hb.2 hj hk
theorem IV.addI {j k : Nat} {x y u v : Rat} (h1 : QB j x) (h2 : QB j y) (h3 : QB k u) (h4 : QB k v) (hk : j + k + 1 ≤ 33554432) : IV (j + k + 1) (Go.W.dI (rmin x y + rmin u v, rmax x y + rmax u v)) (rmin x y + rmin u v) (rmax x y + rmax u v) :=
  IV.dI ((h1.rmin h2).add (h3.rmin h4)) ((h1.rmax h2).add (h3.rmax h4)) hk
theorem IV.mulI {j k : Nat} {x y u v : Rat} (h1 : QB j x) (h2 : QB j y) (h3 : QB k u) (h4 : QB k v) (hk : j + k ≤ 33554432) : IV (j + k) (Go.W.dI (Go.W.mulI x y u v)) (Go.W.mulI x y u v).1 (Go.W.mulI x y u v).2 :=
  IV.dI (mulI_bd h1 h2 h3 h4).1 (mulI_bd h1 h2 h3 h4).2 hk
theorem IV.equal {k : Nat} {a : NI} {x y : Rat} (h : IV k a x y) : F_law06_equal a a = some true := by
  rw [F_law06_equal, gif_pos ⟨h.q2, h.q2⟩]
  congr 1
  have h1 := rmin_le (rv a.1) (rv a.2)
  have h2 := le_rmax (rv a.1) (rv a.2)
  rw [decide_eq_true_eq]
  exact ⟨⟨⟨h1.1, h2.1⟩, h1.2, h2.2⟩, ⟨h1.1, h2.1⟩, h1.2, h2.2⟩

/-! ### least and greatest of four -/
theorem mn4_le (a b c d : Rat) : mn4 a b c d ≤ a ∧ mn4 a b c d ≤ b ∧ mn4 a b c d ≤ c ∧ mn4 a b c d ≤ d := by
  unfold mn4
  have h1 := rmin_le (rmin (rmin a b) c) d
  have h2 := rmin_le (rmin a b) c
  have h3 := rmin_le a b
  grind
theorem le_mx4 (a b c d : Rat) : a ≤ mx4 a b c d ∧ b ≤ mx4 a b c d ∧ c ≤ mx4 a b c d ∧ d ≤ mx4 a b c d := by
  unfold mx4
  have h1 := le_rmax (rmax (rmax a b) c) d
  have h2 := le_rmax (rmax a b) c
  have h3 := le_rmax a b
  grind
theorem mn4_mem (a b c d : Rat) : mn4 a b c d = a ∨ mn4 a b c d = b ∨ mn4 a b c d = c ∨ mn4 a b c d = d := by
  unfold mn4 rmin; (repeat' split) <;> simp
theorem mx4_mem (a b c d : Rat) : mx4 a b c d = a ∨ mx4 a b c d = b ∨ mx4 a b c d = c ∨ mx4 a b c d = d := by
  unfold mx4 rmax; (repeat' split) <;> simp
/-- x*t lies between x*m and x*M -/
theorem between {x m M t : Rat} (h1 : m ≤ t) (h2 : t ≤ M) : (x * m ≤ x * t ∧ x * t ≤ x * M) ∨ (x * M ≤ x * t ∧ x * t ≤ x * m) := by
  by_cases hx : 0 ≤ x
  · exact .inl ⟨Rat.mul_le_mul_of_nonneg_left h1 hx, Rat.mul_le_mul_of_nonneg_left h2 hx⟩
  · have e1 := Rat.mul_le_mul_of_nonneg_left h1 (show 0 ≤ -x by grind)
    have e2 := Rat.mul_le_mul_of_nonneg_left h2 (show 0 ≤ -x by grind)
    right; constructor <;> grind
/-- the ends of the product with [m, M] bound the products with what lies in it -/
theorem mulI_in {x y m M t : Rat} (h1 : m ≤ t) (h2 : t ≤ M) : ((mulI x y m M).1 ≤ x * t ∧ x * t ≤ (mulI x y m M).2) ∧ (mulI x y m M).1 ≤ y * t ∧ y * t ≤ (mulI x y m M).2 := by
  have l := mn4_le (x * m) (x * M) (y * m) (y * M)
  have g := le_mx4 (x * m) (x * M) (y * m) (y * M)
  show ((mn4 (x * m) (x * M) (y * m) (y * M) ≤ x * t ∧ x * t ≤ mx4 (x * m) (x * M) (y * m) (y * M)) ∧ mn4 (x * m) (x * M) (y * m) (y * M) ≤ y * t ∧ y * t ≤ mx4 (x * m) (x * M) (y * m) (y * M))
  have b1 := between (x := x) h1 h2
  have b2 := between (x := y) h1 h2
  generalize mn4 (x * m) (x * M) (y * m) (y * M) = L at *
  generalize mx4 (x * m) (x * M) (y * m) (y * M) = G at *
  generalize x * m = p1 at *
  generalize x * M = p2 at *
  generalize y * m = p3 at *
  generalize y * M = p4 at *
  generalize x * t = q1 at *
  generalize y * t = q2 at *
  grind
theorem mulI_le (x y u v : Rat) : (mulI x y u v).1 ≤ (mulI x y u v).2 := by
  have l := mn4_le (x * u) (x * v) (y * u) (y * v)
  have g := le_mx4 (x * u) (x * v) (y * u) (y * v)
  exact Rat.le_trans l.1 g.1
/-- the ends of a product are products of ends -/
theorem mulI_mem (x y u v : Rat) : (∃ s t, (s = x ∨ s = y) ∧ (t = u ∨ t = v) ∧ (mulI x y u v).1 = s * t) ∧ ∃ s t, (s = x ∨ s = y) ∧ (t = u ∨ t = v) ∧ (mulI x y u v).2 = s * t := by
  constructor
  · rcases mn4_mem (x * u) (x * v) (y * u) (y * v) with h | h | h | h
    · exact ⟨x, u, .inl rfl, .inl rfl, h⟩
    · exact ⟨x, v, .inl rfl, .inr rfl, h⟩
    · exact ⟨y, u, .inr rfl, .inl rfl, h⟩
    · exact ⟨y, v, .inr rfl, .inr rfl, h⟩
  · rcases mx4_mem (x * u) (x * v) (y * u) (y * v) with h | h | h | h
    · exact ⟨x, u, .inl rfl, .inl rfl, h⟩
    · exact ⟨x, v, .inl rfl, .inr rfl, h⟩
    · exact ⟨y, u, .inr rfl, .inl rfl, h⟩
    · exact ⟨y, v, .inr rfl, .inr rfl, h⟩
/-- every product of ends lies in the product -/
theorem mulI_prod {x y u v s t : Rat} (hs : s = x ∨ s = y) (ht : t = u ∨ t = v) : (mulI x y u v).1 ≤ s * t ∧ s * t ≤ (mulI x y u v).2 := by
  have l := mn4_le (x * u) (x * v) (y * u) (y * v)
  have g := le_mx4 (x * u) (x * v) (y * u) (y * v)
  show mn4 _ _ _ _ ≤ _ ∧ _ ≤ mx4 _ _ _ _
  rcases hs with rfl | rfl <;> rcases ht with rfl | rfl <;> grind
theorem mulI_assoc (x y u v p q : Rat) : mulI x y (mulI u v p q).1 (mulI u v p q).2 = mulI (mulI x y u v).1 (mulI x y u v).2 p q := by
  -- a product of three ends lies in both
  have inL : ∀ r s t : Rat, (r = x ∨ r = y) → (s = u ∨ s = v) → (t = p ∨ t = q) → (mulI x y (mulI u v p q).1 (mulI u v p q).2).1 ≤ r * (s * t) ∧ r * (s * t) ≤ (mulI x y (mulI u v p q).1 (mulI u v p q).2).2 := fun r s t hr hs ht => by
    have h := mulI_prod hs ht
    have := mulI_in (x := x) (y := y) h.1 h.2
    rcases hr with rfl | rfl
    · exact this.1
    · exact this.2
  have inR : ∀ r s t : Rat, (r = x ∨ r = y) → (s = u ∨ s = v) → (t = p ∨ t = q) → (mulI (mulI x y u v).1 (mulI x y u v).2 p q).1 ≤ r * (s * t) ∧ r * (s * t) ≤ (mulI (mulI x y u v).1 (mulI x y u v).2 p q).2 := fun r s t hr hs ht => by
    have h := mulI_prod hr hs
    have := mulI_in (x := p) (y := q) h.1 h.2
    rw [mulI_comm (mulI x y u v).1 (mulI x y u v).2 p q] at this
    rw [← Rat.mul_assoc, Rat.mul_comm (r * s) t]
    rcases ht with rfl | rfl
    · exact this.1
    · exact this.2
  -- the ends of both are such products
  have memL := mulI_mem x y (mulI u v p q).1 (mulI u v p q).2
  have memR := mulI_mem (mulI x y u v).1 (mulI x y u v).2 p q
  have mm1 := mulI_mem u v p q
  have mm2 := mulI_mem x y u v
  have eL : ∀ z, (z = (mulI u v p q).1 ∨ z = (mulI u v p q).2) → ∃ s t, (s = u ∨ s = v) ∧ (t = p ∨ t = q) ∧ z = s * t := fun z hz => by
    rcases hz with rfl | rfl
    · exact mm1.1
    · exact mm1.2
  have eR : ∀ z, (z = (mulI x y u v).1 ∨ z = (mulI x y u v).2) → ∃ s t, (s = x ∨ s = y) ∧ (t = u ∨ t = v) ∧ z = s * t := fun z hz => by
    rcases hz with rfl | rfl
    · exact mm2.1
    · exact mm2.2
  refine Prod.ext ?_ ?_
  · obtain ⟨⟨r, z, hr, hz, e⟩, _⟩ := memL
    obtain ⟨s, t, hs, ht, rfl⟩ := eL z hz
    obtain ⟨⟨z', t', hz', ht', e'⟩, _⟩ := memR
    obtain ⟨r', s', hr', hs', rfl⟩ := eR z' hz'
    have h1 := (inR r s t hr hs ht).1
    have h2 := (inL r' s' t' hr' hs' ht').1
    rw [← e] at h1
    rw [← Rat.mul_assoc, ← e'] at h2
    grind
  · obtain ⟨_, r, z, hr, hz, e⟩ := memL
    obtain ⟨s, t, hs, ht, rfl⟩ := eL z hz
    obtain ⟨_, z', t', hz', ht', e'⟩ := memR
    obtain ⟨r', s', hr', hs', rfl⟩ := eR z' hz'
    have h1 := (inR r s t hr hs ht).2
    have h2 := (inL r' s' t' hr' hs' ht').2
    rw [← e] at h1
    rw [← Rat.mul_assoc, ← e'] at h2
    grind
theorem dist_in {x y b1 b2 c1 c2 : Rat} {z : Rat} (hz : z = (mulI x y (rmin b1 b2 + rmin c1 c2) (rmax b1 b2 + rmax c1 c2)).1 ∨ z = (mulI x y (rmin b1 b2 + rmin c1 c2) (rmax b1 b2 + rmax c1 c2)).2) :
    (mulI x y b1 b2).1 + (mulI x y c1 c2).1 ≤ z ∧ z ≤ (mulI x y b1 b2).2 + (mulI x y c1 c2).2 := by
  have m := mulI_mem x y (rmin b1 b2 + rmin c1 c2) (rmax b1 b2 + rmax c1 c2)
  have : ∃ s t, (s = x ∨ s = y) ∧ (t = rmin b1 b2 + rmin c1 c2 ∨ t = rmax b1 b2 + rmax c1 c2) ∧ z = s * t := by
    rcases hz with rfl | rfl
    · exact m.1
    · exact m.2
  obtain ⟨s, t, hs, ht, rfl⟩ := this
  have pb : ∀ t, (t = rmin b1 b2 ∨ t = rmax b1 b2) → (mulI x y b1 b2).1 ≤ s * t ∧ s * t ≤ (mulI x y b1 b2).2 := fun t ht => by
    rw [← mulI_r x y b1 b2]; exact mulI_prod hs ht
  have pc : ∀ t, (t = rmin c1 c2 ∨ t = rmax c1 c2) → (mulI x y c1 c2).1 ≤ s * t ∧ s * t ≤ (mulI x y c1 c2).2 := fun t ht => by
    rw [← mulI_r x y c1 c2]; exact mulI_prod hs ht
  rcases ht with rfl | rfl
  · have h1 := pb _ (.inl rfl)
    have h2 := pc _ (.inl rfl)
    rw [Rat.mul_add]; grind
  · have h1 := pb _ (.inr rfl)
    have h2 := pc _ (.inr rfl)
    rw [Rat.mul_add]; grind

theorem Rules_8 {s} {a b c : NI} {x y u v p q : Rat} (va : IV 96 a x y) (vb : IV 96 b u v) (vc : IV 96 c p q) : S_law06_IntervalRules_8 s false a b c = some true := by
  have vbc := IV.addI vb.1.2.2 vb.2.2.2 vc.1.2.2 vc.2.2.2 (by omega)
  have vab := IV.addI va.1.2.2 va.2.2.2 vb.1.2.2 vb.2.2.2 (by omega)
  have mbc := IV.mulI vb.1.2.2 vb.2.2.2 vc.1.2.2 vc.2.2.2 (by omega)
  have mab := IV.mulI va.1.2.2 va.2.2.2 vb.1.2.2 vb.2.2.2 (by omega)
  have mac := IV.mulI va.1.2.2 va.2.2.2 vc.1.2.2 vc.2.2.2 (by omega)
  have m1 := IV.mulI va.1.2.2 va.2.2.2 vbc.1.2.2 vbc.2.2.2 (by omega)
  have m2 := IV.addI mab.1.2.2 mab.2.2.2 mac.1.2.2 mac.2.2.2 (by omega)
  have m3 := IV.mulI va.1.2.2 va.2.2.2 mbc.1.2.2 mbc.2.2.2 (by omega)
  have m4 := IV.addI va.1.2.2 va.2.2.2 vbc.1.2.2 vbc.2.2.2 (by omega)
  have lbc : rmin u v + rmin p q ≤ rmax u v + rmax p q := by have := rmin_le_rmax u v; have := rmin_le_rmax p q; grind
  have lab : rmin x y + rmin u v ≤ rmax x y + rmax u v := by have := rmin_le_rmax x y; have := rmin_le_rmax u v; grind
  have e1 : F_interval_Within (dI (mulI x y (rmin u v + rmin p q) (rmax u v + rmax p q))) (dI (rmin (mulI x y u v).1 (mulI x y u v).2 + rmin (mulI x y p q).1 (mulI x y p q).2, rmax (mulI x y u v).1 (mulI x y u v).2 + rmax (mulI x y p q).1 (mulI x y p q).2)) = some true := by
    rw [F_interval_Within, gif_pos ⟨m1.q2, m2.q2⟩]
    congr 1
    rw [decide_eq_true_eq]
    unfold lo hi
    rw [m1.1.2.1, m1.2.2.1, m2.1.2.1, m2.2.2.1]
    rw [(rmin_of_le (mulI_le x y u v)).1, (rmin_of_le (mulI_le x y u v)).2, (rmin_of_le (mulI_le x y p q)).1, (rmin_of_le (mulI_le x y p q)).2]
    have k1 := dist_in (x := x) (y := y) (b1 := u) (b2 := v) (c1 := p) (c2 := q) (.inl rfl)
    have k2 := dist_in (x := x) (y := y) (b1 := u) (b2 := v) (c1 := p) (c2 := q) (.inr rfl)
    have k3 := mulI_le x y u v
    have k4 := mulI_le x y p q
    have k5 : (mulI x y u v).1 + (mulI x y p q).1 ≤ (mulI x y u v).2 + (mulI x y p q).2 := by grind
    rw [(rmin_of_le k5).1, (rmin_of_le k5).2]
    exact ⟨k1, k2⟩
  have e2 : (rmin u v + rmin x y, rmax u v + rmax x y) = (rmin x y + rmin u v, rmax x y + rmax u v) := by rw [Rat.add_comm, Rat.add_comm (rmax u v)]
  have e3 : (rmin x y + rmin (rmin u v + rmin p q) (rmax u v + rmax p q), rmax x y + rmax (rmin u v + rmin p q) (rmax u v + rmax p q)) = (rmin (rmin x y + rmin u v) (rmax x y + rmax u v) + rmin p q, rmax (rmin x y + rmin u v) (rmax x y + rmax u v) + rmax p q) := by
    rw [(rmin_of_le lbc).1, (rmin_of_le lbc).2, (rmin_of_le lab).1, (rmin_of_le lab).2, Rat.add_assoc, Rat.add_assoc]
  unfold S_law06_IntervalRules_8
  simp only [vb.add vc (by omega) (by omega), va.mul vbc (by omega) (by omega), va.mul vb (by omega) (by omega), va.mul vc (by omega) (by omega), mab.add mac (by omega) (by omega), e1, va.add vb (by omega) (by omega), vb.add va (by omega) (by omega), e2, vab.equal,
    vb.mul va (by omega) (by omega), mulI_comm x y u v, mab.equal, vb.mul vc (by omega) (by omega), va.mul mbc (by omega) (by omega), mab.mul vc (by omega) (by omega), ← mulI_assoc x y u v p q, m3.equal, va.add vbc (by omega) (by omega), vab.add vc (by omega) (by omega), ← e3, m4.equal, Option.bind_some, Bool.false_eq_true, if_false, if_true]

theorem Rn_law06_IntervalRules : Run_law06_IntervalRules := fun s1 k1 a b c => Ok.gif fun ⟨hA, hB, hC⟩ => by
  simp only [T_law06_IntervalRules, awake6_some, few6_some, Option.bind_some, Bool.not_true, Bool.false_eq_true, if_false]
  have bad : Ev (fun m => s1 m true a b c) true := by
    refine Ev.step (t := fun _ => some true) (fun m => ?_) Ev.ret
    rw [k1]; unfold S_law06_IntervalRules_8
    rw [if_pos rfl, awake6_some]; rfl
  by_cases hf : (((a.1.1.2.length : Int) ≤ 3 ∧ (a.1.2.length : Int) ≤ 3) ∧ ((a.2.1.2.length : Int) ≤ 3 ∧ (a.2.2.length : Int) ≤ 3) ∧ ((b.1.1.2.length : Int) ≤ 3 ∧ (b.1.2.length : Int) ≤ 3) ∧ (b.2.1.2.length : Int) ≤ 3 ∧ (b.2.2.length : Int) ≤ 3)
  · rw [decide_eq_true hf]
    simp only [Bool.not_true, Bool.false_eq_true, if_false]
    by_cases hg : (((c.1.1.2.length : Int) ≤ 3 ∧ (c.1.2.length : Int) ≤ 3) ∧ ((c.2.1.2.length : Int) ≤ 3 ∧ (c.2.2.length : Int) ≤ 3) ∧ ((c.1.1.2.length : Int) ≤ 3 ∧ (c.1.2.length : Int) ≤ 3) ∧ (c.2.1.2.length : Int) ≤ 3 ∧ (c.2.2.length : Int) ≤ 3)
    · rw [decide_eq_true hg]
      obtain ⟨⟨f1, f2⟩, ⟨f3, f4⟩, ⟨f5, f6⟩, f7, f8⟩ := hf
      obtain ⟨⟨g1, g2⟩, ⟨g3, g4⟩, _⟩ := hg
      have hv : ∀ {z : NQ}, DR z → (z.1.2.length : Int) ≤ 3 → (z.2.length : Int) ≤ 3 → QV 96 z (rv z) := fun h i1 i2 => QV.of (h.qq i1 i2 (by omega)) (m := 3) (by omega) (by omega) (by omega)
      refine Ev.step (t := fun _ => some true) (fun m => ?_) Ev.ret
      rw [k1]
      exact Rules_8 ⟨hv hA.1 f1 f2, hv hA.2 f3 f4⟩ ⟨hv hB.1 f5 f6, hv hB.2 f7 f8⟩ ⟨hv hC.1 g1 g2, hv hC.2 g3 g4⟩
    · rw [decide_eq_false hg]; exact bad
  · rw [decide_eq_false hf]; exact bad
end Go.W

set_option linter.unusedVariables false
set_option linter.unusedSimpArgs false
namespace Go.W

theorem Rn_ref06_Contains : Run_ref06_Contains := fun p q => Ok.gif_const fun ⟨h1, h2, h3⟩ => by
  rw [T_ref06_Contains, F_ref05_Cmp, gif_bind ⟨h1, h3⟩]
  by_cases h : qv p.1 ≤ qv q
  · rw [if_pos (decide_eq_true (rcm_le0.2 h)), F_ref05_Cmp, gif_bind ⟨h3, h2⟩]
    congr 1; rw [decide_eq_decide, rcm_le0]; exact ⟨fun x => ⟨h, x⟩, fun x => x.2⟩
  · rw [if_neg (by rw [decide_eq_true_eq]; exact fun x => h (rcm_le0.1 x)), decide_eq_false (fun x => h x.1)]
theorem powq_R {k : Nat} {q : FQ} {r : Rat} (h : QR k q r) (n : Nat) : QR (k * n + 1) (powq q n) (r ^ n) := by
  refine ⟨RQ.mq (by rw [ab_pow]; exact h.1.2.1.pow n) (h.1.2.2.1.pow n) (pow_pos' h.1.pos n), ?_⟩
  unfold powq; rw [qv_mq, ← h.2]; unfold qv; exact (divInt_pow _ _ n).symm
theorem Rn_ref06_power : Run_ref06_power := fun s k1 q n => Ok.gif fun ⟨hq, hn⟩ => by
  have loop : ∀ (d i : Nat), i + d = n.toNat → Ev (fun m => s m n (i : Int) q (((0 : Int), ([] : List Int)), ((0 : Int), ([] : List Int))) (powq q i)) (powq q n.toNat) := by
    intro d
    induction d with
    | zero =>
      intro i hi
      refine Ev.step (t := fun _ => some (powq q n.toNat)) (fun m => ?_) Ev.ret
      rw [k1]; unfold S_ref06_power_13
      rw [if_neg (by rw [decide_eq_true_eq]; omega), show i = n.toNat by omega]
    | succ d ih =>
      intro i hi
      have hb : 1000 * i ≤ 1000000 := by omega
      have hp := (powq_R (QR.self hq) i).1
      refine Ev.step (fun m => ?_) (ih (i + 1) (by omega))
      rw [k1]; unfold S_ref06_power_13
      rw [if_pos (by rw [decide_eq_true_eq]; omega), F_ref05_Mul, gif_bind ⟨hp.k (by omega), hq.k (by omega)⟩, i64w (by omega) (by omega)]
      unfold powq
      rw [qn_mq, qd_mq, Int.pow_succ, Int.pow_succ]
      simp
  simp only [T_ref06_power]
  refine Ev.congr (fun m => ?_) (loop n.toNat 0 (by omega))
  rw [F_ref06_Number, gif_bind (by omega)]
  unfold powq; rw [Int.pow_zero, Int.pow_zero]; rfl
theorem zero_RQ : QR 1 (mq 0 1) 0 := ⟨RQ.mq (by constructor <;> decide) (by constructor <;> decide) (by decide), by rw [qv_mq]; decide +kernel⟩
theorem Rn_ref06_Pow : Run_ref06_Pow := fun s k1 p n => Ok.gif fun ⟨h1, h2, hn⟩ => by
  have r1 := (powq_R (QR.self h1) n.toNat).1
  have r2 := (powq_R (QR.self h2) n.toNat).1
  have hb : 1000 * n.toNat ≤ 1000000 := by omega
  have e1 : F_ref06_power p.1 n = some (powq p.1 n.toNat) := gif_pos ⟨h1, hn⟩
  have e2 : F_ref06_power p.2 n = some (powq p.2 n.toNat) := gif_pos ⟨h2, hn⟩
  have n0 : F_ref06_Number 0 = some (mq 0 1) := gif_pos (by omega)
  have ec : F_ref06_Contains p (mq 0 1) = some (decide (qv p.1 ≤ 0 ∧ 0 ≤ qv p.2)) := by
    rw [F_ref06_Contains, gif_pos ⟨h1.k (by omega), h2.k (by omega), zero_RQ.1.k (by omega)⟩, zero_RQ.2]
  have hh2 : F_ref06_Hull [powq p.1 n.toNat, powq p.2 n.toNat] = some (hullL [powq p.1 n.toNat, powq p.2 n.toNat]) := gif_pos ⟨by simp, by simp, fun x hx => by
    simp only [List.mem_cons, List.not_mem_nil, or_false] at hx
    rcases hx with rfl | rfl
    · exact r1.k (by omega)
    · exact r2.k (by omega)⟩
  have hh3 : F_ref06_Hull [powq p.1 n.toNat, powq p.2 n.toNat, mq 0 1] = some (hullL [powq p.1 n.toNat, powq p.2 n.toNat, mq 0 1]) := gif_pos ⟨by simp, by simp, fun x hx => by
    simp only [List.mem_cons, List.not_mem_nil, or_false] at hx
    rcases hx with rfl | rfl | rfl
    · exact r1.k (by omega)
    · exact r2.k (by omega)
    · exact zero_RQ.1.k (by omega)⟩
  simp only [T_ref06_Pow, e1, e2, n0, ec, Option.bind_some]
  by_cases hp : 0 < n
  · simp only [gt_iff_lt, hp, decide_true, if_true, true_and]
    refine Ev.step (t := fun _ => some (hullL (if qv p.1 ≤ 0 ∧ 0 ≤ qv p.2 then [powq p.1 n.toNat, powq p.2 n.toNat, mq 0 1] else [powq p.1 n.toNat, powq p.2 n.toNat]))) (fun m => ?_) Ev.ret
    rw [k1]; unfold S_ref06_Pow_12
    by_cases hc : qv p.1 ≤ 0 ∧ 0 ≤ qv p.2
    · rw [if_pos (decide_eq_true hc), if_pos hc, n0, Option.bind_some, if_pos (by simp)]
      show (F_ref06_Hull [powq p.1 n.toNat, powq p.2 n.toNat, mq 0 1]).bind _ = _
      rw [hh3]; rfl
    · rw [if_neg (by rw [decide_eq_true_eq]; exact hc), if_neg hc, hh2]; rfl
  · simp only [gt_iff_lt, hp, decide_false, Bool.false_eq_true, if_false, false_and]
    refine Ev.step (t := fun _ => some (hullL [powq p.1 n.toNat, powq p.2 n.toNat])) (fun m => ?_) Ev.ret
    rw [k1]; unfold S_ref06_Pow_12
    rw [if_neg (by simp), hh2]; rfl

theorem Rn_interval_Pow : Run_interval_Pow := fun s k1 a n => Ok.gif fun ⟨⟨a1, a2, a3, a4⟩, n0, n1, hb⟩ => by
  simp only [T_interval_Pow]
  by_cases hn : n < 0
  · simp only [hn, decide_true, if_true]; exact Ev.ret
  · simp only [hn, decide_false, Bool.false_eq_true, if_false]
    have e1 : F_rational_Pow a.1 n = some (if far (rv a.1) n.natAbs then (zQ, 8) else (dr (rv a.1 ^ n.natAbs), 0)) := by
      rw [F_rational_Pow, gif_pos ⟨a1, n0, n1⟩, if_neg (fun x => hn x.1), if_neg hn]
    have e2 : F_rational_Pow a.2 n = some (if far (rv a.2) n.natAbs then (zQ, 8) else (dr (rv a.2 ^ n.natAbs), 0)) := by
      rw [F_rational_Pow, gif_pos ⟨a2, n0, n1⟩, if_neg (fun x => hn x.1), if_neg hn]
    simp only [e1, e2, Option.bind_some]
    have b8 : ((8 : Int) != 0) = true := rfl
    have b0 : ¬ ((0 : Int) != 0) = true := by decide
    by_cases f1 : far (rv a.1) n.natAbs
    · simp only [f1, if_true, b8, true_or]
      refine Ev.step (t := fun _ => some (zI, 8)) (fun m => ?_) Ev.ret
      rw [k1]; unfold S_interval_Pow_24; rw [if_pos rfl]
    · simp only [f1, if_false, bne_self_eq_false, Bool.false_eq_true, false_or]
      by_cases f2 : far (rv a.2) n.natAbs
      · simp only [f2, if_true, b8]
        refine Ev.step (t := fun _ => some (zI, 8)) (fun m => ?_) Ev.ret
        rw [k1]; unfold S_interval_Pow_24; rw [if_pos rfl]
      · simp only [f2, if_false, bne_self_eq_false]
        have hk : n ≤ 1000 := by rcases hb with h | h | h; exact h; exact absurd h f1; exact absurd h f2
        have hb : 1000 * n.natAbs ≤ 1000000 := by omega
        have v1 : QV 1000001 (dr (rv a.1 ^ n.natAbs)) (rv a.1 ^ n.natAbs) := QV.dr ((a3.pow _).mono (by omega)) (by omega)
        have v2 : QV 1000001 (dr (rv a.2 ^ n.natAbs)) (rv a.2 ^ n.natAbs) := QV.dr ((a4.pow _).mono (by omega)) (by omega)
        have v0 : QV 1 (dr ((0 : Int) : Rat)) ((0 : Int) : Rat) := QV.dr (QB.int (by constructor <;> decide) (by omega)) (by omega)
        have ec : F_interval_Contains a (dr ((0 : Int) : Rat)) = some (decide (lo a ≤ 0 ∧ 0 ≤ hi a)) := by
          rw [F_interval_Contains, gif_pos ⟨⟨a1, a2⟩, v0.1⟩, v0.2.1]; rfl
        refine Ev.step (t := fun _ => some (dI (if (0 < n ∧ Int.tmod n 2 = 0) ∧ lo a ≤ 0 ∧ 0 ≤ hi a then 0 else rmin (rv a.1 ^ n.natAbs) (rv a.2 ^ n.natAbs), rmax (rv a.1 ^ n.natAbs) (rv a.2 ^ n.natAbs)), 0)) (fun m => ?_) Ev.ret
        rw [k1]; unfold S_interval_Pow_24
        rw [if_neg (by decide), I.normal v1 v2, Option.bind_some]
        by_cases hp : 0 < n
        · rw [if_pos (decide_eq_true hp), if_neg (show ¬ ((2 : Int) = 0) by decide)]
          by_cases he : Int.tmod n 2 = 0
          · rw [if_pos (by rw [beq_iff_eq]; exact he), Of_bind (by omega), ec, Option.bind_some]
            by_cases hc : lo a ≤ 0 ∧ 0 ≤ hi a
            · rw [if_pos (decide_eq_true hc), Of_bind (by omega), if_pos ⟨⟨hp, he⟩, hc⟩]; rfl
            · rw [if_neg (by rw [decide_eq_true_eq]; exact hc), if_neg (fun x => hc x.2)]
          · rw [if_neg (by rw [beq_iff_eq]; exact he), if_neg (fun x => he x.1.2)]
        · rw [if_neg (by rw [decide_eq_true_eq]; exact hp), if_neg (fun x => hp x.1.1)]

theorem rpow_nonneg {x : Rat} (h : 0 ≤ x) : ∀ n : Nat, 0 ≤ x ^ n
  | 0 => by rw [Rat.pow_zero]; decide
  | n + 1 => by rw [Rat.pow_succ]; exact Rat.mul_nonneg (rpow_nonneg h n) h
theorem sq_nonneg (x : Rat) : 0 ≤ x * x := by
  by_cases h : 0 ≤ x
  · exact Rat.mul_nonneg h h
  · have := Rat.mul_nonneg (a := -x) (b := -x) (by grind) (by grind)
    grind
theorem rpow_even {x : Rat} : ∀ n : Nat, n % 2 = 0 → 0 ≤ x ^ n
  | 0, _ => by rw [Rat.pow_zero]; decide
  | 1, h => by omega
  | n + 2, h => by
    rw [Rat.pow_succ, Rat.pow_succ, Rat.mul_assoc]
    exact Rat.mul_nonneg (rpow_even n (by omega)) (sq_nonneg x)
theorem nonneg_rmin {a b : Rat} (h : 0 ≤ a) (h' : 0 ≤ b) : 0 ≤ rmin a b := by unfold rmin; split <;> assumption
theorem rpow_odd {x : Rat} (hx : x ≤ 0) (n : Nat) (h : n % 2 = 1) : x ^ n ≤ 0 := by
  obtain ⟨k, rfl⟩ : ∃ k, n = k + 1 := ⟨n - 1, by omega⟩
  rw [Rat.pow_succ]
  have h1 := rpow_even (x := x) k (by omega)
  have := Rat.mul_nonneg (a := x ^ k) (b := -x) h1 (by grind)
  grind

/-- the powers' ends, as the interval has them and as the reference has them -/
theorem pow_ends {x y : Rat} {n : Nat} : (if (0 < n ∧ n % 2 = 0) ∧ rmin x y ≤ 0 ∧ 0 ≤ rmax x y then 0 else rmin (x ^ n) (y ^ n), rmax (x ^ n) (y ^ n)) =
    (if 0 < n ∧ rmin x y ≤ 0 ∧ 0 ≤ rmax x y then (rmin (rmin (rmin x y ^ n) (rmax x y ^ n)) 0, rmax (rmax (rmin x y ^ n) (rmax x y ^ n)) 0) else (rmin (rmin x y ^ n) (rmax x y ^ n), rmax (rmin x y ^ n) (rmax x y ^ n))) := by
  have e : rmin (rmin x y ^ n) (rmax x y ^ n) = rmin (x ^ n) (y ^ n) ∧ rmax (rmin x y ^ n) (rmax x y ^ n) = rmax (x ^ n) (y ^ n) := by
    rcases lohi x y with ⟨h1, h2⟩ | ⟨h1, h2⟩ <;> rw [h1, h2]
    · exact ⟨rfl, rfl⟩
    · exact ⟨rmin_comm _ _, rmax_comm _ _⟩
  by_cases hn : 0 < n
  · by_cases hc : rmin x y ≤ 0 ∧ 0 ≤ rmax x y
    · rw [if_pos (show 0 < n ∧ rmin x y ≤ 0 ∧ 0 ≤ rmax x y from ⟨hn, hc⟩)]
      have l := rmin_le (rmin x y ^ n) (rmax x y ^ n)
      have g := le_rmax (rmin x y ^ n) (rmax x y ^ n)
      by_cases he : n % 2 = 0
      · rw [if_pos ⟨⟨hn, he⟩, hc⟩]
        have p1 := rpow_even (x := rmin x y) n he
        have p2 := rpow_even (x := rmax x y) n he
        rw [← e.2]
        have m1 : 0 ≤ rmin (rmin x y ^ n) (rmax x y ^ n) := nonneg_rmin p1 p2
        rw [rmin_comm _ 0, (rmin_of_le m1).1, rmax_comm _ 0, (rmin_of_le (show 0 ≤ rmax (rmin x y ^ n) (rmax x y ^ n) by grind)).2]
      · rw [if_neg (fun z => he z.1.2)]
        have p1 := rpow_odd hc.1 n (by omega)
        have p2 := rpow_nonneg hc.2 n
        rw [← e.1, ← e.2, (rmin_of_le (show rmin (rmin x y ^ n) (rmax x y ^ n) ≤ 0 by grind)).1, rmax_comm _ 0, (rmin_of_le (show 0 ≤ rmax (rmin x y ^ n) (rmax x y ^ n) by grind)).2]
    · rw [if_neg (fun z => hc z.2), if_neg (fun z => hc z.2), e.1, e.2]
  · rw [if_neg (fun z => hn z.1.1), if_neg (fun z => hn z.1), e.1, e.2]
theorem hull2 {k : Nat} {a b : FQ} {r s : Rat} (h1 : QR k a r) (h2 : QR k b s) : QR k (hullL [a, b]).1 (rmin r s) ∧ QR k (hullL [a, b]).2 (rmax r s) := ⟨fold_lo h1 h2, fold_hi h1 h2⟩
theorem hull3 {k : Nat} {a b c : FQ} {r s t : Rat} (h1 : QR k a r) (h2 : QR k b s) (h3 : QR k c t) : QR k (hullL [a, b, c]).1 (rmin (rmin r s) t) ∧ QR k (hullL [a, b, c]).2 (rmax (rmax r s) t) := ⟨fold_lo (fold_lo h1 h2) h3, fold_hi (fold_hi h1 h2) h3⟩
theorem QR.mono {j k : Nat} {q : FQ} {r : Rat} (h : QR j q r) (hk : j ≤ k) : QR k q r := ⟨h.1.mono hk, h.2⟩
theorem tmod_nat {n : Int} (h : 0 ≤ n) : (Int.tmod n 2 = 0) ↔ n.natAbs % 2 = 0 := by
  rw [Int.tmod_eq_emod_of_nonneg h]; omega

theorem Powers_8 {s} {a : NI} {n : Int} (hA : Q2 a) (b1 : QB 64 (rv a.1)) (b2 : QB 64 (rv a.2)) {p : FI} (ep : F_law06_of a = some p) (p1 : QR 64 p.1 (lo a)) (p2 : QR 64 p.2 (hi a)) (n0 : -9223372036854775808 ≤ n) (n1 : n ≤ 12) : S_law06_IntervalPowers_8 s n false a = some true := by
  have w1 : QB 2 ((1 : Int) : Rat) := QB.int (by constructor <;> decide) (by omega)
  have w2 : QB 2 ((2 : Int) : Rat) := QB.int (by constructor <;> decide) (by omega)
  have v1 := QV.dr w1 (by omega)
  have v2 := QV.dr w2 (by omega)
  have f2 : far ((2 : Int) : Rat) (Int.natAbs 16777216) := by
    right; left
    rw [Rat.num_intCast, show ab 2 = 2 by decide, bl_eq (n := 2) (k := 1) (by decide) (by decide)]
    decide
  have e5 : F_interval_Pow (dr ((1 : Int) : Rat), dr ((2 : Int) : Rat)) 16777216 = some (zI, 8) := by
    rw [F_interval_Pow, gif_pos ⟨⟨v1.1, v2.1, by rw [v1.2.1]; exact w1.mono (by omega), by rw [v2.2.1]; exact w2.mono (by omega)⟩, by omega, by omega, .inr (.inr (by rw [v2.2.1]; exact f2))⟩, if_neg (by omega), if_pos (.inr (by rw [v2.2.1]; exact f2))]
  have nz : F_law06_none zI = some true := by
    rw [F_law06_none, gif_pos ⟨zQ_ok.1, zQ_ok.1⟩]
    rw [show rv (zI : NI).1 = 0 from zQ_ok.2]; simp
  have eP : F_interval_Pow a n = some (if n < 0 then (zI, 1) else if far (rv a.1) n.natAbs ∨ far (rv a.2) n.natAbs then (zI, 8) else (dI (if (0 < n ∧ Int.tmod n 2 = 0) ∧ lo a ≤ 0 ∧ 0 ≤ hi a then 0 else rmin (rv a.1 ^ n.natAbs) (rv a.2 ^ n.natAbs), rmax (rv a.1 ^ n.natAbs) (rv a.2 ^ n.natAbs)), 0)) :=
    gif_pos ⟨⟨hA.1, hA.2, b1.mono (by omega), b2.mono (by omega)⟩, n0, by omega, .inl (by omega)⟩
  have o1 : ∀ {k : NQ → Option Bool}, (F_rational_Of 1).bind k = k (dr ((1 : Int) : Rat)) := Of_bind (by omega)
  have o2 : ∀ {k : NQ → Option Bool}, (F_rational_Of 2).bind k = k (dr ((2 : Int) : Rat)) := Of_bind (by omega)
  unfold S_law06_IntervalPowers_8
  by_cases hn : n < 0
  · simp only [eP, o1, o2, e5, hn, nz, Option.bind_some, Bool.false_eq_true, if_false, if_true, bne_self_eq_false, beq_self_eq_true, decide_true]
  · have hk : n.natAbs ≤ 12 := by omega
    have m1 := Nat.mul_le_mul_right 64 hk
    have nf1 := not_far b1 (k := n.natAbs) (by omega) (by omega)
    have nf2 := not_far b2 (k := n.natAbs) (by omega) (by omega)
    have hN : n.toNat = n.natAbs := by omega
    have hlast : ∃ w, F_ref06_Pow p n = some w ∧ F_law06_is (dI (if (0 < n ∧ Int.tmod n 2 = 0) ∧ lo a ≤ 0 ∧ 0 ≤ hi a then 0 else rmin (rv a.1 ^ n.natAbs) (rv a.2 ^ n.natAbs), rmax (rv a.1 ^ n.natAbs) (rv a.2 ^ n.natAbs))) w = some true := by
      refine ⟨_, gif_pos ⟨p1.1.mono (by omega), p2.1.mono (by omega), by omega⟩, ?_⟩
      rw [p1.2, p2.2, hN]
      have g1 := (powq_R p1 n.natAbs).mono (k := 1000) (by omega)
      have g2 := (powq_R p2 n.natAbs).mono (k := 1000) (by omega)
      have g3 := zero_RQ.mono (k := 1000) (by omega)
      have ends := pow_ends (x := rv a.1) (y := rv a.2) (n := n.natAbs)
      have c1 : ((0 < n ∧ Int.tmod n 2 = 0) ∧ lo a ≤ 0 ∧ 0 ≤ hi a) ↔ ((0 < n.natAbs ∧ n.natAbs % 2 = 0) ∧ rmin (rv a.1) (rv a.2) ≤ 0 ∧ 0 ≤ rmax (rv a.1) (rv a.2)) := by
        rw [tmod_nat (by omega), show (0 < n) ↔ (0 < n.natAbs) by omega]; exact Iff.rfl
      have c2 : (0 < n ∧ lo a ≤ 0 ∧ 0 ≤ hi a) ↔ (0 < n.natAbs ∧ rmin (rv a.1) (rv a.2) ≤ 0 ∧ 0 ≤ rmax (rv a.1) (rv a.2)) := by
        rw [show (0 < n) ↔ (0 < n.natAbs) by omega]; exact Iff.rfl
      simp only [c1, c2]
      rw [ends]
      by_cases hc : 0 < n.natAbs ∧ rmin (rv a.1) (rv a.2) ≤ 0 ∧ 0 ≤ rmax (rv a.1) (rv a.2)
      · rw [if_pos hc, if_pos hc]
        exact R.his (hull3 g1 g2 g3).1 (hull3 g1 g2 g3).2 (by omega)
      · rw [if_neg hc, if_neg hc]
        exact R.his (hull2 g1 g2).1 (hull2 g1 g2).2 (by omega)
    obtain ⟨w, ew, ei⟩ := hlast
    simp only [eP, o1, o2, e5, hn, nf1, nf2, or_self, ep, ew, ei, Option.bind_some, Bool.false_eq_true, if_false, if_true, bne_self_eq_false, beq_self_eq_true, decide_false]
theorem Rn_law06_IntervalPowers : Run_law06_IntervalPowers := fun s1 k1 a n => Ok.gif fun ⟨hA, n0, n1⟩ => by
  have bad : Ev (fun m => s1 m n true a) true := by
    refine Ev.step (t := fun _ => some true) (fun m => ?_) Ev.ret
    rw [k1]; unfold S_law06_IntervalPowers_8
    rw [if_pos rfl, awake6_some]; rfl
  simp only [T_law06_IntervalPowers, awake6_some, few6_some, Option.bind_some, Bool.not_true, Bool.false_eq_true, if_false]
  by_cases hf : (((a.1.1.2.length : Int) ≤ 2 ∧ (a.1.2.length : Int) ≤ 2) ∧ ((a.2.1.2.length : Int) ≤ 2 ∧ (a.2.2.length : Int) ≤ 2) ∧ ((a.1.1.2.length : Int) ≤ 2 ∧ (a.1.2.length : Int) ≤ 2) ∧ (a.2.1.2.length : Int) ≤ 2 ∧ (a.2.2.length : Int) ≤ 2)
  · rw [decide_eq_true hf]
    simp only [Bool.not_true, Bool.false_eq_true, if_false]
    obtain ⟨⟨f1, f2⟩, ⟨f3, f4⟩, _⟩ := hf
    have a1 := hA.1.qq f1 f2 (by omega)
    have a2 := hA.2.qq f3 f4 (by omega)
    by_cases h : n > 12
    · rw [decide_eq_true h]; exact bad
    · rw [decide_eq_false h]
      obtain ⟨p, ep, p1, p2⟩ := of_R (a := a) ⟨a1, a2⟩ (m := 2) (by omega) (by omega) (by omega) (by omega) (by omega)
      refine Ev.step (t := fun _ => some true) (fun m => ?_) Ev.ret
      rw [k1]
      exact Powers_8 ⟨a1, a2⟩ (QB.rv' a1 (m := 2) (by omega) (by omega) (by omega)) (QB.rv' a2 (m := 2) (by omega) (by omega) (by omega)) ep p1 p2 n0 (by omega)
  · rw [decide_eq_false hf]; exact bad
end Go.W

set_option linter.unusedVariables false
set_option linter.unusedSimpArgs false
namespace Go.W

theorem Q2.v {a : NI} (h : Q2 a) : IV 33554432 a (rv a.1) (rv a.2) := ⟨h.1.v, h.2.v⟩
theorem Q2.lo {a : NI} (h : Q2 a) : QV 33554432 (dr (lo a)) (Go.W.lo a) := QV.dr ((QB.rv h.1).rmin (QB.rv h.2)) (by omega)
theorem Q2.hi {a : NI} (h : Q2 a) : QV 33554432 (dr (hi a)) (Go.W.hi a) := QV.dr ((QB.rv h.1).rmax (QB.rv h.2)) (by omega)
theorem rmin_if {x y : Rat} (p q : NQ) : True := trivial
theorem Rn_interval_Hull : Run_interval_Hull := fun a b => Ok.gif_const fun ⟨ha, hb⟩ => by
  rw [T_interval_Hull, F_interval_Normal, gif_bind ha, F_interval_Normal, gif_bind hb]
  show (F_interval_least (dr (lo a)) (dr (lo b))).bind _ = _
  rw [F_interval_least, gif_bind ⟨ha.lo.1, hb.lo.1⟩]
  show (F_interval_greatest (dr (hi a)) (dr (hi b))).bind _ = _
  rw [F_interval_greatest, gif_bind ⟨ha.hi.1, hb.hi.1⟩, rv_dr, rv_dr, rv_dr, rv_dr]
  unfold dI rmin rmax
  congr 2 <;> split <;> rfl
theorem Rn_interval_Point : Run_interval_Point := fun a => Ok.gif_const fun h => by
  rw [T_interval_Point, V.normal h.v, Option.bind_some, Option.bind_some]; rfl
theorem Rn_law06_clamp : Run_law06_clamp := fun a x => Ok.gif_const fun ⟨ha, hx⟩ => by
  rw [T_law06_clamp, F_interval_Normal, gif_bind ha]
  show (F_rational_Cmp x (dr (lo a))).bind _ = _
  rw [V.cmp hx.v ha.lo, Option.bind_some]
  by_cases h : rv x < lo a
  · rw [if_pos (decide_eq_true (rcm_neg.2 h)), if_pos h]; rfl
  · rw [if_neg (by rw [decide_eq_true_eq]; exact fun z => h (rcm_neg.1 z)), if_neg h]
    show (F_rational_Cmp x (dr (hi a))).bind _ = _
    rw [V.cmp hx.v ha.hi, Option.bind_some]
    by_cases h' : hi a < rv x
    · rw [if_pos (decide_eq_true (rcm_pos.2 h')), if_pos h']; rfl
    · rw [if_neg (by rw [decide_eq_true_eq]; exact fun z => h' (rcm_pos.1 z)), if_neg h']
theorem neg_ends (x y : Rat) : rmin (-x) (-y) = -(rmax x y) ∧ rmax (-x) (-y) = -(rmin x y) := by
  unfold rmin rmax; constructor <;> (repeat' split) <;> grind
theorem Rn_interval_Neg : Run_interval_Neg := fun a => Ok.gif_const fun h => by
  have v1 := QV.dr (QB.rv h.1).neg (by omega)
  have v2 := QV.dr (QB.rv h.2).neg (by omega)
  rw [T_interval_Neg, V.neg h.1.v, Option.bind_some, V.neg h.2.v, Option.bind_some, I.normal v1 v2, Option.bind_some, (neg_ends _ _).1, (neg_ends _ _).2]; rfl
theorem Rn_interval_Sub : Run_interval_Sub := fun a b => Ok.gif_const fun ⟨ha, hb⟩ => by
  have va : IV BI a (rv a.1) (rv a.2) := ⟨⟨ha.1, rfl, ha.2.2.1⟩, ha.2.1, rfl, ha.2.2.2⟩
  have vb : IV BI (dI (-(hi b), -(lo b))) (-(hi b)) (-(lo b)) := IV.dI (hb.2.2.1.rmax hb.2.2.2).neg (hb.2.2.1.rmin hb.2.2.2).neg (by decide)
  have hl : -(hi b) ≤ -(lo b) := by have := rmin_le_rmax (rv b.1) (rv b.2); unfold lo hi; grind
  rw [T_interval_Sub, F_interval_Neg, gif_bind ⟨hb.1, hb.2.1⟩, va.add vb (by decide) (by decide), Option.bind_some, (rmin_of_le hl).1, (rmin_of_le hl).2, ← Rat.sub_eq_add_neg, ← Rat.sub_eq_add_neg]; rfl

theorem evI_le (x y : Rat) : ∀ l : List Rat, (evI x y l).1 ≤ (evI x y l).2
  | [] => by unfold evI; exact Rat.le_refl
  | c :: l => by unfold evI; have := mulI_le (evI x y l).1 (evI x y l).2 x y; grind
theorem evI_bd {x y : Rat} (hx : QB 1000 x) (hy : QB 1000 y) : ∀ l : List Rat, (∀ c ∈ l, QB 1000 c) → QB (2001 * l.length + 1) (evI x y l).1 ∧ QB (2001 * l.length + 1) (evI x y l).2
  | [], _ => by
    have : QB 1 ((0 : Int) : Rat) := QB.int (by constructor <;> decide) (by omega)
    exact ⟨this, this⟩
  | c :: l, h => by
    obtain ⟨h1, h2⟩ := evI_bd hx hy l (fun z hz => h z (List.mem_cons_of_mem _ hz))
    have m := mulI_bd h1 h2 hx hy
    have hc := h c (by simp)
    unfold evI
    exact ⟨(m.1.add hc).mono (by rw [List.length_cons]; omega), (m.2.add hc).mono (by rw [List.length_cons]; omega)⟩
theorem Rn_interval_Eval : Run_interval_Eval := fun s k1 l a => Ok.gif fun ⟨ha, hl, hc⟩ => by
  have va : IV 1000 a (rv a.1) (rv a.2) := ⟨⟨ha.1, rfl, ha.2.2.1⟩, ha.2.1, rfl, ha.2.2.2⟩
  have hb := evI_bd ha.2.2.1 ha.2.2.2
  have loop : ∀ i : Nat, i ≤ l.length → Ev (fun m => s m l ((i : Int) - 1) a zI (dI (evI (rv a.1) (rv a.2) ((l.drop i).map rv)))) (dI (evI (rv a.1) (rv a.2) (l.map rv))) := by
    intro i
    induction i with
    | zero =>
      intro _
      refine Ev.step (t := fun _ => some (dI (evI (rv a.1) (rv a.2) (l.map rv)))) (fun m => ?_) Ev.ret
      rw [k1]; unfold S_interval_Eval_13
      rw [if_neg (by rw [decide_eq_true_eq]; omega)]; rfl
    | succ i ih =>
      intro hi
      have hil : i < l.length := by omega
      have hb' := hb ((l.drop (i + 1)).map rv) (fun z hz => by
        obtain ⟨c, hc', rfl⟩ := List.mem_map.1 hz
        exact (hc c (List.mem_of_mem_drop hc')).2)
      have hlen : ((l.drop (i + 1)).map rv).length ≤ 100 := by simp; omega
      have hmul := Nat.mul_le_mul_left 2001 hlen
      have hE : IV 300000 (dI (evI (rv a.1) (rv a.2) ((l.drop (i + 1)).map rv))) (evI (rv a.1) (rv a.2) ((l.drop (i + 1)).map rv)).1 (evI (rv a.1) (rv a.2) ((l.drop (i + 1)).map rv)).2 := IV.dI (hb'.1.mono (by omega)) (hb'.2.mono (by omega)) (by omega)
      have hm := IV.mulI hE.1.2.2 hE.2.2.2 va.1.2.2 va.2.2.2 (by omega)
      have hcv : QQ l[i] ∧ QB 1000 (rv l[i]) := hc _ (List.getElem_mem hil)
      have hP : IV 1000 (dI (rv l[i], rv l[i])) (rv l[i]) (rv l[i]) := IV.dI hcv.2 hcv.2 (by omega)
      have hg : l.getD (Int.toNat (((i + 1 : Nat) : Int) - 1)) ((false, ([] : List Int)), ([] : List Int)) = l[i] := by
        rw [show Int.toNat (((i + 1 : Nat) : Int) - 1) = i by omega]; simp [List.getD, hil]
      refine Ev.step (fun m => ?_) (ih (by omega))
      rw [k1]; unfold S_interval_Eval_13
      rw [if_pos (by rw [decide_eq_true_eq]; omega), hE.mul va (by omega) (by omega), Option.bind_some, if_pos (by omega)]
      simp only [hg]
      rw [F_interval_Point, gif_bind hcv.1, hm.add hP (by omega) (by omega), Option.bind_some, i64w (by omega) (by omega), (rmin_of_le (mulI_le _ _ _ _)).1, (rmin_of_le (mulI_le _ _ _ _)).2, (rmin_of_le (Rat.le_refl (a := rv l[i]))).1, (rmin_of_le (Rat.le_refl (a := rv l[i]))).2, List.drop_eq_getElem_cons hil]
      rw [show (((i + 1 : Nat) : Int) - 1 - 1) = (i : Int) - 1 by omega]
      rfl
  have v0 : QV 1 (dr ((0 : Int) : Rat)) ((0 : Int) : Rat) := QV.dr (QB.int (by constructor <;> decide) (by omega)) (by omega)
  simp only [T_interval_Eval]
  refine Ev.congr (fun m => ?_) (loop l.length (Nat.le_refl _))
  rw [Of_bind (by omega), F_interval_Point, gif_bind v0.1, i64w (by omega) (by omega), v0.2.1, List.drop_length]
  rfl
end Go.W

set_option linter.unusedVariables false
set_option linter.unusedSimpArgs false
namespace Go.W

theorem IV.pow {k : Nat} {a : NI} {x y : Rat} (va : IV k a x y) (hk : k ≤ 1000) (n : Nat) (h1 : 0 < n) (h2 : n ≤ 12) :
    F_interval_Pow a (n : Int) = some (Go.W.dI (if n % 2 = 0 ∧ rmin x y ≤ 0 ∧ 0 ≤ rmax x y then 0 else rmin (x ^ n) (y ^ n), rmax (x ^ n) (y ^ n)), 0) := by
  have m1 := Nat.mul_le_mul_left n hk
  have e : (n : Int).natAbs = n := by omega
  have nf1 : ¬ far (rv a.1) (n : Int).natAbs := by rw [va.1.2.1, e]; exact not_far va.1.2.2 (by omega) (by omega)
  have nf2 : ¬ far (rv a.2) (n : Int).natAbs := by rw [va.2.2.1, e]; exact not_far va.2.2.2 (by omega) (by omega)
  rw [F_interval_Pow, gif_pos ⟨⟨va.1.1, va.2.1, by rw [va.1.2.1]; exact va.1.2.2.mono hk, by rw [va.2.2.1]; exact va.2.2.2.mono hk⟩, by omega, by omega, .inl (by omega)⟩, if_neg (by omega), if_neg (fun h => h.elim nf1 nf2)]
  have c : ((0 < (n : Int) ∧ Int.tmod (n : Int) 2 = 0) ∧ lo a ≤ 0 ∧ 0 ≤ hi a) ↔ (n % 2 = 0 ∧ rmin x y ≤ 0 ∧ 0 ≤ rmax x y) := by
    unfold lo hi
    rw [va.1.2.1, va.2.2.1, tmod_nat (by omega), e]
    constructor
    · exact fun h => ⟨h.1.2, h.2⟩
    · exact fun h => ⟨⟨by omega, h.1⟩, h.2⟩
  simp only [c, e]
  rw [va.1.2.1, va.2.2.1]
theorem IV.within {j k : Nat} {a b : NI} {x y u v : Rat} (ha : IV j a x y) (hb : IV k b u v) (h1 : u ≤ x) (h2 : x ≤ v) (h3 : u ≤ y) (h4 : y ≤ v) : F_interval_Within a b = some true := by
  rw [F_interval_Within, gif_pos ⟨ha.q2, hb.q2⟩]
  congr 1
  rw [decide_eq_true_eq]
  unfold lo hi
  rw [ha.1.2.1, ha.2.2.1, hb.1.2.1, hb.2.2.1]
  have l := rmin_le u v
  have g := le_rmax u v
  exact ⟨⟨Rat.le_trans l.1 h1, Rat.le_trans h2 g.2⟩, Rat.le_trans l.1 h3, Rat.le_trans h4 g.2⟩
theorem mono_l {x y X Y u v : Rat} (h1 : X ≤ x) (h2 : x ≤ Y) (h3 : X ≤ y) (h4 : y ≤ Y) : (mulI X Y u v).1 ≤ (mulI x y u v).1 ∧ (mulI x y u v).2 ≤ (mulI X Y u v).2 := by
  have key : ∀ s t : Rat, (s = x ∨ s = y) → (t = u ∨ t = v) → (mulI X Y u v).1 ≤ s * t ∧ s * t ≤ (mulI X Y u v).2 := fun s t hs ht => by
    have hb : X ≤ s ∧ s ≤ Y := by rcases hs with rfl | rfl <;> constructor <;> assumption
    have := mulI_in (x := u) (y := v) hb.1 hb.2
    rw [mulI_comm X Y u v] at this
    rw [Rat.mul_comm s t]
    rcases ht with rfl | rfl
    · exact this.1
    · exact this.2
  have m := mulI_mem x y u v
  obtain ⟨⟨s, t, hs, ht, e⟩, s', t', hs', ht', e'⟩ := m
  rw [e, e']
  exact ⟨(key s t hs ht).1, (key s' t' hs' ht').2⟩
theorem mono_r {x y u v U V : Rat} (h1 : U ≤ u) (h2 : u ≤ V) (h3 : U ≤ v) (h4 : v ≤ V) : (mulI x y U V).1 ≤ (mulI x y u v).1 ∧ (mulI x y u v).2 ≤ (mulI x y U V).2 := by
  rw [mulI_comm u v x y, mulI_comm U V x y]
  exact mono_l h1 h2 h3 h4
theorem evI_mono {x y X Y : Rat} (h1 : X ≤ x) (h2 : x ≤ Y) (h3 : X ≤ y) (h4 : y ≤ Y) : ∀ l : List Rat, (evI X Y l).1 ≤ (evI x y l).1 ∧ (evI x y l).2 ≤ (evI X Y l).2
  | [] => ⟨Rat.le_refl, Rat.le_refl⟩
  | c :: l => by
    have ih := evI_mono h1 h2 h3 h4 l
    have le := evI_le x y l
    have s1 := mono_l (u := x) (v := y) ih.1 (Rat.le_trans le ih.2) (Rat.le_trans ih.1 le) ih.2
    have s2 := mono_r (x := (evI X Y l).1) (y := (evI X Y l).2) h1 h2 h3 h4
    unfold evI
    constructor <;> grind
theorem cube_mono {x y : Rat} (h : x ≤ y) : x ^ 3 ≤ y ^ 3 := by
  have e : ∀ z : Rat, z ^ 3 = z * z * z := fun z => by rw [Rat.pow_succ, Rat.pow_succ, Rat.pow_succ, Rat.pow_zero, Rat.one_mul]
  have s1 := sq_nonneg (x + y)
  have s2 := sq_nonneg x
  have s3 := sq_nonneg y
  have := Rat.mul_nonneg (a := y - x) (b := y * y + x * y + x * x) (by grind) (by grind)
  rw [e, e]; grind

theorem hull_some {a c : NI} {x y p q : Rat} (va : IV 96 a x y) (vc : IV 96 c p q) : F_interval_Hull a c = some (dI (rmin (rmin x y) (rmin p q), rmax (rmax x y) (rmax p q))) := by
  rw [F_interval_Hull, gif_pos ⟨va.q2, vc.q2⟩]; unfold lo hi; rw [va.1.2.1, va.2.2.1, vc.1.2.1, vc.2.2.1]
theorem Monotonic_20 {s} {a b c : NI} {x y u v p q : Rat} (va : IV 96 a x y) (vb : IV 96 b u v) (vc : IV 96 c p q) : S_law06_IntervalMonotonic_20 s [b.1, b.2, c.1] a b (dI (rmin (rmin x y) (rmin p q), rmax (rmax x y) (rmax p q))) = some true := by
  have b1 : rmin (rmin x y) (rmin p q) ≤ x ∧ rmin (rmin x y) (rmin p q) ≤ y := by
    have i1 := rmin_le (rmin x y) (rmin p q); have i2 := rmin_le x y; constructor <;> grind
  have b2 : x ≤ rmax (rmax x y) (rmax p q) ∧ y ≤ rmax (rmax x y) (rmax p q) := by
    have i1 := le_rmax (rmax x y) (rmax p q); have i2 := le_rmax x y; constructor <;> grind
  have vH : IV 96 (dI (rmin (rmin x y) (rmin p q), rmax (rmax x y) (rmax p q))) (rmin (rmin x y) (rmin p q)) (rmax (rmax x y) (rmax p q)) :=
    IV.dI ((va.1.2.2.rmin va.2.2.2).rmin (vc.1.2.2.rmin vc.2.2.2)) ((va.1.2.2.rmax va.2.2.2).rmax (vc.1.2.2.rmax vc.2.2.2)) (by omega)
  generalize rmin (rmin x y) (rmin p q) = X at *
  generalize rmax (rmax x y) (rmax p q) = Y at *
  have hXY : X ≤ Y := by grind
  have p1 := va.pow (by omega) 3 (by omega) (by omega)
  have p2 := vH.pow (by omega) 3 (by omega) (by omega)
  rw [if_neg (by omega)] at p1 p2
  have cX := cube_mono hXY
  rw [(rmin_of_le cX).1, (rmin_of_le cX).2] at p2
  have vp1 : IV 1000 (dI (rmin (x ^ 3) (y ^ 3), rmax (x ^ 3) (y ^ 3))) (rmin (x ^ 3) (y ^ 3)) (rmax (x ^ 3) (y ^ 3)) := IV.dI (((va.1.2.2.pow 3).mono (by omega)).rmin ((va.2.2.2.pow 3).mono (by omega))) (((va.1.2.2.pow 3).mono (by omega)).rmax ((va.2.2.2.pow 3).mono (by omega))) (by omega)
  have vp2 : IV 1000 (dI (X ^ 3, Y ^ 3)) (X ^ 3) (Y ^ 3) := IV.dI ((vH.1.2.2.pow 3).mono (by omega)) ((vH.2.2.2.pow 3).mono (by omega)) (by omega)
  have q1 := cube_mono b1.1
  have q2 := cube_mono b1.2
  have q3 := cube_mono b2.1
  have q4 := cube_mono b2.2
  have w5 := vp1.within vp2 (by unfold rmin; split <;> assumption) (by unfold rmin; split <;> assumption) (by unfold rmax; split <;> assumption) (by unfold rmax; split <;> assumption)
  have w1 := va.within vH b1.1 b2.1 b1.2 b2.2
  have s1 := IV.addI va.1.2.2 va.2.2.2 vb.1.2.2 vb.2.2.2 (by omega)
  have s2 := IV.addI vH.1.2.2 vH.2.2.2 vb.1.2.2 vb.2.2.2 (by omega)
  have l1 := rmin_le x y
  have l2 := le_rmax x y
  have l3 := rmin_le_rmax u v
  have i1 : X ≤ rmin x y := by unfold rmin; split <;> first | exact b1.2 | exact b1.1
  have i2 : rmax x y ≤ Y := by unfold rmax; split <;> first | exact b2.2 | exact b2.1
  have w2 := s1.within s2 (by rw [(rmin_of_le hXY).1]; grind) (by rw [(rmin_of_le hXY).2]; grind) (by rw [(rmin_of_le hXY).1]; grind) (by rw [(rmin_of_le hXY).2]; grind)
  have m1 := IV.mulI va.1.2.2 va.2.2.2 vb.1.2.2 vb.2.2.2 (by omega)
  have m2 := IV.mulI vH.1.2.2 vH.2.2.2 vb.1.2.2 vb.2.2.2 (by omega)
  have ml := mono_l (u := u) (v := v) b1.1 b2.1 b1.2 b2.2
  have mle := mulI_le x y u v
  have w3 := m1.within m2 ml.1 (Rat.le_trans mle ml.2) (Rat.le_trans ml.1 mle) ml.2
  have hc : ∀ z ∈ [b.1, b.2, c.1], QQ z ∧ QB 1000 (rv z) := fun z hz => by
    simp only [List.mem_cons, List.not_mem_nil, or_false] at hz
    rcases hz with rfl | rfl | rfl
    · exact ⟨vb.1.1, by rw [vb.1.2.1]; exact vb.1.2.2.mono (by omega)⟩
    · exact ⟨vb.2.1, by rw [vb.2.2.1]; exact vb.2.2.2.mono (by omega)⟩
    · exact ⟨vc.1.1, by rw [vc.1.2.1]; exact vc.1.2.2.mono (by omega)⟩
  have hm : [b.1, b.2, c.1].map rv = [u, v, p] := by
    show [rv b.1, rv b.2, rv c.1] = _
    rw [vb.1.2.1, vb.2.2.1, vc.1.2.1]
  have e1 : F_interval_Eval [b.1, b.2, c.1] a = some (dI (evI x y [u, v, p])) := by
    rw [F_interval_Eval, gif_pos ⟨⟨va.1.1, va.2.1, by rw [va.1.2.1]; exact va.1.2.2.mono (by omega), by rw [va.2.2.1]; exact va.2.2.2.mono (by omega)⟩, by simp, hc⟩, hm, va.1.2.1, va.2.2.1]
  have e2 : F_interval_Eval [b.1, b.2, c.1] (dI (X, Y)) = some (dI (evI X Y [u, v, p])) := by
    rw [F_interval_Eval, gif_pos ⟨⟨vH.1.1, vH.2.1, by rw [vH.1.2.1]; exact vH.1.2.2.mono (by omega), by rw [vH.2.2.1]; exact vH.2.2.2.mono (by omega)⟩, by simp, hc⟩, hm, vH.1.2.1, vH.2.2.1]
  have hq : ∀ z ∈ [u, v, p], QB 1000 z := fun z hz => by
    simp only [List.mem_cons, List.not_mem_nil, or_false] at hz
    rcases hz with rfl | rfl | rfl
    · exact vb.1.2.2.mono (by omega)
    · exact vb.2.2.2.mono (by omega)
    · exact vc.1.2.2.mono (by omega)
  have d1 := evI_bd (va.1.2.2.mono (show 96 ≤ 1000 by omega)) (va.2.2.2.mono (show 96 ≤ 1000 by omega)) [u, v, p] hq
  have d2 := evI_bd (vH.1.2.2.mono (show 96 ≤ 1000 by omega)) (vH.2.2.2.mono (show 96 ≤ 1000 by omega)) [u, v, p] hq
  have g1 : IV _ (dI (evI x y [u, v, p])) (evI x y [u, v, p]).1 (evI x y [u, v, p]).2 := IV.dI d1.1 d1.2 (by simp)
  have g2 : IV _ (dI (evI X Y [u, v, p])) (evI X Y [u, v, p]).1 (evI X Y [u, v, p]).2 := IV.dI d2.1 d2.2 (by simp)
  have em := evI_mono b1.1 b2.1 b1.2 b2.2 [u, v, p]
  have el := evI_le x y [u, v, p]
  have w4 := g1.within g2 em.1 (Rat.le_trans el em.2) (Rat.le_trans em.1 el) em.2
  have p1' : F_interval_Pow a 3 = _ := p1
  have p2' : F_interval_Pow (dI (X, Y)) 3 = _ := p2
  unfold S_law06_IntervalMonotonic_20
  simp only [p1', p2', w1, va.add vb (by omega) (by omega), vH.add vb (by omega) (by omega), w2, va.mul vb (by omega) (by omega), vH.mul vb (by omega) (by omega), w3, e1, e2, w4, w5, Option.bind_some, Bool.false_eq_true, if_false, if_true, beq_self_eq_true]
theorem Rn_law06_IntervalMonotonic : Run_law06_IntervalMonotonic := fun s1 k1 a b c => Ok.gif fun ⟨hA, hB, hC⟩ => by
  simp only [T_law06_IntervalMonotonic, awake6_some, few6_some, Option.bind_some, Bool.not_true, Bool.false_eq_true, if_false]
  by_cases hf : (((a.1.1.2.length : Int) ≤ 3 ∧ (a.1.2.length : Int) ≤ 3) ∧ ((a.2.1.2.length : Int) ≤ 3 ∧ (a.2.2.length : Int) ≤ 3) ∧ ((b.1.1.2.length : Int) ≤ 3 ∧ (b.1.2.length : Int) ≤ 3) ∧ (b.2.1.2.length : Int) ≤ 3 ∧ (b.2.2.length : Int) ≤ 3)
  · rw [decide_eq_true hf]
    simp only [Bool.not_true, Bool.false_eq_true, if_false]
    by_cases hg : (((c.1.1.2.length : Int) ≤ 3 ∧ (c.1.2.length : Int) ≤ 3) ∧ ((c.2.1.2.length : Int) ≤ 3 ∧ (c.2.2.length : Int) ≤ 3) ∧ ((c.1.1.2.length : Int) ≤ 3 ∧ (c.1.2.length : Int) ≤ 3) ∧ (c.2.1.2.length : Int) ≤ 3 ∧ (c.2.2.length : Int) ≤ 3)
    · rw [decide_eq_true hg]
      obtain ⟨⟨f1, f2⟩, ⟨f3, f4⟩, ⟨f5, f6⟩, f7, f8⟩ := hf
      obtain ⟨⟨g1, g2⟩, ⟨g3, g4⟩, _⟩ := hg
      have hv : ∀ {z : NQ}, DR z → (z.1.2.length : Int) ≤ 3 → (z.2.length : Int) ≤ 3 → QV 96 z (rv z) := fun h i1 i2 => QV.of (h.qq i1 i2 (by omega)) (m := 3) (by omega) (by omega) (by omega)
      have va : IV 96 a (rv a.1) (rv a.2) := ⟨hv hA.1 f1 f2, hv hA.2 f3 f4⟩
      have vb : IV 96 b (rv b.1) (rv b.2) := ⟨hv hB.1 f5 f6, hv hB.2 f7 f8⟩
      have vc : IV 96 c (rv c.1) (rv c.2) := ⟨hv hC.1 g1 g2, hv hC.2 g3 g4⟩
      simp only [Bool.not_true, Bool.false_eq_true, if_false, hull_some va vc, Option.bind_some]
      refine Ev.step (t := fun _ => some true) (fun m => ?_) Ev.ret
      rw [k1]
      exact Monotonic_20 va vb vc
    · rw [decide_eq_false hg]
      simp only [Bool.not_false, if_true]; exact Ev.ret
  · rw [decide_eq_false hf]
    simp only [Bool.not_false, if_true]; exact Ev.ret
end Go.W

set_option linter.unusedVariables false
set_option linter.unusedSimpArgs false
namespace Go.W
open Go.Proofs Go.Shelf Go.RowKit Go.Lib Go.Sort

abbrev encU : Int → Value := fun x => Value.int .u8 x

set_option maxHeartbeats 1600000 in
set_option maxRecDepth 1000000 in
theorem reverse_arr (blk off cap : Nat) (d : Array Int) (w : World) (hH : Holds encU w blk off d) (hsz : d.size ≤ 9223372036854775807) :
    Calls Try.prog 171 #[.slice (some ⟨blk, off, none⟩) d.size cap] w fun e w' => e = .returned (.tuple #[]) ∧ ∃ n, w' = putRow encU (Sort.ahead w n) blk off d.reverse := by
  have mixed : Try.prog.follows .mixedOrders = true := by kernel_rfl
  go_enter Try.func171, Try.ntmps171
  go_wp2
  go_loopg [2, 3] d.size (fun k s2 s3 wr => ∃ (i jn : Nat) (jz : Int) (dk : Array Int) (n : Nat), s2 = .int .i64 i ∧ s3 = .int .i64 jz ∧ ((i : Int) < jz → jz = jn ∧ jn < d.size) ∧ (¬ (i : Int) < jz → ¬ i < jn) ∧ jn - i ≤ k ∧
    dk.size = d.size ∧ wr = putRow encU (Sort.ahead w n) blk off dk ∧ reverseLoop i jn dk = reverseLoop 0 (d.size - 1) d)
  case atStart => exact ⟨0, d.size - 1, (d.size : Int) - 1, d, 0, rfl, rfl, fun h => ⟨by omega, by omega⟩, fun h => by omega, by omega, rfl, (putRow_self encU w blk off d hH).symm, rfl⟩
  case round =>
    obtain ⟨i, jn, jz, dk, n, rfl, rfl, h1, h2, hk, hds, hwr, heq⟩ := hrel
    by_cases hlt : (i : Int) < jz
    · obtain ⟨rfl, hjn⟩ := h1 hlt
      have hij : i < jn := by omega
      have hHk : Holds encU wr blk off dk := by rw [hwr]; exact holds_putRow encU _ blk off d dk (holds_ahead encU w n blk off d hH) hds
      obtain ⟨ci, fi⟩ := hHk i (by omega)
      obtain ⟨cj, fj⟩ := hHk jn (by omega)
      have A : Aside (wr = putRow encU (Sort.ahead w n) blk off dk) := hwr
      clear hwr hHk hH h1 h2
      go_wp2_with fail
      go_region_o
      go_wp2
      go_roundg (jn - 1 - (i + 1))
      case measure => omega
      case rel =>
        rw [reverseLoop, if_pos hij] at heq
        exact ⟨i + 1, jn - 1, (jn : Int) - 1, swp dk i jn, n + 1, by simp, rfl, fun h => ⟨by omega, by omega⟩, fun h => by omega, Nat.le_refl _, by rw [size_swp]; exact hds,
          swap_world encU (by omega) (by omega) A.out (by first | rfl | simp [encU, getElem!_pos, show jn < dk.size by omega]) (by first | rfl | simp [encU, getElem!_pos, show i < dk.size by omega]), heq⟩
    · have hnot := h2 hlt
      go_wp2
      go_end0
      refine ⟨rfl, n, ?_⟩
      rw [reverseLoop, if_neg hnot] at heq
      rw [← Lib.reverseLoop_reverse, ← heq]

set_option maxHeartbeats 1000000 in
theorem reverse_empty (a : Option Addr) (cap : Nat) (w : World) :
    Calls Try.prog 171 #[.slice a 0 cap] w fun e w' => e = .returned (.tuple #[]) ∧ w' = w := by
  have mixed : Try.prog.follows .mixedOrders = true := by kernel_rfl
  go_enter Try.func171, Try.ntmps171
  go_wp2
  go_loopg [2, 3] 0 (fun _ s2 s3 wr => s2 = .int .i64 0 ∧ s3 = .int .i64 (-1) ∧ wr = w)
  case atStart => exact ⟨rfl, rfl, rfl⟩
  case round =>
    obtain ⟨rfl, rfl, rfl⟩ := hrel
    go_wp2
    go_end0
    exact ⟨rfl, rfl⟩

theorem heap_putRow {α : Type} [Inhabited α] (enc : α → Value) (w : World) (blk off : Nat) (d : Array α) (g : Nat) : (putRow enc w blk off d).heap[g]? = if g = blk then (w.heap[g]?).map fun o => match o with
    | .cells c eT fr => .cells (putCells enc off d c) eT fr
    | o => o else w.heap[g]? := by
  unfold putRow mapBlock
  simp only [Array.getElem?_modify]
  split
  · rename_i h; subst h; simp
    cases w.heap[blk]? with
    | none => rfl
    | some o => cases o <;> rfl
  · rename_i h; rw [if_neg (fun e => h e.symm)]

theorem os_slices_Reverse : OSound Try.prog 171 [] false (.int .u8) .unit (fun τ l => O_slices_Reverse l) := by
  intro τ l r hr w ok mg vs v hok hmg hargs hbr hv
  have hvs : vs = [] := hargs
  subst hvs
  change gif (l.length ≤ 8796093022208) (l.reverse, ()) = some r at hr
  unfold gif at hr
  split at hr
  · rename_i hl
    injection hr with hr
    subst hr
    obtain ⟨ob, hob, hv⟩ := hv
    have hob' : ob = some ⟨.int .u8, l, false⟩ := by
      simp only [ownPV, lk_cons, if_true] at hob
      injection hob with hob; exact hob.symm
    obtain ⟨A, cap, rfl, hcap, hv⟩ := hv _ hob'
    simp only [toL] at hv hcap hbr
    simp only [List.nil_append, toL]
    have fin : ∀ w', Fr (fun g => mg = some g) w w' → BRep w' (fun g => (ok g ∨ w.heap.size ≤ g) ∧ g < w'.heap.size ∧ mg ≠ some g) mg ⟨.int .u8, l.reverse, false⟩ →
        ∃ xs, Ending.returned (.tuple #[]) = .returned (retV xs) ∧ Fr (fun g => mg = some g) w w' ∧ BRep w' (fun g => (ok g ∨ w.heap.size ≤ g) ∧ g < w'.heap.size ∧ mg ≠ some g) mg ⟨.int .u8, l.reverse, false⟩ ∧
      xs.length = (resO (.int .u8) 20000 .unit ()).length ∧
      ∀ (j : Nat) p u, (resO (.int .u8) 20000 .unit ())[j]? = some p → xs[j]? = some u → RepPV (fun g => ok g ∨ mg = some g ∨ w.heap.size ≤ g) w' (fun _ => mg) (lk [(20000, some ⟨.int .u8, l.reverse, false⟩)]) p u :=
      fun w' h1 h2 => ⟨[], rfl, h1, h2, rfl, fun j p u hj => by simp [resO] at hj⟩
    by_cases hz : l = []
    · subst hz
      refine (reverse_empty A cap w).mono fun x w' ⟨hx, hw⟩ => ?_
      subst hx hw
      refine fin _ (.refl _ _) ?_
      unfold BRep at hbr ⊢
      cases mg with
      | none => rfl
      | some g =>
        obtain ⟨c, eT, h1, h2, h3⟩ := hbr
        exact ⟨c, eT, h1, h2, fun i h => by simp at h⟩
    · have hpos : 0 < l.length := List.length_pos_iff.mpr hz
      cases mg with
      | none => exact absurd hbr hz
      | some g =>
        obtain ⟨o, rfl, h0, _, _⟩ := hv
        obtain rfl := h0 trivial
        obtain ⟨c, eT, hg, hsz, hc⟩ := hbr
        simp only [Ty.size, Nat.mul_one] at hsz hc
        have hcell : ∀ i, i < l.length → c[i]? = some (.int .u8 (l.getD i 0)) := fun i hi => by
          obtain ⟨es, he, hj⟩ := hc i hi
          have he : es = [.int .u8 l[i]] := he
          have := hj 0 _ (by rw [he]; rfl)
          simp only [Nat.add_zero] at this
          rw [this]; simp [List.getD, hi]
        have hH : Holds encU w g 0 l.toArray := fun j hj => by
          have hj' : j < l.length := by simpa using hj
          have hjc : j < c.size := by omega
          have h1 := hcell j hj'
          constructor
          · simp [World.cell?, hg, h1, encU, List.getD, hj']
          · simp [World.frozen?, hg]
        have hs : (Value.slice (some ⟨g, 0, none⟩) l.length cap) = .slice (some ⟨g, 0, none⟩) l.toArray.size cap := by simp
        rw [hs]
        refine (reverse_arr g 0 cap l.toArray w hH (by simp; omega)).mono fun x w' ⟨hx, n, hw⟩ => ?_
        subst hx
        have hhp : ∀ k, w'.heap[k]? = if k = g then some (.cells (putCells encU 0 l.toArray.reverse c) eT (0, 0)) else w.heap[k]? := fun k => by
          rw [hw, heap_putRow]
          split
          · rename_i h; subst h
            rw [heap_ahead, hg]; rfl
          · rfl
        have hpc : (putCells encU 0 l.toArray.reverse c).size = c.size := by simp [putCells]
        refine fin w' ⟨by rw [hw]; rfl, by rw [hw]; rfl, by rw [hw]; rfl, by rw [hw, size_putRow]; exact Nat.le_refl _, fun k hk hn => ?_, fun k c' eT' fr' hk hc' => ?_⟩ ?_
        · rw [hhp, if_neg]; intro e; exact hn (by rw [e])
        · rw [hhp] at hc'
          split at hc'
          · rename_i h; subst h
            injection hc' with hc'; injection hc' with e1 e2 e3
            exact ⟨c, eT, (0,0), hg, by rw [← e1, hpc]; exact Nat.le_refl _⟩
          · exact ⟨c', eT', fr', hc', Nat.le_refl _⟩
        · refine ⟨_, eT, by rw [hhp, if_pos rfl], by rw [hpc]; simpa [Ty.size] using hsz, fun i hi => ⟨[.int .u8 l.reverse[i]], rfl, fun j v hj => ?_⟩⟩
          have hi' : i < l.length := by simpa using hi
          cases j with
          | zero =>
            simp only [List.getElem?_cons_zero, Option.some.injEq] at hj
            subst hj
            have hic : i < c.size := by omega
            simp [Ty.size, putCells, hic, hi', encU]
          | succ j => simp at hj
  · cases hr
end Go.W

