/- A part of the proof: texts P21, P35, P36, P37, P38, P39, P40, P41, Sp7, Df5, P50, P51, P52, P42, P43, P53, Rev, IdxB. What is proved in the end stands in the last file. -/
import Derived.Test.YtgjgjobaohakgaaSb3
import Derived.Laws.Strings
import Derived.Test.YtgjgjobaohakgaaProg
import Derived.Shelf.RegionOpenPlain
import Derived.WalkKit
import Derived.Deep.LoopGhost
import Derived.Lib.Walk
import Derived.Sort.WalkB12
import Derived.Lib.SlicesMore
import Derived.Lib.Bytealg
import Derived.Shelf.Strings.Search1
set_option linter.unusedVariables false
set_option linter.unusedSimpArgs false
set_option linter.unusedSectionVars false
set_option linter.unusedVariables false
set_option linter.unusedSimpArgs false
namespace Go.W

/-! ### Numbers by their values -/
/-- a has the value r, of at most k bits -/
def QV (k : Nat) (a : NQ) (r : Rat) : Prop := QQ a ∧ rv a = r ∧ QB k r
/-- the reference's q has the value r, of at most k bits -/
def QR (k : Nat) (q : FQ) (r : Rat) : Prop := RQ k q ∧ qv q = r
theorem QV.dr {k : Nat} {r : Rat} (h : QB k r) (hk : k ≤ 33554432) : QV k (Go.W.dr r) r := ⟨QQ.dr h hk, rv_dr r, h⟩
theorem QV.of {a : NQ} (h : QQ a) {m : Nat} (h1 : a.1.2.length ≤ m) (h2 : a.2.length ≤ m) (hm : 1 ≤ m) : QV (32 * m) a (rv a) := ⟨h, rfl, QB.rv' h h1 h2 hm⟩

theorem V.add {j k : Nat} {a b : NQ} {r s : Rat} (ha : QV j a r) (hb : QV k b s) : F_rational_Add a b = some (dr (r + s)) := by rw [F_rational_Add, gif_pos ⟨ha.1, hb.1⟩, ha.2.1, hb.2.1]
theorem V.sub {j k : Nat} {a b : NQ} {r s : Rat} (ha : QV j a r) (hb : QV k b s) : F_rational_Sub a b = some (dr (r - s)) := by rw [F_rational_Sub, gif_pos ⟨ha.1, hb.1⟩, ha.2.1, hb.2.1]
theorem V.mul {j k : Nat} {a b : NQ} {r s : Rat} (ha : QV j a r) (hb : QV k b s) : F_rational_Mul a b = some (dr (r * s)) := by rw [F_rational_Mul, gif_pos ⟨ha.1, hb.1⟩, ha.2.1, hb.2.1]
theorem V.quo {j k : Nat} {a b : NQ} {r s : Rat} (ha : QV j a r) (hb : QV k b s) : F_rational_Quo a b = some (if s = 0 then (zQ, 2) else (dr (r / s), 0)) := by rw [F_rational_Quo, gif_pos ⟨ha.1, hb.1⟩, ha.2.1, hb.2.1]
theorem V.quo' {j k : Nat} {a b : NQ} {r s : Rat} (ha : QV j a r) (hb : QV k b s) (h : s ≠ 0) : F_rational_Quo a b = some (dr (r / s), 0) := by rw [V.quo ha hb, if_neg h]
theorem V.neg {j : Nat} {a : NQ} {r : Rat} (ha : QV j a r) : F_rational_Neg a = some (dr (-r)) := by rw [F_rational_Neg, gif_pos ha.1, ha.2.1]
theorem V.normal {j : Nat} {a : NQ} {r : Rat} (ha : QV j a r) : F_rational_Normal a = some (dr r) := by rw [F_rational_Normal, gif_pos ha.1, ha.2.1]
theorem V.sign {j : Nat} {a : NQ} {r : Rat} (ha : QV j a r) : F_rational_Sign a = some (rsg r) := by rw [F_rational_Sign, gif_pos ha.1, ha.2.1]
theorem V.cmp {j k : Nat} {a b : NQ} {r s : Rat} (ha : QV j a r) (hb : QV k b s) : F_rational_Cmp a b = some (rcm r s) := by rw [F_rational_Cmp, gif_pos ⟨ha.1, hb.1⟩, ha.2.1, hb.2.1]
theorem V.floor {j : Nat} {a : NQ} {r : Rat} (ha : QV j a r) : F_rational_Floor a = some (di r.floor) := by rw [F_rational_Floor, gif_pos ha.1, ha.2.1]
theorem V.same {j k : Nat} {a b : NQ} {r s : Rat} (ha : QV j a r) (hb : QV k b s) : F_law05_same a b = some (decide (r = s)) := by rw [F_law05_same, gif_pos ⟨ha.1, hb.1⟩, ha.2.1, hb.2.1]

theorem R.of {a : NQ} (h : QQ a) {m : Nat} (h1 : a.1.2.length ≤ m) (h2 : a.2.length ≤ m) (hm : 1 ≤ m) : ∃ q, F_law05_of a = some q ∧ QR (32 * m) q (rv a) :=
  ⟨_, by rw [F_law05_of, gif_pos h], of_rq h h1 h2 hm, of_v a⟩
theorem RQ.pos {k : Nat} {q : FQ} (h : RQ k q) : 0 < qd q := h.2.2.2
theorem RQ.k {k : Nat} {q : FQ} (h : RQ k q) (hk : k ≤ 1000000000) : RQ RK q := h.mono (by rw [RK_le]; exact hk)
theorem R.add {j k : Nat} {a b : FQ} {r s : Rat} (ha : QR j a r) (hb : QR k b s) (hj : j ≤ 1000000000 ∧ k ≤ 1000000000) : ∃ q, F_ref05_Add a b = some q ∧ QR (j + k + 1) q (r + s) := by
  refine ⟨_, by rw [F_ref05_Add, gif_pos ⟨ha.1.k hj.1, hb.1.k hj.2⟩], RQ.mq ?_ ?_ (Int.mul_pos ha.1.pos hb.1.pos), ?_⟩
  · exact (((ha.1.2.1).ab_mul (by rw [ab_pos (Int.le_of_lt hb.1.pos)]; exact hb.1.2.2.1)).ab_add ((hb.1.2.1).ab_mul (by rw [ab_pos (Int.le_of_lt ha.1.pos)]; exact ha.1.2.2.1))).mono (by omega)
  · exact (ha.1.2.2.1.mul hb.1.2.2.1).mono (by omega)
  · rw [qv_mq, ← ha.2, ← hb.2]
    exact (Rat.divInt_add_divInt _ _ (by have := ha.1.pos; omega) (by have := hb.1.pos; omega)).symm
theorem R.mul {j k : Nat} {a b : FQ} {r s : Rat} (ha : QR j a r) (hb : QR k b s) (hj : j ≤ 1000000000 ∧ k ≤ 1000000000) : ∃ q, F_ref05_Mul a b = some q ∧ QR (j + k) q (r * s) := by
  refine ⟨_, by rw [F_ref05_Mul, gif_pos ⟨ha.1.k hj.1, hb.1.k hj.2⟩], RQ.mq (ha.1.2.1.ab_mul hb.1.2.1) (ha.1.2.2.1.mul hb.1.2.2.1) (Int.mul_pos ha.1.pos hb.1.pos), ?_⟩
  rw [qv_mq, ← ha.2, ← hb.2]
  exact (Rat.divInt_mul_divInt _ _).symm
theorem R.neg {j : Nat} {a : FQ} {r : Rat} (ha : QR j a r) (hj : j ≤ 1000000000) : ∃ q, F_ref05_Neg a = some q ∧ QR j q (-r) := by
  refine ⟨_, by rw [F_ref05_Neg, gif_pos (ha.1.k hj)], RQ.mq (by rw [ab_neg]; exact ha.1.2.1) ha.1.2.2.1 ha.1.pos, ?_⟩
  rw [qv_mq, ← ha.2]
  exact (Rat.neg_divInt _ _).symm
theorem QR.zero {j : Nat} {a : FQ} {r : Rat} (ha : QR j a r) : qn a = 0 ↔ r = 0 := by
  rw [← ha.2]; exact (divInt_eq0 ha.1.pos).symm
theorem R.quo {j k : Nat} {a b : FQ} {r s : Rat} (ha : QR j a r) (hb : QR k b s) (hj : j ≤ 1000000000 ∧ k ≤ 1000000000) (h0 : s ≠ 0) : ∃ q, F_ref05_Quo a b = some q ∧ QR (j + k) q (r / s) := by
  have hn : qn b ≠ 0 := fun h => h0 (hb.zero.1 h)
  have e : r / s = Rat.divInt (qn a * qd b) (qd a * qn b) := by
    rw [← ha.2, ← hb.2, Rat.div_def]
    unfold qv
    rw [Rat.inv_divInt, Rat.divInt_mul_divInt]
  have b1 : Bd (j + k) (ab (qn a * qd b)) := (ha.1.2.1).ab_mul (by rw [ab_pos (Int.le_of_lt hb.1.pos)]; exact hb.1.2.2.1)
  have b2 : Bd (j + k) (ab (qd a * qn b)) := by
    have := (show Bd j (ab (qd a)) by rw [ab_pos (Int.le_of_lt ha.1.pos)]; exact ha.1.2.2.1).ab_mul hb.1.2.1
    exact this
  refine ⟨_, by rw [F_ref05_Quo, gif_pos ⟨ha.1.k hj.1, hb.1.k hj.2, hn⟩], ?_⟩
  by_cases h1 : qn b < 0
  · have h2 : qd a * qn b < 0 := Int.mul_neg_of_pos_of_neg ha.1.pos h1
    rw [if_pos h1]
    refine ⟨RQ.mq (by rw [ab_neg]; exact b1) ?_ (by omega), ?_⟩
    · rw [show ab (qd a * qn b) = -(qd a * qn b) by unfold ab; rw [if_pos h2]] at b2; exact b2
    · rw [qv_mq, Rat.neg_divInt_neg, e]
  · have h2 : 0 < qd a * qn b := Int.mul_pos ha.1.pos (by omega)
    rw [if_neg h1]
    refine ⟨RQ.mq b1 ?_ h2, ?_⟩
    · rw [ab_pos (Int.le_of_lt h2)] at b2; exact b2
    · rw [qv_mq, e]
theorem R.is {j : Nat} {q : FQ} {r : Rat} (h : QR j q r) (hj : j ≤ 1000000000) (a : NQ) : F_law05_is a q = some (decide (a = dr r)) := by rw [F_law05_is, gif_pos (h.1.k hj), h.2]
theorem R.cmp {j k : Nat} {a b : FQ} {r s : Rat} (ha : QR j a r) (hb : QR k b s) (hj : j ≤ 1000000000 ∧ k ≤ 1000000000) : F_ref05_Cmp a b = some (rcm r s) := by
  rw [F_ref05_Cmp, gif_pos ⟨ha.1.k hj.1, hb.1.k hj.2⟩, ha.2, hb.2]
theorem R.floor {j : Nat} {a : FQ} {r : Rat} (ha : QR j a r) (hj : j ≤ 1000000000) : F_ref05_Floor a = some (dz r.floor) := by
  rw [F_ref05_Floor, gif_pos (ha.1.k hj), ha.2]
theorem QR.sign {j : Nat} {a : FQ} {r : Rat} (ha : QR j a r) : a.1.1 = rsg r := by
  have e : a.1 = dz (qn a) := congrArg Prod.fst ha.1.1
  rw [e, ← ha.2]
  exact (rsg_div ha.1.pos).symm
theorem rsg0 {r : Rat} : rsg r = 0 ↔ r = 0 := by
  unfold rsg
  (repeat' split) <;> rename_i h1 <;> simp_all
  intro h; subst h; exact absurd h1 (Rat.lt_irrefl)
theorem awake_some : F_law05_awake = some true := gif_pos trivial
end Go.W

set_option linter.unusedVariables false
set_option linter.unusedSimpArgs false
namespace Go.W

/-! ### the reference's text -/
end Go.W

set_option linter.unusedVariables false
set_option linter.unusedSimpArgs false
namespace Go.W

end Go.W

set_option linter.unusedVariables false
set_option linter.unusedSimpArgs false
namespace Go.W

/-! ### reading decimal digits -/
end Go.W

set_option linter.unusedVariables false
set_option linter.unusedSimpArgs false
namespace Go.W

end Go.W

set_option linter.unusedVariables false
set_option linter.unusedSimpArgs false
namespace Go.W

end Go.W

set_option linter.unusedVariables false
set_option linter.unusedSimpArgs false
namespace Go.W

end Go.W

set_option linter.unusedVariables false
set_option linter.unusedSimpArgs false
namespace Go.W

theorem divInt_i (n : Int) : Rat.divInt n 1 = (n : Rat) := by
  have := Rat.num_divInt_den (n : Rat)
  rw [Rat.num_intCast, Rat.den_intCast] at this
  exact this
end Go.W

set_option linter.unusedVariables false
namespace Go.W
/-! ### the simplest number between two -/
def Simp (a b q : Rat) : Prop := a < q ∧ q < b ∧ ∀ r : Rat, a < r → r < b → q.num ≤ r.num ∧ q.den ≤ r.den
open Classical in
noncomputable def simp (a b : Rat) : Rat := if h : ∃ q, Simp a b q then h.choose else 0
/-- the specified number between a and b -/
noncomputable def simpG (a b : Rat) : Rat := if a < 0 then (if 0 < b then 0 else -(simp (-b) (-a))) else simp a b
def Q10 (a : NQ) : Prop := QQ a ∧ QB 10000 (rv a)
noncomputable def R_rational_within (d : Nat) (a b : NQ) : Option NQ := gif ((Q10 a ∧ Q10 b ∧ 0 ≤ rv a ∧ rv a < rv b) ∧ (simp (rv a) (rv b)).den ≤ d) (dr (simp (rv a) (rv b)))
noncomputable def F_rational_within (a b : NQ) : Option NQ := gif (Q10 a ∧ Q10 b ∧ 0 ≤ rv a ∧ rv a < rv b) (dr (simp (rv a) (rv b)))
noncomputable def F_rational_Simplest (a b : NQ) : Option (NQ × Int) := gif (Q10 a ∧ Q10 b) (if rv b ≤ rv a then (((false, []), []), 4) else (dr (simpG (rv a) (rv b)), 0))
noncomputable def F_law05_RationalNarrows (a b c : NQ) : Option Bool := gif (DR a ∧ DR b ∧ DR c) true
/-! ### decimals -/
end Go.W

set_option linter.unusedVariables false
namespace Go.W
noncomputable section

/-! cylinder/rational.within -/
def T_rational_within (G_rational_within : ((Bool × List Int) × List Int) → ((Bool × List Int) × List Int) → Option ((Bool × List Int) × List Int)) (a0 : (Bool × List Int) × List Int) (a1 : (Bool × List Int) × List Int) : Option ((Bool × List Int) × List Int) :=
  (F_rational_Floor a0).bind fun r1 =>
  (F_rational_From r1).bind fun r2 =>
  (F_rational_Of (1 : Int)).bind fun r3 =>
  (F_rational_Add r2 r3).bind fun r4 =>
  (F_rational_Cmp r4 a1).bind fun r5 =>
  if (decide (r5 < (0 : Int))) = true then
    some r4
  else
    (F_rational_Sub a0 r2).bind fun r6 =>
    (F_rational_Sub a1 r2).bind fun r7 =>
    (F_rational_Of (1 : Int)).bind fun r8 =>
    (F_rational_Quo r8 r7).bind fun r9 =>
    (F_rational_Sign r6).bind fun r10 =>
    if (r10 == (0 : Int)) = true then
      (F_rational_Floor r9.1).bind fun r11 =>
      (F_integer_Of (1 : Int)).bind fun r12 =>
      (F_integer_Add r11 r12).bind fun r13 =>
      (F_integer_Of (1 : Int)).bind fun r14 =>
      (F_rational_Add r2 (r14, r13.2)).bind fun r15 =>
      some r15
    else
      (F_rational_Of (1 : Int)).bind fun r16 =>
      (F_rational_Quo r16 r6).bind fun r17 =>
      (F_rational_Of (1 : Int)).bind fun r18 =>
      (G_rational_within r9.1 r17.1).bind fun r19 =>
      (F_rational_Quo r18 r19).bind fun r20 =>
      (F_rational_Add r2 r20.1).bind fun r21 =>
      some r21
def Run_rational_within : Prop := ∀ (G_rational_within : ((Bool × List Int) × List Int) → ((Bool × List Int) × List Int) → Option ((Bool × List Int) × List Int)), ∀ d, (∀ a0 a1, G_rational_within a0 a1 = R_rational_within d a0 a1) → ∀ a0 : (Bool × List Int) × List Int, ∀ a1 : (Bool × List Int) × List Int, Ok (R_rational_within (d + 1) a0 a1) (fun m => T_rational_within G_rational_within a0 a1)

/-! cylinder/rational.Simplest -/
def T_rational_Simplest (s3 : ((Bool × List Int) × List Int) → ((Bool × List Int) × List Int) → Option ((((Bool × List Int) × List Int) × Int))) (s24 : Bool → ((Bool × List Int) × List Int) → ((Bool × List Int) × List Int) → ((Bool × List Int) × List Int) → ((Bool × List Int) × List Int) → Option ((((Bool × List Int) × List Int) × Int))) (a0 : (Bool × List Int) × List Int) (a1 : (Bool × List Int) × List Int) : Option (((Bool × List Int) × List Int) × Int) :=
  (F_rational_Cmp a0 a1).bind fun r1 =>
  if (decide (r1 ≥ (0 : Int))) = true then
    some (((false, ([] : List Int)), ([] : List Int)), (4 : Int))
  else
    (F_rational_Sign a0).bind fun r2 =>
    if (decide (r2 < (0 : Int))) = true then
      (F_rational_Sign a1).bind fun r3 =>
      s24 (decide (r3 > (0 : Int))) a0 a1 ((false, ([] : List Int)), ([] : List Int)) ((false, ([] : List Int)), ([] : List Int))
    else
      s24 false a0 a1 ((false, ([] : List Int)), ([] : List Int)) ((false, ([] : List Int)), ([] : List Int))
def S_rational_Simplest_3 (s3 : ((Bool × List Int) × List Int) → ((Bool × List Int) × List Int) → Option ((((Bool × List Int) × List Int) × Int))) (s24 : Bool → ((Bool × List Int) × List Int) → ((Bool × List Int) × List Int) → ((Bool × List Int) × List Int) → ((Bool × List Int) × List Int) → Option ((((Bool × List Int) × List Int) × Int))) (x4 : (Bool × List Int) × List Int) (x6 : (Bool × List Int) × List Int) : Option (((Bool × List Int) × List Int) × Int) :=
  some (x6, (0 : Int))
def S_rational_Simplest_24 (s3 : ((Bool × List Int) × List Int) → ((Bool × List Int) × List Int) → Option ((((Bool × List Int) × List Int) × Int))) (s24 : Bool → ((Bool × List Int) × List Int) → ((Bool × List Int) × List Int) → ((Bool × List Int) × List Int) → ((Bool × List Int) × List Int) → Option ((((Bool × List Int) × List Int) × Int))) (x20 : Bool) (x2 : (Bool × List Int) × List Int) (x3 : (Bool × List Int) × List Int) (x4 : (Bool × List Int) × List Int) (x6 : (Bool × List Int) × List Int) : Option (((Bool × List Int) × List Int) × Int) :=
  if x20 = true then
    (F_rational_Of (0 : Int)).bind fun r1 =>
    s3 x4 r1
  else
    (F_rational_Sign x2).bind fun r2 =>
    if (decide (r2 < (0 : Int))) = true then
      (F_rational_Neg x3).bind fun r3 =>
      (F_rational_Neg x2).bind fun r4 =>
      (F_rational_within r3 r4).bind fun r5 =>
      if (decide (r2 < (0 : Int))) = true then
        (F_rational_Neg r5).bind fun r6 =>
        some (r6, (0 : Int))
      else
        some (r5, (0 : Int))
    else
      (F_rational_within x2 x3).bind fun r7 =>
      if (decide (r2 < (0 : Int))) = true then
        (F_rational_Neg r7).bind fun r8 =>
        some (r8, (0 : Int))
      else
        some (r7, (0 : Int))
def Run_rational_Simplest : Prop := ∀ s3 : Nat → ((Bool × List Int) × List Int) → ((Bool × List Int) × List Int) → Option ((((Bool × List Int) × List Int) × Int)), ∀ s24 : Nat → Bool → ((Bool × List Int) × List Int) → ((Bool × List Int) × List Int) → ((Bool × List Int) × List Int) → ((Bool × List Int) × List Int) → Option ((((Bool × List Int) × List Int) × Int)), (∀ m x4 x6, s3 (m + 1) x4 x6 = S_rational_Simplest_3 (s3 m) (s24 m) x4 x6) → (∀ m x20 x2 x3 x4 x6, s24 (m + 1) x20 x2 x3 x4 x6 = S_rational_Simplest_24 (s3 m) (s24 m) x20 x2 x3 x4 x6) → ∀ a0 : (Bool × List Int) × List Int, ∀ a1 : (Bool × List Int) × List Int, Ok (F_rational_Simplest a0 a1) (fun m => T_rational_Simplest (s3 m) (s24 m) a0 a1)

/-! cylinder/cylinderref05.Simplest -/
def T_law05_RationalNarrows (s8 : Bool → ((Bool × List Int) × List Int) → ((Bool × List Int) × List Int) → ((Bool × List Int) × List Int) → Option Bool) (s24 : Bool → ((Bool × List Int) × List Int) → ((Bool × List Int) × List Int) → ((Bool × List Int) × List Int) → ((Bool × List Int) × List Int) → Option Bool) (a0 : (Bool × List Int) × List Int) (a1 : (Bool × List Int) × List Int) (a2 : (Bool × List Int) × List Int) : Option Bool :=
  (F_law05_awake).bind fun r1 =>
  if (!r1) = true then
    s8 true a0 a1 a2
  else
    (F_law05_few (3 : Int) a0 a1 a2).bind fun r2 =>
    if (!r2) = true then
      s8 true a0 a1 a2
    else
      (F_rational_Cmp a0 a1).bind fun r3 =>
      s8 (decide (r3 ≥ (0 : Int))) a0 a1 a2
def S_law05_RationalNarrows_8 (s8 : Bool → ((Bool × List Int) × List Int) → ((Bool × List Int) × List Int) → ((Bool × List Int) × List Int) → Option Bool) (s24 : Bool → ((Bool × List Int) × List Int) → ((Bool × List Int) × List Int) → ((Bool × List Int) × List Int) → ((Bool × List Int) × List Int) → Option Bool) (x27 : Bool) (x3 : (Bool × List Int) × List Int) (x4 : (Bool × List Int) × List Int) (x5 : (Bool × List Int) × List Int) : Option Bool :=
  if x27 = true then
    (F_law05_awake).bind fun r1 =>
    some r1
  else
    (F_rational_Simplest x3 x4).bind fun r2 =>
    (F_rational_Neg x4).bind fun r3 =>
    (F_rational_Neg x3).bind fun r4 =>
    (F_rational_Simplest r3 r4).bind fun r5 =>
    if (r2.2 != (0 : Int)) = true then
      s24 true x3 x4 x5 r2.1
    else
      if (r5.2 != (0 : Int)) = true then
        s24 true x3 x4 x5 r2.1
      else
        (F_rational_Neg r2.1).bind fun r6 =>
        (F_law05_same r5.1 r6).bind fun r7 =>
        s24 (!r7) x3 x4 x5 r2.1
def S_law05_RationalNarrows_24 (s8 : Bool → ((Bool × List Int) × List Int) → ((Bool × List Int) × List Int) → ((Bool × List Int) × List Int) → Option Bool) (s24 : Bool → ((Bool × List Int) × List Int) → ((Bool × List Int) × List Int) → ((Bool × List Int) × List Int) → ((Bool × List Int) × List Int) → Option Bool) (x55 : Bool) (x3 : (Bool × List Int) × List Int) (x4 : (Bool × List Int) × List Int) (x5 : (Bool × List Int) × List Int) (x7 : (Bool × List Int) × List Int) : Option Bool :=
  if x55 = true then
    some false
  else
    (F_rational_Cmp x5 x3).bind fun r1 =>
    if (decide (r1 ≤ (0 : Int))) = true then
      some true
    else
      (F_rational_Cmp x5 x7).bind fun r2 =>
      if (decide (r2 ≥ (0 : Int))) = true then
        some true
      else
        (F_rational_Simplest x5 x4).bind fun r3 =>
        if (r3.2 == (0 : Int)) = true then
          (F_law05_same r3.1 x7).bind fun r4 =>
          some r4
        else
          some false
def Run_law05_RationalNarrows : Prop := ∀ s8 : Nat → Bool → ((Bool × List Int) × List Int) → ((Bool × List Int) × List Int) → ((Bool × List Int) × List Int) → Option Bool, ∀ s24 : Nat → Bool → ((Bool × List Int) × List Int) → ((Bool × List Int) × List Int) → ((Bool × List Int) × List Int) → ((Bool × List Int) × List Int) → Option Bool, (∀ m x27 x3 x4 x5, s8 (m + 1) x27 x3 x4 x5 = S_law05_RationalNarrows_8 (s8 m) (s24 m) x27 x3 x4 x5) → (∀ m x55 x3 x4 x5 x7, s24 (m + 1) x55 x3 x4 x5 x7 = S_law05_RationalNarrows_24 (s8 m) (s24 m) x55 x3 x4 x5 x7) → ∀ a0 : (Bool × List Int) × List Int, ∀ a1 : (Bool × List Int) × List Int, ∀ a2 : (Bool × List Int) × List Int, Ok (F_law05_RationalNarrows a0 a1 a2) (fun m => T_law05_RationalNarrows (s8 m) (s24 m) a0 a1 a2)

/-! cylinder/rational.Decimal -/
end
end Go.W

set_option linter.unusedVariables false
set_option linter.unusedSimpArgs false
namespace Go.W

/-! ### The simplest number between two -/
theorem Simp.uniq {a b p q : Rat} (hp : Simp a b p) (hq : Simp a b q) : p = q := by
  have h1 := hp.2.2 q hq.1 hq.2.1
  have h2 := hq.2.2 p hp.1 hp.2.1
  exact Rat.ext (by omega) (by omega)
theorem num_eq (r : Rat) : (r.num : Rat) = r * ((r.den : Int) : Rat) := by
  have h := QB.as r
  have hd : ((r.den : Int) : Rat) ≠ 0 := by
    rw [Ne, Rat.intCast_eq_zero_iff]; have := r.den_pos; omega
  rw [Rat.divInt_eq_div] at h
  generalize ((r.den : Int) : Rat) = D at *
  generalize (r.num : Rat) = N at *
  grind
theorem den_ge (r : Rat) : (1 : Rat) ≤ ((r.den : Int) : Rat) := by
  have := r.den_pos
  exact Rat.intCast_le_intCast (a := 1) |>.2 (by omega)
theorem add_int (n : Int) (t : Rat) : ((n : Rat) + t).num = n * t.den + t.num ∧ ((n : Rat) + t).den = t.den := by
  have hp := t.den_pos
  have e : (n : Rat) + t = Rat.divInt (n * t.den + t.num) t.den := by
    have h : (n : Rat) = Rat.divInt n 1 := (divInt_i n).symm
    conv => lhs; rw [h, QB.as t]
    rw [Rat.divInt_add_divInt _ _ (by omega) (by omega)]
    congr 1 <;> omega
  have hg : Int.gcd (n * t.den + t.num) (t.den : Int) = 1 := by
    have := t.reduced
    rw [Int.gcd_comm, Int.add_comm]
    have h2 : Int.gcd (t.den : Int) (t.num + n * t.den) = Int.gcd (t.den : Int) t.num := by
      rw [Int.mul_comm]; exact Int.gcd_add_mul_left_right ..
    rw [h2, Int.gcd_comm]
    exact this
  have hn : ((n : Rat) + t).num = n * t.den + t.num := by rw [e, num_div (by omega), hg]; simp
  have hd : (((n : Rat) + t).den : Int) = t.den := by rw [e, den_div (by omega), hg]; simp
  exact ⟨hn, by omega⟩
theorem sub_int (n : Int) (t : Rat) : (t - (n : Rat)).num = t.num - n * t.den ∧ (t - (n : Rat)).den = t.den := by
  have h := add_int (-n) t
  have e : ((-n : Int) : Rat) + t = t - (n : Rat) := by rw [Rat.intCast_neg]; grind
  rw [e] at h
  exact ⟨by rw [h.1, Int.neg_mul]; omega, h.2⟩
theorem num_pos' {t : Rat} : 0 < t ↔ 0 < t.num := by
  have h1 := @Rat.num_nonneg t
  have h2 := @Rat.num_eq_zero t
  constructor
  · intro h
    have : 0 ≤ t.num := h1.2 (Rat.le_of_lt h)
    have h3 : t.num ≠ 0 := fun e => by rw [h2.1 e] at h; exact absurd h Rat.lt_irrefl
    omega
  · intro h
    have : 0 ≤ t := h1.1 (by omega)
    refine Rat.lt_of_le_of_ne this fun e => ?_
    rw [← e] at h; simp at h
theorem inv_parts {t : Rat} (h : 0 < t) : (t⁻¹).num = t.den ∧ ((t⁻¹).den : Int) = t.num := by
  have hp := num_pos'.1 h
  refine ⟨?_, ?_⟩
  · rw [Rat.num_inv, Int.sign_eq_one_of_pos hp, Int.one_mul]
  · rw [Rat.den_inv, if_neg (by omega)]; omega
theorem inv_lt {s t : Rat} (hs : 0 < s) (h : s < t) : t⁻¹ < s⁻¹ := by
  have ht : 0 < t := by grind
  have h1 := Rat.mul_inv_cancel s (by grind)
  have h2 := Rat.mul_inv_cancel t (by grind)
  have p1 := Rat.inv_pos.2 hs
  have p2 := Rat.inv_pos.2 ht
  have h3 := Rat.mul_lt_mul_of_pos_right (Rat.mul_lt_mul_of_pos_right h p1) p2
  generalize s⁻¹ = S at *
  generalize t⁻¹ = T at *
  have e1 : s * S * T = T := by rw [h1, Rat.one_mul]
  have e2 : t * S * T = S := by grind
  rw [e1, e2] at h3
  exact h3
theorem lt_one_den {t : Rat} (h0 : 0 < t) (h1 : t < 1) : t.num < t.den := by
  have := (Rat.lt_iff t 1).1 h1
  simp at this; omega
theorem Simp.next {a b : Rat} (ha : 0 ≤ a) (h : ((a.floor + 1 : Int) : Rat) < b) : Simp a b ((a.floor + 1 : Int) : Rat) := by
  refine ⟨Rat.lt_floor_add_one a, h, fun r h1 h2 => ?_⟩
  rw [Rat.num_intCast, Rat.den_intCast]
  refine ⟨?_, r.den_pos⟩
  have hr : 0 < r := by grind
  have hf := Rat.floor_lt_iff (a := a) (x := r.num)
  have : a < (r.num : Rat) := by
    have e := num_eq r
    have d := den_ge r
    have : r * 1 ≤ r * ((r.den : Int) : Rat) := Rat.mul_le_mul_of_nonneg_left d (Rat.le_of_lt hr)
    grind
  have := hf.2 this
  omega
theorem floor_nonneg {a : Rat} (ha : 0 ≤ a) : 0 ≤ a.floor := Rat.le_floor_iff.2 (by simpa using ha)
theorem shift_in {a b r : Rat} (n : Int) (h1 : a < r) (h2 : r < b) : a - (n : Rat) < r - (n : Rat) ∧ r - (n : Rat) < b - (n : Rat) := by constructor <;> grind
theorem Simp.unit {a b : Rat} (ha : 0 ≤ a) (hab : a < b) (hx : a - (a.floor : Rat) = 0) :
    Simp a b ((a.floor : Rat) + ((((b - (a.floor : Rat))⁻¹).floor + 1 : Int) : Rat)⁻¹) := by
  have hn := floor_nonneg ha
  generalize ea : a.floor = n at *
  generalize ey : b - (n : Rat) = y at *
  have hy : 0 < y := by grind
  have hyi := Rat.inv_pos.2 hy
  generalize em : (y⁻¹).floor + 1 = m at *
  have hm1 : 1 ≤ m := by
    have := floor_nonneg (Rat.le_of_lt hyi)
    omega
  have hmr : (0 : Rat) < (m : Rat) := Rat.intCast_pos.2 (by omega)
  have hlt : y⁻¹ < (m : Rat) := by rw [← em]; exact Rat.lt_floor_add_one _
  have hmi := Rat.inv_pos.2 hmr
  have hinv : (m : Rat)⁻¹ < y := by
    have := inv_lt hyi hlt
    rwa [Rat.inv_inv] at this
  obtain ⟨p1, p2⟩ := inv_parts hmr
  rw [Rat.num_intCast] at p2
  rw [Rat.den_intCast] at p1
  obtain ⟨q1, q2⟩ := add_int n ((m : Rat)⁻¹)
  refine ⟨by grind, by grind, fun r h1 h2 => ?_⟩
  obtain ⟨t1, t2⟩ := shift_in n h1 h2
  obtain ⟨u1, u2⟩ := sub_int n r
  generalize r - (n : Rat) = t at *
  rw [hx] at t1
  rw [ey] at t2
  have ht := num_pos'.1 t1
  have hti := inv_lt t1 t2
  obtain ⟨v1, v2⟩ := inv_parts t1
  have hden : m ≤ (t.den : Int) := by
    have h3 : y⁻¹ < ((t.den : Int) : Rat) := by
      have e := num_eq t⁻¹
      rw [v1] at e
      have d := den_ge t⁻¹
      have hp := Rat.inv_pos.2 t1
      have : t⁻¹ * 1 ≤ t⁻¹ * (((t⁻¹).den : Int) : Rat) := Rat.mul_le_mul_of_nonneg_left d (Rat.le_of_lt hp)
      grind
    have := Rat.floor_lt_iff.2 h3
    omega
  have hmul : n * m ≤ n * (t.den : Int) := Int.mul_le_mul_of_nonneg_left hden hn
  refine ⟨?_, by omega⟩
  have e3 : r.num = t.num + n * (t.den : Int) := by rw [u2]; omega
  rw [q1, p1, e3, p2]; omega
theorem Simp.step {a b s : Rat} (ha : 0 ≤ a) (hab : a < b) (hx : 0 < a - (a.floor : Rat)) (hs : Simp (b - (a.floor : Rat))⁻¹ (a - (a.floor : Rat))⁻¹ s) :
    Simp a b ((a.floor : Rat) + s⁻¹) := by
  have hn := floor_nonneg ha
  generalize ea : a.floor = n at *
  generalize ey : b - (n : Rat) = y at *
  generalize ex : a - (n : Rat) = x at *
  have hy : 0 < y := by grind
  have hyi := Rat.inv_pos.2 hy
  have hxi := Rat.inv_pos.2 hx
  obtain ⟨s1, s2, s3⟩ := hs
  have hsp : 0 < s := by grind
  have i1 := inv_lt hyi s1
  have i2 := inv_lt hsp s2
  rw [Rat.inv_inv] at i1 i2
  obtain ⟨p1, p2⟩ := inv_parts hsp
  obtain ⟨q1, q2⟩ := add_int n (s⁻¹)
  refine ⟨by grind, by grind, fun r h1 h2 => ?_⟩
  obtain ⟨t1, t2⟩ := shift_in n h1 h2
  obtain ⟨u1, u2⟩ := sub_int n r
  generalize r - (n : Rat) = t at *
  rw [ex] at t1
  rw [ey] at t2
  have htp : 0 < t := by grind
  obtain ⟨v1, v2⟩ := inv_parts htp
  obtain ⟨w1, w2⟩ := s3 t⁻¹ (inv_lt htp t2) (inv_lt hx t1)
  rw [v1] at w1
  have hmul : n * s.num ≤ n * (t.den : Int) := Int.mul_le_mul_of_nonneg_left w1 hn
  have hsn := num_pos'.1 hsp
  refine ⟨?_, by omega⟩
  have e3 : r.num = t.num + n * (t.den : Int) := by rw [u2]; omega
  rw [q1, p1, e3, p2]; omega
theorem step_den {a b s : Rat} (hab : a < b) (hb : b ≤ ((a.floor + 1 : Int) : Rat)) (hx : 0 < a - (a.floor : Rat)) (hs : Simp (b - (a.floor : Rat))⁻¹ (a - (a.floor : Rat))⁻¹ s) :
    s.den < ((a.floor : Rat) + s⁻¹).den := by
  rw [Rat.intCast_add] at hb
  generalize ea : a.floor = n at *
  have hy : 0 < b - (n : Rat) := by grind
  have hy1 : b - (n : Rat) ≤ 1 := by have : ((1 : Int) : Rat) = 1 := rfl; grind
  have h1 : 1 ≤ (b - (n : Rat))⁻¹ := by
    have h2 := Rat.mul_inv_cancel (b - (n : Rat)) (by grind)
    have hyi := Rat.inv_pos.2 hy
    have := Rat.mul_le_mul_of_nonneg_right hy1 (Rat.le_of_lt hyi)
    grind
  have hs1 : 1 < s := by have := hs.1; grind
  have hsp : 0 < s := by grind
  rw [(add_int n s⁻¹).2]
  have := (inv_parts hsp).2
  have h3 := (Rat.lt_iff 1 s).1 hs1
  simp at h3
  omega
theorem simp_ex : ∀ (D : Nat) (a b : Rat), 0 ≤ a → a < b → (∃ r : Rat, a < r ∧ r < b ∧ r.den ≤ D) → ∃ q, Simp a b q
  | 0, a, b, ha, hab, ⟨r, _, _, hd⟩ => by have := r.den_pos; omega
  | D + 1, a, b, ha, hab, ⟨r, h1, h2, hd⟩ => by
    by_cases hb : ((a.floor + 1 : Int) : Rat) < b
    · exact ⟨_, Simp.next ha hb⟩
    · have hb : b ≤ ((a.floor + 1 : Int) : Rat) := by grind
      have hf := Rat.floor_le a
      by_cases hx : a - (a.floor : Rat) = 0
      · exact ⟨_, Simp.unit ha hab hx⟩
      · have hx : 0 < a - (a.floor : Rat) := by grind
        obtain ⟨t1, t2⟩ := shift_in a.floor h1 h2
        have hd2 := (sub_int a.floor r).2
        have hy1 : b - (a.floor : Rat) ≤ 1 := by rw [Rat.intCast_add] at hb; have : ((1 : Int) : Rat) = 1 := rfl; grind
        have htp : 0 < r - (a.floor : Rat) := by grind
        have hlt := lt_one_den htp (by grind)
        obtain ⟨v1, v2⟩ := inv_parts htp
        have hyp : 0 < b - (a.floor : Rat) := by grind
        obtain ⟨s, hs⟩ := simp_ex D (b - (a.floor : Rat))⁻¹ (a - (a.floor : Rat))⁻¹ (Rat.le_of_lt (Rat.inv_pos.2 hyp)) (inv_lt hx (by grind)) ⟨_, inv_lt htp t2, inv_lt hx t1, by omega⟩
        exact ⟨_, Simp.step ha hab hx hs⟩
theorem mid_in {a b : Rat} (hab : a < b) : a < (a + b) / 2 ∧ (a + b) / 2 < b := by constructor <;> grind
theorem simp_spec {a b : Rat} (ha : 0 ≤ a) (hab : a < b) : Simp a b (simp a b) := by
  have h : ∃ q, Simp a b q := simp_ex _ a b ha hab ⟨_, (mid_in hab).1, (mid_in hab).2, Nat.le_refl _⟩
  unfold simp
  rw [dif_pos h]
  exact h.choose_spec
theorem simp_eq {a b q : Rat} (ha : 0 ≤ a) (hab : a < b) (h : Simp a b q) : simp a b = q := (simp_spec ha hab).uniq h
theorem simp_QB {k : Nat} {a b : Rat} (ha : 0 ≤ a) (hab : a < b) (h1 : QB k a) (h2 : QB k b) : QB (2 * k + 3) (simp a b) := by
  have hs := simp_spec ha hab
  have hm := hs.2.2 _ (mid_in hab).1 (mid_in hab).2
  have h2' : QB 2 (2 : Rat)⁻¹ := by
    have : (2 : Rat)⁻¹ = Rat.divInt 1 2 := by decide +kernel
    rw [this]; exact (QB.div (j := 1) (k := 2) (by constructor <;> decide) (by constructor <;> decide) (by decide)).mono (by omega)
  have hq : QB (k + k + 1 + 2) ((a + b) / 2) := by rw [Rat.div_def]; exact (h1.add h2).mul h2'
  have hsp : 0 < simp a b := by have := hs.1; grind
  have hnp := num_pos'.1 hsp
  have hmp : 0 < (a + b) / 2 := by have := (mid_in hab).1; grind
  have hmn := num_pos'.1 hmp
  obtain ⟨⟨q1, q2⟩, q3, q4⟩ := hq
  have e1 : ab (simp a b).num = (simp a b).num := ab_pos (by omega)
  have e2 : ab ((a + b) / 2).num = ((a + b) / 2).num := ab_pos (by omega)
  rw [e2] at q1 q2
  have e3 : 2 * k + 3 = k + k + 1 + 2 := by omega
  rw [e3]
  refine ⟨⟨?_, ?_⟩, ?_, ?_⟩
  · rw [e1]; omega
  · rw [e1]; omega
  · omega
  · have := hm.2; omega
theorem simpG_in {a b : Rat} (hab : a < b) : a < simpG a b ∧ simpG a b < b := by
  unfold simpG
  split
  · split
    · constructor <;> assumption
    · have hs := simp_spec (a := -b) (b := -a) (by grind) (by grind)
      constructor
      · have := hs.2.1; grind
      · have := hs.1; grind
  · have hs := simp_spec (a := a) (b := b) (by grind) hab
    exact ⟨hs.1, hs.2.1⟩
theorem simpG_neg {a b : Rat} (hab : a < b) : simpG (-b) (-a) = -(simpG a b) := by
  unfold simpG
  by_cases h1 : a < 0
  · by_cases h2 : 0 < b
    · rw [if_pos (by grind), if_pos (by grind), if_pos h1, if_pos h2]; rfl
    · rw [if_neg (by grind), if_pos h1, if_neg h2]; grind
  · rw [if_pos (by grind), if_neg (by grind), if_neg h1, Rat.neg_neg, Rat.neg_neg]
theorem Simp.narrow {a b c s : Rat} (h : Simp a b s) (h1 : a ≤ c) (h2 : c < s) : Simp c b s := ⟨h2, h.2.1, fun r r1 r2 => h.2.2 r (by grind) r2⟩
theorem Simp.narrowR {a b c s : Rat} (h : Simp a b s) (h1 : c ≤ b) (h2 : s < c) : Simp a c s := ⟨h.1, h2, fun r r1 r2 => h.2.2 r r1 (by grind)⟩
theorem simpG_narrow {a b c : Rat} (hab : a < b) (h1 : a < c) (h2 : c < simpG a b) : simpG c b = simpG a b := by
  unfold simpG at h2 ⊢
  by_cases ha : a < 0
  · rw [if_pos ha] at h2 ⊢
    by_cases hb : 0 < b
    · rw [if_pos hb] at h2 ⊢
      rw [if_pos h2, if_pos hb]
    · rw [if_neg hb] at h2 ⊢
      have hs := simp_spec (a := -b) (b := -a) (by grind) (by grind)
      have := hs.1
      rw [if_pos (by grind), if_neg hb, simp_eq (by grind) (by grind) (hs.narrowR (c := -c) (by grind) (by grind))]
  · rw [if_neg ha] at h2 ⊢
    have hs := simp_spec (a := a) (b := b) (by grind) hab
    rw [if_neg (by grind), simp_eq (by grind) (by have := hs.2.1; grind) (hs.narrow (by grind) h2)]
end Go.W

set_option linter.unusedVariables false
set_option linter.unusedSimpArgs false
namespace Go.W

theorem rcm_lt0 {x y : Rat} : rcm x y < 0 ↔ x < y := by
  unfold rcm
  (repeat' split) <;> rename_i h1 <;> constructor <;> intro h <;> first | omega | grind
theorem rcm_ge0 {x y : Rat} : rcm x y ≥ 0 ↔ y ≤ x := by
  have := @rcm_lt0 x y
  rw [← Rat.not_lt, ← this]; omega
theorem rcm_gt0 {x y : Rat} : rcm x y > 0 ↔ y < x := by
  unfold rcm
  (repeat' split) <;> rename_i h1 <;> constructor <;> intro h <;> first | omega | grind
theorem rsg_lt0 {x : Rat} : rsg x < 0 ↔ x < 0 := by
  unfold rsg
  (repeat' split) <;> rename_i h1 <;> constructor <;> intro h <;> first | omega | grind
theorem rsg_gt0 {x : Rat} : rsg x > 0 ↔ 0 < x := by
  unfold rsg
  (repeat' split) <;> rename_i h1 <;> constructor <;> intro h <;> first | omega | grind
theorem QV.m {j k : Nat} {a : NQ} {r : Rat} (h : QV j a r) (hk : j ≤ k) : QV k a r := ⟨h.1, h.2.1, h.2.2.mono hk⟩
/-- the integral part of a number that is not negative -/
theorem floor_QB {k : Nat} {x : Rat} (h : QB k x) (h0 : 0 ≤ x) : Bd k (ab x.floor) ∧ QB (k + 1) (x.floor : Rat) := by
  have hf := floor_nonneg h0
  have hn := Rat.num_nonneg.2 h0
  have hd := x.den_pos
  have hb : Bd k (ab x.floor) := by
    rw [ab_pos hf]
    refine h.1.le hf ?_
    rw [ab_pos hn, Rat.floor_def]
    exact Int.ediv_le_self _ hn
  exact ⟨hb, QB.int (hb.mono (by omega)) (by omega)⟩
/-- the fractional part -/
theorem frac_QB {k : Nat} {x : Rat} (h : QB k x) (hk : 1 ≤ k) (n : Int) (h0 : 0 ≤ x - (n : Rat)) (h1 : x - (n : Rat) ≤ 1) : QB k (x - (n : Rat)) := by
  obtain ⟨e1, e2⟩ := sub_int n x
  have hn := Rat.num_nonneg.2 h0
  have hle : (x - (n : Rat)).num ≤ (x - (n : Rat)).den := by
    have := (Rat.le_iff _ 1).1 h1
    simp at this; omega
  have hden : Bd k ((x - (n : Rat)).den : Int) := by rw [e2]; exact h.2
  exact ⟨by rw [ab_pos hn]; exact hden.le hn hle, hden⟩
theorem From_di {σ : Type} {z : Int} {k : Nat} (h : Bd k (ab z)) (hk : k ≤ 2199023255552) {K : NQ → Option σ} : (F_rational_From (di z)).bind K = K (dr (z : Rat)) := by
  rw [F_rational_From, gif_bind (II.di h hk), iv_di]
theorem one_c : ((1 : Int) : Rat) = 1 := rfl
theorem unit_dr {m : Int} (h : 1 ≤ m) : ((di 1, dn m) : NQ) = dr ((m : Rat)⁻¹) := by
  obtain ⟨p1, p2⟩ := inv_parts (t := (m : Rat)) (Rat.intCast_pos.2 (by omega))
  unfold dr
  rw [p1, p2, Rat.den_intCast, Rat.num_intCast]; rfl
theorem inv_one (t : Rat) : ((1 : Int) : Rat) / t = t⁻¹ := by rw [Rat.div_def, one_c, Rat.one_mul]

theorem Rz_rational_within (a b : NQ) : R_rational_within 0 a b = none := by
  unfold R_rational_within gif
  rw [if_neg]
  rintro ⟨_, h⟩
  have := (simp (rv a) (rv b)).den_pos
  omega
theorem Rl_rational_within (a b r : NQ) (h : F_rational_within a b = some r) : ∃ d, R_rational_within d a b = some r := by
  obtain ⟨hp, hr⟩ := gif_some.1 h
  exact ⟨_, gif_some.2 ⟨⟨hp, Nat.le_refl _⟩, hr⟩⟩
theorem Rn_rational_within : Run_rational_within := fun G d hG a b => Ok.gif_const fun ⟨⟨hA, hB, h0, hab⟩, hd⟩ => by
  have va : QV 10000 a (rv a) := ⟨hA.1, rfl, hA.2⟩
  have vb : QV 10000 b (rv b) := ⟨hB.1, rfl, hB.2⟩
  clear hA hB
  generalize rv a = x at *
  generalize rv b = y at *
  obtain ⟨f1, f2⟩ := floor_QB va.2.2 h0
  have vn : QV 10001 (dr (x.floor : Rat)) (x.floor : Rat) := QV.dr f2 (by omega)
  have v1 : QV 1 (dr ((1 : Int) : Rat)) ((1 : Int) : Rat) := QV.dr (QB.int (by constructor <;> decide) (by omega)) (by omega)
  have vs : QV 20000 (dr ((x.floor : Rat) + ((1 : Int) : Rat))) ((x.floor : Rat) + ((1 : Int) : Rat)) := QV.dr ((f2.add v1.2.2).mono (by omega)) (by omega)
  have ecast : (x.floor : Rat) + ((1 : Int) : Rat) = ((x.floor + 1 : Int) : Rat) := by rw [Rat.intCast_add]
  rw [T_rational_within, V.floor va, Option.bind_some, From_di f1 (by omega), Of_bind (by omega), V.add vn v1, Option.bind_some, V.cmp vs vb, Option.bind_some]
  have hfl := Rat.floor_le x
  have hlt := Rat.lt_floor_add_one x
  by_cases hb : ((x.floor + 1 : Int) : Rat) < y
  · rw [if_pos (by rw [decide_eq_true_eq, rcm_lt0, ecast]; exact hb), simp_eq h0 hab (Simp.next h0 hb), ecast]
  · have hb' : y ≤ ((x.floor + 1 : Int) : Rat) := by grind
    rw [if_neg (by rw [decide_eq_true_eq, rcm_lt0, ecast]; exact hb)]
    rw [Rat.intCast_add, one_c] at hb' hlt
    have qx : QB 10000 (x - (x.floor : Rat)) := frac_QB va.2.2 (by omega) _ (by grind) (by grind)
    have qy : QB 10000 (y - (x.floor : Rat)) := frac_QB vb.2.2 (by omega) _ (by grind) (by grind)
    have vx : QV 10000 (dr (x - (x.floor : Rat))) (x - (x.floor : Rat)) := QV.dr qx (by omega)
    have vy : QV 10000 (dr (y - (x.floor : Rat))) (y - (x.floor : Rat)) := QV.dr qy (by omega)
    have hy : 0 < y - (x.floor : Rat) := by grind
    have qyi : QB 10000 (y - (x.floor : Rat))⁻¹ := qy.inv (by grind)
    have vyi : QV 10000 (dr (y - (x.floor : Rat))⁻¹) (y - (x.floor : Rat))⁻¹ := QV.dr qyi (by omega)
    rw [V.sub va vn, Option.bind_some, V.sub vb vn, Option.bind_some, Of_bind (by omega), V.quo' v1 vy (by grind), Option.bind_some, V.sign vx, Option.bind_some, inv_one]
    by_cases hx : x - (x.floor : Rat) = 0
    · rw [if_pos (by rw [beq_iff_eq]; exact rsg0.2 hx), V.floor vyi, Option.bind_some]
      have hyi := Rat.inv_pos.2 hy
      obtain ⟨g1, g2⟩ := floor_QB qyi (Rat.le_of_lt hyi)
      have hg := floor_nonneg (Rat.le_of_lt hyi)
      have g3 : Bd 10001 (ab ((y - (x.floor : Rat))⁻¹.floor + 1)) := (g1.ab_add (z := 1) (k := 1) (by constructor <;> decide)).mono (by omega)
      have o1 : F_integer_Of 1 = some (di 1) := gif_pos (by omega)
      rw [o1, Option.bind_some, F_integer_Add, gif_bind ⟨II.di g1 (by omega), II.di (k := 1) (by constructor <;> decide) (by omega)⟩, iv_di, iv_di, Option.bind_some]
      have e2 : (di ((y - (x.floor : Rat))⁻¹.floor + 1)).2 = dn ((y - (x.floor : Rat))⁻¹.floor + 1) := by unfold di; rw [ab_pos (by omega)]
      rw [e2, unit_dr (by omega)]
      have qm : QB 10001 ((((y - (x.floor : Rat))⁻¹.floor + 1 : Int) : Rat)⁻¹) := (QB.int g3 (by omega)).inv (by rw [Ne, Rat.intCast_eq_zero_iff]; omega)
      rw [V.add vn (QV.dr qm (by omega)), Option.bind_some, simp_eq h0 hab (Simp.unit h0 hab hx)]
    · rw [if_neg (by rw [beq_iff_eq, rsg0]; exact hx)]
      have hxp : 0 < x - (x.floor : Rat) := by grind
      have qxi : QB 10000 (x - (x.floor : Rat))⁻¹ := qx.inv hx
      have vxi : QV 10000 (dr (x - (x.floor : Rat))⁻¹) (x - (x.floor : Rat))⁻¹ := QV.dr qxi (by omega)
      have hlt2 := inv_lt hxp (t := y - (x.floor : Rat)) (by grind)
      have h02 : 0 ≤ (y - (x.floor : Rat))⁻¹ := Rat.le_of_lt (Rat.inv_pos.2 hy)
      have hs := simp_spec h02 hlt2
      have hst := Simp.step h0 hab hxp hs
      have hdn := step_den hab (by rw [Rat.intCast_add, one_c]; exact hb') hxp hs
      have qs := simp_QB h02 hlt2 qyi qxi
      rw [simp_eq h0 hab hst] at hd ⊢
      have hsp : 0 < simp (y - (x.floor : Rat))⁻¹ (x - (x.floor : Rat))⁻¹ := by have := hs.1; grind
      have hR : R_rational_within d (dr (y - (x.floor : Rat))⁻¹) (dr (x - (x.floor : Rat))⁻¹) = some (dr (simp (y - (x.floor : Rat))⁻¹ (x - (x.floor : Rat))⁻¹)) := by
        refine gif_some.2 ⟨⟨⟨⟨vyi.1, ?_⟩, ⟨vxi.1, ?_⟩, ?_, ?_⟩, ?_⟩, ?_⟩
        · rw [rv_dr]; exact qyi
        · rw [rv_dr]; exact qxi
        · rw [rv_dr]; exact h02
        · rw [rv_dr, rv_dr]; exact hlt2
        · rw [rv_dr, rv_dr]; omega
        · rw [rv_dr, rv_dr]
      rw [Of_bind (by omega), V.quo' v1 vx hx, Option.bind_some, Of_bind (by omega), inv_one, hG, hR, Option.bind_some]
      rw [V.quo' v1 (QV.dr qs (by omega)) (by grind), Option.bind_some, inv_one]
      rw [V.add vn (QV.dr (qs.inv (by grind)) (by omega)), Option.bind_some]

theorem simpG_QB {k : Nat} {a b : Rat} (hab : a < b) (h1 : QB k a) (h2 : QB k b) : QB (2 * k + 3) (simpG a b) := by
  unfold simpG
  split
  · split
    · exact (QB.int (n := 0) (k := 1) (by constructor <;> decide) (by omega)).mono (by omega)
    · exact (simp_QB (by grind) (by grind) h2.neg h1.neg).neg
  · exact simp_QB (by grind) hab h1 h2
theorem within_some {a b : NQ} {x y : Rat} (ha : QV 10000 a x) (hb : QV 10000 b y) (h0 : 0 ≤ x) (hab : x < y) : F_rational_within a b = some (dr (simp x y)) := by
  refine gif_some.2 ⟨⟨⟨ha.1, ?_⟩, ⟨hb.1, ?_⟩, ?_, ?_⟩, ?_⟩
  · rw [ha.2.1]; exact ha.2.2
  · rw [hb.2.1]; exact hb.2.2
  · rw [ha.2.1]; exact h0
  · rw [ha.2.1, hb.2.1]; exact hab
  · rw [ha.2.1, hb.2.1]
theorem Rn_rational_Simplest : Run_rational_Simplest := fun s3 s24 k3 k24 a b => Ok.gif fun ⟨hA, hB⟩ => by
  have va : QV 10000 a (rv a) := ⟨hA.1, rfl, hA.2⟩
  have vb : QV 10000 b (rv b) := ⟨hB.1, rfl, hB.2⟩
  clear hA hB
  generalize rv a = x at *
  generalize rv b = y at *
  simp only [T_rational_Simplest]
  rw [V.cmp va vb]
  simp only [Option.bind_some]
  by_cases h : y ≤ x
  · rw [if_pos h]
    refine Ev.congr (fun m => ?_) Ev.ret
    rw [if_pos (by rw [decide_eq_true_eq]; exact rcm_ge0.2 h)]
  · rw [if_neg h]
    have hab : x < y := by grind
    have nx : QV 10000 (dr (-x)) (-x) := QV.dr va.2.2.neg (by omega)
    have ny : QV 10000 (dr (-y)) (-y) := QV.dr vb.2.2.neg (by omega)
    have key : ∀ f : Bool, f = decide (x < 0 ∧ 0 < y) → Ev (fun m => s24 m f a b ((false, ([] : List Int)), ([] : List Int)) ((false, ([] : List Int)), ([] : List Int))) (dr (simpG x y), 0) := by
      intro f hf
      subst hf
      by_cases h1 : x < 0
      · by_cases h2 : 0 < y
        · refine Ev.step (t := fun m => s3 m ((false, ([] : List Int)), ([] : List Int)) (dr ((0 : Int) : Rat))) (fun m => ?_) (Ev.step (t := fun _ => some (dr ((0 : Int) : Rat), 0)) (fun m => ?_) ?_)
          · rw [k24]; unfold S_rational_Simplest_24
            rw [if_pos (by simp [h1, h2]), Of_bind (by omega)]
          · rw [k3]; rfl
          · have : simpG x y = ((0 : Int) : Rat) := by unfold simpG; rw [if_pos h1, if_pos h2]; rfl
            rw [this]; exact Ev.ret
        · refine Ev.step (t := fun _ => some (dr (simpG x y), 0)) (fun m => ?_) Ev.ret
          have e : simpG x y = -(simp (-y) (-x)) := by unfold simpG; rw [if_pos h1, if_neg h2]
          have qs := simp_QB (a := -y) (b := -x) (by grind) (by grind) vb.2.2.neg va.2.2.neg
          rw [k24]; unfold S_rational_Simplest_24
          rw [if_neg (by simp [h2]), V.sign va, Option.bind_some, if_pos (by rw [decide_eq_true_eq]; exact rsg_lt0.2 h1), V.neg vb, Option.bind_some, V.neg va, Option.bind_some, within_some ny nx (by grind) (by grind), Option.bind_some, if_pos (by rw [decide_eq_true_eq]; exact rsg_lt0.2 h1), V.neg (QV.dr qs (by omega)), Option.bind_some, e]
      · refine Ev.step (t := fun _ => some (dr (simpG x y), 0)) (fun m => ?_) Ev.ret
        have e : simpG x y = simp x y := by unfold simpG; rw [if_neg h1]
        rw [k24]; unfold S_rational_Simplest_24
        rw [if_neg (by simp [h1]), V.sign va, Option.bind_some, if_neg (by rw [decide_eq_true_eq, rsg_lt0]; exact h1), within_some va vb (by grind) hab, Option.bind_some, if_neg (by rw [decide_eq_true_eq, rsg_lt0]; exact h1), e]
    by_cases h1 : x < 0
    · refine Ev.congr (fun m => ?_) (key (decide (0 < y)) (by simp [h1]))
      rw [if_neg (by rw [decide_eq_true_eq, rcm_ge0]; exact h), V.sign va, Option.bind_some, if_pos (by rw [decide_eq_true_eq]; exact rsg_lt0.2 h1), V.sign vb, Option.bind_some]
      congr 1
      rw [decide_eq_decide]; exact rsg_gt0
    · refine Ev.congr (fun m => ?_) (key false (by simp [h1]))
      rw [if_neg (by rw [decide_eq_true_eq, rcm_ge0]; exact h), V.sign va, Option.bind_some, if_neg (by rw [decide_eq_true_eq, rsg_lt0]; exact h1)]
theorem Simplest_some {a b : NQ} {x y : Rat} (ha : QV 10000 a x) (hb : QV 10000 b y) : F_rational_Simplest a b = some (if y ≤ x then (((false, []), []), 4) else (dr (simpG x y), 0)) := by
  refine gif_some.2 ⟨⟨⟨ha.1, ?_⟩, ⟨hb.1, ?_⟩⟩, ?_⟩
  · rw [ha.2.1]; exact ha.2.2
  · rw [hb.2.1]; exact hb.2.2
  · rw [ha.2.1, hb.2.1]
end Go.W

set_option linter.unusedVariables false
set_option linter.unusedSimpArgs false
namespace Go.W

end Go.W

set_option linter.unusedVariables false
set_option linter.unusedSimpArgs false
namespace Go.W

end Go.W

set_option linter.unusedVariables false
set_option linter.unusedSimpArgs false
namespace Go.W

theorem few5_some {n : Int} {a b c : NQ} : F_law05_few n a b c = some (decide ((a.1.2.length : Int) ≤ n ∧ (a.2.length : Int) ≤ n ∧ (b.1.2.length : Int) ≤ n ∧ (b.2.length : Int) ≤ n ∧ (c.1.2.length : Int) ≤ n ∧ (c.2.length : Int) ≤ n)) := gif_pos trivial
end Go.W

set_option linter.unusedVariables false
set_option linter.unusedSimpArgs false
namespace Go.W

theorem Rn_law05_RationalNarrows : Run_law05_RationalNarrows := fun s8 s24 k8 k24 a b c => Ok.gif fun ⟨hA, hB, hC⟩ => by
  have bad : Ev (fun m => s8 m true a b c) true := by
    refine Ev.step (t := fun _ => some true) (fun m => ?_) Ev.ret
    rw [k8]; unfold S_law05_RationalNarrows_8
    rw [if_pos rfl, awake_some]; rfl
  simp only [T_law05_RationalNarrows, awake_some, few5_some, Option.bind_some, Bool.not_true, Bool.false_eq_true, if_false]
  by_cases hf : ((a.1.2.length : Int) ≤ 3 ∧ (a.2.length : Int) ≤ 3 ∧ (b.1.2.length : Int) ≤ 3 ∧ (b.2.length : Int) ≤ 3 ∧ (c.1.2.length : Int) ≤ 3 ∧ (c.2.length : Int) ≤ 3)
  · rw [decide_eq_true hf]
    have qa := hA.qq hf.1 hf.2.1 (by omega)
    have qb := hB.qq hf.2.2.1 hf.2.2.2.1 (by omega)
    have qc := hC.qq hf.2.2.2.2.1 hf.2.2.2.2.2 (by omega)
    have va := QV.of qa (m := 3) (by omega) (by omega) (by omega)
    have vb := QV.of qb (m := 3) (by omega) (by omega) (by omega)
    have vc := QV.of qc (m := 3) (by omega) (by omega) (by omega)
    generalize rv a = x at *
    generalize rv b = y at *
    generalize rv c = z at *
    simp only [Bool.not_true, Bool.false_eq_true, if_false]
    rw [V.cmp va vb]
    simp only [Option.bind_some]
    by_cases h : y ≤ x
    · rw [decide_eq_true (rcm_ge0.2 h)]; exact bad
    · have hab : x < y := by grind
      rw [decide_eq_false (by rw [rcm_ge0]; exact h)]
      have qs := simpG_QB hab va.2.2 vb.2.2
      have vs : QV 200 (dr (simpG x y)) (simpG x y) := QV.dr (qs.mono (by omega)) (by omega)
      have vsn : QV 200 (dr (-(simpG x y))) (-(simpG x y)) := QV.dr (vs.2.2.neg) (by omega)
      have nx : QV 96 (dr (-x)) (-x) := QV.dr va.2.2.neg (by omega)
      have ny : QV 96 (dr (-y)) (-y) := QV.dr vb.2.2.neg (by omega)
      refine Ev.step (t := fun m => s24 m false a b c (dr (simpG x y))) (fun m => ?_) (Ev.step (t := fun _ => some true) (fun m => ?_) Ev.ret)
      · rw [k8]; unfold S_law05_RationalNarrows_8
        rw [if_neg (by decide), Simplest_some (va.m (by omega)) (vb.m (by omega)), Option.bind_some, V.neg vb, Option.bind_some, V.neg va, Option.bind_some, Simplest_some (ny.m (by omega)) (nx.m (by omega)), Option.bind_some]
        simp only [if_neg h]
        rw [if_neg (show ¬ -x ≤ -y by grind), simpG_neg hab]
        rw [if_neg (by decide)]
        simp only [bne_self_eq_false, Bool.false_eq_true, if_false]
        rw [V.neg vs, Option.bind_some, V.same vsn vsn, Option.bind_some]
        simp
      · rw [k24]; unfold S_law05_RationalNarrows_24
        rw [if_neg (by decide), V.cmp vc va, Option.bind_some]
        by_cases h1 : z ≤ x
        · rw [if_pos (by
            rw [decide_eq_true_eq]
            have := @rcm_gt0 z x
            have h2 : ¬ x < z := by grind
            rw [← this] at h2
            omega)]
        · rw [if_neg (by
            rw [decide_eq_true_eq]
            have := (@rcm_gt0 z x).2 (by grind)
            omega), V.cmp vc vs, Option.bind_some]
          by_cases h2 : simpG x y ≤ z
          · rw [if_pos (by rw [decide_eq_true_eq]; exact rcm_ge0.2 h2)]
          · have hin := simpG_in hab
            rw [if_neg (by rw [decide_eq_true_eq, rcm_ge0]; exact h2), Simplest_some (vc.m (by omega)) (vb.m (by omega)), Option.bind_some, if_neg (show ¬ y ≤ z by grind), simpG_narrow hab (by grind) (by grind), if_pos (by simp), V.same vs vs, Option.bind_some]
            simp
  · rw [decide_eq_false hf]; exact bad
end Go.W

set_option linter.unusedVariables false
set_option linter.unusedSimpArgs false
namespace Go.W
open Go.Proofs Go.Shelf Go.RowKit Go.Lib Go.Sort

abbrev encU : Int → Value := fun x => Value.int .u8 x

set_option maxHeartbeats 1600000 in
set_option maxRecDepth 1000000 in
theorem reverse_arr (blk off cap : Nat) (d : Array Int) (w : World) (hH : Holds encU w blk off d) (hsz : d.size ≤ 9223372036854775807) :
    Calls Try.prog 171 #[.slice (some ⟨blk, off, none⟩) d.size cap] w fun e w' => e = .returned (.tuple #[]) ∧ ∃ n, w' = putRow encU (Sort.ahead w n) blk off d.reverse := by
  have mixed : Try.prog.follows .mixedOrders = true := by kernel_rfl
  go_enter Try.func171, Try.ntmps171
  go_wp2
  go_loopg [2, 3] d.size (fun k s2 s3 wr => ∃ (i jn : Nat) (jz : Int) (dk : Array Int) (n : Nat), s2 = .int .i64 i ∧ s3 = .int .i64 jz ∧ ((i : Int) < jz → jz = jn ∧ jn < d.size) ∧ (¬ (i : Int) < jz → ¬ i < jn) ∧ jn - i ≤ k ∧
    dk.size = d.size ∧ wr = putRow encU (Sort.ahead w n) blk off dk ∧ reverseLoop i jn dk = reverseLoop 0 (d.size - 1) d)
  case atStart => exact ⟨0, d.size - 1, (d.size : Int) - 1, d, 0, rfl, rfl, fun h => ⟨by omega, by omega⟩, fun h => by omega, by omega, rfl, (putRow_self encU w blk off d hH).symm, rfl⟩
  case round =>
    obtain ⟨i, jn, jz, dk, n, rfl, rfl, h1, h2, hk, hds, hwr, heq⟩ := hrel
    by_cases hlt : (i : Int) < jz
    · obtain ⟨rfl, hjn⟩ := h1 hlt
      have hij : i < jn := by omega
      have hHk : Holds encU wr blk off dk := by rw [hwr]; exact holds_putRow encU _ blk off d dk (holds_ahead encU w n blk off d hH) hds
      obtain ⟨ci, fi⟩ := hHk i (by omega)
      obtain ⟨cj, fj⟩ := hHk jn (by omega)
      have A : Aside (wr = putRow encU (Sort.ahead w n) blk off dk) := hwr
      clear hwr hHk hH h1 h2
      go_wp2_with fail
      go_region_o
      go_wp2
      go_roundg (jn - 1 - (i + 1))
      case measure => omega
      case rel =>
        rw [reverseLoop, if_pos hij] at heq
        exact ⟨i + 1, jn - 1, (jn : Int) - 1, swp dk i jn, n + 1, by simp, rfl, fun h => ⟨by omega, by omega⟩, fun h => by omega, Nat.le_refl _, by rw [size_swp]; exact hds,
          swap_world encU (by omega) (by omega) A.out (by first | rfl | simp [encU, getElem!_pos, show jn < dk.size by omega]) (by first | rfl | simp [encU, getElem!_pos, show i < dk.size by omega]), heq⟩
    · have hnot := h2 hlt
      go_wp2
      go_end0
      refine ⟨rfl, n, ?_⟩
      rw [reverseLoop, if_neg hnot] at heq
      rw [← Lib.reverseLoop_reverse, ← heq]

set_option maxHeartbeats 1000000 in
theorem reverse_empty (a : Option Addr) (cap : Nat) (w : World) :
    Calls Try.prog 171 #[.slice a 0 cap] w fun e w' => e = .returned (.tuple #[]) ∧ w' = w := by
  have mixed : Try.prog.follows .mixedOrders = true := by kernel_rfl
  go_enter Try.func171, Try.ntmps171
  go_wp2
  go_loopg [2, 3] 0 (fun _ s2 s3 wr => s2 = .int .i64 0 ∧ s3 = .int .i64 (-1) ∧ wr = w)
  case atStart => exact ⟨rfl, rfl, rfl⟩
  case round =>
    obtain ⟨rfl, rfl, rfl⟩ := hrel
    go_wp2
    go_end0
    exact ⟨rfl, rfl⟩

theorem heap_putRow {α : Type} [Inhabited α] (enc : α → Value) (w : World) (blk off : Nat) (d : Array α) (g : Nat) : (putRow enc w blk off d).heap[g]? = if g = blk then (w.heap[g]?).map fun o => match o with
    | .cells c eT fr => .cells (putCells enc off d c) eT fr
    | o => o else w.heap[g]? := by
  unfold putRow mapBlock
  simp only [Array.getElem?_modify]
  split
  · rename_i h; subst h; simp
    cases w.heap[blk]? with
    | none => rfl
    | some o => cases o <;> rfl
  · rename_i h; rw [if_neg (fun e => h e.symm)]

theorem os_slices_Reverse : OSound Try.prog 171 [] false (.int .u8) .unit (fun τ l => O_slices_Reverse l) := by
  intro τ l r hr w ok mg vs v hok hmg hargs hbr hv
  have hvs : vs = [] := hargs
  subst hvs
  change gif (l.length ≤ 8796093022208) (l.reverse, ()) = some r at hr
  unfold gif at hr
  split at hr
  · rename_i hl
    injection hr with hr
    subst hr
    obtain ⟨ob, hob, hv⟩ := hv
    have hob' : ob = some ⟨.int .u8, l, false⟩ := by
      simp only [ownPV, lk_cons, if_true] at hob
      injection hob with hob; exact hob.symm
    obtain ⟨A, cap, rfl, hcap, hv⟩ := hv _ hob'
    simp only [toL] at hv hcap hbr
    simp only [List.nil_append, toL]
    have fin : ∀ w', Fr (fun g => mg = some g) w w' → BRep w' (fun g => (ok g ∨ w.heap.size ≤ g) ∧ g < w'.heap.size ∧ mg ≠ some g) mg ⟨.int .u8, l.reverse, false⟩ →
        ∃ xs, Ending.returned (.tuple #[]) = .returned (retV xs) ∧ Fr (fun g => mg = some g) w w' ∧ BRep w' (fun g => (ok g ∨ w.heap.size ≤ g) ∧ g < w'.heap.size ∧ mg ≠ some g) mg ⟨.int .u8, l.reverse, false⟩ ∧
      xs.length = (resO (.int .u8) 20000 .unit ()).length ∧
      ∀ (j : Nat) p u, (resO (.int .u8) 20000 .unit ())[j]? = some p → xs[j]? = some u → RepPV (fun g => ok g ∨ mg = some g ∨ w.heap.size ≤ g) w' (fun _ => mg) (lk [(20000, some ⟨.int .u8, l.reverse, false⟩)]) p u :=
      fun w' h1 h2 => ⟨[], rfl, h1, h2, rfl, fun j p u hj => by simp [resO] at hj⟩
    by_cases hz : l = []
    · subst hz
      refine (reverse_empty A cap w).mono fun x w' ⟨hx, hw⟩ => ?_
      subst hx hw
      refine fin _ (.refl _ _) ?_
      unfold BRep at hbr ⊢
      cases mg with
      | none => rfl
      | some g =>
        obtain ⟨c, eT, h1, h2, h3⟩ := hbr
        exact ⟨c, eT, h1, h2, fun i h => by simp at h⟩
    · have hpos : 0 < l.length := List.length_pos_iff.mpr hz
      cases mg with
      | none => exact absurd hbr hz
      | some g =>
        obtain ⟨o, rfl, h0, _, _⟩ := hv
        obtain rfl := h0 trivial
        obtain ⟨c, eT, hg, hsz, hc⟩ := hbr
        simp only [Ty.size, Nat.mul_one] at hsz hc
        have hcell : ∀ i, i < l.length → c[i]? = some (.int .u8 (l.getD i 0)) := fun i hi => by
          obtain ⟨es, he, hj⟩ := hc i hi
          have he : es = [.int .u8 l[i]] := he
          have := hj 0 _ (by rw [he]; rfl)
          simp only [Nat.add_zero] at this
          rw [this]; simp [List.getD, hi]
        have hH : Holds encU w g 0 l.toArray := fun j hj => by
          have hj' : j < l.length := by simpa using hj
          have hjc : j < c.size := by omega
          have h1 := hcell j hj'
          constructor
          · simp [World.cell?, hg, h1, encU, List.getD, hj']
          · simp [World.frozen?, hg]
        have hs : (Value.slice (some ⟨g, 0, none⟩) l.length cap) = .slice (some ⟨g, 0, none⟩) l.toArray.size cap := by simp
        rw [hs]
        refine (reverse_arr g 0 cap l.toArray w hH (by simp; omega)).mono fun x w' ⟨hx, n, hw⟩ => ?_
        subst hx
        have hhp : ∀ k, w'.heap[k]? = if k = g then some (.cells (putCells encU 0 l.toArray.reverse c) eT (0, 0)) else w.heap[k]? := fun k => by
          rw [hw, heap_putRow]
          split
          · rename_i h; subst h
            rw [heap_ahead, hg]; rfl
          · rfl
        have hpc : (putCells encU 0 l.toArray.reverse c).size = c.size := by simp [putCells]
        refine fin w' ⟨by rw [hw]; rfl, by rw [hw]; rfl, by rw [hw]; rfl, by rw [hw, size_putRow]; exact Nat.le_refl _, fun k hk hn => ?_, fun k c' eT' fr' hk hc' => ?_⟩ ?_
        · rw [hhp, if_neg]; intro e; exact hn (by rw [e])
        · rw [hhp] at hc'
          split at hc'
          · rename_i h; subst h
            injection hc' with hc'; injection hc' with e1 e2 e3
            exact ⟨c, eT, (0,0), hg, by rw [← e1, hpc]; exact Nat.le_refl _⟩
          · exact ⟨c', eT', fr', hc', Nat.le_refl _⟩
        · refine ⟨_, eT, by rw [hhp, if_pos rfl], by rw [hpc]; simpa [Ty.size] using hsz, fun i hi => ⟨[.int .u8 l.reverse[i]], rfl, fun j v hj => ?_⟩⟩
          have hi' : i < l.length := by simpa using hi
          cases j with
          | zero =>
            simp only [List.getElem?_cons_zero, Option.some.injEq] at hj
            subst hj
            have hic : i < c.size := by omega
            simp [Ty.size, putCells, hic, hi', encU]
          | succ j => simp at hj
  · cases hr
end Go.W

set_option linter.unusedVariables false
set_option linter.unusedSimpArgs false
namespace Go.W
open Go.Proofs Go.Shelf Go.RowKit Go.Lib

theorem ixL_eq (c : Int) (h0 : 0 ≤ c) (h1 : c < 256) : ∀ l : List UInt8, Lib.indexByte l c.toNat.toUInt8 = ixL (l.map fun b => (b.toNat : Int)) c
  | [] => rfl
  | b :: l => by
    have e : (b == c.toNat.toUInt8) = decide ((b.toNat : Int) = c) := by
      rw [Bool.eq_iff_iff, beq_iff_eq, decide_eq_true_eq, ← UInt8.toNat_inj]
      have : (c.toNat.toUInt8).toNat = c.toNat := by simp; omega
      rw [this]; omega
    rw [Lib.indexByte, List.map_cons, ixL, ← ixL_eq c h0 h1 l, e]
    by_cases h : (b.toNat : Int) = c
    · rw [if_pos (decide_eq_true h), if_pos h]
    · rw [if_neg (by rw [decide_eq_true_eq]; exact h), if_neg h]
      by_cases h' : Lib.indexByte l c.toNat.toUInt8 = -1
      · rw [if_pos (by rw [beq_iff_eq]; exact h'), if_pos h']
      · rw [if_neg (by rw [beq_iff_eq]; exact h'), if_neg h']

set_option maxHeartbeats 1000000 in
set_option maxRecDepth 100000 in
theorem indexByte_calls (s : ByteArray) (c : Int) (w : World) :
    Calls Try.prog 185 #[.string s, .int .u8 c] w fun e w' => e = .returned (.int .i64 (Lib.indexByte s.data.toList c.toNat.toUInt8)) ∧ w' = w := by
  have mixed : Try.prog.follows .mixedOrders = true := by kernel_rfl
  go_enter Try.func185, Try.ntmps185
  go_wp2
  rw [run_callFunc_extern Try.func192 (by kernel_rfl) (by kernel_rfl) (by kernel_rfl) (e := Extern.BytealgIndexByte.indexByte) (by kernel_rfl), Lib.run_indexByteString]
  simp only [Result.andThen]
  rw [Oper.upon_value]
  go_wp2
  go_ret
  exact ⟨rfl, rfl⟩

theorem fs_stringslite_IndexByte : FSound Try.prog 185 [.str, .int .u8] [(.int .i64, false)] (fun τ => F_stringslite_IndexByte τ.1 τ.2.1) := by
  intro τ r hr w ok vs hok hargs
  obtain ⟨s, c, ⟨⟩⟩ := τ
  obtain ⟨v1, vs1, rfl, ⟨cs1, h1, hx1⟩, v2, vs2, rfl, ⟨cs2, h2, hx2⟩, hnil⟩ := hargs
  have hnil : vs2 = [] := hnil
  subst hnil
  have h1 : cs1 = [.string s] := h1
  have h2 : cs2 = [.int .u8 c] := h2
  subst h1 h2
  have e1 : v1 = .string s := by
    rcases hx1 with ⟨h, _⟩ | ⟨_, h⟩
    · cases h
    · injection h with h _; exact h.symm
  have e2 : v2 = .int .u8 c := by
    rcases hx2 with ⟨h, _⟩ | ⟨_, h⟩
    · cases h
    · injection h with h _; exact h.symm
  subst e1 e2
  obtain ⟨⟨c0, c1⟩, hr⟩ := gif_some.1 (show gif (0 ≤ c ∧ c < 256) (ixL (toB s) c) = some r from hr)
  refine (indexByte_calls s c w).mono fun x w' ⟨hx, hw⟩ => ?_
  subst hx hw
  rw [ixL_eq c c0 c1]
  have hres : ResRep w' (fun g => (ok g ∨ w'.heap.size ≤ g) ∧ g < w'.heap.size) none w'.heap.size (enc [(Ty.int IntKind.i64, false)] r) [Value.int IntKind.i64 (ixL (toB s) c)] := by
    rw [← hr]
    exact ⟨_, [], rfl, ⟨_, rfl, .inr ⟨rfl, rfl⟩⟩, rfl⟩
  exact ⟨[.int .i64 (ixL (toB s) c)], none, rfl, .refl _ _, (by intro g h; cases h), hres⟩
end Go.W

