/- A part of the proof: texts Df, M2, M3, P1, P2, P3, P4, P5, P6, P7, P8, P9, P10, P11, P12, P13, P14, P15, P16, Sp2, Sp3, Sp4, Df2, P17, P18, P19, P20, Sp5, Df3, P21, M4, Sp8. What is proved in the end stands in the last file. -/
import Derived.Test.YtedncdlpemnpaaaIs2
import Derived.Laws.BitsAllLaws
import Derived.Laws.BitsLemmas
import Derived.Laws.Bits64
set_option linter.unusedVariables false
set_option linter.unusedSimpArgs false
set_option linter.unusedSectionVars false
set_option linter.unusedVariables false
namespace Go.W
noncomputable section

/-! math/bits.Add32 -/
def T_bits_Add32 (a0 : Int) (a1 : Int) (a2 : Int) : Option (Int × Int) :=
  let v1 : Int := (IntKind.wrap .u64 ((IntKind.wrap .u64 ((IntKind.wrap .u64 a0) + (IntKind.wrap .u64 a1))) + (IntKind.wrap .u64 a2)))
  if (32 : Int) < 0 then none else
  let v2 : Int := (IntKind.wrap .u32 (Int.fdiv v1 (2 ^ (min (Int.toNat (32 : Int)) (IntKind.bits .u64)))))
  some ((IntKind.wrap .u32 v1), v2)
def Run_bits_Add32 : Prop := ∀ a0 : Int, ∀ a1 : Int, ∀ a2 : Int, Ok (F_bits_Add32 a0 a1 a2) (fun _ => T_bits_Add32 a0 a1 a2)

/-! math/bits.Div32 -/
def T_bits_Div32 (s8 : Int → Int → Int → Bool → Option ((Int × Int))) (a0 : Int) (a1 : Int) (a2 : Int) : Option (Int × Int) :=
  if (a2 != (0 : Int)) = true then
    s8 a0 a1 a2 (decide (a2 ≤ a0))
  else
    s8 a0 a1 a2 false
def S_bits_Div32_8 (s8 : Int → Int → Int → Bool → Option ((Int × Int))) (x0 : Int) (x1 : Int) (x2 : Int) (x15 : Bool) : Option (Int × Int) :=
  if x15 = true then
    none
  else
    if (32 : Int) < 0 then none else
    let v1 : Int := (IntKind.wrap .u64 ((IntKind.wrap .u64 x0) * 2 ^ (min (Int.toNat (32 : Int)) (IntKind.bits .u64))))
    let v2 : Int := (IntKind.wrap .u64 ((BitVec.toNat ((BitVec.ofInt (IntKind.bits .u64) v1) ||| (BitVec.ofInt (IntKind.bits .u64) (IntKind.wrap .u64 x1))) : Nat) : Int))
    if (IntKind.wrap .u64 x2) = 0 then none else
    let v3 : Int := (IntKind.wrap .u32 (IntKind.wrap .u64 (Int.tdiv v2 (IntKind.wrap .u64 x2))))
    if (IntKind.wrap .u64 x2) = 0 then none else
    some (v3, (IntKind.wrap .u32 (Int.tmod v2 (IntKind.wrap .u64 x2))))
def Run_bits_Div32 : Prop := ∀ s8 : Nat → Int → Int → Int → Bool → Option ((Int × Int)), (∀ m x0 x1 x2 x15, s8 (m + 1) x0 x1 x2 x15 = S_bits_Div32_8 (s8 m) x0 x1 x2 x15) → ∀ a0 : Int, ∀ a1 : Int, ∀ a2 : Int, Ok (F_bits_Div32 a0 a1 a2) (fun m => T_bits_Div32 (s8 m) a0 a1 a2)

/-! math/bits.Div64 -/
def T_bits_Div64 (s69 : Int → Int → Int → Int → Int → Int → Int → Int → Int → Option ((Int × Int))) (s72 : Int → Int → Int → Int → Int → Int → Int → Int → Int → Option ((Int × Int))) (s97 : Int → Int → Int → Int → Int → Int → Int → Int → Int → Option ((Int × Int))) (s100 : Int → Int → Int → Int → Int → Int → Int → Int → Int → Option ((Int × Int))) (a0 : Int) (a1 : Int) (a2 : Int) : Option (Int × Int) :=
  if (a2 == (0 : Int)) = true then
    none
  else
    if (decide (a2 ≤ a0)) = true then
      none
    else
      if (a0 == (0 : Int)) = true then
        if a2 = 0 then none else
        if a2 = 0 then none else
        some ((IntKind.wrap .u64 (Int.tdiv a1 a2)), (Int.tmod a1 a2))
      else
        (F_bits_LeadingZeros64 a2).bind fun r1 =>
        if (IntKind.wrap .u64 r1) < 0 then none else
        let v2 : Int := (IntKind.wrap .u64 (a2 * 2 ^ (min (Int.toNat (IntKind.wrap .u64 r1)) (IntKind.bits .u64))))
        if (32 : Int) < 0 then none else
        let v3 : Int := (IntKind.wrap .u64 ((BitVec.toNat ((BitVec.ofInt (IntKind.bits .u64) v2) &&& (BitVec.ofInt (IntKind.bits .u64) (4294967295 : Int))) : Nat) : Int))
        if (IntKind.wrap .u64 r1) < 0 then none else
        let v4 : Int := (IntKind.wrap .u64 (a0 * 2 ^ (min (Int.toNat (IntKind.wrap .u64 r1)) (IntKind.bits .u64))))
        if (IntKind.wrap .u64 ((64 : Int) - (IntKind.wrap .u64 r1))) < 0 then none else
        let v5 : Int := (Int.fdiv a1 (2 ^ (min (Int.toNat (IntKind.wrap .u64 ((64 : Int) - (IntKind.wrap .u64 r1)))) (IntKind.bits .u64))))
        let v6 : Int := (IntKind.wrap .u64 ((BitVec.toNat ((BitVec.ofInt (IntKind.bits .u64) v4) ||| (BitVec.ofInt (IntKind.bits .u64) v5)) : Nat) : Int))
        if (IntKind.wrap .u64 r1) < 0 then none else
        let v7 : Int := (IntKind.wrap .u64 (a1 * 2 ^ (min (Int.toNat (IntKind.wrap .u64 r1)) (IntKind.bits .u64))))
        if (32 : Int) < 0 then none else
        let v8 : Int := (IntKind.wrap .u64 ((BitVec.toNat ((BitVec.ofInt (IntKind.bits .u64) v7) &&& (BitVec.ofInt (IntKind.bits .u64) (4294967295 : Int))) : Nat) : Int))
        if (Int.fdiv v2 (2 ^ (min (Int.toNat (32 : Int)) (IntKind.bits .u64)))) = 0 then none else
        let v9 : Int := (IntKind.wrap .u64 (Int.tdiv v6 (Int.fdiv v2 (2 ^ (min (Int.toNat (32 : Int)) (IntKind.bits .u64))))))
        let v10 : Int := (IntKind.wrap .u64 (v9 * (Int.fdiv v2 (2 ^ (min (Int.toNat (32 : Int)) (IntKind.bits .u64))))))
        s69 v2 (IntKind.wrap .u64 r1) (Int.fdiv v2 (2 ^ (min (Int.toNat (32 : Int)) (IntKind.bits .u64)))) v3 v6 (Int.fdiv v7 (2 ^ (min (Int.toNat (32 : Int)) (IntKind.bits .u64)))) v8 v9 (IntKind.wrap .u64 (v6 - v10))
def S_bits_Div64_69 (s69 : Int → Int → Int → Int → Int → Int → Int → Int → Int → Option ((Int × Int))) (s72 : Int → Int → Int → Int → Int → Int → Int → Int → Int → Option ((Int × Int))) (s97 : Int → Int → Int → Int → Int → Int → Int → Int → Int → Option ((Int × Int))) (s100 : Int → Int → Int → Int → Int → Int → Int → Int → Int → Option ((Int × Int))) (x2 : Int) (x8 : Int) (x9 : Int) (x10 : Int) (x11 : Int) (x13 : Int) (x14 : Int) (x15 : Int) (x16 : Int) : Option (Int × Int) :=
  if (decide (x15 ≥ (4294967296 : Int))) = true then
    s72 x2 x8 x9 x10 x11 x13 x14 x15 x16
  else
    let v1 : Int := (IntKind.wrap .u64 ((IntKind.wrap .u64 ((4294967296 : Int) * x16)) + x13))
    if (decide ((IntKind.wrap .u64 (x15 * x10)) > v1)) = true then
      s72 x2 x8 x9 x10 x11 x13 x14 x15 x16
    else
      let v2 : Int := (IntKind.wrap .u64 ((IntKind.wrap .u64 (x11 * (4294967296 : Int))) + x13))
      if x9 = 0 then none else
      let v3 : Int := (IntKind.wrap .u64 (Int.tdiv (IntKind.wrap .u64 (v2 - (IntKind.wrap .u64 (x15 * x2)))) x9))
      let v4 : Int := (IntKind.wrap .u64 ((IntKind.wrap .u64 (v2 - (IntKind.wrap .u64 (x15 * x2)))) - (IntKind.wrap .u64 (v3 * x9))))
      s97 x2 x8 x9 x10 x14 x15 v4 (IntKind.wrap .u64 (v2 - (IntKind.wrap .u64 (x15 * x2)))) v3
def S_bits_Div64_72 (s69 : Int → Int → Int → Int → Int → Int → Int → Int → Int → Option ((Int × Int))) (s72 : Int → Int → Int → Int → Int → Int → Int → Int → Int → Option ((Int × Int))) (s97 : Int → Int → Int → Int → Int → Int → Int → Int → Int → Option ((Int × Int))) (s100 : Int → Int → Int → Int → Int → Int → Int → Int → Int → Option ((Int × Int))) (x2 : Int) (x8 : Int) (x9 : Int) (x10 : Int) (x11 : Int) (x13 : Int) (x14 : Int) (x15 : Int) (x16 : Int) : Option (Int × Int) :=
  if (decide ((IntKind.wrap .u64 (x16 + x9)) ≥ (4294967296 : Int))) = true then
    let v1 : Int := (IntKind.wrap .u64 ((IntKind.wrap .u64 (x11 * (4294967296 : Int))) + x13))
    let v2 : Int := (IntKind.wrap .u64 (v1 - (IntKind.wrap .u64 ((IntKind.wrap .u64 (x15 - (1 : Int))) * x2))))
    if x9 = 0 then none else
    let v3 : Int := (IntKind.wrap .u64 (v2 - (IntKind.wrap .u64 ((IntKind.wrap .u64 (Int.tdiv v2 x9)) * x9))))
    s97 x2 x8 x9 x10 x14 (IntKind.wrap .u64 (x15 - (1 : Int))) v3 v2 (IntKind.wrap .u64 (Int.tdiv v2 x9))
  else
    s69 x2 x8 x9 x10 x11 x13 x14 (IntKind.wrap .u64 (x15 - (1 : Int))) (IntKind.wrap .u64 (x16 + x9))
def S_bits_Div64_97 (s69 : Int → Int → Int → Int → Int → Int → Int → Int → Int → Option ((Int × Int))) (s72 : Int → Int → Int → Int → Int → Int → Int → Int → Int → Option ((Int × Int))) (s97 : Int → Int → Int → Int → Int → Int → Int → Int → Int → Option ((Int × Int))) (s100 : Int → Int → Int → Int → Int → Int → Int → Int → Int → Option ((Int × Int))) (x2 : Int) (x8 : Int) (x9 : Int) (x10 : Int) (x14 : Int) (x15 : Int) (x16 : Int) (x17 : Int) (x18 : Int) : Option (Int × Int) :=
  if (decide (x18 ≥ (4294967296 : Int))) = true then
    s100 x2 x8 x9 x10 x14 x15 x16 x17 x18
  else
    let v1 : Int := (IntKind.wrap .u64 ((IntKind.wrap .u64 ((4294967296 : Int) * x16)) + x14))
    if (decide ((IntKind.wrap .u64 (x18 * x10)) > v1)) = true then
      s100 x2 x8 x9 x10 x14 x15 x16 x17 x18
    else
      let v2 : Int := (IntKind.wrap .u64 ((IntKind.wrap .u64 (x15 * (4294967296 : Int))) + x18))
      let v3 : Int := (IntKind.wrap .u64 ((IntKind.wrap .u64 (x17 * (4294967296 : Int))) + x14))
      if x8 < 0 then none else
      let v4 : Int := (Int.fdiv (IntKind.wrap .u64 (v3 - (IntKind.wrap .u64 (x18 * x2)))) (2 ^ (min (Int.toNat x8) (IntKind.bits .u64))))
      some (v2, v4)
def S_bits_Div64_100 (s69 : Int → Int → Int → Int → Int → Int → Int → Int → Int → Option ((Int × Int))) (s72 : Int → Int → Int → Int → Int → Int → Int → Int → Int → Option ((Int × Int))) (s97 : Int → Int → Int → Int → Int → Int → Int → Int → Int → Option ((Int × Int))) (s100 : Int → Int → Int → Int → Int → Int → Int → Int → Int → Option ((Int × Int))) (x2 : Int) (x8 : Int) (x9 : Int) (x10 : Int) (x14 : Int) (x15 : Int) (x16 : Int) (x17 : Int) (x18 : Int) : Option (Int × Int) :=
  if (decide ((IntKind.wrap .u64 (x16 + x9)) ≥ (4294967296 : Int))) = true then
    let v1 : Int := (IntKind.wrap .u64 ((IntKind.wrap .u64 (x15 * (4294967296 : Int))) + (IntKind.wrap .u64 (x18 - (1 : Int)))))
    let v2 : Int := (IntKind.wrap .u64 ((IntKind.wrap .u64 (x17 * (4294967296 : Int))) + x14))
    let v3 : Int := (IntKind.wrap .u64 (v2 - (IntKind.wrap .u64 ((IntKind.wrap .u64 (x18 - (1 : Int))) * x2))))
    if x8 < 0 then none else
    some (v1, (Int.fdiv v3 (2 ^ (min (Int.toNat x8) (IntKind.bits .u64)))))
  else
    s97 x2 x8 x9 x10 x14 x15 (IntKind.wrap .u64 (x16 + x9)) x17 (IntKind.wrap .u64 (x18 - (1 : Int)))
def Run_bits_Div64 : Prop := ∀ s69 : Nat → Int → Int → Int → Int → Int → Int → Int → Int → Int → Option ((Int × Int)), ∀ s72 : Nat → Int → Int → Int → Int → Int → Int → Int → Int → Int → Option ((Int × Int)), ∀ s97 : Nat → Int → Int → Int → Int → Int → Int → Int → Int → Int → Option ((Int × Int)), ∀ s100 : Nat → Int → Int → Int → Int → Int → Int → Int → Int → Int → Option ((Int × Int)), (∀ m x2 x8 x9 x10 x11 x13 x14 x15 x16, s69 (m + 1) x2 x8 x9 x10 x11 x13 x14 x15 x16 = S_bits_Div64_69 (s69 m) (s72 m) (s97 m) (s100 m) x2 x8 x9 x10 x11 x13 x14 x15 x16) → (∀ m x2 x8 x9 x10 x11 x13 x14 x15 x16, s72 (m + 1) x2 x8 x9 x10 x11 x13 x14 x15 x16 = S_bits_Div64_72 (s69 m) (s72 m) (s97 m) (s100 m) x2 x8 x9 x10 x11 x13 x14 x15 x16) → (∀ m x2 x8 x9 x10 x14 x15 x16 x17 x18, s97 (m + 1) x2 x8 x9 x10 x14 x15 x16 x17 x18 = S_bits_Div64_97 (s69 m) (s72 m) (s97 m) (s100 m) x2 x8 x9 x10 x14 x15 x16 x17 x18) → (∀ m x2 x8 x9 x10 x14 x15 x16 x17 x18, s100 (m + 1) x2 x8 x9 x10 x14 x15 x16 x17 x18 = S_bits_Div64_100 (s69 m) (s72 m) (s97 m) (s100 m) x2 x8 x9 x10 x14 x15 x16 x17 x18) → ∀ a0 : Int, ∀ a1 : Int, ∀ a2 : Int, Ok (F_bits_Div64 a0 a1 a2) (fun m => T_bits_Div64 (s69 m) (s72 m) (s97 m) (s100 m) a0 a1 a2)

/-! math/bits.LeadingZeros32 -/
def T_bits_LeadingZeros32 (a0 : Int) : Option Int :=
  (F_bits_Len32 a0).bind fun r1 =>
  some ((IntKind.wrap .i64 ((32 : Int) - r1)))
def Run_bits_LeadingZeros32 : Prop := ∀ a0 : Int, Ok (F_bits_LeadingZeros32 a0) (fun _ => T_bits_LeadingZeros32 a0)

/-! math/bits.Len32 -/
def T_bits_Len32 (s16 : Int → Int → Option Int) (s28 : Int → Int → Option Int) (a0 : Int) : Option Int :=
  if (decide (a0 ≥ (65536 : Int))) = true then
    if (16 : Int) < 0 then none else
    s16 (Int.fdiv a0 (2 ^ (min (Int.toNat (16 : Int)) (IntKind.bits .u32)))) (16 : Int)
  else
    s16 a0 (0 : Int)
def S_bits_Len32_16 (s16 : Int → Int → Option Int) (s28 : Int → Int → Option Int) (x0 : Int) (x2 : Int) : Option Int :=
  if (decide (x0 ≥ (256 : Int))) = true then
    if (8 : Int) < 0 then none else
    s28 (Int.fdiv x0 (2 ^ (min (Int.toNat (8 : Int)) (IntKind.bits .u32)))) (IntKind.wrap .i64 (x2 + (8 : Int)))
  else
    s28 x0 x2
def S_bits_Len32_28 (s16 : Int → Int → Option Int) (s28 : Int → Int → Option Int) (x0 : Int) (x2 : Int) : Option Int :=
  if 0 ≤ (IntKind.wrap .u8 x0) ∧ (IntKind.wrap .u8 x0) < ((ByteArray.size (ByteArray.mk #[0, 1, 2, 2, 3, 3, 3, 3, 4, 4, 4, 4, 4, 4, 4, 4, 5, 5, 5, 5, 5, 5, 5, 5, 5, 5, 5, 5, 5, 5, 5, 5, 6, 6, 6, 6, 6, 6, 6, 6, 6, 6, 6, 6, 6, 6, 6, 6, 6, 6, 6, 6, 6, 6, 6, 6, 6, 6, 6, 6, 6, 6, 6, 6, 7, 7, 7, 7, 7, 7, 7, 7, 7, 7, 7, 7, 7, 7, 7, 7, 7, 7, 7, 7, 7, 7, 7, 7, 7, 7, 7, 7, 7, 7, 7, 7, 7, 7, 7, 7, 7, 7, 7, 7, 7, 7, 7, 7, 7, 7, 7, 7, 7, 7, 7, 7, 7, 7, 7, 7, 7, 7, 7, 7, 7, 7, 7, 7, 8, 8, 8, 8, 8, 8, 8, 8, 8, 8, 8, 8, 8, 8, 8, 8, 8, 8, 8, 8, 8, 8, 8, 8, 8, 8, 8, 8, 8, 8, 8, 8, 8, 8, 8, 8, 8, 8, 8, 8, 8, 8, 8, 8, 8, 8, 8, 8, 8, 8, 8, 8, 8, 8, 8, 8, 8, 8, 8, 8, 8, 8, 8, 8, 8, 8, 8, 8, 8, 8, 8, 8, 8, 8, 8, 8, 8, 8, 8, 8, 8, 8, 8, 8, 8, 8, 8, 8, 8, 8, 8, 8, 8, 8, 8, 8, 8, 8, 8, 8, 8, 8, 8, 8, 8, 8, 8, 8, 8, 8, 8, 8, 8, 8, 8, 8, 8, 8, 8, 8, 8, 8, 8, 8, 8, 8, 8, 8])) : Int) then
    let v1 : Int := (Go.W.bt (ByteArray.mk #[0, 1, 2, 2, 3, 3, 3, 3, 4, 4, 4, 4, 4, 4, 4, 4, 5, 5, 5, 5, 5, 5, 5, 5, 5, 5, 5, 5, 5, 5, 5, 5, 6, 6, 6, 6, 6, 6, 6, 6, 6, 6, 6, 6, 6, 6, 6, 6, 6, 6, 6, 6, 6, 6, 6, 6, 6, 6, 6, 6, 6, 6, 6, 6, 7, 7, 7, 7, 7, 7, 7, 7, 7, 7, 7, 7, 7, 7, 7, 7, 7, 7, 7, 7, 7, 7, 7, 7, 7, 7, 7, 7, 7, 7, 7, 7, 7, 7, 7, 7, 7, 7, 7, 7, 7, 7, 7, 7, 7, 7, 7, 7, 7, 7, 7, 7, 7, 7, 7, 7, 7, 7, 7, 7, 7, 7, 7, 7, 8, 8, 8, 8, 8, 8, 8, 8, 8, 8, 8, 8, 8, 8, 8, 8, 8, 8, 8, 8, 8, 8, 8, 8, 8, 8, 8, 8, 8, 8, 8, 8, 8, 8, 8, 8, 8, 8, 8, 8, 8, 8, 8, 8, 8, 8, 8, 8, 8, 8, 8, 8, 8, 8, 8, 8, 8, 8, 8, 8, 8, 8, 8, 8, 8, 8, 8, 8, 8, 8, 8, 8, 8, 8, 8, 8, 8, 8, 8, 8, 8, 8, 8, 8, 8, 8, 8, 8, 8, 8, 8, 8, 8, 8, 8, 8, 8, 8, 8, 8, 8, 8, 8, 8, 8, 8, 8, 8, 8, 8, 8, 8, 8, 8, 8, 8, 8, 8, 8, 8, 8, 8, 8, 8, 8, 8, 8, 8]) (IntKind.wrap .u8 x0))
    some ((IntKind.wrap .i64 (x2 + (IntKind.wrap .i64 v1))))
  else none
def Run_bits_Len32 : Prop := ∀ s16 : Nat → Int → Int → Option Int, ∀ s28 : Nat → Int → Int → Option Int, (∀ m x0 x2, s16 (m + 1) x0 x2 = S_bits_Len32_16 (s16 m) (s28 m) x0 x2) → (∀ m x0 x2, s28 (m + 1) x0 x2 = S_bits_Len32_28 (s16 m) (s28 m) x0 x2) → ∀ a0 : Int, Ok (F_bits_Len32 a0) (fun m => T_bits_Len32 (s16 m) (s28 m) a0)

/-! math/bits.Mul32 -/
def T_bits_Mul32 (a0 : Int) (a1 : Int) : Option (Int × Int) :=
  if (32 : Int) < 0 then none else
  let v1 : Int := (Int.fdiv (IntKind.wrap .u64 ((IntKind.wrap .u64 a0) * (IntKind.wrap .u64 a1))) (2 ^ (min (Int.toNat (32 : Int)) (IntKind.bits .u64))))
  let v2 : Int := (IntKind.wrap .u32 (IntKind.wrap .u64 ((IntKind.wrap .u64 a0) * (IntKind.wrap .u64 a1))))
  some ((IntKind.wrap .u32 v1), v2)
def Run_bits_Mul32 : Prop := ∀ a0 : Int, ∀ a1 : Int, Ok (F_bits_Mul32 a0 a1) (fun _ => T_bits_Mul32 a0 a1)

/-! math/bits.Sub32 -/
def T_bits_Sub32 (a0 : Int) (a1 : Int) (a2 : Int) : Option (Int × Int) :=
  let v1 : Int := (IntKind.wrap .u32 ((BitVec.toNat ((BitVec.ofInt (IntKind.bits .u32) (if (IntKind.signed .u32) = true then -1 else (IntKind.max .u32))) ^^^ (BitVec.ofInt (IntKind.bits .u32) a0)) : Nat) : Int))
  let v2 : Int := (IntKind.wrap .u32 ((BitVec.toNat ((BitVec.ofInt (IntKind.bits .u32) v1) &&& (BitVec.ofInt (IntKind.bits .u32) a1)) : Nat) : Int))
  let v3 : Int := (IntKind.wrap .u32 ((BitVec.toNat ((BitVec.ofInt (IntKind.bits .u32) a0) ^^^ (BitVec.ofInt (IntKind.bits .u32) a1)) : Nat) : Int))
  let v4 : Int := (IntKind.wrap .u32 ((BitVec.toNat ((BitVec.ofInt (IntKind.bits .u32) (if (IntKind.signed .u32) = true then -1 else (IntKind.max .u32))) ^^^ (BitVec.ofInt (IntKind.bits .u32) v3)) : Nat) : Int))
  let v5 : Int := (IntKind.wrap .u32 ((BitVec.toNat ((BitVec.ofInt (IntKind.bits .u32) v4) &&& (BitVec.ofInt (IntKind.bits .u32) (IntKind.wrap .u32 ((IntKind.wrap .u32 (a0 - a1)) - a2)))) : Nat) : Int))
  let v6 : Int := (IntKind.wrap .u32 ((BitVec.toNat ((BitVec.ofInt (IntKind.bits .u32) v2) ||| (BitVec.ofInt (IntKind.bits .u32) v5)) : Nat) : Int))
  if (31 : Int) < 0 then none else
  some ((IntKind.wrap .u32 ((IntKind.wrap .u32 (a0 - a1)) - a2)), (Int.fdiv v6 (2 ^ (min (Int.toNat (31 : Int)) (IntKind.bits .u32)))))
def Run_bits_Sub32 : Prop := ∀ a0 : Int, ∀ a1 : Int, ∀ a2 : Int, Ok (F_bits_Sub32 a0 a1 a2) (fun _ => T_bits_Sub32 a0 a1 a2)

/-! cylinder/division.Exact -/
def T_division_Exact (a0 : Bool × List Int) (a1 : Bool × List Int) : Option ((Bool × List Int) × Int) :=
  (F_division_Quo a0 a1).bind fun r1 =>
  if (r1.2.2 == (0 : Int)) = true then
    (F_division_zero r1.2.1).bind fun r2 =>
    if (!r2) = true then
      some ((false, ([] : List Int)), (3 : Int))
    else
      some (r1.1, r1.2.2)
  else
    some (r1.1, r1.2.2)
def Run_division_Exact : Prop := ∀ a0 : Bool × List Int, ∀ a1 : Bool × List Int, Ok (F_division_Exact a0 a1) (fun _ => T_division_Exact a0 a1)

/-! cylinder/division.Floor -/
def T_division_Floor (a0 : Bool × List Int) (a1 : Bool × List Int) : Option ((Bool × List Int) × (Bool × List Int) × Int) :=
  (F_division_Quo a0 a1).bind fun r1 =>
  if (r1.2.2 == (0 : Int)) = true then
    (F_division_zero r1.2.1).bind fun r2 =>
    if (!r2) = true then
      if (!(r1.2.1.1 == a1.1)) = true then
        (F_integer_Of (1 : Int)).bind fun r3 =>
        (F_integer_Sub r1.1 r3).bind fun r4 =>
        (F_integer_Add r1.2.1 a1).bind fun r5 =>
        some (r4, r5, r1.2.2)
      else
        some (r1.1, r1.2.1, r1.2.2)
    else
      some (r1.1, r1.2.1, r1.2.2)
  else
    some (r1.1, r1.2.1, r1.2.2)
def Run_division_Floor : Prop := ∀ a0 : Bool × List Int, ∀ a1 : Bool × List Int, Ok (F_division_Floor a0 a1) (fun _ => T_division_Floor a0 a1)

/-! cylinder/division.Gcd -/
def T_division_Gcd (s9 : List Int → List Int → (Bool × List Int) → Option ((Bool × List Int))) (s29 : Int → Int → (Bool × List Int) → Option ((Bool × List Int))) (a0 : Bool × List Int) (a1 : Bool × List Int) : Option (Bool × List Int) :=
  (F_natural_Normal a0.2).bind fun r1 =>
  (F_natural_Normal a1.2).bind fun r2 =>
  s9 r1 r2 (false, ([] : List Int))
def S_division_Gcd_9 (s9 : List Int → List Int → (Bool × List Int) → Option ((Bool × List Int))) (s29 : Int → Int → (Bool × List Int) → Option ((Bool × List Int))) (x5 : List Int) (x6 : List Int) (x4 : Bool × List Int) : Option (Bool × List Int) :=
  if (decide ((List.length x6 : Int) > (0 : Int))) = true then
    (F_natural_Uint64 x5).bind fun r1 =>
    if r1.2 = true then
      (F_natural_Uint64 x6).bind fun r2 =>
      if r2.2 = true then
        s29 r1.1 r2.1 x4
      else
        (F_division_long x5 x6).bind fun r3 =>
        s9 x6 r3.2 x4
    else
      (F_division_long x5 x6).bind fun r4 =>
      s9 x6 r4.2 x4
  else
    (F_integer_From false x5).bind fun r5 =>
    some r5
def S_division_Gcd_29 (s9 : List Int → List Int → (Bool × List Int) → Option ((Bool × List Int))) (s29 : Int → Int → (Bool × List Int) → Option ((Bool × List Int))) (x7 : Int) (x9 : Int) (x4 : Bool × List Int) : Option (Bool × List Int) :=
  if (x9 != (0 : Int)) = true then
    if x9 = 0 then none else
    s29 x9 (Int.tmod x7 x9) x4
  else
    (F_natural_Of x7).bind fun r1 =>
    (F_integer_From false r1).bind fun r2 =>
    some r2
def Run_division_Gcd : Prop := ∀ s9 : Nat → List Int → List Int → (Bool × List Int) → Option ((Bool × List Int)), ∀ s29 : Nat → Int → Int → (Bool × List Int) → Option ((Bool × List Int)), (∀ m x5 x6 x4, s9 (m + 1) x5 x6 x4 = S_division_Gcd_9 (s9 m) (s29 m) x5 x6 x4) → (∀ m x7 x9 x4, s29 (m + 1) x7 x9 x4 = S_division_Gcd_29 (s9 m) (s29 m) x7 x9 x4) → ∀ a0 : Bool × List Int, ∀ a1 : Bool × List Int, Ok (F_division_Gcd a0 a1) (fun m => T_division_Gcd (s9 m) (s29 m) a0 a1)

/-! cylinder/division.Quo -/
def T_division_Quo (a0 : Bool × List Int) (a1 : Bool × List Int) : Option ((Bool × List Int) × (Bool × List Int) × Int) :=
  (F_division_zero a1).bind fun r1 =>
  if r1 = true then
    some ((false, ([] : List Int)), (false, ([] : List Int)), (2 : Int))
  else
    (F_division_long a0.2 a1.2).bind fun r2 =>
    (F_integer_From (!(a0.1 == a1.1)) r2.1).bind fun r3 =>
    (F_integer_From a0.1 r2.2).bind fun r4 =>
    some (r3, r4, (0 : Int))
def Run_division_Quo : Prop := ∀ a0 : Bool × List Int, ∀ a1 : Bool × List Int, Ok (F_division_Quo a0 a1) (fun _ => T_division_Quo a0 a1)

/-! cylinder/division.long -/
def T_division_long (s57 : Int → Int → Int → Int → Int → List Int → List Int → List Int → Option ((List Int × List Int))) (s69 : Int → Int → Int → Int → Int → Int → Int → List Int → List Int → List Int → Option ((List Int × List Int))) (s93 : Int → Int → Int → Int → Int → Int → Int → Int → Int → Int → List Int → List Int → List Int → Option ((List Int × List Int))) (s153 : Int → Int → Int → Int → Int → Int → Int → Int → List Int → List Int → List Int → Option ((List Int × List Int))) (a0 : List Int) (a1 : List Int) : Option (List Int × List Int) :=
  (F_natural_Normal a1).bind fun r1 =>
  (F_natural_Cmp a0 r1).bind fun r2 =>
  if (decide (r2 < (0 : Int))) = true then
    (F_natural_Normal a0).bind fun r3 =>
    some (([] : List Int), r3)
  else
    if ((List.length r1 : Int) == (1 : Int)) = true then
      if 0 ≤ (0 : Int) ∧ (0 : Int) < (List.length r1 : Int) then
        (F_natural_DivSmall a0 (List.getD r1 (Int.toNat (0 : Int)) (0 : Int))).bind fun r4 =>
        (F_natural_Of (IntKind.wrap .u64 r4.2.1)).bind fun r5 =>
        some (r4.1, r5)
      else none
    else
      if 0 ≤ (IntKind.wrap .i64 ((List.length r1 : Int) - (1 : Int))) ∧ (IntKind.wrap .i64 ((List.length r1 : Int) - (1 : Int))) < (List.length r1 : Int) then
        let v6 : Int := (List.getD r1 (Int.toNat (IntKind.wrap .i64 ((List.length r1 : Int) - (1 : Int)))) (0 : Int))
        (F_bits_LeadingZeros32 v6).bind fun r7 =>
        (F_natural_Shl r1 r7).bind fun r8 =>
        (F_natural_Shl a0 r7).bind fun r9 =>
        if List.length r9 + List.length ([(0 : Int)] : List Int) ≤ 70368744177664 / 4 then
          let v10 : Int := (IntKind.wrap .i64 ((List.length (r9 ++ ([(0 : Int)] : List Int)) : Int) - (List.length r1 : Int)))
          if 0 ≤ v10 ∧ v10 ≤ ((70368744177664 / 4 : Nat) : Int) then
            if 0 ≤ (IntKind.wrap .i64 ((List.length r1 : Int) - (1 : Int))) ∧ (IntKind.wrap .i64 ((List.length r1 : Int) - (1 : Int))) < (List.length r8 : Int) then
              let v11 : Int := (List.getD r8 (Int.toNat (IntKind.wrap .i64 ((List.length r1 : Int) - (1 : Int)))) (0 : Int))
              if 0 ≤ (IntKind.wrap .i64 ((List.length r1 : Int) - (2 : Int))) ∧ (IntKind.wrap .i64 ((List.length r1 : Int) - (2 : Int))) < (List.length r8 : Int) then
                let v12 : Int := (List.getD r8 (Int.toNat (IntKind.wrap .i64 ((List.length r1 : Int) - (2 : Int)))) (0 : Int))
                let v13 : Int := (IntKind.wrap .i64 ((List.length (r9 ++ ([(0 : Int)] : List Int)) : Int) - (List.length r1 : Int)))
                s57 (List.length r1 : Int) r7 (IntKind.wrap .u64 v11) (IntKind.wrap .u64 v12) (IntKind.wrap .i64 (v13 - (1 : Int))) (List.replicate (Int.toNat v10) (0 : Int)) r8 (r9 ++ ([(0 : Int)] : List Int))
              else none
            else none
          else none
        else none
      else none
def S_division_long_57 (s57 : Int → Int → Int → Int → Int → List Int → List Int → List Int → Option ((List Int × List Int))) (s69 : Int → Int → Int → Int → Int → Int → Int → List Int → List Int → List Int → Option ((List Int × List Int))) (s93 : Int → Int → Int → Int → Int → Int → Int → Int → Int → Int → List Int → List Int → List Int → Option ((List Int × List Int))) (s153 : Int → Int → Int → Int → Int → Int → Int → Int → List Int → List Int → List Int → Option ((List Int × List Int))) (x6 : Int) (x10 : Int) (x13 : Int) (x14 : Int) (x15 : Int) (x4 : List Int) (x11 : List Int) (x12 : List Int) : Option (List Int × List Int) :=
  if (decide (x15 ≥ (0 : Int))) = true then
    if 0 ≤ (IntKind.wrap .i64 (x15 + x6)) ∧ (IntKind.wrap .i64 (x15 + x6)) < (List.length x12 : Int) then
      let v1 : Int := (IntKind.wrap .u64 (List.getD x12 (Int.toNat (IntKind.wrap .i64 (x15 + x6))) (0 : Int)))
      if (32 : Int) < 0 then none else
      let v2 : Int := (IntKind.wrap .u64 (v1 * 2 ^ (min (Int.toNat (32 : Int)) (IntKind.bits .u64))))
      if 0 ≤ (IntKind.wrap .i64 ((IntKind.wrap .i64 (x15 + x6)) - (1 : Int))) ∧ (IntKind.wrap .i64 ((IntKind.wrap .i64 (x15 + x6)) - (1 : Int))) < (List.length x12 : Int) then
        let v3 : Int := (List.getD x12 (Int.toNat (IntKind.wrap .i64 ((IntKind.wrap .i64 (x15 + x6)) - (1 : Int)))) (0 : Int))
        let v4 : Int := (IntKind.wrap .u64 ((BitVec.toNat ((BitVec.ofInt (IntKind.bits .u64) v2) ||| (BitVec.ofInt (IntKind.bits .u64) (IntKind.wrap .u64 v3))) : Nat) : Int))
        (F_bits_Div64 (0 : Int) v4 x13).bind fun r5 =>
        s69 x6 x10 x13 x14 x15 r5.1 r5.2 x4 x11 x12
      else none
    else none
  else
    (F_natural_Normal x4).bind fun r6 =>
    if 0 ≤ x6 ∧ x6 ≤ (List.length x12 : Int) then
      (F_natural_Shr (List.take (Int.toNat x6) (List.drop (Int.toNat (0 : Int)) x12)) x10).bind fun r7 =>
      some (r6, r7)
    else none
def S_division_long_69 (s57 : Int → Int → Int → Int → Int → List Int → List Int → List Int → Option ((List Int × List Int))) (s69 : Int → Int → Int → Int → Int → Int → Int → List Int → List Int → List Int → Option ((List Int × List Int))) (s93 : Int → Int → Int → Int → Int → Int → Int → Int → Int → Int → List Int → List Int → List Int → Option ((List Int × List Int))) (s153 : Int → Int → Int → Int → Int → Int → Int → Int → List Int → List Int → List Int → Option ((List Int × List Int))) (x6 : Int) (x10 : Int) (x13 : Int) (x14 : Int) (x15 : Int) (x16 : Int) (x17 : Int) (x4 : List Int) (x11 : List Int) (x12 : List Int) : Option (List Int × List Int) :=
  if (decide (x16 ≥ (4294967296 : Int))) = true then
    if (decide ((IntKind.wrap .u64 (x17 + x13)) ≥ (4294967296 : Int))) = true then
      s93 x6 x10 x13 x14 x15 (IntKind.wrap .u64 (x16 - (1 : Int))) (0 : Int) (0 : Int) (List.length x11 : Int) (0 : Int) x4 x11 x12
    else
      s69 x6 x10 x13 x14 x15 (IntKind.wrap .u64 (x16 - (1 : Int))) (IntKind.wrap .u64 (x17 + x13)) x4 x11 x12
  else
    if (32 : Int) < 0 then none else
    let v1 : Int := (IntKind.wrap .u64 (x17 * 2 ^ (min (Int.toNat (32 : Int)) (IntKind.bits .u64))))
    if 0 ≤ (IntKind.wrap .i64 ((IntKind.wrap .i64 (x15 + x6)) - (2 : Int))) ∧ (IntKind.wrap .i64 ((IntKind.wrap .i64 (x15 + x6)) - (2 : Int))) < (List.length x12 : Int) then
      let v2 : Int := (List.getD x12 (Int.toNat (IntKind.wrap .i64 ((IntKind.wrap .i64 (x15 + x6)) - (2 : Int)))) (0 : Int))
      let v3 : Int := (IntKind.wrap .u64 ((BitVec.toNat ((BitVec.ofInt (IntKind.bits .u64) v1) ||| (BitVec.ofInt (IntKind.bits .u64) (IntKind.wrap .u64 v2))) : Nat) : Int))
      if (decide ((IntKind.wrap .u64 (x16 * x14)) > v3)) = true then
        if (decide ((IntKind.wrap .u64 (x17 + x13)) ≥ (4294967296 : Int))) = true then
          s93 x6 x10 x13 x14 x15 (IntKind.wrap .u64 (x16 - (1 : Int))) (0 : Int) (0 : Int) (List.length x11 : Int) (0 : Int) x4 x11 x12
        else
          s69 x6 x10 x13 x14 x15 (IntKind.wrap .u64 (x16 - (1 : Int))) (IntKind.wrap .u64 (x17 + x13)) x4 x11 x12
      else
        s93 x6 x10 x13 x14 x15 x16 (0 : Int) (0 : Int) (List.length x11 : Int) (0 : Int) x4 x11 x12
    else none
def S_division_long_93 (s57 : Int → Int → Int → Int → Int → List Int → List Int → List Int → Option ((List Int × List Int))) (s69 : Int → Int → Int → Int → Int → Int → Int → List Int → List Int → List Int → Option ((List Int × List Int))) (s93 : Int → Int → Int → Int → Int → Int → Int → Int → Int → Int → List Int → List Int → List Int → Option ((List Int × List Int))) (s153 : Int → Int → Int → Int → Int → Int → Int → Int → List Int → List Int → List Int → Option ((List Int × List Int))) (x6 : Int) (x10 : Int) (x13 : Int) (x14 : Int) (x15 : Int) (x16 : Int) (x18 : Int) (x19 : Int) (x142 : Int) (x143 : Int) (x4 : List Int) (x11 : List Int) (x12 : List Int) : Option (List Int × List Int) :=
  if (decide (x143 < x142)) = true then
    if 0 ≤ x143 ∧ x143 < (List.length x11 : Int) then
      let v1 : Int := (IntKind.wrap .u64 (x16 * (IntKind.wrap .u64 (List.getD x11 (Int.toNat x143) (0 : Int)))))
      if (32 : Int) < 0 then none else
      let v2 : Int := (Int.fdiv (IntKind.wrap .u64 (v1 + x18)) (2 ^ (min (Int.toNat (32 : Int)) (IntKind.bits .u64))))
      if 0 ≤ (IntKind.wrap .i64 (x143 + x15)) ∧ (IntKind.wrap .i64 (x143 + x15)) < (List.length x12 : Int) then
        let v3 : Int := (IntKind.wrap .u64 (List.getD x12 (Int.toNat (IntKind.wrap .i64 (x143 + x15))) (0 : Int)))
        let v4 : Int := (IntKind.wrap .u64 ((BitVec.toNat ((BitVec.ofInt (IntKind.bits .u64) (IntKind.wrap .u64 (v1 + x18))) &&& (BitVec.ofInt (IntKind.bits .u64) (4294967295 : Int))) : Nat) : Int))
        let v5 : Int := (IntKind.wrap .u32 (IntKind.wrap .u64 ((IntKind.wrap .u64 (v3 - x19)) - v4)))
        if 0 ≤ (IntKind.wrap .i64 (x143 + x15)) ∧ (IntKind.wrap .i64 (x143 + x15)) < (List.length x12 : Int) then
          if (63 : Int) < 0 then none else
          let v6 : Int := (Int.fdiv (IntKind.wrap .u64 ((IntKind.wrap .u64 (v3 - x19)) - v4)) (2 ^ (min (Int.toNat (63 : Int)) (IntKind.bits .u64))))
          s93 x6 x10 x13 x14 x15 x16 v2 v6 x142 (IntKind.wrap .i64 (x143 + (1 : Int))) x4 x11 (List.set x12 (Int.toNat (IntKind.wrap .i64 (x143 + x15))) v5)
        else none
      else none
    else none
  else
    if 0 ≤ (IntKind.wrap .i64 (x15 + x6)) ∧ (IntKind.wrap .i64 (x15 + x6)) < (List.length x12 : Int) then
      let v7 : Int := (IntKind.wrap .u64 (List.getD x12 (Int.toNat (IntKind.wrap .i64 (x15 + x6))) (0 : Int)))
      let v8 : Int := (IntKind.wrap .u32 (IntKind.wrap .u64 ((IntKind.wrap .u64 (v7 - x19)) - x18)))
      if 0 ≤ (IntKind.wrap .i64 (x15 + x6)) ∧ (IntKind.wrap .i64 (x15 + x6)) < (List.length x12 : Int) then
        if 0 ≤ x15 ∧ x15 < (List.length x4 : Int) then
          if (63 : Int) < 0 then none else
          let v9 : Int := (Int.fdiv (IntKind.wrap .u64 ((IntKind.wrap .u64 (v7 - x19)) - x18)) (2 ^ (min (Int.toNat (63 : Int)) (IntKind.bits .u64))))
          if (v9 == (0 : Int)) = true then
            s57 x6 x10 x13 x14 (IntKind.wrap .i64 (x15 - (1 : Int))) (List.set x4 (Int.toNat x15) (IntKind.wrap .u32 x16)) x11 (List.set x12 (Int.toNat (IntKind.wrap .i64 (x15 + x6))) v8)
          else
            if 0 ≤ x15 ∧ x15 < (List.length (List.set x4 (Int.toNat x15) (IntKind.wrap .u32 x16)) : Int) then
              let v10 : Int := (List.getD (List.set x4 (Int.toNat x15) (IntKind.wrap .u32 x16)) (Int.toNat x15) (0 : Int))
              if 0 ≤ x15 ∧ x15 < (List.length (List.set x4 (Int.toNat x15) (IntKind.wrap .u32 x16)) : Int) then
                let v11 : List Int := (List.set (List.set x4 (Int.toNat x15) (IntKind.wrap .u32 x16)) (Int.toNat x15) (IntKind.wrap .u32 (v10 - (1 : Int))))
                s153 x6 x10 x13 x14 x15 (0 : Int) (List.length x11 : Int) (0 : Int) v11 x11 (List.set x12 (Int.toNat (IntKind.wrap .i64 (x15 + x6))) v8)
              else none
            else none
        else none
      else none
    else none
def S_division_long_153 (s57 : Int → Int → Int → Int → Int → List Int → List Int → List Int → Option ((List Int × List Int))) (s69 : Int → Int → Int → Int → Int → Int → Int → List Int → List Int → List Int → Option ((List Int × List Int))) (s93 : Int → Int → Int → Int → Int → Int → Int → Int → Int → Int → List Int → List Int → List Int → Option ((List Int × List Int))) (s153 : Int → Int → Int → Int → Int → Int → Int → Int → List Int → List Int → List Int → Option ((List Int × List Int))) (x6 : Int) (x10 : Int) (x13 : Int) (x14 : Int) (x15 : Int) (x25 : Int) (x211 : Int) (x212 : Int) (x4 : List Int) (x11 : List Int) (x12 : List Int) : Option (List Int × List Int) :=
  if (decide (x212 < x211)) = true then
    if 0 ≤ x212 ∧ x212 < (List.length x11 : Int) then
      if 0 ≤ (IntKind.wrap .i64 (x212 + x15)) ∧ (IntKind.wrap .i64 (x212 + x15)) < (List.length x12 : Int) then
        (F_bits_Add32 (List.getD x12 (Int.toNat (IntKind.wrap .i64 (x212 + x15))) (0 : Int)) (List.getD x11 (Int.toNat x212) (0 : Int)) x25).bind fun r1 =>
        if 0 ≤ (IntKind.wrap .i64 (x212 + x15)) ∧ (IntKind.wrap .i64 (x212 + x15)) < (List.length x12 : Int) then
          s153 x6 x10 x13 x14 x15 r1.2 x211 (IntKind.wrap .i64 (x212 + (1 : Int))) x4 x11 (List.set x12 (Int.toNat (IntKind.wrap .i64 (x212 + x15))) r1.1)
        else none
      else none
    else none
  else
    if 0 ≤ (IntKind.wrap .i64 (x15 + x6)) ∧ (IntKind.wrap .i64 (x15 + x6)) < (List.length x12 : Int) then
      let v2 : Int := (IntKind.wrap .u32 ((List.getD x12 (Int.toNat (IntKind.wrap .i64 (x15 + x6))) (0 : Int)) + x25))
      if 0 ≤ (IntKind.wrap .i64 (x15 + x6)) ∧ (IntKind.wrap .i64 (x15 + x6)) < (List.length x12 : Int) then
        s57 x6 x10 x13 x14 (IntKind.wrap .i64 (x15 - (1 : Int))) x4 x11 (List.set x12 (Int.toNat (IntKind.wrap .i64 (x15 + x6))) v2)
      else none
    else none
def Run_division_long : Prop := ∀ s57 : Nat → Int → Int → Int → Int → Int → List Int → List Int → List Int → Option ((List Int × List Int)), ∀ s69 : Nat → Int → Int → Int → Int → Int → Int → Int → List Int → List Int → List Int → Option ((List Int × List Int)), ∀ s93 : Nat → Int → Int → Int → Int → Int → Int → Int → Int → Int → Int → List Int → List Int → List Int → Option ((List Int × List Int)), ∀ s153 : Nat → Int → Int → Int → Int → Int → Int → Int → Int → List Int → List Int → List Int → Option ((List Int × List Int)), (∀ m x6 x10 x13 x14 x15 x4 x11 x12, s57 (m + 1) x6 x10 x13 x14 x15 x4 x11 x12 = S_division_long_57 (s57 m) (s69 m) (s93 m) (s153 m) x6 x10 x13 x14 x15 x4 x11 x12) → (∀ m x6 x10 x13 x14 x15 x16 x17 x4 x11 x12, s69 (m + 1) x6 x10 x13 x14 x15 x16 x17 x4 x11 x12 = S_division_long_69 (s57 m) (s69 m) (s93 m) (s153 m) x6 x10 x13 x14 x15 x16 x17 x4 x11 x12) → (∀ m x6 x10 x13 x14 x15 x16 x18 x19 x142 x143 x4 x11 x12, s93 (m + 1) x6 x10 x13 x14 x15 x16 x18 x19 x142 x143 x4 x11 x12 = S_division_long_93 (s57 m) (s69 m) (s93 m) (s153 m) x6 x10 x13 x14 x15 x16 x18 x19 x142 x143 x4 x11 x12) → (∀ m x6 x10 x13 x14 x15 x25 x211 x212 x4 x11 x12, s153 (m + 1) x6 x10 x13 x14 x15 x25 x211 x212 x4 x11 x12 = S_division_long_153 (s57 m) (s69 m) (s93 m) (s153 m) x6 x10 x13 x14 x15 x25 x211 x212 x4 x11 x12) → ∀ a0 : List Int, ∀ a1 : List Int, Ok (F_division_long a0 a1) (fun m => T_division_long (s57 m) (s69 m) (s93 m) (s153 m) a0 a1)

/-! cylinder/division.zero -/
def T_division_zero (a0 : Bool × List Int) : Option Bool :=
  (F_natural_IsZero a0.2).bind fun r1 =>
  some r1
def Run_division_zero : Prop := ∀ a0 : Bool × List Int, Ok (F_division_zero a0) (fun _ => T_division_zero a0)

/-! cylinder/integer.Abs -/
def T_integer_Abs (a0 : Bool × List Int) : Option (Bool × List Int) :=
  (F_integer_From false a0.2).bind fun r1 =>
  some r1
def Run_integer_Abs : Prop := ∀ a0 : Bool × List Int, Ok (F_integer_Abs a0) (fun _ => T_integer_Abs a0)

/-! cylinder/integer.Add -/
def T_integer_Add (a0 : Bool × List Int) (a1 : Bool × List Int) : Option (Bool × List Int) :=
  if (a0.1 == a1.1) = true then
    (F_natural_Add a0.2 a1.2).bind fun r1 =>
    (F_integer_made a0.1 r1).bind fun r2 =>
    some r2
  else
    (F_natural_Sub a0.2 a1.2).bind fun r3 =>
    if r3.2 = true then
      (F_integer_made a0.1 r3.1).bind fun r4 =>
      some r4
    else
      (F_natural_Sub a1.2 a0.2).bind fun r5 =>
      (F_integer_made a1.1 r5.1).bind fun r6 =>
      some r6
def Run_integer_Add : Prop := ∀ a0 : Bool × List Int, ∀ a1 : Bool × List Int, Ok (F_integer_Add a0 a1) (fun _ => T_integer_Add a0 a1)

/-! cylinder/integer.BitLen -/
def T_integer_Cmp (a0 : Bool × List Int) (a1 : Bool × List Int) : Option Int :=
  (F_integer_Sign a0).bind fun r1 =>
  (F_integer_Sign a1).bind fun r2 =>
  if (decide (r1 > r2)) = true then
    some ((1 : Int))
  else
    if (decide (r1 < r2)) = true then
      some ((-1 : Int))
    else
      if (decide (r1 < (0 : Int))) = true then
        (F_natural_Cmp a1.2 a0.2).bind fun r3 =>
        some r3
      else
        (F_natural_Cmp a0.2 a1.2).bind fun r4 =>
        some r4
def Run_integer_Cmp : Prop := ∀ a0 : Bool × List Int, ∀ a1 : Bool × List Int, Ok (F_integer_Cmp a0 a1) (fun _ => T_integer_Cmp a0 a1)

/-! cylinder/integer.From -/
def T_integer_From (a0 : Bool) (a1 : List Int) : Option (Bool × List Int) :=
  (F_natural_Normal a1).bind fun r1 =>
  (F_integer_made a0 r1).bind fun r2 =>
  some r2
def Run_integer_From : Prop := ∀ a0 : Bool, ∀ a1 : List Int, Ok (F_integer_From a0 a1) (fun _ => T_integer_From a0 a1)

/-! cylinder/integer.Mul -/
def T_integer_Mul (a0 : Bool × List Int) (a1 : Bool × List Int) : Option (Bool × List Int) :=
  (F_natural_Mul a0.2 a1.2).bind fun r1 =>
  (F_integer_made (!(a0.1 == a1.1)) r1).bind fun r2 =>
  some r2
def Run_integer_Mul : Prop := ∀ a0 : Bool × List Int, ∀ a1 : Bool × List Int, Ok (F_integer_Mul a0 a1) (fun _ => T_integer_Mul a0 a1)

/-! cylinder/integer.Neg -/
def T_integer_Neg (a0 : Bool × List Int) : Option (Bool × List Int) :=
  (F_integer_From (!a0.1) a0.2).bind fun r1 =>
  some r1
def Run_integer_Neg : Prop := ∀ a0 : Bool × List Int, Ok (F_integer_Neg a0) (fun _ => T_integer_Neg a0)

/-! cylinder/integer.Normal -/
def T_integer_Normal (a0 : Bool × List Int) : Option (Bool × List Int) :=
  (F_integer_From a0.1 a0.2).bind fun r1 =>
  some r1
def Run_integer_Normal : Prop := ∀ a0 : Bool × List Int, Ok (F_integer_Normal a0) (fun _ => T_integer_Normal a0)

/-! cylinder/integer.Of -/
def T_integer_Of (a0 : Int) : Option (Bool × List Int) :=
  if (decide (a0 < (0 : Int))) = true then
    (F_natural_Of (IntKind.wrap .u64 ((0 : Int) - (IntKind.wrap .u64 a0)))).bind fun r1 =>
    (F_integer_made true r1).bind fun r2 =>
    some r2
  else
    (F_natural_Of (IntKind.wrap .u64 a0)).bind fun r3 =>
    (F_integer_made false r3).bind fun r4 =>
    some r4
def Run_integer_Of : Prop := ∀ a0 : Int, Ok (F_integer_Of a0) (fun _ => T_integer_Of a0)

/-! cylinder/integer.Pow -/
def T_integer_Sign (a0 : Bool × List Int) : Option Int :=
  (F_natural_IsZero a0.2).bind fun r1 =>
  if r1 = true then
    some ((0 : Int))
  else
    if a0.1 = true then
      some ((-1 : Int))
    else
      some ((1 : Int))
def Run_integer_Sign : Prop := ∀ a0 : Bool × List Int, Ok (F_integer_Sign a0) (fun _ => T_integer_Sign a0)

/-! cylinder/integer.Sub -/
def T_integer_Sub (a0 : Bool × List Int) (a1 : Bool × List Int) : Option (Bool × List Int) :=
  (F_integer_Add a0 ((!a1.1), a1.2)).bind fun r1 =>
  some r1
def Run_integer_Sub : Prop := ∀ a0 : Bool × List Int, ∀ a1 : Bool × List Int, Ok (F_integer_Sub a0 a1) (fun _ => T_integer_Sub a0 a1)

/-! cylinder/integer.made -/
def T_integer_made (a0 : Bool) (a1 : List Int) : Option (Bool × List Int) :=
  if a0 = true then
    some (((decide ((List.length a1 : Int) > (0 : Int))), a1))
  else
    some ((false, a1))
def Run_integer_made : Prop := ∀ a0 : Bool, ∀ a1 : List Int, Ok (F_integer_made a0 a1) (fun _ => T_integer_made a0 a1)

/-! cylinder/natural.Add -/
def T_natural_Add (s33 : List Int → List Int → List Int → Int → Int → List Int → Int → Option ((List Int))) (s53 : List Int → Int → List Int → Int → Option ((List Int))) (a0 : List Int) (a1 : List Int) : Option (List Int) :=
  (F_natural_trim a0).bind fun r1 =>
  (F_natural_trim a1).bind fun r2 =>
  if (decide ((List.length r1 : Int) < (List.length r2 : Int))) = true then
    if 0 ≤ (IntKind.wrap .i64 ((List.length r2 : Int) + (1 : Int))) ∧ (IntKind.wrap .i64 ((List.length r2 : Int) + (1 : Int))) ≤ ((70368744177664 / 4 : Nat) : Int) then
      let v3 : List Int := (List.replicate (Int.toNat (IntKind.wrap .i64 ((List.length r2 : Int) + (1 : Int)))) (0 : Int))
      s33 r2 r1 r1 (List.length r1 : Int) (0 : Int) v3 (0 : Int)
    else none
  else
    if 0 ≤ (IntKind.wrap .i64 ((List.length r1 : Int) + (1 : Int))) ∧ (IntKind.wrap .i64 ((List.length r1 : Int) + (1 : Int))) ≤ ((70368744177664 / 4 : Nat) : Int) then
      let v4 : List Int := (List.replicate (Int.toNat (IntKind.wrap .i64 ((List.length r1 : Int) + (1 : Int)))) (0 : Int))
      s33 r1 r2 r2 (List.length r2 : Int) (0 : Int) v4 (0 : Int)
    else none
def S_natural_Add_33 (s33 : List Int → List Int → List Int → Int → Int → List Int → Int → Option ((List Int))) (s53 : List Int → Int → List Int → Int → Option ((List Int))) (x0 : List Int) (x1 : List Int) (x27 : List Int) (x28 : Int) (x29 : Int) (x5 : List Int) (x6 : Int) : Option (List Int) :=
  if (decide (x29 < x28)) = true then
    if 0 ≤ x29 ∧ x29 < (List.length x27 : Int) then
      if 0 ≤ x29 ∧ x29 < (List.length x0 : Int) then
        (O_natural_Add_1 (List.getD x0 (Int.toNat x29) (0 : Int)) (List.getD x27 (Int.toNat x29) (0 : Int)) x6).bind fun r1 =>
        if Go.W.sameLen true (.int .u32) x6 r1.1 then
          if 0 ≤ x29 ∧ x29 < (List.length x5 : Int) then
            s33 x0 x1 x27 x28 (IntKind.wrap .i64 (x29 + (1 : Int))) (List.set x5 (Int.toNat x29) r1.2) r1.1
          else none
        else none
      else none
    else none
  else
    s53 x0 (List.length x1 : Int) x5 x6
def S_natural_Add_53 (s33 : List Int → List Int → List Int → Int → Int → List Int → Int → Option ((List Int))) (s53 : List Int → Int → List Int → Int → Option ((List Int))) (x0 : List Int) (x10 : Int) (x5 : List Int) (x6 : Int) : Option (List Int) :=
  if (decide (x10 < (List.length x0 : Int))) = true then
    if 0 ≤ x10 ∧ x10 < (List.length x0 : Int) then
      (O_natural_Add_1 (List.getD x0 (Int.toNat x10) (0 : Int)) (0 : Int) x6).bind fun r1 =>
      if Go.W.sameLen true (.int .u32) x6 r1.1 then
        if 0 ≤ x10 ∧ x10 < (List.length x5 : Int) then
          s53 x0 (IntKind.wrap .i64 (x10 + (1 : Int))) (List.set x5 (Int.toNat x10) r1.2) r1.1
        else none
      else none
    else none
  else
    if 0 ≤ (List.length x0 : Int) ∧ (List.length x0 : Int) < (List.length x5 : Int) then
      (O_natural_trim (List.set x5 (Int.toNat (List.length x0 : Int)) x6)).bind fun r2 =>
      if Go.W.sameLen false (.int .u32) (List.set x5 (Int.toNat (List.length x0 : Int)) x6) r2.1 then
        Go.W.optE r2.2 (
          some (([] : List Int))) fun n3 =>
          some ((List.take (Int.toNat n3) (List.drop (Int.toNat (0 : Int)) r2.1)))
      else none
    else none
def Run_natural_Add : Prop := ∀ s33 : Nat → List Int → List Int → List Int → Int → Int → List Int → Int → Option ((List Int)), ∀ s53 : Nat → List Int → Int → List Int → Int → Option ((List Int)), (∀ m x0 x1 x27 x28 x29 x5 x6, s33 (m + 1) x0 x1 x27 x28 x29 x5 x6 = S_natural_Add_33 (s33 m) (s53 m) x0 x1 x27 x28 x29 x5 x6) → (∀ m x0 x10 x5 x6, s53 (m + 1) x0 x10 x5 x6 = S_natural_Add_53 (s33 m) (s53 m) x0 x10 x5 x6) → ∀ a0 : List Int, ∀ a1 : List Int, Ok (F_natural_Add a0 a1) (fun m => T_natural_Add (s33 m) (s53 m) a0 a1)

/-! cylinder/natural.BitLen -/
def T_natural_Cmp (s29 : List Int → List Int → Int → Option Int) (a0 : List Int) (a1 : List Int) : Option Int :=
  (F_natural_trim a0).bind fun r1 =>
  (F_natural_trim a1).bind fun r2 =>
  if (decide ((List.length r1 : Int) > (List.length r2 : Int))) = true then
    some ((1 : Int))
  else
    if (decide ((List.length r1 : Int) < (List.length r2 : Int))) = true then
      some ((-1 : Int))
    else
      s29 r1 r2 (IntKind.wrap .i64 ((List.length r1 : Int) - (1 : Int)))
def S_natural_Cmp_29 (s29 : List Int → List Int → Int → Option Int) (x0 : List Int) (x1 : List Int) (x5 : Int) : Option Int :=
  if (decide (x5 ≥ (0 : Int))) = true then
    if 0 ≤ x5 ∧ x5 < (List.length x0 : Int) then
      if 0 ≤ x5 ∧ x5 < (List.length x1 : Int) then
        let v1 : Bool := (decide ((List.getD x0 (Int.toNat x5) (0 : Int)) > (List.getD x1 (Int.toNat x5) (0 : Int))))
        if v1 = true then
          some ((1 : Int))
        else
          if 0 ≤ x5 ∧ x5 < (List.length x0 : Int) then
            if 0 ≤ x5 ∧ x5 < (List.length x1 : Int) then
              let v2 : Bool := (decide ((List.getD x0 (Int.toNat x5) (0 : Int)) < (List.getD x1 (Int.toNat x5) (0 : Int))))
              if v2 = true then
                some ((-1 : Int))
              else
                s29 x0 x1 (IntKind.wrap .i64 (x5 - (1 : Int)))
            else none
          else none
      else none
    else none
  else
    some ((0 : Int))
def Run_natural_Cmp : Prop := ∀ s29 : Nat → List Int → List Int → Int → Option Int, (∀ m x0 x1 x5, s29 (m + 1) x0 x1 x5 = S_natural_Cmp_29 (s29 m) x0 x1 x5) → ∀ a0 : List Int, ∀ a1 : List Int, Ok (F_natural_Cmp a0 a1) (fun m => T_natural_Cmp (s29 m) a0 a1)

/-! cylinder/natural.DivSmall -/
def T_natural_DivSmall (s29 : List Int → Int → Int → Int → List Int → Option ((List Int × Int × Bool))) (a0 : List Int) (a1 : Int) : Option (List Int × Int × Bool) :=
  if (a1 == (0 : Int)) = true then
    some (([] : List Int), (0 : Int), false)
  else
    (F_natural_trim a0).bind fun r1 =>
    if 0 ≤ (List.length r1 : Int) ∧ (List.length r1 : Int) ≤ ((70368744177664 / 4 : Nat) : Int) then
      s29 r1 a1 (0 : Int) (IntKind.wrap .i64 ((List.length r1 : Int) - (1 : Int))) (List.replicate (Int.toNat (List.length r1 : Int)) (0 : Int))
    else none
def S_natural_DivSmall_29 (s29 : List Int → Int → Int → Int → List Int → Option ((List Int × Int × Bool))) (x0 : List Int) (x1 : Int) (x8 : Int) (x9 : Int) (x7 : List Int) : Option (List Int × Int × Bool) :=
  if (decide (x9 ≥ (0 : Int))) = true then
    if 0 ≤ x9 ∧ x9 < (List.length x0 : Int) then
      (F_bits_Div32 x8 (List.getD x0 (Int.toNat x9) (0 : Int)) x1).bind fun r1 =>
      if 0 ≤ x9 ∧ x9 < (List.length x7 : Int) then
        s29 x0 x1 r1.2 (IntKind.wrap .i64 (x9 - (1 : Int))) (List.set x7 (Int.toNat x9) r1.1)
      else none
    else none
  else
    (O_natural_trim x7).bind fun r2 =>
    if Go.W.sameLen false (.int .u32) x7 r2.1 then
      Go.W.optE r2.2 (
        some (([] : List Int), x8, true)) fun n3 =>
        some ((List.take (Int.toNat n3) (List.drop (Int.toNat (0 : Int)) r2.1)), x8, true)
    else none
def Run_natural_DivSmall : Prop := ∀ s29 : Nat → List Int → Int → Int → Int → List Int → Option ((List Int × Int × Bool)), (∀ m x0 x1 x8 x9 x7, s29 (m + 1) x0 x1 x8 x9 x7 = S_natural_DivSmall_29 (s29 m) x0 x1 x8 x9 x7) → ∀ a0 : List Int, ∀ a1 : Int, Ok (F_natural_DivSmall a0 a1) (fun m => T_natural_DivSmall (s29 m) a0 a1)

/-! cylinder/natural.IsZero -/
def T_natural_IsZero (a0 : List Int) : Option Bool :=
  (F_natural_trim a0).bind fun r1 =>
  some (((List.length r1 : Int) == (0 : Int)))
def Run_natural_IsZero : Prop := ∀ a0 : List Int, Ok (F_natural_IsZero a0) (fun _ => T_natural_IsZero a0)

/-! cylinder/natural.Mul -/
def T_natural_Mul (s25 : List Int → List Int → Int → Int → List Int → Option ((List Int))) (s49 : List Int → Int → Int → Int → List Int → Int → Int → List Int → Int → Int → List Int → Int → Int → Option ((List Int))) (a0 : List Int) (a1 : List Int) : Option (List Int) :=
  (F_natural_trim a0).bind fun r1 =>
  (F_natural_trim a1).bind fun r2 =>
  if ((List.length r1 : Int) == (0 : Int)) = true then
    some (([] : List Int))
  else
    if ((List.length r2 : Int) == (0 : Int)) = true then
      some (([] : List Int))
    else
      if 0 ≤ (IntKind.wrap .i64 ((List.length r1 : Int) + (List.length r2 : Int))) ∧ (IntKind.wrap .i64 ((List.length r1 : Int) + (List.length r2 : Int))) ≤ ((70368744177664 / 4 : Nat) : Int) then
        let v3 : List Int := (List.replicate (Int.toNat (IntKind.wrap .i64 ((List.length r1 : Int) + (List.length r2 : Int)))) (0 : Int))
        s25 r2 r1 (List.length r1 : Int) (0 : Int) v3
      else none
def S_natural_Mul_25 (s25 : List Int → List Int → Int → Int → List Int → Option ((List Int))) (s49 : List Int → Int → Int → Int → List Int → Int → Int → List Int → Int → Int → List Int → Int → Int → Option ((List Int))) (x1 : List Int) (x33 : List Int) (x34 : Int) (x35 : Int) (x5 : List Int) : Option (List Int) :=
  if (decide (x35 < x34)) = true then
    if 0 ≤ x35 ∧ x35 < (List.length x33 : Int) then
      if ((List.getD x33 (Int.toNat x35) (0 : Int)) == (0 : Int)) = true then
        s25 x1 x33 x34 (IntKind.wrap .i64 (x35 + (1 : Int))) x5
      else
        if 0 ≤ x35 ∧ x35 ≤ (IntKind.wrap .i64 (x35 + (List.length x1 : Int))) ∧ (IntKind.wrap .i64 (x35 + (List.length x1 : Int))) ≤ (List.length x5 : Int) then
          s49 x1 x35 (List.getD x33 (Int.toNat x35) (0 : Int)) (0 : Int) x33 x34 x35 x1 (List.length x1 : Int) (0 : Int) x5 x35 ((IntKind.wrap .i64 (x35 + (List.length x1 : Int))) - x35)
        else none
    else none
  else
    (O_natural_trim x5).bind fun r1 =>
    if Go.W.sameLen false (.int .u32) x5 r1.1 then
      Go.W.optE r1.2 (
        some (([] : List Int))) fun n2 =>
        some ((List.take (Int.toNat n2) (List.drop (Int.toNat (0 : Int)) r1.1)))
    else none
def S_natural_Mul_49 (s25 : List Int → List Int → Int → Int → List Int → Option ((List Int))) (s49 : List Int → Int → Int → Int → List Int → Int → Int → List Int → Int → Int → List Int → Int → Int → Option ((List Int))) (x1 : List Int) (x6 : Int) (x7 : Int) (x8 : Int) (x33 : List Int) (x34 : Int) (x35 : Int) (x49 : List Int) (x50 : Int) (x51 : Int) (x5 : List Int) (o9 : Int) (n9 : Int) : Option (List Int) :=
  if (decide (x51 < x50)) = true then
    if 0 ≤ x51 ∧ x51 < (List.length x49 : Int) then
      (F_bits_Mul32 x7 (List.getD x49 (Int.toNat x51) (0 : Int))).bind fun r1 =>
      if 0 ≤ x51 ∧ x51 < n9 then
        (F_bits_Add32 r1.2 (List.getD x5 (Int.toNat (o9 + x51)) (0 : Int)) (0 : Int)).bind fun r2 =>
        (F_bits_Add32 r2.1 x8 (0 : Int)).bind fun r3 =>
        if 0 ≤ x51 ∧ x51 < n9 then
          s49 x1 x6 x7 (IntKind.wrap .u32 ((IntKind.wrap .u32 (r1.1 + r2.2)) + r3.2)) x33 x34 x35 x49 x50 (IntKind.wrap .i64 (x51 + (1 : Int))) (List.set x5 (Int.toNat (o9 + x51)) r3.1) o9 n9
        else none
      else none
    else none
  else
    if 0 ≤ (IntKind.wrap .i64 (x6 + (List.length x1 : Int))) ∧ (IntKind.wrap .i64 (x6 + (List.length x1 : Int))) < (List.length x5 : Int) then
      let v4 : List Int := (List.set x5 (Int.toNat (IntKind.wrap .i64 (x6 + (List.length x1 : Int)))) x8)
      s25 x1 x33 x34 (IntKind.wrap .i64 (x35 + (1 : Int))) v4
    else none
def Run_natural_Mul : Prop := ∀ s25 : Nat → List Int → List Int → Int → Int → List Int → Option ((List Int)), ∀ s49 : Nat → List Int → Int → Int → Int → List Int → Int → Int → List Int → Int → Int → List Int → Int → Int → Option ((List Int)), (∀ m x1 x33 x34 x35 x5, s25 (m + 1) x1 x33 x34 x35 x5 = S_natural_Mul_25 (s25 m) (s49 m) x1 x33 x34 x35 x5) → (∀ m x1 x6 x7 x8 x33 x34 x35 x49 x50 x51 x5 o9 n9, s49 (m + 1) x1 x6 x7 x8 x33 x34 x35 x49 x50 x51 x5 o9 n9 = S_natural_Mul_49 (s25 m) (s49 m) x1 x6 x7 x8 x33 x34 x35 x49 x50 x51 x5 o9 n9) → ∀ a0 : List Int, ∀ a1 : List Int, Ok (F_natural_Mul a0 a1) (fun m => T_natural_Mul (s25 m) (s49 m) a0 a1)

/-! cylinder/natural.MulAdd -/
def T_natural_Normal (a0 : List Int) : Option (List Int) :=
  (F_natural_trim a0).bind fun r1 =>
  if List.length r1 ≤ 70368744177664 / 4 then
    some r1
  else none
def Run_natural_Normal : Prop := ∀ a0 : List Int, Ok (F_natural_Normal a0) (fun _ => T_natural_Normal a0)

/-! cylinder/natural.Of -/
def T_natural_Of (a0 : Int) : Option (List Int) :=
  if (32 : Int) < 0 then none else
  let v1 : Int := (IntKind.wrap .u32 (Int.fdiv a0 (2 ^ (min (Int.toNat (32 : Int)) (IntKind.bits .u64)))))
  (O_natural_trim ([(IntKind.wrap .u32 a0), v1] : List Int)).bind fun r2 =>
  if Go.W.sameLen false (.int .u32) ([(IntKind.wrap .u32 a0), v1] : List Int) r2.1 then
    Go.W.optE r2.2 (
      some (([] : List Int))) fun n3 =>
      some ((List.take (Int.toNat n3) (List.drop (Int.toNat (0 : Int)) r2.1)))
  else none
def Run_natural_Of : Prop := ∀ a0 : Int, Ok (F_natural_Of a0) (fun _ => T_natural_Of a0)

/-! cylinder/natural.Shl -/
def T_natural_Shl (s45 : Int → Int → Int → List Int → Option ((List Int))) (a0 : List Int) (a1 : Int) : Option (List Int) :=
  (F_natural_trim a0).bind fun r1 =>
  if ((List.length r1 : Int) == (0 : Int)) = true then
    some (([] : List Int))
  else
    let v2 : Int := (if (16777216 : Int) < (if (0 : Int) > a1 then (0 : Int) else a1) then (16777216 : Int) else (if (0 : Int) > a1 then (0 : Int) else a1))
    if (32 : Int) = 0 then none else
    if (32 : Int) = 0 then none else
    let v3 : Int := (IntKind.wrap .i64 ((IntKind.wrap .i64 (Int.tdiv v2 (32 : Int))) + (List.length r1 : Int)))
    if 0 ≤ (IntKind.wrap .i64 (v3 + (1 : Int))) ∧ (IntKind.wrap .i64 (v3 + (1 : Int))) ≤ ((70368744177664 / 4 : Nat) : Int) then
      let v4 : List Int := (List.replicate (Int.toNat (IntKind.wrap .i64 (v3 + (1 : Int)))) (0 : Int))
      if 0 ≤ (IntKind.wrap .i64 (Int.tdiv v2 (32 : Int))) ∧ (IntKind.wrap .i64 (Int.tdiv v2 (32 : Int))) ≤ (List.length v4 : Int) then
        let v5 : Int := ((List.length v4 : Int) - (IntKind.wrap .i64 (Int.tdiv v2 (32 : Int))))
        if List.length r1 ≤ Int.toNat v5 then
          let v6 : List Int := ((List.take (Int.toNat (IntKind.wrap .i64 (Int.tdiv v2 (32 : Int)))) v4 ++ r1) ++ List.drop ((Int.toNat (IntKind.wrap .i64 (Int.tdiv v2 (32 : Int)))) + List.length r1) v4)
          if (decide ((Int.tmod v2 (32 : Int)) > (0 : Int))) = true then
            s45 (Int.tmod v2 (32 : Int)) (0 : Int) (IntKind.wrap .i64 (Int.tdiv v2 (32 : Int))) v6
          else
            (O_natural_trim v6).bind fun r7 =>
            if Go.W.sameLen false (.int .u32) v6 r7.1 then
              Go.W.optE r7.2 (
                some (([] : List Int))) fun n8 =>
                some ((List.take (Int.toNat n8) r7.1))
            else none
        else none
      else none
    else none
def S_natural_Shl_45 (s45 : Int → Int → Int → List Int → Option ((List Int))) (x6 : Int) (x8 : Int) (x9 : Int) (x7 : List Int) : Option (List Int) :=
  if (decide (x9 < (List.length x7 : Int))) = true then
    if 0 ≤ x9 ∧ x9 < (List.length x7 : Int) then
      if x6 < 0 then none else
      let v1 : Int := (IntKind.wrap .u32 ((List.getD x7 (Int.toNat x9) (0 : Int)) * 2 ^ (min (Int.toNat x6) (IntKind.bits .u32))))
      let v2 : Int := (IntKind.wrap .u32 ((BitVec.toNat ((BitVec.ofInt (IntKind.bits .u32) v1) ||| (BitVec.ofInt (IntKind.bits .u32) x8)) : Nat) : Int))
      if 0 ≤ x9 ∧ x9 < (List.length x7 : Int) then
        if (IntKind.wrap .i64 ((32 : Int) - x6)) < 0 then none else
        let v3 : Int := (Int.fdiv (List.getD x7 (Int.toNat x9) (0 : Int)) (2 ^ (min (Int.toNat (IntKind.wrap .i64 ((32 : Int) - x6))) (IntKind.bits .u32))))
        s45 x6 v3 (IntKind.wrap .i64 (x9 + (1 : Int))) (List.set x7 (Int.toNat x9) v2)
      else none
    else none
  else
    (O_natural_trim x7).bind fun r4 =>
    if Go.W.sameLen false (.int .u32) x7 r4.1 then
      Go.W.optE r4.2 (
        some (([] : List Int))) fun n5 =>
        some ((List.take (Int.toNat n5) r4.1))
    else none
def Run_natural_Shl : Prop := ∀ s45 : Nat → Int → Int → Int → List Int → Option ((List Int)), (∀ m x6 x8 x9 x7, s45 (m + 1) x6 x8 x9 x7 = S_natural_Shl_45 (s45 m) x6 x8 x9 x7) → ∀ a0 : List Int, ∀ a1 : Int, Ok (F_natural_Shl a0 a1) (fun m => T_natural_Shl (s45 m) a0 a1)

/-! cylinder/natural.Shr -/
def T_natural_Shr (s37 : Int → Int → Int → List Int → Option ((List Int))) (s56 : Int → Int → Int → Int → Int → List Int → Option ((List Int))) (a0 : List Int) (a1 : Int) : Option (List Int) :=
  (F_natural_trim a0).bind fun r1 =>
  if (32 : Int) = 0 then none else
  let v2 : Int := (IntKind.wrap .i64 (Int.tdiv (if (0 : Int) > a1 then (0 : Int) else a1) (32 : Int)))
  if (32 : Int) = 0 then none else
  if (decide (v2 ≥ (List.length r1 : Int))) = true then
    some (([] : List Int))
  else
    if 0 ≤ v2 ∧ v2 ≤ (List.length r1 : Int) then
      if List.length (List.drop (Int.toNat v2) r1) ≤ 70368744177664 / 4 then
        let v3 : Bool := (decide ((Int.tmod (if (0 : Int) > a1 then (0 : Int) else a1) (32 : Int)) > (0 : Int)))
        if v3 = true then
          s37 (Int.tmod (if (0 : Int) > a1 then (0 : Int) else a1) (32 : Int)) (List.length (List.drop (Int.toNat v2) r1) : Int) (0 : Int) (List.drop (Int.toNat v2) r1)
        else
          (O_natural_trim (List.drop (Int.toNat v2) r1)).bind fun r4 =>
          if Go.W.sameLen false (.int .u32) (List.drop (Int.toNat v2) r1) r4.1 then
            Go.W.optE r4.2 (
              some (([] : List Int))) fun n5 =>
              some ((List.take (Int.toNat n5) (List.drop (Int.toNat (0 : Int)) r4.1)))
          else none
      else none
    else none
def S_natural_Shr_37 (s37 : Int → Int → Int → List Int → Option ((List Int))) (s56 : Int → Int → Int → Int → Int → List Int → Option ((List Int))) (x6 : Int) (x29 : Int) (x30 : Int) (x7 : List Int) : Option (List Int) :=
  if (decide (x30 < x29)) = true then
    let v1 : Bool := (decide ((IntKind.wrap .i64 (x30 + (1 : Int))) < (List.length x7 : Int)))
    if v1 = true then
      if 0 ≤ (IntKind.wrap .i64 (x30 + (1 : Int))) ∧ (IntKind.wrap .i64 (x30 + (1 : Int))) < (List.length x7 : Int) then
        let v2 : Int := (List.getD x7 (Int.toNat (IntKind.wrap .i64 (x30 + (1 : Int)))) (0 : Int))
        if (IntKind.wrap .i64 ((32 : Int) - x6)) < 0 then none else
        let v3 : Int := (IntKind.wrap .u32 (v2 * 2 ^ (min (Int.toNat (IntKind.wrap .i64 ((32 : Int) - x6))) (IntKind.bits .u32))))
        s56 x6 x30 v3 x29 x30 x7
      else none
    else
      s56 x6 x30 (0 : Int) x29 x30 x7
  else
    (O_natural_trim x7).bind fun r4 =>
    if Go.W.sameLen false (.int .u32) x7 r4.1 then
      Go.W.optE r4.2 (
        some (([] : List Int))) fun n5 =>
        some ((List.take (Int.toNat n5) (List.drop (Int.toNat (0 : Int)) r4.1)))
    else none
def S_natural_Shr_56 (s37 : Int → Int → Int → List Int → Option ((List Int))) (s56 : Int → Int → Int → Int → Int → List Int → Option ((List Int))) (x6 : Int) (x8 : Int) (x9 : Int) (x29 : Int) (x30 : Int) (x7 : List Int) : Option (List Int) :=
  if 0 ≤ x8 ∧ x8 < (List.length x7 : Int) then
    if x6 < 0 then none else
    let v1 : Int := (Int.fdiv (List.getD x7 (Int.toNat x8) (0 : Int)) (2 ^ (min (Int.toNat x6) (IntKind.bits .u32))))
    let v2 : Int := (IntKind.wrap .u32 ((BitVec.toNat ((BitVec.ofInt (IntKind.bits .u32) v1) ||| (BitVec.ofInt (IntKind.bits .u32) x9)) : Nat) : Int))
    if 0 ≤ x8 ∧ x8 < (List.length x7 : Int) then
      s37 x6 x29 (IntKind.wrap .i64 (x30 + (1 : Int))) (List.set x7 (Int.toNat x8) v2)
    else none
  else none
def Run_natural_Shr : Prop := ∀ s37 : Nat → Int → Int → Int → List Int → Option ((List Int)), ∀ s56 : Nat → Int → Int → Int → Int → Int → List Int → Option ((List Int)), (∀ m x6 x29 x30 x7, s37 (m + 1) x6 x29 x30 x7 = S_natural_Shr_37 (s37 m) (s56 m) x6 x29 x30 x7) → (∀ m x6 x8 x9 x29 x30 x7, s56 (m + 1) x6 x8 x9 x29 x30 x7 = S_natural_Shr_56 (s37 m) (s56 m) x6 x8 x9 x29 x30 x7) → ∀ a0 : List Int, ∀ a1 : Int, Ok (F_natural_Shr a0 a1) (fun m => T_natural_Shr (s37 m) (s56 m) a0 a1)

/-! cylinder/natural.Sub -/
def T_natural_Sub (s29 : List Int → Int → List Int → Int → Int → List Int → Option ((List Int × Bool))) (a0 : List Int) (a1 : List Int) : Option (List Int × Bool) :=
  (F_natural_Cmp a0 a1).bind fun r1 =>
  if (decide (r1 < (0 : Int))) = true then
    some (([] : List Int), false)
  else
    (F_natural_trim a0).bind fun r2 =>
    (F_natural_trim a1).bind fun r3 =>
    if 0 ≤ (List.length r2 : Int) ∧ (List.length r2 : Int) ≤ ((70368744177664 / 4 : Nat) : Int) then
      s29 r3 (0 : Int) r2 (List.length r2 : Int) (0 : Int) (List.replicate (Int.toNat (List.length r2 : Int)) (0 : Int))
    else none
def S_natural_Sub_29 (s29 : List Int → Int → List Int → Int → Int → List Int → Option ((List Int × Bool))) (x1 : List Int) (x7 : Int) (x22 : List Int) (x23 : Int) (x24 : Int) (x6 : List Int) : Option (List Int × Bool) :=
  if (decide (x24 < x23)) = true then
    if 0 ≤ x24 ∧ x24 < (List.length x22 : Int) then
      if (decide (x24 < (List.length x1 : Int))) = true then
        if 0 ≤ x24 ∧ x24 < (List.length x1 : Int) then
          (F_bits_Sub32 (List.getD x22 (Int.toNat x24) (0 : Int)) (List.getD x1 (Int.toNat x24) (0 : Int)) x7).bind fun r1 =>
          if 0 ≤ x24 ∧ x24 < (List.length x6 : Int) then
            s29 x1 r1.2 x22 x23 (IntKind.wrap .i64 (x24 + (1 : Int))) (List.set x6 (Int.toNat x24) r1.1)
          else none
        else none
      else
        (F_bits_Sub32 (List.getD x22 (Int.toNat x24) (0 : Int)) (0 : Int) x7).bind fun r2 =>
        if 0 ≤ x24 ∧ x24 < (List.length x6 : Int) then
          s29 x1 r2.2 x22 x23 (IntKind.wrap .i64 (x24 + (1 : Int))) (List.set x6 (Int.toNat x24) r2.1)
        else none
    else none
  else
    (O_natural_trim x6).bind fun r3 =>
    if Go.W.sameLen false (.int .u32) x6 r3.1 then
      Go.W.optE r3.2 (
        some (([] : List Int), true)) fun n4 =>
        some ((List.take (Int.toNat n4) (List.drop (Int.toNat (0 : Int)) r3.1)), true)
    else none
def Run_natural_Sub : Prop := ∀ s29 : Nat → List Int → Int → List Int → Int → Int → List Int → Option ((List Int × Bool)), (∀ m x1 x7 x22 x23 x24 x6, s29 (m + 1) x1 x7 x22 x23 x24 x6 = S_natural_Sub_29 (s29 m) x1 x7 x22 x23 x24 x6) → ∀ a0 : List Int, ∀ a1 : List Int, Ok (F_natural_Sub a0 a1) (fun m => T_natural_Sub (s29 m) a0 a1)

/-! cylinder/natural.Uint64 -/
def T_natural_Uint64 (a0 : List Int) : Option (Int × Bool) :=
  (F_natural_trim a0).bind fun r1 =>
  if ((List.length r1 : Int) == (0 : Int)) = true then
    some ((0 : Int), true)
  else
    if ((List.length r1 : Int) == (1 : Int)) = true then
      if 0 ≤ (0 : Int) ∧ (0 : Int) < (List.length r1 : Int) then
        some ((IntKind.wrap .u64 (List.getD r1 (Int.toNat (0 : Int)) (0 : Int))), true)
      else none
    else
      if ((List.length r1 : Int) == (2 : Int)) = true then
        if 0 ≤ (1 : Int) ∧ (1 : Int) < (List.length r1 : Int) then
          if (32 : Int) < 0 then none else
          let v2 : Int := (IntKind.wrap .u64 ((IntKind.wrap .u64 (List.getD r1 (Int.toNat (1 : Int)) (0 : Int))) * 2 ^ (min (Int.toNat (32 : Int)) (IntKind.bits .u64))))
          if 0 ≤ (0 : Int) ∧ (0 : Int) < (List.length r1 : Int) then
            let v3 : Int := (IntKind.wrap .u64 ((BitVec.toNat ((BitVec.ofInt (IntKind.bits .u64) v2) ||| (BitVec.ofInt (IntKind.bits .u64) (IntKind.wrap .u64 (List.getD r1 (Int.toNat (0 : Int)) (0 : Int))))) : Nat) : Int))
            some (v3, true)
          else none
        else none
      else
        some ((0 : Int), false)
def Run_natural_Uint64 : Prop := ∀ a0 : List Int, Ok (F_natural_Uint64 a0) (fun _ => T_natural_Uint64 a0)

/-! cylinder/natural.trim -/
def T_natural_trim (s9 : List Int → Int → Option ((List Int))) (a0 : List Int) : Option (List Int) :=
  s9 a0 (List.length a0 : Int)
def S_natural_trim_9 (s9 : List Int → Int → Option ((List Int))) (x0 : List Int) (x3 : Int) : Option (List Int) :=
  if (decide (x3 > (0 : Int))) = true then
    if 0 ≤ (IntKind.wrap .i64 (x3 - (1 : Int))) ∧ (IntKind.wrap .i64 (x3 - (1 : Int))) < (List.length x0 : Int) then
      let v1 : Int := (List.getD x0 (Int.toNat (IntKind.wrap .i64 (x3 - (1 : Int)))) (0 : Int))
      if (v1 == (0 : Int)) = true then
        s9 x0 (IntKind.wrap .i64 (x3 - (1 : Int)))
      else
        if (x3 == (0 : Int)) = true then
          some (([] : List Int))
        else
          if 0 ≤ x3 ∧ x3 ≤ (List.length x0 : Int) then
            some ((List.take (Int.toNat x3) x0))
          else none
    else none
  else
    if (x3 == (0 : Int)) = true then
      some (([] : List Int))
    else
      if 0 ≤ x3 ∧ x3 ≤ (List.length x0 : Int) then
        some ((List.take (Int.toNat x3) x0))
      else none
def Run_natural_trim : Prop := ∀ s9 : Nat → List Int → Int → Option ((List Int)), (∀ m x0 x3, s9 (m + 1) x0 x3 = S_natural_trim_9 (s9 m) x0 x3) → ∀ a0 : List Int, Ok (F_natural_trim a0) (fun m => T_natural_trim (s9 m) a0)

/-! cylinder/natural.Add$1 -/
def To_natural_Add_1 (a0 : Int) (a1 : Int) (l : Int) : Option ((Int) × (Int)) :=
  (F_bits_Add32 a0 a1 l).bind fun r1 =>
  some (r1.2, r1.1)
def Runo_natural_Add_1 : Prop := ∀ a0 : Int, ∀ a1 : Int, ∀ l : Int, Ok (O_natural_Add_1 a0 a1 l) (fun _ => To_natural_Add_1 a0 a1 l)

/-! cylinder/natural.trim -/
def To_natural_trim (s9 : Int → List Int → Option (((List Int) × (Option Int)))) (l : List Int) : Option ((List Int) × (Option Int)) :=
  s9 (List.length l : Int) l
def So_natural_trim_9 (s9 : Int → List Int → Option (((List Int) × (Option Int)))) (x3 : Int) (x0 : List Int) : Option ((List Int) × (Option Int)) :=
  if (decide (x3 > (0 : Int))) = true then
    if 0 ≤ (IntKind.wrap .i64 (x3 - (1 : Int))) ∧ (IntKind.wrap .i64 (x3 - (1 : Int))) < (List.length x0 : Int) then
      let v1 : Int := (List.getD x0 (Int.toNat (IntKind.wrap .i64 (x3 - (1 : Int)))) (0 : Int))
      if (v1 == (0 : Int)) = true then
        s9 (IntKind.wrap .i64 (x3 - (1 : Int))) x0
      else
        if (x3 == (0 : Int)) = true then
          some (x0, none)
        else
          if 0 ≤ x3 ∧ x3 ≤ (List.length x0 : Int) then
            some (x0, some (x3))
          else none
    else none
  else
    if (x3 == (0 : Int)) = true then
      some (x0, none)
    else
      if 0 ≤ x3 ∧ x3 ≤ (List.length x0 : Int) then
        some (x0, some (x3))
      else none
def Runo_natural_trim : Prop := ∀ s9 : Nat → Int → List Int → Option (((List Int) × (Option Int))), (∀ m x3 x0, s9 (m + 1) x3 x0 = So_natural_trim_9 (s9 m) x3 x0) → ∀ l : List Int, Ok (O_natural_trim l) (fun m => To_natural_trim (s9 m) l)

/-! cylinder/cylinderref01.Trim -/
def T_rational_Add (a0 : (Bool × List Int) × List Int) (a1 : (Bool × List Int) × List Int) : Option ((Bool × List Int) × List Int) :=
  (F_rational_parts a0).bind fun r1 =>
  (F_rational_parts a1).bind fun r2 =>
  (F_integer_Mul r1.1 r2.2).bind fun r3 =>
  (F_integer_Mul r2.1 r1.2).bind fun r4 =>
  (F_integer_Add r3 r4).bind fun r5 =>
  (F_natural_Mul r1.2.2 r2.2.2).bind fun r6 =>
  (F_rational_made r5 r6).bind fun r7 =>
  some r7
def Run_rational_Add : Prop := ∀ a0 : (Bool × List Int) × List Int, ∀ a1 : (Bool × List Int) × List Int, Ok (F_rational_Add a0 a1) (fun _ => T_rational_Add a0 a1)

/-! cylinder/rational.Ceil -/
def T_rational_Cmp (a0 : (Bool × List Int) × List Int) (a1 : (Bool × List Int) × List Int) : Option Int :=
  (F_rational_parts a0).bind fun r1 =>
  (F_rational_parts a1).bind fun r2 =>
  (F_integer_Sign r1.1).bind fun r3 =>
  (F_integer_Sign r2.1).bind fun r4 =>
  if (r3 != r4) = true then
    if (decide (r3 > r4)) = true then
      some ((1 : Int))
    else
      some ((-1 : Int))
  else
    (F_integer_Mul r1.1 r2.2).bind fun r5 =>
    (F_integer_Mul r2.1 r1.2).bind fun r6 =>
    (F_integer_Cmp r5 r6).bind fun r7 =>
    some r7
def Run_rational_Cmp : Prop := ∀ a0 : (Bool × List Int) × List Int, ∀ a1 : (Bool × List Int) × List Int, Ok (F_rational_Cmp a0 a1) (fun _ => T_rational_Cmp a0 a1)

/-! cylinder/rational.Floor -/
def T_rational_From (a0 : Bool × List Int) : Option ((Bool × List Int) × List Int) :=
  (F_integer_Normal a0).bind fun r1 =>
  (F_rational_one).bind fun r2 =>
  some ((r1, r2))
def Run_rational_From : Prop := ∀ a0 : Bool × List Int, Ok (F_rational_From a0) (fun _ => T_rational_From a0)

/-! cylinder/rational.Integer -/
def T_rational_Make (a0 : Bool × List Int) (a1 : Bool × List Int) : Option (((Bool × List Int) × List Int) × Int) :=
  (F_natural_IsZero a1.2).bind fun r1 =>
  if r1 = true then
    some (((false, ([] : List Int)), ([] : List Int)), (2 : Int))
  else
    if a1.1 = true then
      (F_integer_Neg a0).bind fun r2 =>
      (F_rational_made r2 a1.2).bind fun r3 =>
      some (r3, (0 : Int))
    else
      (F_rational_made a0 a1.2).bind fun r4 =>
      some (r4, (0 : Int))
def Run_rational_Make : Prop := ∀ a0 : Bool × List Int, ∀ a1 : Bool × List Int, Ok (F_rational_Make a0 a1) (fun _ => T_rational_Make a0 a1)

/-! cylinder/rational.Mid -/
def T_rational_Mid (a0 : (Bool × List Int) × List Int) (a1 : (Bool × List Int) × List Int) : Option ((Bool × List Int) × List Int) :=
  (F_rational_Add a0 a1).bind fun r1 =>
  (F_integer_Of (1 : Int)).bind fun r2 =>
  (F_natural_Of (2 : Int)).bind fun r3 =>
  (F_rational_Mul r1 (r2, r3)).bind fun r4 =>
  some r4
def Run_rational_Mid : Prop := ∀ a0 : (Bool × List Int) × List Int, ∀ a1 : (Bool × List Int) × List Int, Ok (F_rational_Mid a0 a1) (fun _ => T_rational_Mid a0 a1)

/-! cylinder/rational.Mul -/
def T_rational_Mul (a0 : (Bool × List Int) × List Int) (a1 : (Bool × List Int) × List Int) : Option ((Bool × List Int) × List Int) :=
  (F_rational_parts a0).bind fun r1 =>
  (F_rational_parts a1).bind fun r2 =>
  (F_integer_Mul r1.1 r2.1).bind fun r3 =>
  (F_natural_Mul r1.2.2 r2.2.2).bind fun r4 =>
  (F_rational_made r3 r4).bind fun r5 =>
  some r5
def Run_rational_Mul : Prop := ∀ a0 : (Bool × List Int) × List Int, ∀ a1 : (Bool × List Int) × List Int, Ok (F_rational_Mul a0 a1) (fun _ => T_rational_Mul a0 a1)

/-! cylinder/rational.Neg -/
def T_rational_Neg (a0 : (Bool × List Int) × List Int) : Option ((Bool × List Int) × List Int) :=
  (F_integer_Neg a0.1).bind fun r1 =>
  (F_rational_made r1 a0.2).bind fun r2 =>
  some r2
def Run_rational_Neg : Prop := ∀ a0 : (Bool × List Int) × List Int, Ok (F_rational_Neg a0) (fun _ => T_rational_Neg a0)

/-! cylinder/rational.Normal -/
def T_rational_Normal (a0 : (Bool × List Int) × List Int) : Option ((Bool × List Int) × List Int) :=
  (F_rational_made a0.1 a0.2).bind fun r1 =>
  some r1
def Run_rational_Normal : Prop := ∀ a0 : (Bool × List Int) × List Int, Ok (F_rational_Normal a0) (fun _ => T_rational_Normal a0)

/-! cylinder/rational.Of -/
def T_rational_Of (a0 : Int) : Option ((Bool × List Int) × List Int) :=
  (F_integer_Of a0).bind fun r1 =>
  (F_rational_one).bind fun r2 =>
  some ((r1, r2))
def Run_rational_Of : Prop := ∀ a0 : Int, Ok (F_rational_Of a0) (fun _ => T_rational_Of a0)

/-! cylinder/rational.Pow -/
def T_rational_Sub (a0 : (Bool × List Int) × List Int) (a1 : (Bool × List Int) × List Int) : Option ((Bool × List Int) × List Int) :=
  (F_integer_Neg a1.1).bind fun r1 =>
  (F_rational_Add a0 (r1, a1.2)).bind fun r2 =>
  some r2
def Run_rational_Sub : Prop := ∀ a0 : (Bool × List Int) × List Int, ∀ a1 : (Bool × List Int) × List Int, Ok (F_rational_Sub a0 a1) (fun _ => T_rational_Sub a0 a1)

/-! cylinder/rational.isOne -/
def T_rational_isOne (a0 : List Int) : Option Bool :=
  if ((List.length a0 : Int) == (1 : Int)) = true then
    if 0 ≤ (0 : Int) ∧ (0 : Int) < (List.length a0 : Int) then
      some (((List.getD a0 (Int.toNat (0 : Int)) (0 : Int)) == (1 : Int)))
    else none
  else
    some false
def Run_rational_isOne : Prop := ∀ a0 : List Int, Ok (F_rational_isOne a0) (fun _ => T_rational_isOne a0)

/-! cylinder/rational.made -/
def T_rational_made (s12 : Bool → List Int → (Bool × List Int) → ((Bool × List Int) × List Int) → Option (((Bool × List Int) × List Int))) (a0 : Bool × List Int) (a1 : List Int) : Option ((Bool × List Int) × List Int) :=
  (F_natural_Normal a1).bind fun r1 =>
  if ((List.length r1 : Int) == (0 : Int)) = true then
    s12 true r1 a0 ((false, ([] : List Int)), ([] : List Int))
  else
    (F_natural_IsZero a0.2).bind fun r2 =>
    s12 r2 r1 a0 ((false, ([] : List Int)), ([] : List Int))
def S_rational_made_12 (s12 : Bool → List Int → (Bool × List Int) → ((Bool × List Int) × List Int) → Option (((Bool × List Int) × List Int))) (x20 : Bool) (x1 : List Int) (x2 : Bool × List Int) (x4 : (Bool × List Int) × List Int) : Option ((Bool × List Int) × List Int) :=
  if x20 = true then
    (F_rational_one).bind fun r1 =>
    some (((false, ([] : List Int)), r1))
  else
    (F_rational_isOne x1).bind fun r2 =>
    if r2 = true then
      (F_integer_Normal x2).bind fun r3 =>
      some ((r3, x1))
    else
      (F_integer_From false x1).bind fun r4 =>
      (F_division_Gcd x2 r4).bind fun r5 =>
      (F_rational_isOne r5.2).bind fun r6 =>
      if r6 = true then
        (F_integer_Normal x2).bind fun r7 =>
        some ((r7, x1))
      else
        (F_division_Exact x2 r5).bind fun r8 =>
        (F_division_Exact r4 r5).bind fun r9 =>
        some ((r8.1, r9.1.2))
def Run_rational_made : Prop := ∀ s12 : Nat → Bool → List Int → (Bool × List Int) → ((Bool × List Int) × List Int) → Option (((Bool × List Int) × List Int)), (∀ m x20 x1 x2 x4, s12 (m + 1) x20 x1 x2 x4 = S_rational_made_12 (s12 m) x20 x1 x2 x4) → ∀ a0 : Bool × List Int, ∀ a1 : List Int, Ok (F_rational_made a0 a1) (fun m => T_rational_made (s12 m) a0 a1)

/-! cylinder/rational.one -/
def T_rational_one : Option (List Int) :=
  (F_natural_Of (1 : Int)).bind fun r1 =>
  some r1
def Run_rational_one : Prop := Ok (F_rational_one) (fun _ => T_rational_one)

/-! cylinder/rational.parts -/
def T_rational_parts (a0 : (Bool × List Int) × List Int) : Option ((Bool × List Int) × Bool × List Int) :=
  (F_natural_IsZero a0.2).bind fun r1 =>
  if r1 = true then
    (F_integer_Of (1 : Int)).bind fun r2 =>
    some ((false, ([] : List Int)), r2)
  else
    some (a0.1, (false, a0.2))
def Run_rational_parts : Prop := ∀ a0 : (Bool × List Int) × List Int, Ok (F_rational_parts a0) (fun _ => T_rational_parts a0)

/-! cylinder/cylinderref01.Add -/
def T_bits_Len64 (s16 : Int → Int → Option Int) (s28 : Int → Int → Option Int) (s40 : Int → Int → Option Int) (a0 : Int) : Option Int :=
  if (decide (a0 ≥ (4294967296 : Int))) = true then
    if (32 : Int) < 0 then none else
    s16 (Int.fdiv a0 (2 ^ (min (Int.toNat (32 : Int)) (IntKind.bits .u64)))) (32 : Int)
  else
    s16 a0 (0 : Int)
def S_bits_Len64_16 (s16 : Int → Int → Option Int) (s28 : Int → Int → Option Int) (s40 : Int → Int → Option Int) (x0 : Int) (x2 : Int) : Option Int :=
  if (decide (x0 ≥ (65536 : Int))) = true then
    if (16 : Int) < 0 then none else
    s28 (Int.fdiv x0 (2 ^ (min (Int.toNat (16 : Int)) (IntKind.bits .u64)))) (IntKind.wrap .i64 (x2 + (16 : Int)))
  else
    s28 x0 x2
def S_bits_Len64_28 (s16 : Int → Int → Option Int) (s28 : Int → Int → Option Int) (s40 : Int → Int → Option Int) (x0 : Int) (x2 : Int) : Option Int :=
  if (decide (x0 ≥ (256 : Int))) = true then
    if (8 : Int) < 0 then none else
    s40 (Int.fdiv x0 (2 ^ (min (Int.toNat (8 : Int)) (IntKind.bits .u64)))) (IntKind.wrap .i64 (x2 + (8 : Int)))
  else
    s40 x0 x2
def S_bits_Len64_40 (s16 : Int → Int → Option Int) (s28 : Int → Int → Option Int) (s40 : Int → Int → Option Int) (x0 : Int) (x2 : Int) : Option Int :=
  if 0 ≤ (IntKind.wrap .u8 x0) ∧ (IntKind.wrap .u8 x0) < ((ByteArray.size (ByteArray.mk #[0, 1, 2, 2, 3, 3, 3, 3, 4, 4, 4, 4, 4, 4, 4, 4, 5, 5, 5, 5, 5, 5, 5, 5, 5, 5, 5, 5, 5, 5, 5, 5, 6, 6, 6, 6, 6, 6, 6, 6, 6, 6, 6, 6, 6, 6, 6, 6, 6, 6, 6, 6, 6, 6, 6, 6, 6, 6, 6, 6, 6, 6, 6, 6, 7, 7, 7, 7, 7, 7, 7, 7, 7, 7, 7, 7, 7, 7, 7, 7, 7, 7, 7, 7, 7, 7, 7, 7, 7, 7, 7, 7, 7, 7, 7, 7, 7, 7, 7, 7, 7, 7, 7, 7, 7, 7, 7, 7, 7, 7, 7, 7, 7, 7, 7, 7, 7, 7, 7, 7, 7, 7, 7, 7, 7, 7, 7, 7, 8, 8, 8, 8, 8, 8, 8, 8, 8, 8, 8, 8, 8, 8, 8, 8, 8, 8, 8, 8, 8, 8, 8, 8, 8, 8, 8, 8, 8, 8, 8, 8, 8, 8, 8, 8, 8, 8, 8, 8, 8, 8, 8, 8, 8, 8, 8, 8, 8, 8, 8, 8, 8, 8, 8, 8, 8, 8, 8, 8, 8, 8, 8, 8, 8, 8, 8, 8, 8, 8, 8, 8, 8, 8, 8, 8, 8, 8, 8, 8, 8, 8, 8, 8, 8, 8, 8, 8, 8, 8, 8, 8, 8, 8, 8, 8, 8, 8, 8, 8, 8, 8, 8, 8, 8, 8, 8, 8, 8, 8, 8, 8, 8, 8, 8, 8, 8, 8, 8, 8, 8, 8, 8, 8, 8, 8, 8, 8])) : Int) then
    let v1 : Int := (Go.W.bt (ByteArray.mk #[0, 1, 2, 2, 3, 3, 3, 3, 4, 4, 4, 4, 4, 4, 4, 4, 5, 5, 5, 5, 5, 5, 5, 5, 5, 5, 5, 5, 5, 5, 5, 5, 6, 6, 6, 6, 6, 6, 6, 6, 6, 6, 6, 6, 6, 6, 6, 6, 6, 6, 6, 6, 6, 6, 6, 6, 6, 6, 6, 6, 6, 6, 6, 6, 7, 7, 7, 7, 7, 7, 7, 7, 7, 7, 7, 7, 7, 7, 7, 7, 7, 7, 7, 7, 7, 7, 7, 7, 7, 7, 7, 7, 7, 7, 7, 7, 7, 7, 7, 7, 7, 7, 7, 7, 7, 7, 7, 7, 7, 7, 7, 7, 7, 7, 7, 7, 7, 7, 7, 7, 7, 7, 7, 7, 7, 7, 7, 7, 8, 8, 8, 8, 8, 8, 8, 8, 8, 8, 8, 8, 8, 8, 8, 8, 8, 8, 8, 8, 8, 8, 8, 8, 8, 8, 8, 8, 8, 8, 8, 8, 8, 8, 8, 8, 8, 8, 8, 8, 8, 8, 8, 8, 8, 8, 8, 8, 8, 8, 8, 8, 8, 8, 8, 8, 8, 8, 8, 8, 8, 8, 8, 8, 8, 8, 8, 8, 8, 8, 8, 8, 8, 8, 8, 8, 8, 8, 8, 8, 8, 8, 8, 8, 8, 8, 8, 8, 8, 8, 8, 8, 8, 8, 8, 8, 8, 8, 8, 8, 8, 8, 8, 8, 8, 8, 8, 8, 8, 8, 8, 8, 8, 8, 8, 8, 8, 8, 8, 8, 8, 8, 8, 8, 8, 8, 8, 8]) (IntKind.wrap .u8 x0))
    some ((IntKind.wrap .i64 (x2 + (IntKind.wrap .i64 v1))))
  else none
def Run_bits_Len64 : Prop := ∀ s16 : Nat → Int → Int → Option Int, ∀ s28 : Nat → Int → Int → Option Int, ∀ s40 : Nat → Int → Int → Option Int, (∀ m x0 x2, s16 (m + 1) x0 x2 = S_bits_Len64_16 (s16 m) (s28 m) (s40 m) x0 x2) → (∀ m x0 x2, s28 (m + 1) x0 x2 = S_bits_Len64_28 (s16 m) (s28 m) (s40 m) x0 x2) → (∀ m x0 x2, s40 (m + 1) x0 x2 = S_bits_Len64_40 (s16 m) (s28 m) (s40 m) x0 x2) → ∀ a0 : Int, Ok (F_bits_Len64 a0) (fun m => T_bits_Len64 (s16 m) (s28 m) (s40 m) a0)

/-! math/bits.LeadingZeros64 -/
def T_bits_LeadingZeros64 (a0 : Int) : Option Int :=
  (F_bits_Len64 a0).bind fun r1 =>
  some ((IntKind.wrap .i64 ((64 : Int) - r1)))
def Run_bits_LeadingZeros64 : Prop := ∀ a0 : Int, Ok (F_bits_LeadingZeros64 a0) (fun _ => T_bits_LeadingZeros64 a0)
end
end Go.W

set_option linter.unusedVariables false
set_option linter.unusedSimpArgs false
namespace Go.W

/-! ### Sizes -/
theorem pow32 (k : Nat) : (4294967296 : Int) ^ k = 2 ^ (32 * k) := by
  rw [Int.pow_mul]; congr 1
theorem two_pow_pos (k : Nat) : (0 : Int) < 2 ^ k := Int.pow_pos (by decide)
theorem two_pow_le {j k : Nat} (h : j ≤ k) : (2 : Int) ^ j ≤ 2 ^ k := by
  obtain ⟨d, rfl⟩ := Nat.le.dest h
  rw [Int.pow_add]
  have h1 := two_pow_pos j
  have h2 := two_pow_pos d
  have : (2 : Int) ^ j * 1 ≤ 2 ^ j * 2 ^ d := Int.mul_le_mul_of_nonneg_left (by omega) (by omega)
  omega
theorem Bd.mono {j k : Nat} {n : Int} (h : Bd j n) (hk : j ≤ k) : Bd k n := ⟨h.1, Int.lt_of_lt_of_le h.2 (two_pow_le hk)⟩
theorem Bd.nonneg {k : Nat} {n : Int} (h : Bd k n) : 0 ≤ n := h.1
theorem Bd.le {k : Nat} {m n : Int} (h : Bd k n) (h0 : 0 ≤ m) (h1 : m ≤ n) : Bd k m := ⟨h0, Int.lt_of_le_of_lt h1 h.2⟩
theorem Bd.zero (k : Nat) : Bd k 0 := ⟨Int.le_refl _, two_pow_pos k⟩
theorem Bd.add {j k : Nat} {m n : Int} (h : Bd j m) (h' : Bd k n) : Bd (max j k + 1) (m + n) := by
  have h1 := h.mono (Nat.le_max_left j k)
  have h2 := h'.mono (Nat.le_max_right j k)
  refine ⟨by have := h1.1; have := h2.1; omega, ?_⟩
  have := h1.2; have := h2.2
  rw [Int.pow_succ]; omega
theorem Bd.mul {j k : Nat} {m n : Int} (h : Bd j m) (h' : Bd k n) : Bd (j + k) (m * n) := by
  refine ⟨Int.mul_nonneg h.1 h'.1, ?_⟩
  rw [Int.pow_add]
  have h1 := h.2; have h2 := h'.2
  have : m * n ≤ m * 2 ^ k := Int.mul_le_mul_of_nonneg_left (by omega) h.1
  have : m * 2 ^ k < 2 ^ j * 2 ^ k := Int.mul_lt_mul_of_pos_right h1 (two_pow_pos k)
  omega
theorem Bd.pow {j : Nat} {m : Int} (h : Bd j m) : ∀ e : Nat, Bd (j * e + 1) (m ^ e)
  | 0 => by refine ⟨by simp, ?_⟩; simp
  | e + 1 => by
    have := (Bd.pow h e).mul h
    rw [Int.pow_succ]
    exact this.mono (by rw [Nat.mul_succ]; omega)
theorem Bd.div {j : Nat} {m d : Int} (h : Bd j m) (hd : 0 ≤ d) : Bd j (m / d) := by
  refine h.le (Int.ediv_nonneg h.1 hd) ?_
  exact Int.ediv_le_self _ h.1
theorem Bd.emod {j : Nat} {m d : Int} (h : Bd j m) (hd : 0 < d) : Bd j (m % d) := h.le (Int.emod_nonneg _ (by omega)) (by have h1 := Int.mul_ediv_add_emod m d; have h2 := Int.mul_nonneg (Int.le_of_lt hd) (Int.ediv_nonneg h.1 (Int.le_of_lt hd)); omega)
theorem NN.val {a : List Int} (h : NN a) : Bd (32 * a.length) (nv a) := ⟨gv_nonneg (by decide) h.1, by rw [← pow32]; exact gv_lt (by decide) h.1⟩
theorem NN.nonneg {a : List Int} (h : NN a) : 0 ≤ nv a := gv_nonneg (by decide) h.1
theorem NN.big {a : List Int} (h : NN a) : Bd 2199023255552 (nv a) := h.val.mono (by have := h.2; omega)
theorem dn_len {k : Nat} {n : Int} (h : n < 2 ^ (32 * k)) : (dn n).length ≤ k := gd_len (by decide) k n (by rw [pow32]; exact h)
theorem NN.dn {k : Nat} {n : Int} (h : Bd k n) (hk : k ≤ 2199023255552) : NN (dn n) := ⟨gd_DV (by decide) n, dn_len (h.mono hk).2⟩
theorem NN.nil : NN [] := ⟨.nil, by simp⟩
theorem nv_dn {n : Int} (h : 0 ≤ n) : nv (dn n) = n := gd_val (by decide) n h
theorem dn_zero : dn 0 = [] := gd_zero _
theorem NN.take {a : List Int} (h : NN a) (k : Nat) : NN (a.take k) := ⟨h.1.take k, by have := h.2; simp; omega⟩
theorem NN.drop {a : List Int} (h : NN a) (k : Nat) : NN (a.drop k) := ⟨h.1.drop k, by have := h.2; simp; omega⟩

theorem BB.val {a : List Int} (h : BB a) : Bd a.length (bv a) := ⟨gv_nonneg (by decide) h.1, gv_lt (by decide) h.1⟩
theorem BB.nonneg {a : List Int} (h : BB a) : 0 ≤ bv a := gv_nonneg (by decide) h.1
theorem BB.bd {k : Nat} {n : Int} (h : Bd k n) (hk : k ≤ 2199023255552) : BB (bd n) := ⟨gd_DV (by decide) n, gd_len (by decide) _ n (h.mono hk).2⟩
theorem bv_bd {n : Int} (h : 0 ≤ n) : bv (bd n) = n := gd_val (by decide) n h
theorem bd_len {k : Nat} {n : Int} (h : n < 2 ^ k) : (bd n).length ≤ k := gd_len (by decide) k n h
theorem bd_zero : bd 0 = [] := gd_zero _
theorem BB.nil : BB [] := ⟨.nil, by simp⟩
/-- how long normal digits are -/
theorem gd_len_lt {B : Int} (hB : 1 < B) (n : Int) : n < B ^ (gd B n).length := by
  by_cases h : 0 ≤ n
  · have := gv_lt (by omega) (gd_DV hB n)
    rwa [gd_val hB n h] at this
  · exact Int.lt_trans (by omega) (pow_pos' (by omega) _)
theorem gd_len_ge {B : Int} (hB : 1 < B) {n : Int} (h : 0 < n) : B ^ ((gd B n).length - 1) ≤ n := by
  have hl := gd_len hB ((gd B n).length - 1) n
  by_cases hh : n < B ^ ((gd B n).length - 1)
  · have h1 := hl hh
    have h2 : gd B n ≠ [] := fun h0 => by have := (gd_nil hB).1 h0; omega
    have : (gd B n).length ≠ 0 := fun h0 => h2 (List.eq_nil_of_length_eq_zero h0)
    omega
  · omega
theorem bl_lt (n : Int) : n < 2 ^ (bl n).toNat := by unfold bl; exact gd_len_lt (by decide) n
theorem bl_ge {n : Int} (h : 0 < n) : 2 ^ ((bl n).toNat - 1) ≤ n := by unfold bl; exact gd_len_ge (by decide) h
theorem bl_nonneg (n : Int) : 0 ≤ bl n := by unfold bl; omega
theorem bl_le {k : Nat} {n : Int} (h : n < 2 ^ k) : bl n ≤ k := by unfold bl; have := bd_len h; omega
theorem bl_zero : bl 0 = 0 := by unfold bl; rw [bd_zero]; rfl
theorem bl_pos {n : Int} (h : 0 < n) : 0 < bl n := by
  have := bl_lt n
  have h1 := bl_nonneg n
  by_cases h0 : bl n = 0
  · rw [h0] at this; simp at this; omega
  · omega
theorem bl_eq {n : Int} {k : Nat} (h : 2 ^ k ≤ n) (h' : n < 2 ^ (k + 1)) : bl n = k + 1 := by
  have h0 := two_pow_pos k
  have h1 := bl_le h'
  have h2 := bl_lt n
  have h3 := bl_nonneg n
  by_cases hb : (bl n).toNat ≤ k
  · have := two_pow_le hb; omega
  · omega
theorem ab_nonneg (z : Int) : 0 ≤ ab z := by unfold ab; split <;> omega
theorem ab_eq (z : Int) : ab z = (z.natAbs : Int) := by unfold ab; split <;> omega
theorem ab_mul (y z : Int) : ab (y * z) = ab y * ab z := by rw [ab_eq, ab_eq, ab_eq, Int.natAbs_mul]; simp
theorem ab_neg (z : Int) : ab (-z) = ab z := by unfold ab; split <;> split <;> omega
theorem iv_ab {z : Bool × List Int} (h : II z) : ab (iv z) = nv z.2 := by
  have := NN.nonneg h
  unfold ab iv; split <;> split <;> omega
theorem II.bd {z : Bool × List Int} (h : II z) : Bd (32 * z.2.length) (ab (iv z)) := by rw [iv_ab h]; exact NN.val h
theorem iv_di (z : Int) : iv (di z) = z := by
  unfold iv di
  simp only [decide_eq_true_eq]
  rw [nv_dn (ab_nonneg z)]
  unfold ab; split <;> omega
theorem II.di {k : Nat} {z : Int} (h : Bd k (ab z)) (hk : k ≤ 2199023255552) : II (di z) := NN.dn h hk
theorem II.big {z : Bool × List Int} (h : II z) : Bd 2199023255552 (ab (iv z)) := by rw [iv_ab h]; exact NN.big h
theorem di_zero : di 0 = (false, []) := by unfold di; simp [ab, dn_zero]
theorem Bd.ab_add {j k : Nat} {y z : Int} (h : Bd j (ab y)) (h' : Bd k (ab z)) : Bd (max j k + 1) (ab (y + z)) := by
  refine (h.add h').le (ab_nonneg _) ?_
  unfold ab; split <;> split <;> split <;> omega
theorem Bd.ab_sub {j k : Nat} {y z : Int} (h : Bd j (ab y)) (h' : Bd k (ab z)) : Bd (max j k + 1) (ab (y - z)) := by
  refine (h.add h').le (ab_nonneg _) ?_
  unfold ab; split <;> split <;> split <;> omega
theorem Bd.ab_mul {j k : Nat} {y z : Int} (h : Bd j (ab y)) (h' : Bd k (ab z)) : Bd (j + k) (ab (y * z)) := by rw [Go.W.ab_mul]; exact h.mul h'
theorem ab_pow (z : Int) : ∀ e : Nat, ab (z ^ e) = ab z ^ e
  | 0 => by simp [ab]
  | e + 1 => by rw [Int.pow_succ, Int.pow_succ, ab_mul, ab_pow z e]
end Go.W

set_option linter.unusedVariables false
set_option linter.unusedSimpArgs false
namespace Go.W

/-! ### Words -/
theorem shr_eq (a k : Int) (b : Nat) : Int.fdiv a (2 ^ (min (Int.toNat k) b)) = a / 2 ^ (min (Int.toNat k) b) :=
  Int.fdiv_eq_ediv_of_nonneg _ (Int.le_of_lt (two_pow_pos _))
theorem bits32 : IntKind.bits .u32 = 32 := rfl
theorem bits64 : IntKind.bits .u64 = 64 := rfl
theorem i64w {n : Int} (h : -9223372036854775808 ≤ n) (h' : n ≤ 9223372036854775807) : IntKind.wrap .i64 n = n := IntWalk.i64_in n ⟨h, h'⟩
theorem u64w {n : Int} (h : 0 ≤ n) (h' : n < 18446744073709551616) : IntKind.wrap .u64 n = n := IntWalk.u64_in n ⟨h, by omega⟩
theorem u32w {n : Int} (h : 0 ≤ n) (h' : n < 4294967296) : IntKind.wrap .u32 n = n := IntWalk.u32_in n ⟨h, by omega⟩
theorem Bd32 {n : Int} : Bd 32 n ↔ 0 ≤ n ∧ n < 4294967296 := Iff.rfl
theorem Bd64 {n : Int} : Bd 64 n ↔ 0 ≤ n ∧ n < 18446744073709551616 := Iff.rfl
theorem Bd1 {n : Int} : Bd 1 n ↔ 0 ≤ n ∧ n < 2 := Iff.rfl
/-- disjoint bits -/
theorem or_nat (x y k : Nat) (hy : y < 2 ^ k) : (x * 2 ^ k) ||| y = x * 2 ^ k + y := by
  rw [Nat.mul_comm, ← Nat.two_pow_add_eq_or_of_lt hy]
theorem or_word {b : Nat} {x y : Int} (k : Nat) (hx : 0 ≤ x) (hy : 0 ≤ y) (hy' : y < 2 ^ k) (hb : x * 2 ^ k + y < 2 ^ b) :
    ((BitVec.toNat ((BitVec.ofInt b (x * 2 ^ k)) ||| (BitVec.ofInt b y)) : Nat) : Int) = x * 2 ^ k + y := by
  have hp := two_pow_pos k
  have hxk := Int.mul_nonneg hx (Int.le_of_lt hp)
  rw [BitVec.toNat_or, BitVec.toNat_ofInt, BitVec.toNat_ofInt]
  have e : ((2 ^ b : Nat) : Int) = 2 ^ b := by simp
  rw [e, Int.emod_eq_of_lt hxk (by omega), Int.emod_eq_of_lt hy (by omega)]
  obtain ⟨a, rfl⟩ := Int.eq_ofNat_of_zero_le hx
  obtain ⟨c, rfl⟩ := Int.eq_ofNat_of_zero_le hy
  have e1 : (Int.toNat ((a : Int) * 2 ^ k)) = a * 2 ^ k := by
    have : ((a : Int) * 2 ^ k) = ((a * 2 ^ k : Nat) : Int) := by simp
    rw [this]; exact Int.toNat_natCast _
  rw [e1, Int.toNat_natCast, or_nat a c k (by
    have : ((c : Nat) : Int) < ((2 ^ k : Nat) : Int) := by simpa using hy'
    exact Int.ofNat_lt.1 this)]
  simp
theorem and_word {b : Nat} {x : Int} (k : Nat) (hk : k ≤ b) (hx : 0 ≤ x) (hb : x < 2 ^ b) :
    ((BitVec.toNat ((BitVec.ofInt b x) &&& (BitVec.ofInt b (2 ^ k - 1))) : Nat) : Int) = x % 2 ^ k := by
  have hp := two_pow_pos k
  have hkb := two_pow_le hk
  rw [BitVec.toNat_and, BitVec.toNat_ofInt, BitVec.toNat_ofInt]
  have e : ((2 ^ b : Nat) : Int) = 2 ^ b := by simp
  rw [e, Int.emod_eq_of_lt hx hb, Int.emod_eq_of_lt (by omega) (by omega)]
  obtain ⟨a, rfl⟩ := Int.eq_ofNat_of_zero_le hx
  have : Int.toNat ((2 : Int) ^ k - 1) = 2 ^ k - 1 := by
    have h2 : ((2 : Int) ^ k) = ((2 ^ k : Nat) : Int) := by simp
    rw [h2]; have := Nat.two_pow_pos k; omega
  rw [Int.toNat_natCast, this, Nat.and_two_pow_sub_one_eq_mod]
  simp

/-! ### The own block cut to its normal part -/
theorem optE_trO {ρ : Type} {n : Int} {A : Option ρ} {B : Int → Option ρ} : optE (trO n) A B = if n = 0 then A else B ((dn n).length : Int) := by
  unfold trO; split <;> rfl
theorem sameLen_self {e : Ty} {l : List e.D} : sameLen false e l l := rfl
theorem sameLen_of {e : Ty} {l l' : List e.D} (h : l'.length = l.length) : sameLen false e l l' := h
theorem take_norm {B : Int} (hB : 1 < B) : ∀ {a : List Int}, DV B a → a.take (gd B (gv B a)).length = gd B (gv B a)
  | [], _ => by simp [gv, gd_zero]
  | x :: l, h => by
    have hd := DV.cons.1 h
    have hg := gv_nonneg (by omega) hd.2
    by_cases hp : 0 < gv B (x :: l)
    · rw [gd_pos hB hp]
      simp only [gv]
      rw [Int.add_mul_emod_self_left, Int.emod_eq_of_lt hd.1.1 hd.1.2, Int.add_mul_ediv_left _ _ (by omega), Int.ediv_eq_zero_of_lt hd.1.1 hd.1.2, Int.zero_add, List.length_cons, List.take_succ_cons, take_norm hB hd.2]
    · rw [gd_neg (by omega)]; simp
theorem nv_take' {a : List Int} (h : DV 4294967296 a) : a.take (dn (nv a)).length = dn (nv a) := take_norm (by decide) h
theorem dn_len_le {a : List Int} (h : NN a) : (dn (nv a)).length ≤ a.length := dn_len h.val.2
end Go.W

set_option linter.unusedVariables false
set_option linter.unusedSimpArgs false
namespace Go.W

/-! ### math/bits -/
theorem Rn_bits_Add32 : Run_bits_Add32 := fun a b c => Ok.gif_const fun ⟨ha, hb, hc, hs⟩ => by
  rw [Bd32] at ha hb hc
  simp only [T_bits_Add32, shr_eq, IntKind.wrap_u32, IntKind.wrap_u64, bits64]
  simp
  omega
theorem wrapBV (v : BitVec (IntKind.bits .u32)) : IntKind.wrap .u32 ((v.toNat : Nat) : Int) = ((v.toNat : Nat) : Int) := by
  rw [IntKind.wrap_u32]; have : v.toNat < 2 ^ 32 := v.isLt; omega
theorem ofIntBV (v : BitVec (IntKind.bits .u32)) : BitVec.ofInt (IntKind.bits .u32) ((v.toNat : Nat) : Int) = v := by
  rw [BitVec.ofInt_natCast, BitVec.ofNat_toNat, BitVec.setWidth_eq]
theorem top32 (v : BitVec (IntKind.bits .u32)) : ((v.toNat : Nat) : Int) / 2147483648 = if v.msb = true then 1 else 0 := by
  have : v.toNat < 2 ^ 32 := v.isLt
  rw [BitVec.msb_eq_decide]
  by_cases h : 2 ^ (IntKind.bits .u32 - 1) ≤ v.toNat
  · have h' : 2147483648 ≤ v.toNat := h
    rw [decide_eq_true h, if_pos rfl]; omega
  · have h' : ¬ 2147483648 ≤ v.toNat := h
    rw [decide_eq_false h, if_neg (by decide)]; omega
theorem msb_ofInt {x : Int} (h : 0 ≤ x) (h' : x < 4294967296) : (BitVec.ofInt (IntKind.bits .u32) x).msb = decide (2147483648 ≤ x) := by
  rw [BitVec.msb_eq_decide, BitVec.toNat_ofInt]
  have e : ((2 ^ (IntKind.bits .u32) : Nat) : Int) = 4294967296 := rfl
  rw [e, Int.emod_eq_of_lt h h']
  congr 1
  apply propext
  simp only [bits32]
  simp
  omega
theorem Rn_bits_Sub32 : Run_bits_Sub32 := fun a b c => Ok.gif_const fun ⟨ha, hb, hc⟩ => by
  rw [Bd32] at ha hb
  rw [Bd1] at hc
  have hd : 0 ≤ IntKind.wrap .u32 (IntKind.wrap .u32 (a - b) - c) ∧ IntKind.wrap .u32 (IntKind.wrap .u32 (a - b) - c) < 4294967296 := by
    simp only [IntKind.wrap_u32]; omega
  have hm : (BitVec.ofInt (IntKind.bits .u32) (if IntKind.signed .u32 = true then -1 else IntKind.max .u32)).msb = true := by decide
  simp only [T_bits_Sub32, shr_eq, wrapBV, ofIntBV]
  rw [show (2 : Int) ^ min (Int.toNat 31) (IntKind.bits .u32) = 2147483648 from rfl, top32]
  simp only [BitVec.msb_or, BitVec.msb_and, BitVec.msb_xor, hm, msb_ofInt ha.1 ha.2, msb_ofInt hb.1 hb.2, msb_ofInt hd.1 hd.2]
  generalize hD : IntKind.wrap .u32 (IntKind.wrap .u32 (a - b) - c) = D at hd
  have hD' : D = (a - b - c) % 4294967296 := by rw [← hD]; simp only [IntKind.wrap_u32]; omega
  rw [if_neg (by decide), hD']
  congr 2
  by_cases h1 : 2147483648 ≤ a <;> by_cases h2 : 2147483648 ≤ b <;> by_cases h3 : 2147483648 ≤ (a - b - c) % 4294967296 <;> simp [h1, h2, h3] <;> omega
theorem Rn_bits_Mul32 : Run_bits_Mul32 := fun a b => Ok.gif_const fun ⟨ha, hb⟩ => by
  have hm := ha.mul hb
  rw [show 32 + 32 = 64 from rfl, Bd64] at hm
  rw [Bd32] at ha hb
  simp only [T_bits_Mul32, shr_eq, bits64]
  rw [u64w (n := a) (by omega) (by omega), u64w (n := b) (by omega) (by omega), u64w hm.1 hm.2]
  rw [show (2 : Int) ^ min (Int.toNat 32) 64 = 4294967296 from rfl]
  rw [if_neg (by decide), u32w (n := a * b / 4294967296) (by omega) (by omega), IntKind.wrap_u32]
theorem Rn_bits_Div32 : Run_bits_Div32 := fun s hs a b c => Ok.gif fun ⟨h0, h1, h2, h3⟩ => by
  rw [Bd32] at h2 h3
  have hc : (c != 0) = true := by simp; omega
  simp only [T_bits_Div32, hc, if_true]
  refine Ev.step (fun m => hs m _ _ _ _) ?_
  have hle : decide (c ≤ a) = false := by simp; omega
  simp only [S_bits_Div32_8, hle]
  have e1 : IntKind.wrap .u64 (IntKind.wrap .u64 a * 2 ^ min (Int.toNat 32) (IntKind.bits .u64)) = a * 2 ^ 32 := by
    rw [show (2 : Int) ^ min (Int.toNat 32) (IntKind.bits .u64) = 4294967296 from rfl, u64w (n := a) (by omega) (by omega), u64w (by omega) (by omega)]; rfl
  rw [e1, u64w (n := b) (by omega) (by omega), u64w (n := c) (by omega) (by omega), or_word 32 h0 h2.1 h2.2 (by have : (2 : Int) ^ (IntKind.bits .u64) = 18446744073709551616 := rfl; have : (2 : Int) ^ 32 = 4294967296 := rfl; omega)]
  rw [show (2 : Int) ^ 32 = 4294967296 from rfl, u64w (n := a * 4294967296 + b) (by omega) (by omega)]
  have hN : 0 ≤ a * 4294967296 + b := by omega
  have hq : (a * 4294967296 + b) / c < 4294967296 := Int.ediv_lt_of_lt_mul (by omega) (by
    have : (a + 1) * 4294967296 ≤ c * 4294967296 := Int.mul_le_mul_of_nonneg_right (by omega) (by omega)
    omega)
  have hq0 : 0 ≤ (a * 4294967296 + b) / c := Int.ediv_nonneg hN (by omega)
  have hr0 := Int.emod_nonneg (a * 4294967296 + b) (show c ≠ 0 by omega)
  have hr := Int.emod_lt_of_pos (a * 4294967296 + b) (show 0 < c by omega)
  rw [Int.tdiv_eq_ediv_of_nonneg hN, Int.tmod_eq_emod_of_nonneg hN, u64w hq0 (by omega), u32w hq0 hq, u32w hr0 (by omega)]
  simp only [show ¬ ((32 : Int) < 0) by decide, show ¬ (c = 0) by omega, if_false]
  exact Ev.ret
theorem Rn_bits_Div64 : Run_bits_Div64 := fun s1 s2 s3 s4 k1 k2 k3 k4 a b c => Ok.gif fun ⟨h0, h1, h2, h3⟩ => by
  subst h0
  rw [Bd64] at h1 h2
  have hc : (c == 0) = false := by simp; omega
  have hle : decide (c ≤ 0) = false := by simp; omega
  simp only [T_bits_Div64, hc, hle]
  have hq : b / c < 18446744073709551616 := Int.lt_of_le_of_lt (Int.ediv_le_self _ h1.1) h1.2
  rw [Int.tdiv_eq_ediv_of_nonneg h1.1, Int.tmod_eq_emod_of_nonneg h1.1, u64w (Int.ediv_nonneg h1.1 (by omega)) hq]
  simp only [show ¬ (c = 0) by omega, if_false]
  exact Ev.ret

def lenTab : ByteArray := (ByteArray.mk #[0, 1, 2, 2, 3, 3, 3, 3, 4, 4, 4, 4, 4, 4, 4, 4, 5, 5, 5, 5, 5, 5, 5, 5, 5, 5, 5, 5, 5, 5, 5, 5, 6, 6, 6, 6, 6, 6, 6, 6, 6, 6, 6, 6, 6, 6, 6, 6, 6, 6, 6, 6, 6, 6, 6, 6, 6, 6, 6, 6, 6, 6, 6, 6, 7, 7, 7, 7, 7, 7, 7, 7, 7, 7, 7, 7, 7, 7, 7, 7, 7, 7, 7, 7, 7, 7, 7, 7, 7, 7, 7, 7, 7, 7, 7, 7, 7, 7, 7, 7, 7, 7, 7, 7, 7, 7, 7, 7, 7, 7, 7, 7, 7, 7, 7, 7, 7, 7, 7, 7, 7, 7, 7, 7, 7, 7, 7, 7, 8, 8, 8, 8, 8, 8, 8, 8, 8, 8, 8, 8, 8, 8, 8, 8, 8, 8, 8, 8, 8, 8, 8, 8, 8, 8, 8, 8, 8, 8, 8, 8, 8, 8, 8, 8, 8, 8, 8, 8, 8, 8, 8, 8, 8, 8, 8, 8, 8, 8, 8, 8, 8, 8, 8, 8, 8, 8, 8, 8, 8, 8, 8, 8, 8, 8, 8, 8, 8, 8, 8, 8, 8, 8, 8, 8, 8, 8, 8, 8, 8, 8, 8, 8, 8, 8, 8, 8, 8, 8, 8, 8, 8, 8, 8, 8, 8, 8, 8, 8, 8, 8, 8, 8, 8, 8, 8, 8, 8, 8, 8, 8, 8, 8, 8, 8, 8, 8, 8, 8, 8, 8, 8, 8, 8, 8, 8, 8])
def blN (n : Nat) : Nat := if n = 0 then 0 else Nat.log2 n + 1
theorem bl_nat (n : Nat) : bl (n : Int) = (blN n : Int) := by
  unfold blN
  split
  · rename_i h; subst h; exact bl_zero
  · rename_i h
    have h1 := Nat.log2_self_le h
    have h2 := Nat.lt_log2_self (n := n)
    have := bl_eq (n := (n : Int)) (k := Nat.log2 n) (by
      have : ((2 ^ Nat.log2 n : Nat) : Int) ≤ n := Int.ofNat_le.2 h1
      simpa using this) (by
      have : (n : Int) < ((2 ^ (Nat.log2 n + 1) : Nat) : Int) := Int.ofNat_lt.2 h2
      simpa using this)
    rw [this]; simp
theorem lenTab_ok : (List.range 256).all (fun n => decide (bt lenTab (n : Int) = ((if n = 0 then 0 else Nat.log2 n + 1 : Nat) : Int))) = true := by decide +kernel
theorem lenTab_bl {x : Int} (h : 0 ≤ x) (h' : x < 256) : bt lenTab x = bl x := by
  obtain ⟨n, rfl⟩ := Int.eq_ofNat_of_zero_le h
  have := List.all_eq_true.1 lenTab_ok n (by simp; omega)
  rw [bl_nat]
  exact of_decide_eq_true this
/-- the upper part's bits -/
theorem bl_shift {x : Int} (k : Nat) (h : 2 ^ k ≤ x) : bl x = bl (x / 2 ^ k) + k := by
  have hp := two_pow_pos k
  have hq : 0 < x / 2 ^ k := by
    have := Int.le_ediv_of_mul_le hp (a := 1) (b := x) (by omega)
    omega
  have h1 := bl_lt (x / 2 ^ k)
  have h2 := bl_ge hq
  have h3 := bl_pos hq
  obtain ⟨j, hj⟩ : ∃ j : Nat, bl (x / 2 ^ k) = j + 1 := ⟨(bl (x / 2 ^ k)).toNat - 1, by omega⟩
  rw [hj] at h1 h2 ⊢
  have e1 : ((j : Int) + 1).toNat = j + 1 := by omega
  rw [e1] at h1 h2
  have e2 : j + 1 - 1 = j := by omega
  rw [e2] at h2
  have := bl_eq (n := x) (k := j + k) (by
    rw [Int.pow_add]
    have := Int.mul_le_of_le_ediv hp h2
    exact this) (by
    rw [show j + k + 1 = (j + 1) + k by omega, Int.pow_add]
    exact Int.lt_mul_of_ediv_lt hp h1)
  rw [this]; simp; omega
theorem lenTab_size : ByteArray.size lenTab = 256 := by decide +kernel
theorem Rn_bits_Len32 : Run_bits_Len32 := fun s1 s2 k1 k2 a => Ok.gif fun h => by
  rw [Bd32] at h
  have fin : ∀ (x y : Int), 0 ≤ x → x < 256 → 0 ≤ y → y ≤ 64 → Ev (fun m => s2 m x y) (y + bl x) := fun x y h0 h1 h2 h3 => by
    refine Ev.step (fun m => k2 m _ _) ?_
    have hb := bl_le (k := 8) (n := x) (by have : (2 : Int) ^ 8 = 256 := rfl; omega)
    have hb0 := bl_nonneg x
    have e : IntKind.wrap .u8 x = x := by rw [IntKind.wrap_u8]; omega
    have := lenTab_bl h0 h1
    have hsz := lenTab_size
    show Ev (fun m => if 0 ≤ IntKind.wrap .u8 x ∧ IntKind.wrap .u8 x < (ByteArray.size lenTab : Int) then some (IntKind.wrap .i64 (y + IntKind.wrap .i64 (bt lenTab (IntKind.wrap .u8 x)))) else none) (y + bl x)
    simp only [e, hsz, this]
    rw [if_pos (by constructor <;> omega), i64w (n := bl x) (by omega) (by omega), i64w (by omega) (by omega)]
    exact Ev.ret
  have mid : ∀ (x y : Int), 0 ≤ x → x < 65536 → 0 ≤ y → y ≤ 32 → Ev (fun m => s1 m x y) (y + bl x) := fun x y h0 h1 h2 h3 => by
    refine Ev.step (fun m => k1 m _ _) ?_
    simp only [S_bits_Len32_16, shr_eq]
    by_cases hx : 256 ≤ x
    · simp only [show decide (x ≥ 256) = true by simp; omega, if_true, show ¬ ((8 : Int) < 0) by decide, if_false]
      rw [show (2 : Int) ^ min (Int.toNat 8) (IntKind.bits .u32) = 2 ^ 8 from rfl, i64w (n := y + 8) (by omega) (by omega)]
      have e8 : (2 : Int) ^ 8 = 256 := rfl
      have hs := bl_shift 8 (x := x) (by omega)
      have := fin (x / 2 ^ 8) (y + 8) (by omega) (by omega) (by omega) (by omega)
      rwa [show y + bl x = y + 8 + bl (x / 2 ^ 8) by omega]
    · simp only [show decide (x ≥ 256) = false by simp; omega]
      exact fin x y h0 (by omega) h2 (by omega)
  simp only [T_bits_Len32, shr_eq]
  by_cases hx : 65536 ≤ a
  · simp only [show decide (a ≥ 65536) = true by simp; omega, if_true, show ¬ ((16 : Int) < 0) by decide, if_false]
    rw [show (2 : Int) ^ min (Int.toNat 16) (IntKind.bits .u32) = 2 ^ 16 from rfl]
    have e16 : (2 : Int) ^ 16 = 65536 := rfl
    have hs := bl_shift 16 (x := a) (by omega)
    have := mid (a / 2 ^ 16) 16 (by omega) (by omega) (by omega) (by omega)
    rwa [show bl a = 16 + bl (a / 2 ^ 16) by omega]
  · simp only [show decide (a ≥ 65536) = false by simp; omega]
    have := mid a 0 (by omega) (by omega) (by omega) (by omega)
    rwa [Int.zero_add] at this
theorem Rn_bits_LeadingZeros32 : Run_bits_LeadingZeros32 := fun a => Ok.gif_const fun h => by
  have h1 := bl_le h.2
  have h2 := bl_nonneg a
  rw [T_bits_LeadingZeros32, F_bits_Len32, gif_bind h, i64w (by omega) (by omega)]
theorem Rn_bits_Len64 : Run_bits_Len64 := fun s1 s2 s3 k1 k2 k3 a => Ok.gif fun h => by omega
theorem Rn_bits_LeadingZeros64 : Run_bits_LeadingZeros64 := fun a => Ok.gif_const fun h => by omega
end Go.W

set_option linter.unusedVariables false
set_option linter.unusedSimpArgs false
namespace Go.W

/-! ### trim -/
theorem trim_at {B : Int} (hB : 1 < B) {a : List Int} (h : DV B a) {k : Nat} (hk : k + 1 ≤ a.length) (hz : gv B (a.drop (k + 1)) = 0) (hx : a.getD k 0 ≠ 0) :
    a.take (k + 1) = gd B (gv B a) ∧ (gd B (gv B a)).length = k + 1 ∧ gv B a ≠ 0 := by
  have h1 := gd_take hB h hk hz (.inr (by simpa using hx))
  have h2 : (gd B (gv B a)).length = k + 1 := by rw [← h1, List.length_take]; omega
  refine ⟨h1, h2, fun h0 => ?_⟩
  rw [h0, gd_zero] at h2
  cases h2
theorem drop_zero_step {B : Int} {a : List Int} {k : Nat} (hk : k + 1 ≤ a.length) (hz : gv B (a.drop (k + 1)) = 0) (hx : a.getD k 0 = 0) : gv B (a.drop k) = 0 := by
  rw [gv_drop_succ B (by omega), hz, hx]; simp
theorem Rn_natural_trim : Run_natural_trim := fun s hs a => Ok.gif fun h => by
  have hl := h.2
  have key : ∀ k : Nat, k ≤ a.length → gv 4294967296 (a.drop k) = 0 → Ev (fun m => s m a (k : Int)) (dn (nv a)) := by
    intro k
    induction k with
    | zero =>
      intro _ hz
      rw [List.drop_zero] at hz
      have hz : nv a = 0 := hz
      refine Ev.step (t := fun _ => some (dn (nv a))) (fun m => ?_) Ev.ret
      rw [hs]; unfold S_natural_trim_9
      rw [if_neg (by simp), if_pos (by simp), hz, dn_zero]
    | succ k ih =>
      intro hk hz
      have e1 : IntKind.wrap .i64 (((k + 1 : Nat) : Int) - 1) = k := by rw [i64w] <;> omega
      by_cases hx : a.getD k 0 = 0
      · refine Ev.step (t := fun m => s m a (k : Int)) (fun m => ?_) (ih (by omega) (drop_zero_step hk hz hx))
        rw [hs]; unfold S_natural_trim_9
        rw [if_pos (by simp <;> omega), e1, if_pos (by omega), if_pos (by simpa using hx)]
      · refine Ev.step (t := fun _ => some (dn (nv a))) (fun m => ?_) Ev.ret
        rw [hs]; unfold S_natural_trim_9
        rw [if_pos (by simp <;> omega), e1, if_pos (by omega), if_neg (by simpa using hx), if_neg (by simp <;> omega), if_pos (by omega), Int.toNat_natCast, (trim_at (by decide) h.1 hk hz hx).1]
  exact key a.length (Nat.le_refl _) (by simp [gv])
theorem Rno_natural_trim : Runo_natural_trim := fun s hs a => Ok.gif fun h => by
  have hl := h.2
  have key : ∀ k : Nat, k ≤ a.length → gv 4294967296 (a.drop k) = 0 → Ev (fun m => s m (k : Int) a) (a, trO (nv a)) := by
    intro k
    induction k with
    | zero =>
      intro _ hz
      rw [List.drop_zero] at hz
      have hz : nv a = 0 := hz
      refine Ev.step (t := fun _ => some (a, trO (nv a))) (fun m => ?_) Ev.ret
      rw [hs]; unfold So_natural_trim_9
      rw [if_neg (by simp), if_pos (by simp), hz]; rfl
    | succ k ih =>
      intro hk hz
      have e1 : IntKind.wrap .i64 (((k + 1 : Nat) : Int) - 1) = k := by rw [i64w] <;> omega
      by_cases hx : a.getD k 0 = 0
      · refine Ev.step (t := fun m => s m (k : Int) a) (fun m => ?_) (ih (by omega) (drop_zero_step hk hz hx))
        rw [hs]; unfold So_natural_trim_9
        rw [if_pos (by simp <;> omega), e1, if_pos (by omega), if_pos (by simpa using hx)]
      · refine Ev.step (t := fun _ => some (a, trO (nv a))) (fun m => ?_) Ev.ret
        obtain ⟨h1, h2, h3⟩ := trim_at (by decide) h.1 hk hz hx
        rw [hs]; unfold So_natural_trim_9
        rw [if_pos (by simp <;> omega), e1, if_pos (by omega), if_neg (by simpa using hx), if_neg (by simp <;> omega), if_pos (by omega)]
        unfold trO
        rw [if_neg h3]
        have : (dn (nv a)).length = k + 1 := h2
        rw [this]
  exact key a.length (Nat.le_refl _) (by simp [gv])

/-- the end of many functions: the own block trimmed -/
theorem otrim {ρ : Type} {l : List Int} (h : NW l) {k : List Int × Option Int → Option ρ} : (O_natural_trim l).bind k = k (l, trO (nv l)) := gif_bind h

theorem Rn_natural_IsZero : Run_natural_IsZero := fun a => Ok.gif_const fun h => by
  rw [T_natural_IsZero, F_natural_trim, gif_bind h]
  congr 1
  have := h.nonneg
  by_cases h0 : nv a = 0
  · rw [h0, dn_zero]; rfl
  · have : dn (nv a) ≠ [] := fun he => by have := (gd_nil (by decide)).1 he; omega
    simp [h0, this]
theorem Rn_natural_Normal : Run_natural_Normal := fun a => Ok.gif_const fun h => by
  have := dn_len_le h
  have := h.2
  rw [T_natural_Normal, F_natural_trim, gif_bind h, if_pos (by omega)]
theorem dn_nil {n : Int} : dn n = [] ↔ n ≤ 0 := gd_nil (by decide)
theorem Rn_natural_Of : Run_natural_Of := fun n => Ok.gif_const fun h => by
  have h' := h
  rw [Bd64] at h
  have e1 : (2 : Int) ^ min (Int.toNat 32) (IntKind.bits .u64) = 4294967296 := rfl
  have hl : NW [n % 4294967296, n / 4294967296] := ⟨by simp [DV]; omega, by simp⟩
  have hv : nv [n % 4294967296, n / 4294967296] = n := by simp only [nv, gv]; omega
  rw [T_natural_Of, shr_eq, e1, IntKind.wrap_u32, IntKind.wrap_u32, show n / 4294967296 % 4294967296 = n / 4294967296 by omega, if_neg (by decide), otrim hl, if_pos (sameLen_self (e := .int .u32)), optE_trO, hv]
  have ht := nv_take' hl.1
  rw [hv] at ht
  split
  · rename_i h0; rw [h0, dn_zero]
  · simp only [Int.toNat_natCast]
    rw [show (Int.toNat 0) = 0 from rfl, List.drop_zero, ht]

/-! ### comparison -/
theorem cmp_len {B : Int} (hB : 1 < B) {x y : Int} (hx : 0 ≤ x) (hy : 0 ≤ y) (h : (gd B x).length < (gd B y).length) : x < y := by
  have h1 := gd_len_lt hB x
  by_cases hh : x < y
  · exact hh
  · exfalso
    have := gd_len hB (gd B x).length y (by omega)
    omega
theorem cm_of_lt {x y : Int} (h : x < y) : cm x y = -1 := by unfold cm; rw [if_neg (by omega), if_pos h]
theorem cm_of_gt {x y : Int} (h : y < x) : cm x y = 1 := by unfold cm; rw [if_pos h]
theorem cm_self (x : Int) : cm x x = 0 := by unfold cm; simp
theorem cmp_digit {B : Int} (hB : 1 < B) {a b : List Int} (ha : DV B a) (hb : DV B b) {k : Nat} (hk : k < a.length) (hl : a.length = b.length) (hd : a.drop (k + 1) = b.drop (k + 1)) (h : a.getD k 0 < b.getD k 0) : gv B a < gv B b := by
  have h1 := gv_split B (k + 1) a hk
  have h2 := gv_split B (k + 1) b (by omega)
  rw [gv_take_succ B hk] at h1
  rw [gv_take_succ B (by omega)] at h2
  have h3 := gv_lt (by omega) (ha.take k)
  rw [List.length_take, Nat.min_eq_left (by omega)] at h3
  have h4 := gv_nonneg (by omega) (hb.take k)
  have : (a.getD k 0 + 1) * B ^ k ≤ b.getD k 0 * B ^ k := Int.mul_le_mul_of_nonneg_right (by omega) (Int.le_of_lt (pow_pos' (by omega) k))
  rw [Int.add_mul, Int.one_mul] at this
  rw [h1, h2, hd]
  omega
theorem Rn_natural_Cmp : Run_natural_Cmp := fun s hs a b => Ok.gif fun ⟨ha, hb⟩ => by
  have hx := ha.nonneg
  have hy := hb.nonneg
  have hla := dn_len_le ha
  have hlb := dn_len_le hb
  have hA := ha.2
  have hBl := hb.2
  simp only [T_natural_Cmp, F_natural_trim, gif_bind ha, gif_bind hb]
  by_cases h1 : (dn (nv b)).length < (dn (nv a)).length
  · simp only [show decide (((dn (nv a)).length : Int) > ((dn (nv b)).length : Int)) = true by simp; exact h1, if_true]
    rw [cm_of_gt (cmp_len (by decide) hy hx h1)]; exact Ev.ret
  · simp only [show decide (((dn (nv a)).length : Int) > ((dn (nv b)).length : Int)) = false by simp; omega]
    by_cases h2 : (dn (nv a)).length < (dn (nv b)).length
    · simp only [show decide (((dn (nv a)).length : Int) < ((dn (nv b)).length : Int)) = true by simp; exact h2, if_true]
      rw [cm_of_lt (cmp_len (by decide) hx hy h2)]; exact Ev.ret
    · simp only [show decide (((dn (nv a)).length : Int) < ((dn (nv b)).length : Int)) = false by simp; omega]
      have hl : (dn (nv a)).length = (dn (nv b)).length := by omega
      have va := nv_dn hx
      have vb := nv_dn hy
      have da : DV 4294967296 (dn (nv a)) := gd_DV (by decide) _
      have db : DV 4294967296 (dn (nv b)) := gd_DV (by decide) _
      rw [← va, ← vb]
      rw [va, vb]
      generalize hp : dn (nv a) = p at *
      generalize hq : dn (nv b) = q at *
      rw [← va, ← vb]
      have key : ∀ k : Nat, k ≤ p.length → p.drop k = q.drop k → Ev (fun m => s m p q ((k : Int) - 1)) (cm (nv p) (nv q)) := by
        intro k
        induction k with
        | zero =>
          intro _ hd
          rw [List.drop_zero, List.drop_zero] at hd
          refine Ev.step (t := fun _ => some (cm (nv p) (nv q))) (fun m => ?_) Ev.ret
          rw [hs]; unfold S_natural_Cmp_29
          rw [if_neg (by simp), hd, cm_self]
        | succ k ih =>
          intro hk hd
          have e1 : ((k + 1 : Nat) : Int) - 1 = k := by omega
          rw [e1]
          by_cases hgt : q.getD k 0 < p.getD k 0
          · refine Ev.step (t := fun _ => some (cm (nv p) (nv q))) (fun m => ?_) Ev.ret
            rw [hs]; unfold S_natural_Cmp_29
            rw [if_pos (by simp), if_pos (by omega), if_pos (by omega), Int.toNat_natCast, if_pos (by simpa using hgt), cm_of_gt (cmp_digit (by decide) db da (by omega) hl.symm hd.symm hgt)]
          · by_cases hlt : p.getD k 0 < q.getD k 0
            · refine Ev.step (t := fun _ => some (cm (nv p) (nv q))) (fun m => ?_) Ev.ret
              rw [hs]; unfold S_natural_Cmp_29
              rw [if_pos (by simp), if_pos (by omega), if_pos (by omega), Int.toNat_natCast, if_neg (by simpa using hgt), if_pos (by omega), if_pos (by omega), if_pos (by simpa using hlt), cm_of_lt (cmp_digit (by decide) da db (by omega) hl hd hlt)]
            · refine Ev.step (t := fun m => s m p q ((k : Int) - 1)) (fun m => ?_) (ih (by omega) ?_)
              · rw [hs]; unfold S_natural_Cmp_29
                rw [if_pos (by simp), if_pos (by omega), if_pos (by omega), Int.toNat_natCast, if_neg (by simpa using hgt), if_pos (by omega), if_pos (by omega), if_neg (by simpa using hlt), i64w (by omega) (by omega)]
              · rw [drop_cons' (by omega), drop_cons' (show k < q.length by omega), hd, show p.getD k 0 = q.getD k 0 by omega]
      have := key p.length (Nat.le_refl _) (by rw [List.drop_eq_nil_of_le (Nat.le_refl _), List.drop_eq_nil_of_le (by omega)])
      rw [i64w (by omega) (by omega)]
      exact this
end Go.W

set_option linter.unusedVariables false
set_option linter.unusedSimpArgs false
namespace Go.W

/-- a digit is written; r: what is left to write -/
theorem dig_step (B : Int) {out : List Int} {i : Nat} (hi : i < out.length) {r r' v T : Int} (hT : gv B (out.take i) + r * B ^ i = T) (hr : r = v + B * r') :
    gv B ((out.set i v).take (i + 1)) + r' * B ^ (i + 1) = T := by
  rw [gv_take_set B hi, Int.pow_succ]
  subst hr
  rw [← hT]
  grind
theorem dig_end (B : Int) {out : List Int} {i : Nat} (hi : i + 1 = out.length) {v T : Int} (hT : gv B (out.take i) + v * B ^ i = T) : gv B (out.set i v) = T := by
  have := gv_take_set B (v := v) (show i < out.length by omega)
  rw [List.take_of_length_le (by simp; omega)] at this
  rw [this, hT]
theorem sameLen_true {e : Ty} {x y : e.D} : sameLen true e x y := rfl
theorem NN.set {a : List Int} (h : NN a) {k : Nat} {v : Int} (hv : 0 ≤ v ∧ v < 4294967296) : NN (a.set k v) := ⟨h.1.set hv, by simpa using h.2⟩
theorem NN.replicate {n : Nat} (h : n ≤ 68719476736) : NN (List.replicate n 0) := ⟨DV.replicate (by decide) n, by simpa using h⟩
theorem NN.mk' {a : List Int} (h : DV 4294967296 a) {n : Nat} (hn : a.length = n) (hk : n ≤ 68719476736) : NN a := ⟨h, by omega⟩
/-- natural.trim at an own row, and what is cut -/
theorem otrim_end {l : List Int} (h : NW l) {T : Int} (hT : nv l = T) :
    ((O_natural_trim l).bind fun r => if sameLen false (.int .u32) l r.1 then optE r.2 (some ([] : List Int)) (fun n => some (List.take (Int.toNat n) (List.drop (Int.toNat 0) r.1))) else none) = some (dn T) := by
  subst hT
  rw [otrim h, if_pos (sameLen_self (e := .int .u32)), optE_trO]
  split
  · rename_i h0; rw [h0, dn_zero]
  · simp only [Int.toNat_natCast]
    rw [show (Int.toNat 0) = 0 from rfl, List.drop_zero, nv_take' h.1]
theorem otrim_end' {l : List Int} (h : NW l) {T : Int} (hT : nv l = T) :
    ((O_natural_trim l).bind fun r => if sameLen false (.int .u32) l r.1 then optE r.2 (some ([] : List Int)) (fun n => some (List.take (Int.toNat n) r.1)) else none) = some (dn T) := by
  subst hT
  rw [otrim h, if_pos (sameLen_self (e := .int .u32)), optE_trO]
  split
  · rename_i h0; rw [h0, dn_zero]
  · simp only [Int.toNat_natCast]
    rw [nv_take' h.1]

theorem Rno_natural_Add_1 : Runo_natural_Add_1 := fun x y c => Ok.gif_const fun ⟨hx, hy, hc⟩ => by
  have hx' := hx; have hy' := hy
  rw [Bd32] at hx' hy'
  rw [Bd1] at hc
  rw [To_natural_Add_1, F_bits_Add32, gif_bind ⟨hx, hy, by rw [Bd32]; omega, by omega⟩]

theorem LEN : (70368744177664 / 4 : Nat) = 17592186044416 := by decide
theorem Rn_natural_Add : Run_natural_Add := fun s t hs ht a b => Ok.gif fun ⟨ha, hb⟩ => by
  -- the second loop
  have two : ∀ (p : List Int) (T : Int), DV 4294967296 p → p.length ≤ 68719476736 → ∀ (d j : Nat) (out : List Int) (c : Int), j + d = p.length → out.length = p.length + 1 → DV 4294967296 out → 0 ≤ c → c < 2 →
      gv 4294967296 (out.take j) + (c + gv 4294967296 (p.drop j)) * 4294967296 ^ j = T → Ev (fun m => t m p (j : Int) out c) (dn T) := by
    intro p T hp hlp d
    induction d with
    | zero =>
      intro j out c hj hl hd h0 h1 hT
      refine Ev.step (t := fun _ => some (dn T)) (fun m => ?_) Ev.ret
      rw [ht]; unfold S_natural_Add_53
      rw [if_neg (by simp <;> omega), if_pos (by omega), Int.toNat_natCast]
      rw [List.drop_eq_nil_of_le (by omega)] at hT
      have hj' : j = p.length := by omega
      subst hj'
      refine otrim_end ⟨hd.set ⟨h0, by omega⟩, by simp; omega⟩ (dig_end _ (by omega) ?_)
      simpa [gv] using hT
    | succ d ih =>
      intro j out c hj hl hd h0 h1 hT
      have hx := hp.get (by decide) j
      refine Ev.step (t := fun m => t m p ((j + 1 : Nat) : Int) (out.set j ((p.getD j 0 + 0 + c) % 4294967296)) ((p.getD j 0 + 0 + c) / 4294967296)) (fun m => ?_) (ih (j + 1) _ _ (by omega) (by simpa using hl) (hd.set ⟨by omega, by omega⟩) (by omega) (by omega) ?_)
      · rw [ht]; unfold S_natural_Add_53
        rw [if_pos (by simp <;> omega), if_pos (by omega), Int.toNat_natCast, O_natural_Add_1, gif_bind ⟨hx, by rw [Bd32]; omega, by rw [Bd1]; omega⟩, if_pos (sameLen_true (e := .int .u32)), if_pos (by omega), i64w (by omega) (by omega)]
        simp
      · refine dig_step _ (by omega) hT ?_
        rw [gv_drop_succ _ (show j < p.length by omega)]
        omega
  -- the first
  have one : ∀ (p q : List Int) (T : Int), DV 4294967296 p → DV 4294967296 q → p.length ≤ 68719476736 → q.length ≤ p.length → ∀ (d j : Nat) (out : List Int) (c : Int), j + d = q.length → out.length = p.length + 1 → DV 4294967296 out → 0 ≤ c → c < 2 →
      gv 4294967296 (out.take j) + (c + gv 4294967296 (p.drop j) + gv 4294967296 (q.drop j)) * 4294967296 ^ j = T → Ev (fun m => s m p q q (q.length : Int) (j : Int) out c) (dn T) := by
    intro p q T hp hq hlp hqp d
    induction d with
    | zero =>
      intro j out c hj hl hd h0 h1 hT
      rw [List.drop_eq_nil_of_le (show q.length ≤ j by omega)] at hT
      have hj' : j = q.length := by omega
      subst hj'
      refine Ev.step (t := fun m => t m p (q.length : Int) out c) (fun m => ?_) (two p T hp hlp (p.length - q.length) q.length out c (by omega) hl hd h0 h1 (by simpa [gv] using hT))
      rw [hs]; unfold S_natural_Add_33
      rw [if_neg (by simp)]
    | succ d ih =>
      intro j out c hj hl hd h0 h1 hT
      have hx := hp.get (by decide) j
      have hy := hq.get (by decide) j
      refine Ev.step (t := fun m => s m p q q (q.length : Int) ((j + 1 : Nat) : Int) (out.set j ((p.getD j 0 + q.getD j 0 + c) % 4294967296)) ((p.getD j 0 + q.getD j 0 + c) / 4294967296)) (fun m => ?_) (ih (j + 1) _ _ (by omega) (by simpa using hl) (hd.set ⟨by omega, by omega⟩) (by omega) (by omega) ?_)
      · rw [hs]; unfold S_natural_Add_33
        rw [if_pos (by simp <;> omega), if_pos (by omega), if_pos (by omega), Int.toNat_natCast, O_natural_Add_1, gif_bind ⟨hx, hy, by rw [Bd1]; omega⟩, if_pos (sameLen_true (e := .int .u32)), if_pos (by omega), i64w (by omega) (by omega)]
        simp
      · refine dig_step _ (by omega) hT ?_
        rw [gv_drop_succ _ (show j < p.length by omega), gv_drop_succ _ (show j < q.length by omega)]
        omega
  have hla := dn_len_le ha
  have hlb := dn_len_le hb
  have hA := ha.2
  have hB := hb.2
  have va := nv_dn ha.nonneg
  have vb := nv_dn hb.nonneg
  have da : DV 4294967296 (dn (nv a)) := gd_DV (by decide) _
  have db : DV 4294967296 (dn (nv b)) := gd_DV (by decide) _
  simp only [T_natural_Add, F_natural_trim, gif_bind ha, gif_bind hb, LEN]
  have start : ∀ p q : List Int, DV 4294967296 p → DV 4294967296 q → p.length ≤ 68719476736 → q.length ≤ p.length → nv p + nv q = nv a + nv b →
      Ev (fun m => if 0 ≤ IntKind.wrap .i64 ((p.length : Int) + 1) ∧ IntKind.wrap .i64 ((p.length : Int) + 1) ≤ ((17592186044416 : Nat) : Int) then s m p q q (q.length : Int) 0 (List.replicate (Int.toNat (IntKind.wrap .i64 ((p.length : Int) + 1))) 0) 0 else none) (dn (nv a + nv b)) := by
    intro p q hp hq hl hqp hv
    rw [i64w (by omega) (by omega)]
    simp only [show (0 ≤ (p.length : Int) + 1 ∧ (p.length : Int) + 1 ≤ ((17592186044416 : Nat) : Int)) = True by simp; omega, if_true]
    rw [show Int.toNat ((p.length : Int) + 1) = p.length + 1 by omega]
    refine one p q _ hp hq hl hqp q.length 0 _ 0 (by omega) (by simp) (DV.replicate (by decide) _) (by omega) (by omega) ?_
    simp only [List.take_zero, List.drop_zero, gv, Int.pow_zero]
    have hv' : gv 4294967296 p + gv 4294967296 q = nv a + nv b := hv
    omega
  by_cases h : (dn (nv a)).length < (dn (nv b)).length
  · simp only [show decide (((dn (nv a)).length : Int) < ((dn (nv b)).length : Int)) = true by simp; exact h, if_true]
    exact start _ _ db da (by omega) (by omega) (by rw [va, vb]; omega)
  · simp only [show decide (((dn (nv a)).length : Int) < ((dn (nv b)).length : Int)) = false by simp; omega]
    exact start _ _ da db (by omega) (by omega) (by rw [va, vb])
end Go.W

set_option linter.unusedVariables false
set_option linter.unusedSimpArgs false
namespace Go.W

theorem cm_neg {x y : Int} : decide (cm x y < 0) = decide (x < y) := by
  by_cases h : x < y
  · rw [cm_of_lt h]; simp [h]
  · have h0 : ¬ cm x y < 0 := by
      unfold cm; rw [if_neg h]; split <;> omega
    simp [h, h0]
theorem Rn_natural_Sub : Run_natural_Sub := fun s hs a b => Ok.gif fun ⟨ha, hb⟩ => by
  have hla := dn_len_le ha
  have hlb := dn_len_le hb
  have hA := ha.2
  have hB := hb.2
  have na := ha.nonneg
  have nb := hb.nonneg
  have va : gv 4294967296 (dn (nv a)) = nv a := nv_dn na
  have vb : gv 4294967296 (dn (nv b)) = nv b := nv_dn nb
  have da : DV 4294967296 (dn (nv a)) := gd_DV (by decide) _
  have db : DV 4294967296 (dn (nv b)) := gd_DV (by decide) _
  simp only [T_natural_Sub, F_natural_Cmp, F_natural_trim, gif_bind (And.intro ha hb), gif_bind ha, gif_bind hb, cm_neg, LEN]
  by_cases hlt : nv a < nv b
  · simp only [hlt, decide_true, if_true]; exact Ev.ret
  · simp only [hlt, decide_false, if_false]
    simp only [show (0 ≤ ((dn (nv a)).length : Int) ∧ ((dn (nv a)).length : Int) ≤ ((17592186044416 : Nat) : Int)) = True by simp; omega, if_true, Int.toNat_natCast]
    generalize dn (nv a) = p at *
    generalize dn (nv b) = q at *
    have key : ∀ (d j : Nat) (out : List Int) (c : Int), j + d = p.length → out.length = p.length → DV 4294967296 out → 0 ≤ c → c < 2 →
        gv 4294967296 (out.take j) + (gv 4294967296 (p.drop j) - gv 4294967296 (q.drop j) - c) * 4294967296 ^ j = nv a - nv b → Ev (fun m => s m q c p (p.length : Int) (j : Int) out) (dn (nv a - nv b), true) := by
      intro d
      induction d with
      | zero =>
        intro j out c hj hl hd h0 h1 hT
        refine Ev.step (t := fun _ => some (dn (nv a - nv b), true)) (fun m => ?_) Ev.ret
        have hj' : j = p.length := by omega
        subst hj'
        have hq0 := gv_nonneg (by decide) (db.drop p.length)
        rw [List.drop_eq_nil_of_le (Nat.le_refl _)] at hT
        have hlt2 := gv_lt (by decide) hd
        rw [hl] at hlt2
        rw [List.take_of_length_le (by omega)] at hT
        have hp := pow_pos' (B := 4294967296) (by decide) p.length
        have hg : gv 4294967296 out = nv a - nv b := by
          simp only [gv] at hT
          generalize hr : (0 - gv 4294967296 (q.drop p.length) - c) = r at hT
          by_cases hr0 : r = 0
          · subst hr0; omega
          · have : r * 4294967296 ^ p.length ≤ (-1) * 4294967296 ^ p.length := Int.mul_le_mul_of_nonneg_right (by omega) (by omega)
            omega
        rw [hs]; unfold S_natural_Sub_29
        rw [if_neg (by simp), otrim ⟨hd, by omega⟩, if_pos (sameLen_self (e := .int .u32)), optE_trO]
        have hg' : nv out = nv a - nv b := hg
        split
        · rename_i h0; rw [← hg', h0, dn_zero]
        · simp only [Int.toNat_natCast]
          rw [show (Int.toNat 0) = 0 from rfl, List.drop_zero, nv_take' hd, hg']
      | succ d ih =>
        intro j out c hj hl hd h0 h1 hT
        have hx := da.get (by decide) j
        by_cases hjq : j < q.length
        · have hy := db.get (by decide) j
          refine Ev.step (t := fun m => s m q (if p.getD j 0 < q.getD j 0 + c then 1 else 0) p (p.length : Int) ((j + 1 : Nat) : Int) (out.set j ((p.getD j 0 - q.getD j 0 - c) % 4294967296))) (fun m => ?_) (ih (j + 1) _ _ (by omega) (by simpa using hl) (hd.set ⟨by omega, by omega⟩) (by split <;> omega) (by split <;> omega) ?_)
          · rw [hs]; unfold S_natural_Sub_29
            rw [if_pos (by simp <;> omega), if_pos (by omega), if_pos (by simp <;> omega), if_pos (by omega), Int.toNat_natCast, F_bits_Sub32, gif_bind ⟨hx, hy, by rw [Bd1]; omega⟩, if_pos (by omega), i64w (by omega) (by omega)]
            simp
          · refine dig_step _ (by omega) hT ?_
            rw [gv_drop_succ _ (show j < p.length by omega), gv_drop_succ _ (show j < q.length by omega)]
            split <;> omega
        · refine Ev.step (t := fun m => s m q (if p.getD j 0 < 0 + c then 1 else 0) p (p.length : Int) ((j + 1 : Nat) : Int) (out.set j ((p.getD j 0 - 0 - c) % 4294967296))) (fun m => ?_) (ih (j + 1) _ _ (by omega) (by simpa using hl) (hd.set ⟨by omega, by omega⟩) (by split <;> omega) (by split <;> omega) ?_)
          · rw [hs]; unfold S_natural_Sub_29
            rw [if_pos (by simp <;> omega), if_pos (by omega), if_neg (by simp <;> omega), Int.toNat_natCast, F_bits_Sub32, gif_bind ⟨hx, Bd.zero 32, by rw [Bd1]; omega⟩, if_pos (by omega), i64w (by omega) (by omega)]
            simp
          · refine dig_step _ (by omega) hT ?_
            rw [gv_drop_succ _ (show j < p.length by omega), List.drop_eq_nil_of_le (show q.length ≤ j by omega), List.drop_eq_nil_of_le (show q.length ≤ j + 1 by omega)]
            simp only [gv]
            split <;> omega
    have := key p.length 0 (List.replicate p.length 0) 0 (by omega) (by simp) (DV.replicate (by decide) _) (by omega) (by omega) (by
      simp only [List.take_zero, List.drop_zero, gv, Int.pow_zero]; omega)
    exact this

theorem mulstep {P r c : Int} (hP : 0 ≤ P) (hP' : P ≤ 18446744065119617025) (hr : 0 ≤ r ∧ r < 4294967296) (hc : 0 ≤ c ∧ c < 4294967296) :
    ((P % 4294967296 + r + 0) % 4294967296 + c + 0) % 4294967296 = (P + r + c) % 4294967296 ∧
    IntKind.wrap .u32 (IntKind.wrap .u32 (P / 4294967296 + (P % 4294967296 + r + 0) / 4294967296) + ((P % 4294967296 + r + 0) % 4294967296 + c + 0) / 4294967296) = (P + r + c) / 4294967296 ∧
    0 ≤ (P + r + c) / 4294967296 ∧ (P + r + c) / 4294967296 < 4294967296 := by
  simp only [IntKind.wrap_u32]
  omega
theorem digit_mul {x y : Int} (hx : 0 ≤ x ∧ x < 4294967296) (hy : 0 ≤ y ∧ y < 4294967296) : 0 ≤ x * y ∧ x * y ≤ 18446744065119617025 := by
  refine ⟨Int.mul_nonneg hx.1 hy.1, ?_⟩
  have h1 : x * y ≤ 4294967295 * y := Int.mul_le_mul_of_nonneg_right (by omega) hy.1
  omega

theorem Rn_natural_DivSmall : Run_natural_DivSmall := fun s hs a d => Ok.gif fun ⟨ha, hd⟩ => by
  have hla := dn_len_le ha
  have hA := ha.2
  have na := ha.nonneg
  have va : gv 4294967296 (dn (nv a)) = nv a := nv_dn na
  have da : DV 4294967296 (dn (nv a)) := gd_DV (by decide) _
  have hd' := hd
  rw [Bd32] at hd'
  by_cases h0 : d = 0
  · subst h0
    simp only [T_natural_DivSmall]
    exact Ev.ret
  · simp only [T_natural_DivSmall, show (d == 0) = false by simpa using h0, F_natural_trim, gif_bind ha, LEN, h0, if_false]
    simp only [show (0 ≤ ((dn (nv a)).length : Int) ∧ ((dn (nv a)).length : Int) ≤ ((17592186044416 : Nat) : Int)) = True by simp; omega, if_true, Int.toNat_natCast]
    generalize dn (nv a) = p at *
    have key : ∀ (k : Nat) (out : List Int) (r : Int), k ≤ p.length → out.length = p.length → DV 4294967296 out → 0 ≤ r → r < d →
        gv 4294967296 (p.drop k) = d * gv 4294967296 (out.drop k) + r → Ev (fun m => s m p d r ((k : Int) - 1) out) (dn (nv a / d), nv a % d, true) := by
      intro k
      induction k with
      | zero =>
        intro out r hk hl hdo hr0 hr1 hT
        rw [List.drop_zero, List.drop_zero, va] at hT
        have hq : nv a / d = gv 4294967296 out := by
          rw [hT, Int.mul_add_ediv_left _ _ h0, Int.ediv_eq_zero_of_lt hr0 hr1, Int.add_zero]
        have hr : nv a % d = r := by
          rw [hT, Int.mul_add_emod_self_left, Int.emod_eq_of_lt hr0 hr1]
        refine Ev.step (t := fun _ => some (dn (nv a / d), nv a % d, true)) (fun m => ?_) Ev.ret
        rw [hs]; unfold S_natural_DivSmall_29
        rw [if_neg (by simp), otrim ⟨hdo, by omega⟩, if_pos (sameLen_self (e := .int .u32)), optE_trO, hq, hr]
        split
        · rename_i h1
          have h1 : gv 4294967296 out = 0 := h1
          rw [h1, dn_zero]
        · simp only [Int.toNat_natCast]
          rw [show (Int.toNat 0) = 0 from rfl, List.drop_zero, nv_take' hdo]
      | succ k ih =>
        intro out r hk hl hdo hr0 hr1 hT
        have hx := da.get (by decide) k
        have e1 : ((k + 1 : Nat) : Int) - 1 = k := by omega
        have hN : 0 ≤ r * 4294967296 + p.getD k 0 := by omega
        have hq : (r * 4294967296 + p.getD k 0) / d < 4294967296 := Int.ediv_lt_of_lt_mul (by omega) (by
          have : (r + 1) * 4294967296 ≤ d * 4294967296 := Int.mul_le_mul_of_nonneg_right (by omega) (by omega)
          omega)
        have hq0 : 0 ≤ (r * 4294967296 + p.getD k 0) / d := Int.ediv_nonneg hN (by omega)
        rw [e1]
        refine Ev.step (t := fun m => s m p d ((r * 4294967296 + p.getD k 0) % d) ((k : Int) - 1) (out.set k ((r * 4294967296 + p.getD k 0) / d))) (fun m => ?_) (ih _ _ (by omega) (by simpa using hl) (hdo.set ⟨hq0, hq⟩) (Int.emod_nonneg _ h0) (Int.emod_lt_of_pos _ (by omega)) ?_)
        · rw [hs]; unfold S_natural_DivSmall_29
          rw [if_pos (by simp), if_pos (by omega), Int.toNat_natCast, F_bits_Div32, gif_bind ⟨hr0, hr1, hx, hd⟩, if_pos (by omega), i64w (by omega) (by omega)]
        · have hset : (out.set k ((r * 4294967296 + p.getD k 0) / d)).getD k 0 = (r * 4294967296 + p.getD k 0) / d := by rw [getD_set, if_pos ⟨rfl, by omega⟩]
          rw [gv_drop_succ _ (show k < p.length by omega), hT, gv_drop_succ _ (show k < (out.set k _).length by simp; omega), hset, drop_set_lt (by omega)]
          have e2 := Int.mul_ediv_add_emod (r * 4294967296 + p.getD k 0) d
          grind
    have := key p.length (List.replicate p.length 0) 0 (Nat.le_refl _) (by simp) (DV.replicate (by decide) _) (by omega) (by omega) (by simp [gv])
    rw [i64w (by omega) (by omega)]
    exact this
end Go.W

set_option linter.unusedVariables false
set_option linter.unusedSimpArgs false
namespace Go.W

theorem gv_zero_split {B : Int} (hB : 0 < B) {l : List Int} (hl : DV B l) {k : Nat} (hk : k < l.length) (hz : gv B (l.drop k) = 0) : l.getD k 0 = 0 ∧ gv B (l.drop (k + 1)) = 0 := by
  rw [gv_drop_succ _ hk] at hz
  have h1 := hl.get hB k
  have h2 := gv_nonneg (by omega) (hl.drop (k + 1))
  have h3 := Int.mul_nonneg (show 0 ≤ B by omega) h2
  have h4 : B * gv B (l.drop (k + 1)) = 0 := by omega
  refine ⟨by omega, ?_⟩
  rcases Int.mul_eq_zero.1 h4 with h | h
  · omega
  · exact h
theorem mid_succ {B : Int} {l : List Int} {k n : Nat} (hk : k < n) (hn : n ≤ l.length) : gv B ((l.take n).drop k) = l.getD k 0 + B * gv B ((l.take n).drop (k + 1)) := by
  rw [gv_drop_succ _ (by simp; omega)]
  congr 1
  simp only [List.getD_eq_getElem?_getD, List.getElem?_take, if_pos hk]
theorem mid_set {l : List Int} {k n : Nat} {v : Int} : ((l.set k v).take n).drop (k + 1) = (l.take n).drop (k + 1) := by
  apply List.ext_getElem?
  intro j
  simp only [List.getElem?_drop, List.getElem?_take, List.getElem?_set]
  rw [if_neg (show ¬ k = k + 1 + j by omega)]

theorem Rn_natural_Mul : Run_natural_Mul := fun s t hs ht a b => Ok.gif fun ⟨ha, hb⟩ => by
  have hla := dn_len_le ha
  have hlb := dn_len_le hb
  have hA := ha.2
  have hB := hb.2
  have na := ha.nonneg
  have nb := hb.nonneg
  have va : gv 4294967296 (dn (nv a)) = nv a := nv_dn na
  have vb : gv 4294967296 (dn (nv b)) = nv b := nv_dn nb
  have da : DV 4294967296 (dn (nv a)) := gd_DV (by decide) _
  have db : DV 4294967296 (dn (nv b)) := gd_DV (by decide) _
  simp only [T_natural_Mul, F_natural_trim, gif_bind ha, gif_bind hb, LEN]
  by_cases h0 : dn (nv a) = []
  · have : nv a = 0 := by have := dn_nil.1 h0; omega
    simp only [h0, List.length_nil, this, Int.zero_mul, dn_zero]
    exact Ev.ret
  by_cases h1 : dn (nv b) = []
  · have : nv b = 0 := by have := dn_nil.1 h1; omega
    have e0 : (((dn (nv a)).length : Int) == 0) = false := by
      have : (dn (nv a)).length ≠ 0 := fun h => h0 (List.eq_nil_of_length_eq_zero h)
      simp; exact h0
    rw [this, Int.mul_zero, dn_zero] at *
    simp only [e0, List.length_nil]
    exact Ev.ret
  have p0 : (dn (nv a)).length ≠ 0 := fun h => h0 (List.eq_nil_of_length_eq_zero h)
  have q0 : (dn (nv b)).length ≠ 0 := fun h => h1 (List.eq_nil_of_length_eq_zero h)
  have e0 : (((dn (nv a)).length : Int) == 0) = false := by simp; exact h0
  have e1 : (((dn (nv b)).length : Int) == 0) = false := by simp; exact h1
  simp only [e0, e1]
  generalize dn (nv a) = p at *
  generalize dn (nv b) = q at *
  rw [i64w (by omega) (by omega)]
  simp only [show (0 ≤ (p.length : Int) + (q.length : Int) ∧ (p.length : Int) + (q.length : Int) ≤ ((17592186044416 : Nat) : Int)) = True by simp; omega, if_true]
  rw [show Int.toNat ((p.length : Int) + (q.length : Int)) = p.length + q.length by omega]
  -- the outer loop
  have outer : ∀ (d i : Nat) (out : List Int), i + d = p.length → out.length = p.length + q.length → DV 4294967296 out → gv 4294967296 (out.drop (i + q.length)) = 0 →
      gv 4294967296 (out.take (i + q.length)) = gv 4294967296 (p.take i) * nv b → Ev (fun m => s m q p (p.length : Int) (i : Int) out) (dn (nv a * nv b)) := by
    intro d
    induction d with
    | zero =>
      intro i out hi hl hd hz hT
      have hi' : i = p.length := by omega
      subst hi'
      refine Ev.step (t := fun _ => some (dn (nv a * nv b))) (fun m => ?_) Ev.ret
      rw [hs]; unfold S_natural_Mul_25
      rw [if_neg (by simp)]
      rw [List.take_of_length_le (by omega), List.take_of_length_le (by omega), va] at hT
      exact otrim_end ⟨hd, by omega⟩ hT
    | succ d ih =>
      intro i out hi hl hd hz hT
      have hx := da.get (by decide) i
      by_cases hx0 : p.getD i 0 = 0
      · have hz' := gv_zero_split (by decide) hd (show i + q.length < out.length by omega) hz
        refine Ev.step (t := fun m => s m q p (p.length : Int) ((i + 1 : Nat) : Int) out) (fun m => ?_) (ih (i + 1) out (by omega) hl hd (by rw [show i + 1 + q.length = i + q.length + 1 by omega]; exact hz'.2) ?_)
        · rw [hs]; unfold S_natural_Mul_25
          rw [if_pos (by simp <;> omega), if_pos (by omega), Int.toNat_natCast, if_pos (by simpa using hx0), i64w (by omega) (by omega)]
          simp
        · rw [show i + 1 + q.length = i + q.length + 1 by omega, gv_take_succ _ (by omega), hz'.1, hT, gv_take_succ _ (show i < p.length by omega), hx0]
          simp
      · -- the inner loop
        have inner : ∀ (e j : Nat) (o : List Int) (c : Int), j + e = q.length → o.length = p.length + q.length → DV 4294967296 o → 0 ≤ c → c < 4294967296 → o.drop (i + q.length) = out.drop (i + q.length) →
            gv 4294967296 (o.take (i + j)) + (c + gv 4294967296 ((o.take (i + q.length)).drop (i + j)) + p.getD i 0 * gv 4294967296 (q.drop j)) * 4294967296 ^ (i + j) = gv 4294967296 (p.take (i + 1)) * nv b →
            Ev (fun m => t m q (i : Int) (p.getD i 0) c p (p.length : Int) (i : Int) q (q.length : Int) (j : Int) o (i : Int) (q.length : Int)) (dn (nv a * nv b)) := by
          intro e
          induction e with
          | zero =>
            intro j o c hj hlo hdo hc0 hc1 hup hS
            have hj' : j = q.length := by omega
            subst hj'
            refine Ev.step (t := fun m => s m q p (p.length : Int) ((i + 1 : Nat) : Int) (o.set (i + q.length) c)) (fun m => ?_) (ih (i + 1) _ (by omega) (by simpa using hlo) (hdo.set ⟨hc0, hc1⟩) ?_ ?_)
            · rw [ht]; unfold S_natural_Mul_49
              rw [if_neg (by simp), i64w (by omega) (by omega), if_pos (by omega), i64w (by omega) (by omega)]
              rw [show Int.toNat ((i : Int) + (q.length : Int)) = i + q.length by omega]
              simp
            · rw [show i + 1 + q.length = i + q.length + 1 by omega, drop_set_lt (by omega)]
              have hz' := gv_zero_split (by decide) hd (show i + q.length < out.length by omega) hz
              have := congrArg (List.drop 1) hup
              rw [List.drop_drop, List.drop_drop] at this
              rw [this]; exact hz'.2
            · rw [show i + 1 + q.length = i + q.length + 1 by omega, gv_take_set _ (by omega)]
              rw [List.drop_eq_nil_of_le (show (o.take (i + q.length)).length ≤ i + q.length by simp; omega), List.drop_eq_nil_of_le (Nat.le_refl q.length)] at hS
              simp only [gv] at hS
              rw [← hS]; simp
          | succ e ihe =>
            intro j o c hj hlo hdo hc0 hc1 hup hS
            have hy := db.get (by decide) j
            have hr := hdo.get (by decide) (i + j)
            have hm := digit_mul hx hy
            have hst := mulstep hm.1 hm.2 (r := o.getD (i + j) 0) (c := c) hr ⟨hc0, hc1⟩
            refine Ev.step (t := fun m => t m q (i : Int) (p.getD i 0) ((p.getD i 0 * q.getD j 0 + o.getD (i + j) 0 + c) / 4294967296) p (p.length : Int) (i : Int) q (q.length : Int) ((j + 1 : Nat) : Int) (o.set (i + j) ((p.getD i 0 * q.getD j 0 + o.getD (i + j) 0 + c) % 4294967296)) (i : Int) (q.length : Int)) (fun m => ?_) (ihe (j + 1) _ _ (by omega) (by simpa using hlo) (hdo.set ⟨by omega, by omega⟩) hst.2.2.1 hst.2.2.2 (by rw [drop_set_lt (by omega)]; exact hup) ?_)
            · rw [ht]; unfold S_natural_Mul_49
              have hij : Int.toNat ((i : Int) + (j : Int)) = i + j := by omega
              rw [if_pos (by simp <;> omega), if_pos (by omega), Int.toNat_natCast, hij, F_bits_Mul32, gif_bind ⟨hx, hy⟩, if_pos (by omega)]
              simp only [F_bits_Add32]
              rw [gif_bind ⟨by rw [Bd32]; omega, hr, Bd.zero 32, by omega⟩, gif_bind ⟨by rw [Bd32]; omega, by rw [Bd32]; omega, Bd.zero 32, by omega⟩, if_pos (by omega)]
              rw [hst.1, hst.2.1, i64w (by omega) (by omega)]
              simp
            · rw [show i + (j + 1) = (i + j) + 1 by omega]
              refine dig_step _ (by omega) hS ?_
              rw [mid_succ (show i + j < i + q.length by omega) (by omega), gv_drop_succ _ (show j < q.length by omega), mid_set]
              have := Int.mul_ediv_add_emod (p.getD i 0 * q.getD j 0 + o.getD (i + j) 0 + c) 4294967296
              grind
        have hgo : 0 ≤ (i : Int) ∧ (i : Int) ≤ IntKind.wrap .i64 ((i : Int) + (q.length : Int)) ∧ IntKind.wrap .i64 ((i : Int) + (q.length : Int)) ≤ (out.length : Int) := by
          rw [i64w (by omega) (by omega)]; omega
        refine Ev.step (t := fun m => t m q (i : Int) (p.getD i 0) 0 p (p.length : Int) (i : Int) q (q.length : Int) ((0 : Nat) : Int) out (i : Int) (q.length : Int)) (fun m => ?_) (inner q.length 0 out 0 (by omega) hl hd (by omega) (by omega) rfl ?_)
        · rw [hs]; unfold S_natural_Mul_25
          rw [if_pos (by simp <;> omega), if_pos (by omega), Int.toNat_natCast, if_neg (by simpa using hx0), if_pos hgo, i64w (by omega) (by omega)]
          rw [show (i : Int) + (q.length : Int) - (i : Int) = (q.length : Int) by omega]
          simp
        · rw [List.drop_zero, Nat.add_zero, vb, gv_take_succ _ (show i < p.length by omega)]
          have h2 := gv_split 4294967296 i (out.take (i + q.length)) (by simp; omega)
          rw [List.take_take, Nat.min_eq_left (by omega)] at h2
          rw [hT] at h2
          generalize gv 4294967296 ((out.take (i + q.length)).drop i) = D at *
          generalize gv 4294967296 (out.take i) = E at *
          generalize gv 4294967296 (p.take i) = G at *
          generalize (4294967296 : Int) ^ i = W at *
          generalize p.getD i 0 = x at *
          grind
  have := outer p.length 0 (List.replicate (p.length + q.length) 0) (by omega) (by simp) (DV.replicate (by decide) _) (by
      rw [List.drop_replicate]; exact gv_replicate _ _) (by
      rw [List.take_replicate, gv_replicate]; simp [gv])
  exact this

theorem Rn_natural_Uint64 : Run_natural_Uint64 := fun a => Ok.gif_const fun ha => by
  have na := ha.nonneg
  rw [T_natural_Uint64, F_natural_trim, gif_bind ha]
  generalize nv a = n at *
  by_cases h0 : n = 0
  · subst h0; simp [dn_zero]
  have e1 : dn n = n % 4294967296 :: dn (n / 4294967296) := gd_pos (by decide) (by omega)
  by_cases h1 : n / 4294967296 = 0
  · rw [e1, h1, dn_zero]
    simp only [List.length_cons, List.length_nil]
    rw [if_neg (by decide), if_pos (by decide), if_pos (by decide), if_pos (by omega)]
    rw [show Int.toNat 0 = 0 from rfl, List.getD_cons_zero, u64w (by omega) (by omega)]
    congr 2; omega
  have e2 : dn (n / 4294967296) = n / 4294967296 % 4294967296 :: dn (n / 4294967296 / 4294967296) := gd_pos (by decide) (by omega)
  by_cases h2 : n / 4294967296 / 4294967296 = 0
  · rw [e1, e2, h2, dn_zero]
    simp only [List.length_cons, List.length_nil]
    rw [if_neg (by decide), if_neg (by decide), if_pos (by decide), if_pos (by decide), if_neg (by decide), if_pos (by decide), if_pos (by omega)]
    rw [show Int.toNat 0 = 0 from rfl, show Int.toNat 1 = 1 from rfl, List.getD_cons_zero, List.getD_cons_succ, List.getD_cons_zero]
    have e3 : IntKind.wrap .u64 (IntKind.wrap .u64 (n / 4294967296 % 4294967296) * 2 ^ min (Int.toNat 32) (IntKind.bits .u64)) = (n / 4294967296) * 2 ^ 32 := by
      rw [show (2 : Int) ^ min (Int.toNat 32) (IntKind.bits .u64) = 4294967296 from rfl, show (2 : Int) ^ 32 = 4294967296 from rfl, u64w (n := n / 4294967296 % 4294967296) (by omega) (by omega), u64w (by omega) (by omega)]
      omega
    have e32 : (2 : Int) ^ 32 = 4294967296 := rfl
    have e64 : (2 : Int) ^ (IntKind.bits .u64) = 18446744073709551616 := rfl
    rw [e3, u64w (n := n % 4294967296) (by omega) (by omega), or_word 32 (by omega) (by omega) (by omega) (by omega), u64w (by omega) (by omega)]
    congr 2; omega
  · have e3 : dn (n / 4294967296 / 4294967296) = n / 4294967296 / 4294967296 % 4294967296 :: dn (n / 4294967296 / 4294967296 / 4294967296) := gd_pos (by decide) (by omega)
    rw [e1, e2, e3]
    simp only [List.length_cons]
    rw [if_neg (by simp; omega), if_neg (by simp; omega), if_neg (by simp; omega), if_neg (by omega)]

theorem bl_digits {n : Int} (h : 0 < n) : bl n = 32 * (((dn n).length : Int) - 1) + bl ((dn n).getD ((dn n).length - 1) 0) := by
  have hl := gd_last (B := 4294967296) (by decide) n h
  have hD : DV 4294967296 (dn n) := gd_DV (by decide) n
  have hv : gv 4294967296 (dn n) = n := gd_val (by decide) n (by omega)
  have hne : dn n ≠ [] := fun h0 => by have := dn_nil.1 h0; omega
  have hlen : 0 < (dn n).length := by
    rcases Nat.eq_zero_or_pos (dn n).length with h0 | h0
    · exact absurd (List.eq_nil_of_length_eq_zero h0) hne
    · exact h0
  generalize hp : dn n = p at *
  obtain ⟨k, hk⟩ : ∃ k, p.length = k + 1 := ⟨p.length - 1, by omega⟩
  rw [hk, Nat.add_sub_cancel]
  rw [show (dn n).getD ((dn n).length - 1) 0 = p.getD k 0 by rw [hp, hk, Nat.add_sub_cancel]] at hl
  have hd := hD.get (by decide) k
  have h1 := gv_take_succ 4294967296 (a := p) (i := k) (by omega)
  rw [List.take_of_length_le (by omega), hv] at h1
  have h2 := gv_lt (by decide) (hD.take k)
  have h3 := gv_nonneg (by decide) (hD.take k)
  rw [List.length_take, Nat.min_eq_left (by omega)] at h2
  rw [pow32] at h1 h2
  have hq : n / 2 ^ (32 * k) = p.getD k 0 := by
    rw [h1, Int.add_mul_ediv_right _ _ (Int.ne_of_gt (two_pow_pos _)), Int.ediv_eq_zero_of_lt h3 h2, Int.zero_add]
  have hge : 2 ^ (32 * k) ≤ n := by
    have := two_pow_pos (32 * k)
    have : 1 * 2 ^ (32 * k) ≤ p.getD k 0 * 2 ^ (32 * k) := Int.mul_le_mul_of_nonneg_right (by omega) (by omega)
    omega
  rw [bl_shift (32 * k) hge, hq]
  simp; omega
end Go.W

set_option linter.unusedVariables false
set_option linter.unusedSimpArgs false
namespace Go.W

/-! ### shifts -/
theorem pow_split {k n : Nat} (h : k ≤ n) : (2 : Int) ^ n = 2 ^ k * 2 ^ (n - k) := by rw [← Int.pow_add]; congr 1; omega
theorem Rn_natural_Shl : Run_natural_Shl := fun s hs a n0 => Ok.gif fun ⟨ha, hn0, hn1⟩ => by
  have hla := dn_len_le ha
  have hA := ha.2
  have na := ha.nonneg
  have va : gv 4294967296 (dn (nv a)) = nv a := nv_dn na
  have da : DV 4294967296 (dn (nv a)) := gd_DV (by decide) _
  simp only [T_natural_Shl, F_natural_trim, gif_bind ha, LEN]
  by_cases h0 : nv a = 0
  · simp only [h0, dn_zero, Int.zero_mul]
    exact Ev.ret
  have hne : dn (nv a) ≠ [] := fun h => by have := dn_nil.1 h; omega
  have e0 : (((dn (nv a)).length : Int) == 0) = false := by simp; exact hne
  simp only [e0]
  generalize hN : (if (16777216 : Int) < (if (0 : Int) > n0 then (0 : Int) else n0) then (16777216 : Int) else (if (0 : Int) > n0 then (0 : Int) else n0)) = N
  have hN' : N = (shc n0 : Int) := by
    rw [← hN]; unfold shc
    by_cases q1 : n0 < 0
    · simp [q1]
    · by_cases q2 : 16777216 < n0
      · simp [q1, q2]
      · simp [q1, q2]; omega
  have hNb : shc n0 ≤ 16777216 := by
    unfold shc; split
    · omega
    · split <;> omega
  generalize shc n0 = t at *
  subst hN'
  obtain ⟨w, k, hk, ht⟩ : ∃ w k : Nat, k < 32 ∧ t = 32 * w + k := ⟨t / 32, t % 32, Nat.mod_lt _ (by decide), by omega⟩
  have e1 : Int.tdiv (t : Int) 32 = w := by rw [Int.tdiv_eq_ediv_of_nonneg (by omega)]; omega
  have e2 : Int.tmod (t : Int) 32 = k := by rw [Int.tmod_eq_emod_of_nonneg (by omega)]; omega
  rw [e1, e2]
  generalize hp : dn (nv a) = p at *
  have hw : (w : Int) ≤ 524288 := by omega
  rw [i64w (n := (w : Int)) (by omega) (by omega), i64w (n := (w : Int) + (p.length : Int)) (by omega) (by omega), i64w (n := (w : Int) + (p.length : Int) + 1) (by omega) (by omega)]
  simp only [show ¬ ((32 : Int) = 0) by decide, if_false, show (0 ≤ (w : Int) + (p.length : Int) + 1 ∧ (w : Int) + (p.length : Int) + 1 ≤ ((17592186044416 : Nat) : Int)) = True by simp; omega, if_true]
  rw [show Int.toNat ((w : Int) + (p.length : Int) + 1) = w + p.length + 1 by omega, List.length_replicate, Int.toNat_natCast]
  simp only [show (0 ≤ (w : Int) ∧ (w : Int) ≤ ((w + p.length + 1 : Nat) : Int)) = True by simp; omega, if_true]
  rw [show Int.toNat (((w + p.length + 1 : Nat) : Int) - (w : Int)) = p.length + 1 by omega]
  simp only [show (p.length ≤ p.length + 1) = True by simp, if_true]
  rw [List.take_replicate, Nat.min_eq_left (by omega), List.drop_replicate, show w + p.length + 1 - (w + p.length) = 1 by omega]
  have hT : nv a * 2 ^ t = gv 4294967296 (List.replicate w 0 ++ p ++ List.replicate 1 0) * 2 ^ k := by
    rw [gv_append, gv_append, gv_replicate, gv_replicate, List.length_replicate, va, pow32, ht, Int.pow_add]
    grind
  have hD : DV 4294967296 (List.replicate w 0 ++ p ++ List.replicate 1 0) := DV.append.2 ⟨DV.append.2 ⟨DV.replicate (by decide) _, da⟩, DV.replicate (by decide) _⟩
  have hlen : (List.replicate w (0 : Int) ++ p ++ List.replicate 1 0).length = w + p.length + 1 := by simp; omega
  have htk : gv 4294967296 ((List.replicate w (0 : Int) ++ p ++ List.replicate 1 0).take w) = 0 := by
    rw [List.append_assoc, List.take_append_of_le_length (by simp), List.take_replicate, gv_replicate]
  have hsp := gv_split 4294967296 w (List.replicate w (0 : Int) ++ p ++ List.replicate 1 0) (by simp <;> omega)
  have hgv : gv 4294967296 (List.replicate w (0 : Int) ++ p ++ List.replicate 1 0) = nv a * 2 ^ (32 * w) := by
    rw [gv_append, gv_append, gv_replicate, gv_replicate, List.length_replicate, va, pow32]; grind
  generalize List.replicate w (0 : Int) ++ p ++ List.replicate 1 0 = u at *
  by_cases hk0 : k = 0
  · subst hk0
    simp only [show decide (((0 : Nat) : Int) > 0) = false by decide]
    refine Ev.congr (t := fun _ => some (dn (nv a * 2 ^ t))) (fun m => ?_) Ev.ret
    exact otrim_end' ⟨hD, by omega⟩ (by rw [hT, Int.pow_zero, Int.mul_one])
  · simp only [show decide ((k : Int) > 0) = true by simp; omega, if_true]
    have hlt : nv a < 4294967296 ^ p.length := by rw [← va]; exact gv_lt (by decide) da
    have hTlt : nv a * 2 ^ t < 4294967296 ^ (w + p.length + 1) := by
      rw [pow32] at hlt ⊢
      rw [show 32 * (w + p.length + 1) = 32 * p.length + (t + (32 - k)) by omega, Int.pow_add]
      have h1 := two_pow_le (show t ≤ t + (32 - k) by omega)
      have h2 := two_pow_pos t
      have h3 : nv a * 2 ^ t < 2 ^ (32 * p.length) * 2 ^ t := Int.mul_lt_mul_of_pos_right hlt h2
      have h4 : (2 : Int) ^ (32 * p.length) * 2 ^ t ≤ 2 ^ (32 * p.length) * 2 ^ (t + (32 - k)) := Int.mul_le_mul_of_nonneg_left h1 (Int.le_of_lt (two_pow_pos _))
      omega
    have hB : (4294967296 : Int) = 2 ^ k * 2 ^ (32 - k) := by rw [← pow_split (by omega)]; rfl
    have hpk := two_pow_pos k
    have hpk' := two_pow_pos (32 - k)
    have key : ∀ (d j : Nat) (out : List Int) (low : Int), j + d = u.length → out.length = u.length → DV 4294967296 out → 0 ≤ low → low < 2 ^ k →
        gv 4294967296 (out.take j) + (low + 2 ^ k * gv 4294967296 (out.drop j)) * 4294967296 ^ j = nv a * 2 ^ t → Ev (fun m => s m (k : Int) low (j : Int) out) (dn (nv a * 2 ^ t)) := by
      intro d
      induction d with
      | zero =>
        intro j out low hj hl hd h0 h1 hE
        have hj' : j = u.length := by omega
        subst hj'
        refine Ev.step (t := fun _ => some (dn (nv a * 2 ^ t))) (fun m => ?_) Ev.ret
        rw [hs]; unfold S_natural_Shl_45
        rw [if_neg (by simp; omega)]
        refine otrim_end' ⟨hd, by omega⟩ ?_
        rw [List.drop_eq_nil_of_le (by omega), List.take_of_length_le (by omega)] at hE
        simp only [gv, Int.mul_zero, Int.add_zero] at hE
        rw [hlen] at hE
        have hp0 := pow_pos' (B := 4294967296) (by decide) (w + p.length + 1)
        have hg0 := gv_nonneg (B := 4294967296) (by decide) hd
        by_cases hl0 : low = 0
        · subst hl0; rw [← hE]; simp
        · have : 1 * 4294967296 ^ (w + p.length + 1) ≤ low * 4294967296 ^ (w + p.length + 1) := Int.mul_le_mul_of_nonneg_right (by omega) (by omega)
          omega
      | succ d ih =>
        intro j out low hj hl hd h0 h1 hE
        have hx := hd.get (by decide) j
        generalize hxe : out.getD j 0 = x at *
        have hlo : x / 2 ^ (32 - k) < 2 ^ k := Int.ediv_lt_of_lt_mul hpk' (by rw [← hB]; exact hx.2)
        have hlo0 : 0 ≤ x / 2 ^ (32 - k) := Int.ediv_nonneg hx.1 (by omega)
        have hmod : x * 2 ^ k % 4294967296 = (x % 2 ^ (32 - k)) * 2 ^ k := by
          rw [hB, Int.mul_comm x, Int.mul_emod_mul_of_pos _ _ hpk, Int.mul_comm]
        have hm0 := Int.emod_nonneg x (show (2 : Int) ^ (32 - k) ≠ 0 by omega)
        have hm1 := Int.emod_lt_of_pos x hpk'
        have hsum : (x % 2 ^ (32 - k)) * 2 ^ k + low < 4294967296 := by
          have : (x % 2 ^ (32 - k) + 1) * 2 ^ k ≤ 2 ^ (32 - k) * 2 ^ k := Int.mul_le_mul_of_nonneg_right (by omega) (by omega)
          rw [Int.add_mul, Int.one_mul, Int.mul_comm (2 ^ (32 - k)), ← hB] at this
          omega
        have hsum0 : 0 ≤ (x % 2 ^ (32 - k)) * 2 ^ k := Int.mul_nonneg hm0 (by omega)
        refine Ev.step (t := fun m => s m (k : Int) (x / 2 ^ (32 - k)) ((j + 1 : Nat) : Int) (out.set j ((x % 2 ^ (32 - k)) * 2 ^ k + low))) (fun m => ?_) (ih (j + 1) _ _ (by omega) (by simpa using hl) (hd.set ⟨by omega, hsum⟩) hlo0 hlo ?_)
        · rw [hs]; unfold S_natural_Shl_45
          have e32 : min (Int.toNat ((32 : Int) - (k : Int))) (IntKind.bits .u32) = 32 - k := by rw [bits32]; omega
          have ek : min (Int.toNat (k : Int)) (IntKind.bits .u32) = k := by rw [bits32]; omega
          rw [if_pos (by simp; omega), if_pos (by omega), if_neg (by omega)]
          dsimp only
          rw [if_pos (by omega), Int.toNat_natCast, hxe, i64w (n := (32 : Int) - (k : Int)) (by omega) (by omega), if_neg (by omega), shr_eq, e32, ek, IntKind.wrap_u32 (x * 2 ^ k), hmod]
          rw [or_word k hm0 h0 h1 (by have : (2 : Int) ^ (IntKind.bits .u32) = 4294967296 := rfl; omega), u32w (by omega) hsum, i64w (by omega) (by omega)]
          simp
        · refine dig_step _ (by omega) hE ?_
          rw [gv_drop_succ _ (show j < out.length by omega), hxe, drop_set_lt (by omega)]
          have h3 : x = x % 2 ^ (32 - k) + 2 ^ (32 - k) * (x / 2 ^ (32 - k)) := (Int.emod_add_mul_ediv x _).symm
          generalize x % 2 ^ (32 - k) = xm at *
          generalize x / 2 ^ (32 - k) = xd at *
          generalize gv 4294967296 (out.drop (j + 1)) = D at *
          generalize (2 : Int) ^ (32 - k) = X at *
          generalize (2 : Int) ^ k = Y at *
          rw [hB, h3]
          grind
    have := key (u.length - w) w u 0 (by omega) rfl hD (by omega) hpk (by rw [hT, htk, hsp, htk]; grind)
    exact this
end Go.W

set_option linter.unusedVariables false
set_option linter.unusedSimpArgs false
namespace Go.W

theorem ediv_pow_drop {a : List Int} (h : DV 4294967296 a) {w : Nat} (hw : w ≤ a.length) : gv 4294967296 a / 2 ^ (32 * w) = gv 4294967296 (a.drop w) := by
  have h1 := gv_split 4294967296 w a hw
  have h2 := gv_lt (by decide) (h.take w)
  have h3 := gv_nonneg (B := 4294967296) (by decide) (h.take w)
  rw [List.length_take, Nat.min_eq_left hw] at h2
  rw [pow32] at h1 h2
  rw [h1, Int.add_mul_ediv_left _ _ (Int.ne_of_gt (two_pow_pos _)), Int.ediv_eq_zero_of_lt h3 h2, Int.zero_add]
theorem Rn_natural_Shr : Run_natural_Shr := fun s t hs ht a n0 => Ok.gif fun ⟨ha, hn0, hn1⟩ => by
  have hla := dn_len_le ha
  have hA := ha.2
  have na := ha.nonneg
  have va : gv 4294967296 (dn (nv a)) = nv a := nv_dn na
  have da : DV 4294967296 (dn (nv a)) := gd_DV (by decide) _
  simp only [T_natural_Shr, F_natural_trim, gif_bind ha]
  generalize hN : (if (0 : Int) > n0 then (0 : Int) else n0) = N
  have hN' : N = (n0.toNat : Int) := by rw [← hN]; split <;> omega
  have hNb : n0.toNat ≤ 9223372036854775807 := by omega
  generalize n0.toNat = t0 at *
  subst hN'
  obtain ⟨w, k, hk, ht0⟩ : ∃ w k : Nat, k < 32 ∧ t0 = 32 * w + k := ⟨t0 / 32, t0 % 32, Nat.mod_lt _ (by decide), by omega⟩
  have e1 : Int.tdiv (t0 : Int) 32 = w := by rw [Int.tdiv_eq_ediv_of_nonneg (by omega)]; omega
  have e2 : Int.tmod (t0 : Int) 32 = k := by rw [Int.tmod_eq_emod_of_nonneg (by omega)]; omega
  rw [e1, e2, i64w (n := (w : Int)) (by omega) (by omega)]
  generalize hp : dn (nv a) = p at *
  simp only [show ¬ ((32 : Int) = 0) by decide, if_false, Int.toNat_natCast]
  have hlt : nv a < 4294967296 ^ p.length := by rw [← va]; exact gv_lt (by decide) da
  have hdiv : nv a / 2 ^ t0 = nv a / 2 ^ (32 * w) / 2 ^ k := by
    rw [ht0, Int.pow_add, Int.ediv_ediv_of_nonneg (Int.le_of_lt (two_pow_pos _))]
  by_cases hw : p.length ≤ w
  · simp only [show decide ((w : Int) ≥ (p.length : Int)) = true by simp; omega, if_true]
    have : nv a / 2 ^ (32 * w) = 0 := by
      rw [pow32] at hlt
      have := two_pow_le (show 32 * p.length ≤ 32 * w by omega)
      exact Int.ediv_eq_zero_of_lt na (by omega)
    rw [hdiv, this, Int.zero_ediv, dn_zero]
    exact Ev.ret
  · simp only [show decide ((w : Int) ≥ (p.length : Int)) = false by simp; omega]
    have hq : nv a / 2 ^ (32 * w) = gv 4294967296 (p.drop w) := by rw [← va]; exact ediv_pow_drop da (by omega)
    rw [hq] at hdiv
    have hD := da.drop w
    have hlen : (p.drop w).length ≤ p.length := by simp
    simp only [show (0 ≤ (w : Int) ∧ (w : Int) ≤ (p.length : Int)) = True by simp; omega, if_true, show ((p.drop w).length ≤ 70368744177664 / 4) = True by simp; omega]
    rw [hdiv]
    by_cases hk0 : k = 0
    · subst hk0
      simp only [show decide (((0 : Nat) : Int) > 0) = false by decide]
      refine Ev.congr (t := fun _ => some (dn (gv 4294967296 (p.drop w) / 2 ^ 0))) (fun m => ?_) Ev.ret
      exact otrim_end ⟨hD, by omega⟩ (by rw [Int.pow_zero, Int.ediv_one])
    · simp only [show decide ((k : Int) > 0) = true by simp; omega, if_true]
      generalize p.drop w = u at *
      have hB : (4294967296 : Int) = 2 ^ k * 2 ^ (32 - k) := by rw [← pow_split (by omega)]; rfl
      have hpk := two_pow_pos k
      have hpk' := two_pow_pos (32 - k)
      have key : ∀ (d j : Nat) (out : List Int), j + d = u.length → out.length = u.length → DV 4294967296 out →
          gv 4294967296 (out.take j) + (gv 4294967296 (out.drop j) / 2 ^ k) * 4294967296 ^ j = gv 4294967296 u / 2 ^ k → Ev (fun m => s m (k : Int) (u.length : Int) (j : Int) out) (dn (gv 4294967296 u / 2 ^ k)) := by
        intro d
        induction d with
        | zero =>
          intro j out hj hl hd hE
          have hj' : j = u.length := by omega
          subst hj'
          refine Ev.step (t := fun _ => some (dn (gv 4294967296 u / 2 ^ k))) (fun m => ?_) Ev.ret
          rw [hs]; unfold S_natural_Shr_37
          rw [if_neg (by simp)]
          refine otrim_end ⟨hd, by omega⟩ ?_
          rw [List.drop_eq_nil_of_le (by omega), List.take_of_length_le (by omega)] at hE
          simpa [gv] using hE
        | succ d ih =>
          intro j out hj hl hd hE
          have hx := hd.get (by decide) j
          have hx0 : 0 ≤ out.getD j 0 / 2 ^ k := Int.ediv_nonneg hx.1 (by omega)
          have hx1 : out.getD j 0 / 2 ^ k < 2 ^ (32 - k) := Int.ediv_lt_of_lt_mul hpk (by rw [Int.mul_comm, ← hB]; exact hx.2)
          have ek : min (Int.toNat (k : Int)) (IntKind.bits .u32) = k := by rw [bits32]; omega
          have e32 : min (Int.toNat ((32 : Int) - (k : Int))) (IntKind.bits .u32) = 32 - k := by rw [bits32]; omega
          have hb32 : (2 : Int) ^ (IntKind.bits .u32) = 4294967296 := rfl
          -- the high part y % 2^k
          have step : ∀ y : Int, 0 ≤ y → y < 2 ^ k → gv 4294967296 (out.drop (j + 1)) % 2 ^ k = y → Ev (fun m => t m (k : Int) (j : Int) (y * 2 ^ (32 - k)) (u.length : Int) (j : Int) out) (dn (gv 4294967296 u / 2 ^ k)) := by
            intro y hy0 hy1 hy
            have hyk : 0 ≤ y * 2 ^ (32 - k) := Int.mul_nonneg hy0 (by omega)
            have hsum : y * 2 ^ (32 - k) + out.getD j 0 / 2 ^ k < 4294967296 := by
              have : (y + 1) * 2 ^ (32 - k) ≤ 2 ^ k * 2 ^ (32 - k) := Int.mul_le_mul_of_nonneg_right (by omega) (by omega)
              rw [Int.add_mul, Int.one_mul, ← hB] at this
              omega
            refine Ev.step (t := fun m => s m (k : Int) (u.length : Int) ((j + 1 : Nat) : Int) (out.set j (y * 2 ^ (32 - k) + out.getD j 0 / 2 ^ k))) (fun m => ?_) (ih (j + 1) _ (by omega) (by simpa using hl) (hd.set ⟨by omega, hsum⟩) ?_)
            · rw [ht]; unfold S_natural_Shr_56
              rw [if_pos (by omega), if_neg (by omega)]
              dsimp only
              rw [if_pos (by omega), Int.toNat_natCast, shr_eq, ek, BitVec.or_comm, or_word (32 - k) hy0 hx0 hx1 (by omega), u32w (by omega) hsum, i64w (by omega) (by omega)]
              simp
            · refine dig_step _ (by omega) hE ?_
              rw [gv_drop_succ _ (show j < out.length by omega), drop_set_lt (by omega)]
              have h3 := Int.emod_add_mul_ediv (gv 4294967296 (out.drop (j + 1))) (2 ^ k)
              rw [hy] at h3
              have h4 : out.getD j 0 + 4294967296 * gv 4294967296 (out.drop (j + 1)) = out.getD j 0 + 2 ^ k * (2 ^ (32 - k) * gv 4294967296 (out.drop (j + 1))) := by rw [← Int.mul_assoc, ← hB]
              rw [h4, Int.add_mul_ediv_left _ _ (by omega), ← h3]
              generalize gv 4294967296 (out.drop (j + 1)) = D at *
              have h5 : (y + 2 ^ k * (D / 2 ^ k)) / 2 ^ k = D / 2 ^ k := by rw [h3]
              rw [h5, hB]
              generalize D / 2 ^ k = D' at *
              generalize out.getD j 0 / 2 ^ k = x' at *
              generalize (2 : Int) ^ (32 - k) = X at *
              generalize (2 : Int) ^ k = Y at *
              grind
          by_cases hj1 : j + 1 < out.length
          · have hy := hd.get (by decide) (j + 1)
            have hy2 : gv 4294967296 (out.drop (j + 1)) % 2 ^ k = out.getD (j + 1) 0 % 2 ^ k := by
              rw [gv_drop_succ _ hj1, hB, Int.mul_assoc, Int.add_mul_emod_self_left]
            have hmod : out.getD (j + 1) 0 * 2 ^ (32 - k) % 4294967296 = (out.getD (j + 1) 0 % 2 ^ k) * 2 ^ (32 - k) := by
              rw [hB, Int.mul_comm (out.getD (j + 1) 0), Int.mul_comm (2 ^ k), Int.mul_emod_mul_of_pos _ _ hpk', Int.mul_comm]
            refine Ev.step (t := fun m => t m (k : Int) (j : Int) ((out.getD (j + 1) 0 % 2 ^ k) * 2 ^ (32 - k)) (u.length : Int) (j : Int) out) (fun m => ?_) (step _ (Int.emod_nonneg _ (by omega)) (Int.emod_lt_of_pos _ hpk) hy2)
            rw [hs]; unfold S_natural_Shr_37
            rw [i64w (n := (j : Int) + 1) (by omega) (by omega), if_pos (by simp; omega)]
            dsimp only
            rw [if_pos (by simp; omega), if_pos (by omega), show Int.toNat ((j : Int) + 1) = j + 1 by omega, i64w (n := (32 : Int) - (k : Int)) (by omega) (by omega), if_neg (by omega), e32, IntKind.wrap_u32, hmod]
          · have hy2 : gv 4294967296 (out.drop (j + 1)) % 2 ^ k = 0 := by rw [List.drop_eq_nil_of_le (by omega)]; simp [gv]
            have h00 := step 0 (by omega) hpk hy2
            rw [Int.zero_mul] at h00
            refine Ev.step (t := fun m => t m (k : Int) (j : Int) 0 (u.length : Int) (j : Int) out) (fun m => ?_) h00
            rw [hs]; unfold S_natural_Shr_37
            rw [i64w (n := (j : Int) + 1) (by omega) (by omega), if_pos (by simp; omega)]
            dsimp only
            rw [if_neg (by simp; omega)]
      have := key u.length 0 u (by omega) rfl hD (by simp [gv])
      exact this
end Go.W

set_option linter.unusedVariables false
set_option linter.unusedSimpArgs false
namespace Go.W

/-! ### long division -/
theorem guess_gt {top next num rest u2 g E vl wl : Int} (hE : 0 < E) (hvl : 0 ≤ vl) (hwl : wl < E) (hwl0 : 0 ≤ wl) (hg : 0 ≤ g) (h1 : g * top + rest = num) (h2 : rest * 4294967296 + u2 < g * next) :
    wl + (num * 4294967296 + u2) * E < g * (vl + (top * 4294967296 + next) * E) := by
  have a0 : g * (top * 4294967296 + next) = (g * top) * 4294967296 + g * next := by grind
  have a1 : num * 4294967296 + u2 + 1 ≤ g * (top * 4294967296 + next) := by rw [a0]; omega
  have a2 : (num * 4294967296 + u2 + 1) * E ≤ g * (top * 4294967296 + next) * E := Int.mul_le_mul_of_nonneg_right a1 (by omega)
  have a3 := Int.mul_nonneg hg hvl
  have a4 : g * (vl + (top * 4294967296 + next) * E) = g * vl + g * (top * 4294967296 + next) * E := by grind
  have a5 : (num * 4294967296 + u2 + 1) * E = (num * 4294967296 + u2) * E + E := by grind
  omega
theorem guess_le {top next num rest u2 g E vl wl : Int} (hE : 0 < E) (hvl0 : 0 ≤ vl) (hvl : vl < E) (hwl0 : 0 ≤ wl) (hg : 0 ≤ g) (hg1 : g ≤ 4294967296) (ht : 1 ≤ top) (hn : 0 ≤ next) (h1 : g * top + rest = num) (h2 : g * next ≤ rest * 4294967296 + u2) :
    g * (vl + (top * 4294967296 + next) * E) ≤ wl + (num * 4294967296 + u2) * E + (vl + (top * 4294967296 + next) * E) := by
  have a0 : g * (top * 4294967296 + next) = (g * top) * 4294967296 + g * next := by grind
  have a1 : g * (top * 4294967296 + next) ≤ num * 4294967296 + u2 := by rw [a0]; omega
  have a2 : g * (top * 4294967296 + next) * E ≤ (num * 4294967296 + u2) * E := Int.mul_le_mul_of_nonneg_right a1 (by omega)
  have a3 : g * vl ≤ g * E := Int.mul_le_mul_of_nonneg_left (by omega) hg
  have a4 : g * E ≤ 4294967296 * E := Int.mul_le_mul_of_nonneg_right hg1 (by omega)
  have a5 : 4294967296 * E ≤ (top * 4294967296 + next) * E := Int.mul_le_mul_of_nonneg_right (by omega) (by omega)
  have a6 : g * (vl + (top * 4294967296 + next) * E) = g * vl + g * (top * 4294967296 + next) * E := by grind
  omega
theorem quo_gt {W V g : Int} (hV : 0 < V) (h : W < g * V) : W / V < g := Int.ediv_lt_of_lt_mul hV h
theorem quo_le {W V g : Int} (hV : 0 < V) (h : g * V ≤ W + V) : g ≤ W / V + 1 := by
  have : (g - 1) * V ≤ W := by rw [Int.sub_mul, Int.one_mul]; omega
  have := Int.le_ediv_of_mul_le hV this
  omega
/-- the three highest digits of n + 1 -/
theorem top2 {v : List Int} (h : DV 4294967296 v) {n : Nat} (hn : v.length = n + 2) : ∃ vl, 0 ≤ vl ∧ vl < 4294967296 ^ n ∧ gv 4294967296 v = vl + (v.getD (n + 1) 0 * 4294967296 + v.getD n 0) * 4294967296 ^ n := by
  refine ⟨gv 4294967296 (v.take n), gv_nonneg (by decide) (h.take n), ?_, ?_⟩
  · have := gv_lt (B := 4294967296) (by decide) (h.take n)
    rwa [List.length_take, Nat.min_eq_left (by omega)] at this
  · have h1 := gv_take_succ 4294967296 (a := v) (i := n + 1) (by omega)
    rw [List.take_of_length_le (by omega), gv_take_succ _ (by omega), Int.pow_succ] at h1
    rw [h1]; grind
theorem top3 {v : List Int} (h : DV 4294967296 v) {n : Nat} (hn : v.length = n + 3) : ∃ vl, 0 ≤ vl ∧ vl < 4294967296 ^ n ∧ gv 4294967296 v = vl + ((v.getD (n + 2) 0 * 4294967296 + v.getD (n + 1) 0) * 4294967296 + v.getD n 0) * 4294967296 ^ n := by
  obtain ⟨vl, h0, h1, h2⟩ := top2 h (n := n + 1) (by omega)
  refine ⟨gv 4294967296 (v.take n), gv_nonneg (by decide) (h.take n), ?_, ?_⟩
  · have := gv_lt (B := 4294967296) (by decide) (h.take n)
    rwa [List.length_take, Nat.min_eq_left (by omega)] at this
  · have e1 := gv_take_succ 4294967296 (a := v) (i := n + 2) (by omega)
    rw [List.take_of_length_le (by omega), gv_take_succ _ (by omega), gv_take_succ _ (by omega), Int.pow_succ, Int.pow_succ] at e1
    rw [e1]; grind

section
variable {n' L M : Nat} {v u q : List Int} {V U : Int} (hv : v.length = n' + 2) (hdv : DV 4294967296 v) (hV : gv 4294967296 v = V) (htop : 1 ≤ v.getD (n' + 1) 0)

/-- what is left stands below: digits above are 0 -/
theorem up_zero {l : List Int} (hl : DV 4294967296 l) {k n : Nat} (hk : k + n ≤ l.length) (h : gv 4294967296 (l.drop k) < 4294967296 ^ n) : gv 4294967296 (l.drop (k + n)) = 0 := by
  have h1 := gv_split 4294967296 n (l.drop k) (by simp; omega)
  have h2 := gv_nonneg (B := 4294967296) (by decide) ((hl.drop k).take n)
  rw [List.drop_drop] at h1
  have h3 := gv_nonneg (B := 4294967296) (by decide) (hl.drop (k + n))
  have hp := pow_pos' (B := 4294967296) (by decide) n
  by_cases h0 : gv 4294967296 (l.drop (k + n)) = 0
  · exact h0
  · have : 4294967296 ^ n * 1 ≤ 4294967296 ^ n * gv 4294967296 (l.drop (k + n)) := Int.mul_le_mul_of_nonneg_left (by omega) (by omega)
    omega

/-- the quotient's digit: W, its bounds, and what the guess means -/
theorem win {j : Nat} (hv : v.length = n' + 2) (hdv : DV 4294967296 v) (hV : gv 4294967296 v = V) (htop : 1 ≤ v.getD (n' + 1) 0) (hu : DV 4294967296 u) (hj : j + 1 + (n' + 2) ≤ u.length) (hR : gv 4294967296 (u.drop (j + 1)) < V) :
    ∃ W num : Int, gv 4294967296 (u.drop j) = W ∧ num = u.getD (j + (n' + 2)) 0 * 4294967296 + u.getD (j + (n' + 1)) 0 ∧ 0 < V ∧ 0 ≤ W ∧ W / V < 4294967296 ∧ num < (v.getD (n' + 1) 0 + 1) * 4294967296 ∧
      gv 4294967296 (u.drop (j + 1 + (n' + 2))) = 0 ∧
      (∀ g rest, 0 ≤ g → g * v.getD (n' + 1) 0 + rest = num → rest * 4294967296 + u.getD (j + n') 0 < g * v.getD n' 0 → W / V < g) ∧
      (∀ g rest, 0 ≤ g → g ≤ 4294967296 → g * v.getD (n' + 1) 0 + rest = num → g * v.getD n' 0 ≤ rest * 4294967296 + u.getD (j + n') 0 → g ≤ W / V + 1) := by
  obtain ⟨vl, v0, v1, v2⟩ := top2 hdv hv
  rw [hV] at v2
  have hE := pow_pos' (B := 4294967296) (by decide) n'
  have hnext := hdv.get (by decide) n'
  have hVpos : 0 < V := by
    have : 0 < (v.getD (n' + 1) 0 * 4294967296 + v.getD n' 0) * 4294967296 ^ n' := Int.mul_pos (by omega) hE
    omega
  have hVlt : V < 4294967296 ^ (n' + 2) := by rw [← hV, ← hv]; exact gv_lt (by decide) hdv
  have hz := up_zero hu (k := j + 1) (n := n' + 2) hj (by omega)
  have hw : ((u.drop j).take (n' + 3)).length = n' + 3 := by simp; omega
  have hwg : ∀ i, i < n' + 3 → ((u.drop j).take (n' + 3)).getD i 0 = u.getD (j + i) 0 := fun i hi => by
    simp only [List.getD_eq_getElem?_getD, List.getElem?_take, if_pos hi, List.getElem?_drop]
  obtain ⟨wl, w0, w1, w2⟩ := top3 ((hu.drop j).take (n' + 3)) hw
  rw [hwg _ (by omega), hwg _ (by omega), hwg _ (by omega)] at w2
  have hW : gv 4294967296 (u.drop j) = gv 4294967296 ((u.drop j).take (n' + 3)) := by
    rw [gv_split 4294967296 (n' + 3) (u.drop j) (by simp; omega), List.drop_drop, show j + (n' + 3) = j + 1 + (n' + 2) by omega, hz]; simp
  have hWs := gv_drop_succ 4294967296 (a := u) (i := j) (by omega)
  have huj := hu.get (by decide) j
  have hWn := gv_nonneg (B := 4294967296) (by decide) (hu.drop j)
  rw [hW, w2] at hWs
  rw [hW, w2] at hWn
  refine ⟨_, _, hW.trans w2, rfl, hVpos, hWn, ?_, ?_, hz, ?_, ?_⟩
  · refine Int.ediv_lt_of_lt_mul hVpos ?_
    rw [hWs]; omega
  · by_cases hh : u.getD (j + (n' + 2)) 0 * 4294967296 + u.getD (j + (n' + 1)) 0 < (v.getD (n' + 1) 0 + 1) * 4294967296
    · exact hh
    · exfalso
      have hu2 := hu.get (by decide) (j + n')
      have a1 : ((v.getD (n' + 1) 0 + 1) * 4294967296 * 4294967296) * 4294967296 ^ n' ≤ ((u.getD (j + (n' + 2)) 0 * 4294967296 + u.getD (j + (n' + 1)) 0) * 4294967296 + u.getD (j + n') 0) * 4294967296 ^ n' :=
        Int.mul_le_mul_of_nonneg_right (by omega) (by omega)
      have a2 : ((v.getD (n' + 1) 0 * 4294967296 + v.getD n' 0) + 1) * 4294967296 ^ n' ≤ ((v.getD (n' + 1) 0 + 1) * 4294967296) * 4294967296 ^ n' := Int.mul_le_mul_of_nonneg_right (by omega) (by omega)
      rw [Int.add_mul, Int.one_mul] at a2
      have a3 : ((v.getD (n' + 1) 0 + 1) * 4294967296 * 4294967296) * 4294967296 ^ n' = 4294967296 * (((v.getD (n' + 1) 0 + 1) * 4294967296) * 4294967296 ^ n') := by grind
      omega
  · intro g rest hg h1 h2
    refine quo_gt hVpos ?_
    rw [v2]
    exact guess_gt hE v0 w1 w0 hg h1 h2
  · intro g rest hg hg1 h1 h2
    refine quo_le hVpos ?_
    rw [v2]
    exact guess_le hE v0 v1 w0 hg hg1 htop hnext.1 h1 h2
end
end Go.W

set_option linter.unusedVariables false
set_option linter.unusedSimpArgs false
namespace Go.W

theorem drop_drop_eq {u u' : List Int} {a b : Nat} (h : u'.drop a = u.drop a) (hab : a ≤ b) : u'.drop b = u.drop b := by
  have := congrArg (List.drop (b - a)) h
  rw [List.drop_drop, List.drop_drop, show a + (b - a) = b by omega] at this
  exact this
theorem getD_of_drop {u u' : List Int} {a b : Nat} (h : u'.drop a = u.drop a) (hab : a ≤ b) : u'.getD b 0 = u.getD b 0 := by
  have := drop_drop_eq h hab
  have h1 : (u'.drop b)[0]? = (u.drop b)[0]? := by rw [this]
  simp only [List.getElem?_drop, Nat.add_zero] at h1
  simp only [List.getD_eq_getElem?_getD, h1]

theorem and32 {x : Int} (h : 0 ≤ x) (h' : x < 18446744073709551616) : ((BitVec.toNat ((BitVec.ofInt (IntKind.bits .u64) x) &&& (BitVec.ofInt (IntKind.bits .u64) (4294967295 : Int))) : Nat) : Int) = x % 4294967296 :=
  and_word (b := IntKind.bits .u64) 32 (by decide) h h'
theorem or32 {x y : Int} (hx : 0 ≤ x ∧ x < 4294967296) (hy : 0 ≤ y ∧ y < 4294967296) : ((BitVec.toNat ((BitVec.ofInt (IntKind.bits .u64) (x * 4294967296)) ||| (BitVec.ofInt (IntKind.bits .u64) y)) : Nat) : Int) = x * 4294967296 + y :=
  or_word (b := IntKind.bits .u64) 32 hx.1 hy.1 hy.2 (by have : (2 : Int) ^ (IntKind.bits .u64) = 18446744073709551616 := rfl; have : (2 : Int) ^ 32 = 4294967296 := rfl; omega)
theorem sh32 : (2 : Int) ^ min (Int.toNat 32) (IntKind.bits .u64) = 4294967296 := rfl
theorem sh63 : (2 : Int) ^ min (Int.toNat 63) (IntKind.bits .u64) = 9223372036854775808 := rfl
/-- a difference of digits, and what is borrowed -/
theorem borrow_step {u b p : Int} (hu : 0 ≤ u ∧ u < 4294967296) (hb : 0 ≤ b ∧ b ≤ 1) (hp : 0 ≤ p ∧ p < 4294967296) :
    IntKind.wrap .u32 (IntKind.wrap .u64 (IntKind.wrap .u64 (u - b) - p)) = (u - b - p) % 4294967296 ∧ IntKind.wrap .u64 (IntKind.wrap .u64 (u - b) - p) / 9223372036854775808 = if u - b - p < 0 then 1 else 0 := by
  simp only [IntKind.wrap_u32, IntKind.wrap_u64]
  split <;> omega

set_option maxHeartbeats 3200000 in
theorem long_loop {s1 : Nat → Int → Int → Int → Int → Int → List Int → List Int → List Int → Option (List Int × List Int)} {s2 : Nat → Int → Int → Int → Int → Int → Int → Int → List Int → List Int → List Int → Option (List Int × List Int)}
    {s3 : Nat → Int → Int → Int → Int → Int → Int → Int → Int → Int → Int → List Int → List Int → List Int → Option (List Int × List Int)} {s4 : Nat → Int → Int → Int → Int → Int → Int → Int → Int → List Int → List Int → List Int → Option (List Int × List Int)}
    (k1 : ∀ m x6 x10 x13 x14 x15 x4 x11 x12, s1 (m + 1) x6 x10 x13 x14 x15 x4 x11 x12 = S_division_long_57 (s1 m) (s2 m) (s3 m) (s4 m) x6 x10 x13 x14 x15 x4 x11 x12)
    (k2 : ∀ m x6 x10 x13 x14 x15 x16 x17 x4 x11 x12, s2 (m + 1) x6 x10 x13 x14 x15 x16 x17 x4 x11 x12 = S_division_long_69 (s1 m) (s2 m) (s3 m) (s4 m) x6 x10 x13 x14 x15 x16 x17 x4 x11 x12)
    (k3 : ∀ m x6 x10 x13 x14 x15 x16 x18 x19 x142 x143 x4 x11 x12, s3 (m + 1) x6 x10 x13 x14 x15 x16 x18 x19 x142 x143 x4 x11 x12 = S_division_long_93 (s1 m) (s2 m) (s3 m) (s4 m) x6 x10 x13 x14 x15 x16 x18 x19 x142 x143 x4 x11 x12)
    (k4 : ∀ m x6 x10 x13 x14 x15 x25 x211 x212 x4 x11 x12, s4 (m + 1) x6 x10 x13 x14 x15 x25 x211 x212 x4 x11 x12 = S_division_long_153 (s1 m) (s2 m) (s3 m) (s4 m) x6 x10 x13 x14 x15 x25 x211 x212 x4 x11 x12)
    {n' sh : Nat} {v : List Int} {V U : Int} (hv : v.length = n' + 2) (hdv : DV 4294967296 v) (hV : gv 4294967296 v = V) (htop : 1 ≤ v.getD (n' + 1) 0) (hn : n' + 2 ≤ 68719476736) (hsh : sh ≤ 32) :
    ∀ (k : Nat) (q u : List Int), q.length ≤ 68719476736 → u.length = q.length + (n' + 2) → k ≤ q.length → DV 4294967296 q → DV 4294967296 u → gv 4294967296 (u.drop k) < V → U = V * gv 4294967296 (q.drop k) * 4294967296 ^ k + gv 4294967296 u →
      Ev (fun m => s1 m ((n' + 2 : Nat) : Int) (sh : Int) (v.getD (n' + 1) 0) (v.getD n' 0) ((k : Int) - 1) q v u) (dn (U / V), dn (U % V / 2 ^ sh)) := by
  have htd := hdv.get (by decide) (n' + 1)
  have hnd := hdv.get (by decide) n'
  have hVlt : V < 4294967296 ^ (n' + 2) := by rw [← hV, ← hv]; exact gv_lt (by decide) hdv
  have hV0 : 0 ≤ V := by rw [← hV]; exact gv_nonneg (by decide) hdv
  intro k
  induction k with
  | zero =>
    intro q u hql hul hk hdq hdu hR hU
    rw [List.drop_zero] at hR
    rw [List.drop_zero, Int.pow_zero, Int.mul_one] at hU
    have h0 := gv_nonneg (B := 4294967296) (by decide) hdu
    have hq : U / V = gv 4294967296 q := by
      rw [hU, Int.mul_add_ediv_left _ _ (by omega), Int.ediv_eq_zero_of_lt h0 hR, Int.add_zero]
    have hr : U % V = gv 4294967296 u := by
      rw [hU, Int.mul_add_emod_self_left, Int.emod_eq_of_lt h0 hR]
    have hz := up_zero hdu (k := 0) (n := n' + 2) (by omega) (by rw [List.drop_zero]; omega)
    have htk : gv 4294967296 (u.take (n' + 2)) = gv 4294967296 u := by
      have := gv_split 4294967296 (n' + 2) u (by omega)
      rw [Nat.zero_add] at hz
      rw [hz] at this; omega
    refine Ev.step (t := fun _ => some (dn (U / V), dn (U % V / 2 ^ sh))) (fun m => ?_) Ev.ret
    rw [k1]; unfold S_division_long_57
    have hnq : NN q := ⟨hdq, hql⟩
    have hnt : NN (u.take (n' + 2)) := ⟨hdu.take _, by simp; omega⟩
    rw [if_neg (by simp), F_natural_Normal, gif_bind hnq, if_pos (by omega), show Int.toNat 0 = 0 from rfl, List.drop_zero, Int.toNat_natCast, F_natural_Shr, gif_bind ⟨hnt, by omega, by omega⟩, Int.toNat_natCast, hq, hr]
    have htk' : nv (u.take (n' + 2)) = gv 4294967296 u := htk
    rw [htk']
  | succ j ih =>
    intro q u hql hul hk hdq hdu hR hU
    obtain ⟨W, num, hW, hnum, hVpos, hW0, hq1, hnb, hz, hgt, hle⟩ := win hv hdv hV htop hdu (j := j) (by omega) hR
    have hq0 : 0 ≤ W / V := Int.ediv_nonneg hW0 hV0
    have hu1 := hdu.get (by decide) (j + (n' + 2))
    have hu2 := hdu.get (by decide) (j + (n' + 1))
    have hu3 := hdu.get (by decide) (j + n')
    have hBj := pow_pos' (B := 4294967296) (by decide) j
    have hsplit := gv_split 4294967296 j u (by omega)
    rw [hW] at hsplit
    have hWq := Int.mul_ediv_add_emod W V
    have hWr0 := Int.emod_nonneg W (show V ≠ 0 by omega)
    have hWr1 := Int.emod_lt_of_pos W hVpos
    have hlow0 := gv_nonneg (B := 4294967296) (by decide) (hdu.take j)
    have hlow1 := gv_lt (B := 4294967296) (by decide) (hdu.take j)
    rw [List.length_take, Nat.min_eq_left (by omega)] at hlow1
    have e1 : ((j + 1 : Nat) : Int) - 1 = j := by omega
    rw [e1]
    -- on to the next digit
    have next : ∀ (q' u' : List Int), q'.length = q.length → u'.length = u.length → DV 4294967296 q' → DV 4294967296 u' → q'.drop (j + 1) = q.drop (j + 1) → q'.getD j 0 = W / V → u'.take j = u.take j → gv 4294967296 u' = gv 4294967296 u - (W / V) * V * 4294967296 ^ j →
        Ev (fun m => s1 m ((n' + 2 : Nat) : Int) (sh : Int) (v.getD (n' + 1) 0) (v.getD n' 0) ((j : Int) - 1) q' v u') (dn (U / V), dn (U % V / 2 ^ sh)) := by
      intro q' u' hl1 hl2 hd1 hd2 hqd hqj hut hug
      have hs' := gv_split 4294967296 j u' (by omega)
      rw [hut] at hs'
      have hW' : gv 4294967296 (u'.drop j) = W - W / V * V := by
        have : 4294967296 ^ j * gv 4294967296 (u'.drop j) = 4294967296 ^ j * (W - W / V * V) := by
          rw [Int.mul_sub]
          have : 4294967296 ^ j * (W / V * V) = W / V * V * 4294967296 ^ j := Int.mul_comm _ _
          omega
        exact Int.eq_of_mul_eq_mul_left (Int.ne_of_gt hBj) this
      refine ih q' u' (by omega) (by omega) (by omega) hd1 hd2 ?_ ?_
      · rw [hW', Int.mul_comm]; omega
      · rw [gv_drop_succ _ (show j < q'.length by omega), hqj, hqd, hug, hU, Int.pow_succ]
        generalize gv 4294967296 (q.drop (j + 1)) = G
        generalize (4294967296 : Int) ^ j = X
        generalize W / V = y
        grind
    -- subtract the guess's multiple
    have fin : ∀ g : Int, 0 ≤ g → W / V ≤ g → g ≤ W / V + 1 → g < 4294967296 →
        Ev (fun m => s3 m ((n' + 2 : Nat) : Int) (sh : Int) (v.getD (n' + 1) 0) (v.getD n' 0) (j : Int) g 0 0 (v.length : Int) 0 q v u) (dn (U / V), dn (U % V / 2 ^ sh)) := by
      intro g hg0 hgq hgq1 hgB
      have sub : ∀ (d i : Nat) (u' : List Int) (c bw : Int), i + d = n' + 2 → u'.length = u.length → DV 4294967296 u' → u'.take j = u.take j → u'.drop (j + (n' + 2)) = u.drop (j + (n' + 2)) → 0 ≤ c → c < 4294967296 → 0 ≤ bw → bw ≤ 1 →
          gv 4294967296 (u'.take (j + i)) + (gv 4294967296 ((u'.take (j + (n' + 2))).drop (j + i)) - g * gv 4294967296 (v.drop i) - c - bw) * 4294967296 ^ (j + i) = gv 4294967296 (u.take (j + (n' + 2))) - g * V * 4294967296 ^ j →
          Ev (fun m => s3 m ((n' + 2 : Nat) : Int) (sh : Int) (v.getD (n' + 1) 0) (v.getD n' 0) (j : Int) g c bw (v.length : Int) (i : Int) q v u') (dn (U / V), dn (U % V / 2 ^ sh)) := by
        intro d
        induction d with
        | zero =>
          intro i u' c bw hi hl hd hut hud hc0 hc1 hb0 hb1 hT
          have hi' : i = n' + 2 := by omega
          subst hi'
          have htu := hd.get (by decide) (j + (n' + 2))
          have htue : u'.getD (j + (n' + 2)) 0 = u.getD (j + (n' + 2)) 0 := getD_of_drop hud (Nat.le_refl _)
          generalize htx : u.getD (j + (n' + 2)) 0 = tu at *
          rw [htue] at htu
          have hbs := borrow_step htu ⟨hb0, hb1⟩ ⟨hc0, hc1⟩
          rw [List.drop_eq_nil_of_le (show (u'.take (j + (n' + 2))).length ≤ j + (n' + 2) by simp; omega), List.drop_eq_nil_of_le (show v.length ≤ n' + 2 by omega)] at hT
          simp only [gv, Int.mul_zero] at hT
          -- the new row
          have hz' : gv 4294967296 ((u'.set (j + (n' + 2)) ((tu - bw - c) % 4294967296)).drop (j + (n' + 2) + 1)) = 0 := by
            rw [drop_set_lt (by omega), drop_drop_eq hud (by omega), show j + (n' + 2) + 1 = j + 1 + (n' + 2) by omega]; exact hz
          have hg2 : gv 4294967296 (u'.set (j + (n' + 2)) ((tu - bw - c) % 4294967296)) = gv 4294967296 (u'.take (j + (n' + 2))) + (tu - bw - c) % 4294967296 * 4294967296 ^ (j + (n' + 2)) := by
            have := gv_split 4294967296 (j + (n' + 2) + 1) (u'.set (j + (n' + 2)) ((tu - bw - c) % 4294967296)) (by simp; omega)
            rw [hz', gv_take_set _ (by omega)] at this
            rw [this]; simp
          have hg1 : gv 4294967296 u = gv 4294967296 (u.take (j + (n' + 2))) + tu * 4294967296 ^ (j + (n' + 2)) := by
            have := gv_split 4294967296 (j + (n' + 2) + 1) u (by omega)
            rw [show j + (n' + 2) + 1 = j + 1 + (n' + 2) by omega, hz, show j + 1 + (n' + 2) = j + (n' + 2) + 1 by omega, gv_take_succ _ (by omega), htx] at this
            rw [this]; simp
          have hd2 : DV 4294967296 (u'.set (j + (n' + 2)) ((tu - bw - c) % 4294967296)) := hd.set ⟨by omega, by omega⟩
          have hlt2 : gv 4294967296 (u'.set (j + (n' + 2)) ((tu - bw - c) % 4294967296)) < 4294967296 * 4294967296 ^ (j + (n' + 2)) := by
            have h1 := gv_lt (B := 4294967296) (by decide) (hd2.take (j + (n' + 2) + 1))
            rw [gv_take_set _ (by omega), List.length_take, Nat.min_eq_left (by simp; omega), Int.pow_succ] at h1
            rw [hg2, Int.mul_comm 4294967296]; exact h1
          have hge2 := gv_nonneg (B := 4294967296) (by decide) hd2
          have hrel : gv 4294967296 (u'.set (j + (n' + 2)) ((tu - bw - c) % 4294967296)) = gv 4294967296 u - g * V * 4294967296 ^ j + (if tu - bw - c < 0 then 1 else 0) * (4294967296 * 4294967296 ^ (j + (n' + 2))) := by
            have h5 : (tu - bw - c) % 4294967296 = (tu - bw - c) + (if tu - bw - c < 0 then 1 else 0) * 4294967296 := by split <;> omega
            rw [hg2, hg1, h5]
            generalize (4294967296 : Int) ^ (j + (n' + 2)) = X at *
            generalize g * V * 4294967296 ^ j = Y at *
            grind
          have hst : (u'.set (j + (n' + 2)) ((tu - bw - c) % 4294967296)).take j = u.take j := by rw [take_set_ge (by omega)]; exact hut
          have hlen2 : (u'.set (j + (n' + 2)) ((tu - bw - c) % 4294967296)).length = u.length := by simpa using hl
          have hqj : j < q.length := by omega
          have hwg : IntKind.wrap .u32 g = g := u32w hg0 hgB
          by_cases hneg : tu - bw - c < 0
          · -- one too many
            rw [if_pos hneg] at hrel
            rw [if_pos hneg] at hbs
            have hlow : W < g * V := by
              by_cases hh : W < g * V
              · exact hh
              · exfalso
                have : 0 ≤ (W - g * V) * 4294967296 ^ j := Int.mul_nonneg (by omega) (by omega)
                rw [Int.sub_mul] at this
                have : W * 4294967296 ^ j = 4294967296 ^ j * W := Int.mul_comm _ _
                omega
            have hgq' : g = W / V + 1 := by
              have := quo_gt hVpos hlow
              omega
            -- add back
            have back : ∀ (d i : Nat) (w : List Int) (sm : Int), i + d = n' + 2 → w.length = u.length → DV 4294967296 w → w.take j = u.take j → w.drop (j + (n' + 2)) = (u'.set (j + (n' + 2)) ((tu - bw - c) % 4294967296)).drop (j + (n' + 2)) → 0 ≤ sm → sm ≤ 1 →
                gv 4294967296 (w.take (j + i)) + (sm + gv 4294967296 ((w.take (j + (n' + 2))).drop (j + i)) + gv 4294967296 (v.drop i)) * 4294967296 ^ (j + i) = gv 4294967296 ((u'.set (j + (n' + 2)) ((tu - bw - c) % 4294967296)).take (j + (n' + 2))) + V * 4294967296 ^ j →
                Ev (fun m => s4 m ((n' + 2 : Nat) : Int) (sh : Int) (v.getD (n' + 1) 0) (v.getD n' 0) (j : Int) sm (v.length : Int) (i : Int) ((q.set j g).set j (g - 1)) v w) (dn (U / V), dn (U % V / 2 ^ sh)) := by
              intro d
              induction d with
              | zero =>
                intro i w sm hi hlw hdw hwt hwd hs0 hs1 hS
                have hi' : i = n' + 2 := by omega
                subst hi'
                have hwtop : w.getD (j + (n' + 2)) 0 = (tu - bw - c) % 4294967296 := by
                  rw [getD_of_drop hwd (Nat.le_refl _), getD_set, if_pos ⟨rfl, by omega⟩]
                have htb : 0 ≤ (tu - bw - c) % 4294967296 ∧ (tu - bw - c) % 4294967296 < 4294967296 := by omega
                generalize (tu - bw - c) % 4294967296 = tt at *
                rw [List.drop_eq_nil_of_le (show (w.take (j + (n' + 2))).length ≤ j + (n' + 2) by simp; omega), List.drop_eq_nil_of_le (show v.length ≤ n' + 2 by omega)] at hS
                simp only [gv, Int.add_zero] at hS
                have hd3 : DV 4294967296 (w.set (j + (n' + 2)) ((tt + sm) % 4294967296)) := hdw.set ⟨by omega, by omega⟩
                have hz3 : gv 4294967296 ((w.set (j + (n' + 2)) ((tt + sm) % 4294967296)).drop (j + (n' + 2) + 1)) = 0 := by
                  rw [drop_set_lt (by omega), drop_drop_eq hwd (by omega)]; exact hz'
                have hg3 : gv 4294967296 (w.set (j + (n' + 2)) ((tt + sm) % 4294967296)) = gv 4294967296 (w.take (j + (n' + 2))) + (tt + sm) % 4294967296 * 4294967296 ^ (j + (n' + 2)) := by
                  have := gv_split 4294967296 (j + (n' + 2) + 1) (w.set (j + (n' + 2)) ((tt + sm) % 4294967296)) (by simp; omega)
                  rw [hz3, gv_take_set _ (by omega)] at this
                  rw [this]; simp
                have hlt3 : gv 4294967296 (w.set (j + (n' + 2)) ((tt + sm) % 4294967296)) < 4294967296 * 4294967296 ^ (j + (n' + 2)) := by
                  have h1 := gv_lt (B := 4294967296) (by decide) (hd3.take (j + (n' + 2) + 1))
                  rw [gv_take_set _ (by omega), List.length_take, Nat.min_eq_left (by simp; omega), Int.pow_succ] at h1
                  rw [hg3, Int.mul_comm 4294967296]; exact h1
                have htk2 : (u'.set (j + (n' + 2)) tt).take (j + (n' + 2)) = u'.take (j + (n' + 2)) := take_set_lt
                rw [htk2] at hS
                have hX := pow_pos' (B := 4294967296) (by decide) (j + (n' + 2))
                have hrel3 : gv 4294967296 (w.set (j + (n' + 2)) ((tt + sm) % 4294967296)) = gv 4294967296 u - (W / V) * V * 4294967296 ^ j := by
                  have ho : (tt + sm) % 4294967296 = tt + sm - (tt + sm) / 4294967296 * 4294967296 := by omega
                  have ho' : (tt + sm) / 4294967296 = 0 ∨ (tt + sm) / 4294967296 = 1 := by omega
                  have hq2 : g * V * 4294967296 ^ j = W / V * V * 4294967296 ^ j + V * 4294967296 ^ j := by rw [hgq']; grind
                  have hnn : 0 ≤ gv 4294967296 u - (W / V) * V * 4294967296 ^ j := by
                    have h6 : 0 ≤ (W - V * (W / V)) * 4294967296 ^ j := Int.mul_nonneg (by omega) (by omega)
                    rw [Int.sub_mul] at h6
                    have h7 : W * 4294967296 ^ j = 4294967296 ^ j * W := Int.mul_comm _ _
                    have h8 : V * (W / V) * 4294967296 ^ j = W / V * V * 4294967296 ^ j := by rw [Int.mul_comm V]
                    omega
                  rw [hg3, ho] at hlt3 ⊢
                  rw [hg2] at hrel
                  rcases ho' with h9 | h9
                  · rw [h9] at hlt3 ⊢
                    exfalso
                    have h10 : (tt + sm - 0 * 4294967296) * 4294967296 ^ (j + (n' + 2)) = tt * 4294967296 ^ (j + (n' + 2)) + sm * 4294967296 ^ (j + (n' + 2)) := by grind
                    rw [h10] at hlt3
                    omega
                  · rw [h9]
                    have h10 : (tt + sm - 1 * 4294967296) * 4294967296 ^ (j + (n' + 2)) = tt * 4294967296 ^ (j + (n' + 2)) + sm * 4294967296 ^ (j + (n' + 2)) - 4294967296 * 4294967296 ^ (j + (n' + 2)) := by grind
                    rw [h10]
                    omega
                refine Ev.step (t := fun m => s1 m ((n' + 2 : Nat) : Int) (sh : Int) (v.getD (n' + 1) 0) (v.getD n' 0) ((j : Int) - 1) ((q.set j g).set j (g - 1)) v (w.set (j + (n' + 2)) ((tt + sm) % 4294967296))) (fun m => ?_) (next _ _ (by simp) (by simpa using hlw) ((hdq.set ⟨hg0, hgB⟩).set ⟨by omega, by omega⟩) hd3 (by rw [drop_set_lt (by omega), drop_set_lt (by omega)]) (by rw [getD_set, if_pos ⟨rfl, by simpa using hqj⟩]; omega) (by rw [take_set_ge (by omega)]; exact hwt) hrel3)
                rw [k4]; unfold S_division_long_153
                rw [if_neg (by simp; omega), i64w (n := (j : Int) + ((n' + 2 : Nat) : Int)) (by omega) (by omega), if_pos (by omega)]
                dsimp only
                rw [if_pos (by omega), show Int.toNat ((j : Int) + ((n' + 2 : Nat) : Int)) = j + (n' + 2) by omega, hwtop, IntKind.wrap_u32, i64w (n := (j : Int) - 1) (by omega) (by omega)]
              | succ d ihd =>
                intro i w sm hi hlw hdw hwt hwd hs0 hs1 hS
                have hx := hdv.get (by decide) i
                have hy := hdw.get (by decide) (j + i)
                refine Ev.step (t := fun m => s4 m ((n' + 2 : Nat) : Int) (sh : Int) (v.getD (n' + 1) 0) (v.getD n' 0) (j : Int) ((w.getD (j + i) 0 + v.getD i 0 + sm) / 4294967296) (v.length : Int) ((i + 1 : Nat) : Int) ((q.set j g).set j (g - 1)) v (w.set (j + i) ((w.getD (j + i) 0 + v.getD i 0 + sm) % 4294967296))) (fun m => ?_) (ihd (i + 1) _ _ (by omega) (by simpa using hlw) (hdw.set ⟨by omega, by omega⟩) (by rw [take_set_ge (by omega)]; exact hwt) (by rw [drop_set_lt (by omega)]; exact hwd) (by omega) (by omega) ?_)
                · rw [k4]; unfold S_division_long_153
                  rw [if_pos (by simp; omega), if_pos (by omega), i64w (n := (i : Int) + (j : Int)) (by omega) (by omega), if_pos (by omega), show Int.toNat ((i : Int) + (j : Int)) = j + i by omega, Int.toNat_natCast, F_bits_Add32, gif_bind ⟨hy, hx, by rw [Bd32]; omega, by omega⟩, if_pos (by omega), i64w (n := (i : Int) + 1) (by omega) (by omega)]
                  simp
                · rw [show j + (i + 1) = (j + i) + 1 by omega]
                  refine dig_step _ (by omega) hS ?_
                  rw [mid_succ (show j + i < j + (n' + 2) by omega) (by omega), gv_drop_succ _ (show i < v.length by omega), mid_set]
                  omega
            have hstart := back (n' + 2) 0 (u'.set (j + (n' + 2)) ((tu - bw - c) % 4294967296)) 0 (by omega) hlen2 hd2 hst rfl (by omega) (by omega) (by
              rw [List.drop_zero, Nat.add_zero, hV]
              have h2 := gv_split 4294967296 j ((u'.set (j + (n' + 2)) ((tu - bw - c) % 4294967296)).take (j + (n' + 2))) (by simp; omega)
              rw [List.take_take, Nat.min_eq_left (by omega)] at h2
              rw [h2]
              grind)
            refine Ev.step (t := fun m => s4 m ((n' + 2 : Nat) : Int) (sh : Int) (v.getD (n' + 1) 0) (v.getD n' 0) (j : Int) 0 (v.length : Int) ((0 : Nat) : Int) ((q.set j g).set j (g - 1)) v (u'.set (j + (n' + 2)) ((tu - bw - c) % 4294967296))) (fun m => ?_) hstart
            rw [k3]; unfold S_division_long_93
            rw [if_neg (by simp; omega), i64w (n := (j : Int) + ((n' + 2 : Nat) : Int)) (by omega) (by omega), if_pos (by omega), show Int.toNat ((j : Int) + ((n' + 2 : Nat) : Int)) = j + (n' + 2) by omega]
            dsimp only
            rw [if_pos (by omega), if_pos (by omega), if_neg (by omega), htue, u64w (n := tu) (by omega) (by omega), hbs.1, shr_eq, sh63, hbs.2, if_neg (by decide), hwg, Int.toNat_natCast, if_pos (by simp; omega), if_pos (by simp; omega), getD_set, if_pos ⟨rfl, hqj⟩, u32w (n := g - 1) (by omega) (by omega)]
            simp
          · rw [if_neg hneg] at hrel
            rw [if_neg hneg] at hbs
            have hgq' : g = W / V := by
              have h6 : g * V ≤ W := by
                by_cases hh : g * V ≤ W
                · exact hh
                · exfalso
                  have h7 : (W - g * V) * 4294967296 ^ j ≤ (-1) * 4294967296 ^ j := Int.mul_le_mul_of_nonneg_right (by omega) (by omega)
                  rw [Int.sub_mul] at h7
                  have h8 : W * 4294967296 ^ j = 4294967296 ^ j * W := Int.mul_comm _ _
                  omega
              have := Int.le_ediv_of_mul_le hVpos h6
              omega
            refine Ev.step (t := fun m => s1 m ((n' + 2 : Nat) : Int) (sh : Int) (v.getD (n' + 1) 0) (v.getD n' 0) ((j : Int) - 1) (q.set j g) v (u'.set (j + (n' + 2)) ((tu - bw - c) % 4294967296))) (fun m => ?_) (next _ _ (by simp) hlen2 (hdq.set ⟨hg0, hgB⟩) hd2 (by rw [drop_set_lt (by omega)]) (by rw [getD_set, if_pos ⟨rfl, hqj⟩]; exact hgq') hst (by rw [hrel, hgq']; simp))
            rw [k3]; unfold S_division_long_93
            rw [if_neg (by simp; omega), i64w (n := (j : Int) + ((n' + 2 : Nat) : Int)) (by omega) (by omega), if_pos (by omega), show Int.toNat ((j : Int) + ((n' + 2 : Nat) : Int)) = j + (n' + 2) by omega]
            dsimp only
            rw [if_pos (by omega), if_pos (by omega), if_neg (by omega), htue, u64w (n := tu) (by omega) (by omega), hbs.1, shr_eq, sh63, hbs.2, if_pos (by decide), hwg, Int.toNat_natCast, i64w (n := (j : Int) - 1) (by omega) (by omega)]
        | succ d ihd =>
          intro i u' c bw hi hl hd hut hud hc0 hc1 hb0 hb1 hT
          have hx := hdv.get (by decide) i
          have hy := hd.get (by decide) (j + i)
          have hm := digit_mul ⟨hg0, hgB⟩ hx
          generalize hP : g * v.getD i 0 = P at *
          have hpm : 0 ≤ (P + c) % 4294967296 ∧ (P + c) % 4294967296 < 4294967296 := by omega
          have hbs := borrow_step hy ⟨hb0, hb1⟩ hpm
          refine Ev.step (t := fun m => s3 m ((n' + 2 : Nat) : Int) (sh : Int) (v.getD (n' + 1) 0) (v.getD n' 0) (j : Int) g ((P + c) / 4294967296) (if u'.getD (j + i) 0 - bw - (P + c) % 4294967296 < 0 then 1 else 0) (v.length : Int) ((i + 1 : Nat) : Int) q v (u'.set (j + i) ((u'.getD (j + i) 0 - bw - (P + c) % 4294967296) % 4294967296))) (fun m => ?_) (ihd (i + 1) _ _ _ (by omega) (by simpa using hl) (hd.set ⟨by omega, by omega⟩) (by rw [take_set_ge (by omega)]; exact hut) (by rw [drop_set_lt (by omega)]; exact hud) (by omega) (by omega) (by split <;> omega) (by split <;> omega) ?_)
          · rw [k3]; unfold S_division_long_93
            rw [if_pos (by simp; omega), if_pos (by omega), Int.toNat_natCast]
            dsimp only
            rw [if_neg (by omega), i64w (n := (i : Int) + (j : Int)) (by omega) (by omega), if_pos (by omega), if_pos (by omega), if_neg (by omega), show Int.toNat ((i : Int) + (j : Int)) = j + i by omega]
            rw [u64w (n := v.getD i 0) (by omega) (by omega), hP, u64w (n := P) (by omega) (by omega), u64w (n := P + c) (by omega) (by omega), and32 (by omega) (by omega), u64w (n := (P + c) % 4294967296) (by omega) (by omega), u64w (n := u'.getD (j + i) 0) (by omega) (by omega), hbs.1, shr_eq, shr_eq, sh32, sh63, hbs.2, i64w (n := (i : Int) + 1) (by omega) (by omega)]
            simp
          · rw [show j + (i + 1) = (j + i) + 1 by omega]
            refine dig_step _ (by omega) hT ?_
            rw [mid_succ (show j + i < j + (n' + 2) by omega) (by omega), gv_drop_succ _ (show i < v.length by omega), mid_set]
            have e : g * (v.getD i 0 + 4294967296 * gv 4294967296 (v.drop (i + 1))) = P + 4294967296 * (g * gv 4294967296 (v.drop (i + 1))) := by rw [← hP]; grind
            rw [e]
            generalize g * gv 4294967296 (v.drop (i + 1)) = Z
            split <;> omega
      have := sub (n' + 2) 0 u 0 0 (by omega) rfl hdu rfl rfl (by omega) (by omega) (by omega) (by omega) (by
        rw [List.drop_zero, Nat.add_zero, hV]
        have h2 := gv_split 4294967296 j (u.take (j + (n' + 2))) (by simp; omega)
        rw [List.take_take, Nat.min_eq_left (by omega)] at h2
        rw [h2]
        grind)
      exact this
    -- the guess
    have guess : ∀ (d : Nat) (g rest : Int), g = W / V + d → g < 18446744073709551616 → g * v.getD (n' + 1) 0 + rest = num → 0 ≤ rest → rest < 4294967296 →
        Ev (fun m => s2 m ((n' + 2 : Nat) : Int) (sh : Int) (v.getD (n' + 1) 0) (v.getD n' 0) (j : Int) g rest q v u) (dn (U / V), dn (U % V / 2 ^ sh)) := by
      intro d
      induction d with
      | zero =>
        intro g rest hg hg64 hnum' hr0 hr1
        have hgB : g < 4294967296 := by omega
        have htest : ¬ (rest * 4294967296 + u.getD (j + n') 0 < g * v.getD n' 0) := fun h => by
          have := hgt g rest (by omega) hnum' h; omega
        have hm := digit_mul ⟨show 0 ≤ g by omega, hgB⟩ hnd
        refine Ev.step (fun m => ?_) (fin g (by omega) (by omega) (by omega) hgB)
        rw [k2]; unfold S_division_long_69
        rw [if_neg (by simp; omega), if_neg (by decide), i64w (n := (j : Int) + ((n' + 2 : Nat) : Int)) (by omega) (by omega), i64w (n := (j : Int) + ((n' + 2 : Nat) : Int) - 2) (by omega) (by omega)]
        dsimp only
        rw [if_pos (by omega), show Int.toNat ((j : Int) + ((n' + 2 : Nat) : Int) - 2) = j + n' by omega, sh32, u64w (n := rest * 4294967296) (by omega) (by omega), u64w (n := u.getD (j + n') 0) (by omega) (by omega), or32 ⟨hr0, hr1⟩ hu3, u64w (n := rest * 4294967296 + u.getD (j + n') 0) (by omega) (by omega), u64w (n := g * v.getD n' 0) (by omega) (by omega), if_neg (by rw [decide_eq_true_eq]; omega)]
      | succ d ihd =>
        intro g rest hg hg64 hnum' hr0 hr1
        have hnum2 : (g - 1) * v.getD (n' + 1) 0 + (rest + v.getD (n' + 1) 0) = num := by rw [Int.sub_mul]; omega
        -- one less
        have dec : Ev (fun m => if decide (IntKind.wrap .u64 (rest + v.getD (n' + 1) 0) ≥ 4294967296) = true then
              s3 m ((n' + 2 : Nat) : Int) (sh : Int) (v.getD (n' + 1) 0) (v.getD n' 0) (j : Int) (IntKind.wrap .u64 (g - 1)) 0 0 (v.length : Int) 0 q v u
            else s2 m ((n' + 2 : Nat) : Int) (sh : Int) (v.getD (n' + 1) 0) (v.getD n' 0) (j : Int) (IntKind.wrap .u64 (g - 1)) (IntKind.wrap .u64 (rest + v.getD (n' + 1) 0)) q v u) (dn (U / V), dn (U % V / 2 ^ sh)) := by
          rw [u64w (n := rest + v.getD (n' + 1) 0) (by omega) (by omega), u64w (n := g - 1) (by omega) (by omega)]
          by_cases hbig : 4294967296 ≤ rest + v.getD (n' + 1) 0
          · simp only [show decide (rest + v.getD (n' + 1) 0 ≥ 4294967296) = true from decide_eq_true (by omega), if_true]
            have hg1 : g - 1 < 4294967296 := by
              have h1 : (g - 1) * v.getD (n' + 1) 0 < v.getD (n' + 1) 0 * 4294967296 := by
                have : (v.getD (n' + 1) 0 + 1) * 4294967296 = v.getD (n' + 1) 0 * 4294967296 + 4294967296 := by grind
                omega
              rw [Int.mul_comm] at h1
              exact Int.lt_of_mul_lt_mul_left h1 (by omega)
            have hm := digit_mul ⟨show 0 ≤ g - 1 by omega, hg1⟩ hnd
            refine fin (g - 1) (by omega) (by omega) (hle (g - 1) (rest + v.getD (n' + 1) 0) (by omega) (by omega) hnum2 (by omega)) hg1
          · simp only [show decide (rest + v.getD (n' + 1) 0 ≥ 4294967296) = false from decide_eq_false (by omega)]
            exact ihd (g - 1) _ (by omega) (by omega) hnum2 (by omega) (by omega)
        by_cases hgB : g < 4294967296
        · have hm := digit_mul ⟨show 0 ≤ g by omega, hgB⟩ hnd
          by_cases htest : rest * 4294967296 + u.getD (j + n') 0 < g * v.getD n' 0
          · refine Ev.step (fun m => ?_) dec
            rw [k2]; unfold S_division_long_69
            rw [if_neg (by simp; omega), if_neg (by decide), i64w (n := (j : Int) + ((n' + 2 : Nat) : Int)) (by omega) (by omega), i64w (n := (j : Int) + ((n' + 2 : Nat) : Int) - 2) (by omega) (by omega)]
            dsimp only
            rw [if_pos (by omega), show Int.toNat ((j : Int) + ((n' + 2 : Nat) : Int) - 2) = j + n' by omega, sh32, u64w (n := rest * 4294967296) (by omega) (by omega), u64w (n := u.getD (j + n') 0) (by omega) (by omega), or32 ⟨hr0, hr1⟩ hu3, u64w (n := rest * 4294967296 + u.getD (j + n') 0) (by omega) (by omega), u64w (n := g * v.getD n' 0) (by omega) (by omega), if_pos (by rw [decide_eq_true_eq]; omega)]
          · have h2 := hle g rest (by omega) (by omega) hnum' (by omega)
            refine Ev.step (fun m => ?_) (fin g (by omega) (by omega) h2 hgB)
            rw [k2]; unfold S_division_long_69
            rw [if_neg (by simp; omega), if_neg (by decide), i64w (n := (j : Int) + ((n' + 2 : Nat) : Int)) (by omega) (by omega), i64w (n := (j : Int) + ((n' + 2 : Nat) : Int) - 2) (by omega) (by omega)]
            dsimp only
            rw [if_pos (by omega), show Int.toNat ((j : Int) + ((n' + 2 : Nat) : Int) - 2) = j + n' by omega, sh32, u64w (n := rest * 4294967296) (by omega) (by omega), u64w (n := u.getD (j + n') 0) (by omega) (by omega), or32 ⟨hr0, hr1⟩ hu3, u64w (n := rest * 4294967296 + u.getD (j + n') 0) (by omega) (by omega), u64w (n := g * v.getD n' 0) (by omega) (by omega), if_neg (by rw [decide_eq_true_eq]; omega)]
        · refine Ev.step (fun m => ?_) dec
          rw [k2]; unfold S_division_long_69
          rw [if_pos (by simp; omega)]
    -- the round
    have hnum0 : 0 ≤ num := by rw [hnum]; omega
    have hr0 := Int.emod_nonneg num (show v.getD (n' + 1) 0 ≠ 0 by omega)
    have hr1 := Int.emod_lt_of_pos num (show 0 < v.getD (n' + 1) 0 by omega)
    have hnq := Int.ediv_le_self (v.getD (n' + 1) 0) hnum0
    have hnq0 : 0 ≤ num / v.getD (n' + 1) 0 := Int.ediv_nonneg hnum0 (by omega)
    have heq : num / v.getD (n' + 1) 0 * v.getD (n' + 1) 0 + num % v.getD (n' + 1) 0 = num := by rw [Int.mul_comm]; exact Int.mul_ediv_add_emod _ _
    have hnlt : num < 18446744073709551616 := by rw [hnum]; omega
    have hgeq : W / V ≤ num / v.getD (n' + 1) 0 := by
      have h3 : (num / v.getD (n' + 1) 0 + 1) * v.getD (n' + 1) 0 = num / v.getD (n' + 1) 0 * v.getD (n' + 1) 0 + v.getD (n' + 1) 0 := by rw [Int.add_mul, Int.one_mul]
      have h4 : 0 ≤ (num / v.getD (n' + 1) 0 + 1) * v.getD n' 0 := Int.mul_nonneg (by omega) hnd.1
      have := hgt (num / v.getD (n' + 1) 0 + 1) (num - (num / v.getD (n' + 1) 0 + 1) * v.getD (n' + 1) 0) (by omega) (by omega) (by omega)
      omega
    refine Ev.step (t := fun m => s2 m ((n' + 2 : Nat) : Int) (sh : Int) (v.getD (n' + 1) 0) (v.getD n' 0) (j : Int) (num / v.getD (n' + 1) 0) (num % v.getD (n' + 1) 0) q v u) (fun m => ?_) (guess (num / v.getD (n' + 1) 0 - W / V).toNat _ _ (by omega) (by omega) heq hr0 (by omega))
    rw [k1]; unfold S_division_long_57
    rw [if_pos (by simp), i64w (n := (j : Int) + ((n' + 2 : Nat) : Int)) (by omega) (by omega), if_pos (by omega)]
    dsimp only
    rw [if_neg (by decide), i64w (n := (j : Int) + ((n' + 2 : Nat) : Int) - 1) (by omega) (by omega), if_pos (by omega), show Int.toNat ((j : Int) + ((n' + 2 : Nat) : Int)) = j + (n' + 2) by omega, show Int.toNat ((j : Int) + ((n' + 2 : Nat) : Int) - 1) = j + (n' + 1) by omega, sh32]
    rw [u64w (n := u.getD (j + (n' + 2)) 0) (by omega) (by omega), u64w (n := u.getD (j + (n' + 2)) 0 * 4294967296) (by omega) (by omega), u64w (n := u.getD (j + (n' + 1)) 0) (by omega) (by omega), or32 hu1 hu2, ← hnum, u64w hnum0 hnlt, F_bits_Div64, gif_bind ⟨rfl, by rw [Bd64]; omega, by rw [Bd64]; omega, by omega⟩]

set_option maxHeartbeats 1600000 in
theorem Rn_division_long : Run_division_long := fun s1 s2 s3 s4 k1 k2 k3 k4 a b => Ok.gif fun ⟨ha, hb, hb0⟩ => by
  have na := ha.nonneg
  have nb := hb.nonneg
  have hA := ha.2
  have hBl := hb.2
  have hnb : NN (dn (nv b)) := NN.dn hb.big (by omega)
  have vb := nv_dn nb
  have hlb := dn_len_le hb
  simp only [T_division_long, F_natural_Normal, gif_bind hb, gif_bind ha, F_natural_Cmp, gif_bind (And.intro ha hnb), vb, cm_neg]
  by_cases hlt : nv a < nv b
  · simp only [hlt, decide_true, if_true]
    rw [Int.ediv_eq_zero_of_lt na hlt, Int.emod_eq_of_lt na hlt, dn_zero]
    exact Ev.ret
  simp only [hlt, decide_false]
  have hdb : DV 4294967296 (dn (nv b)) := gd_DV (by decide) _
  have hpos : 0 < nv b := by omega
  have hne : (dn (nv b)).length ≠ 0 := fun h => by have := dn_nil.1 (List.eq_nil_of_length_eq_zero h); omega
  by_cases h1 : (dn (nv b)).length = 1
  · have e1 : dn (nv b) = [nv b] := by
      have e : dn (nv b) = nv b % 4294967296 :: dn (nv b / 4294967296) := gd_pos (by decide) hpos
      rw [e, List.length_cons] at h1
      have := dn_nil.1 (List.eq_nil_of_length_eq_zero (show (dn (nv b / 4294967296)).length = 0 by omega))
      rw [e, dn_nil.2 this]
      congr 1; omega
    have hbd : Bd 32 (nv b) := by
      have := hdb (nv b) (by rw [e1]; simp)
      exact this
    have hbd' := hbd
    rw [Bd32] at hbd'
    have hr0 := Int.emod_nonneg (nv a) hb0
    have hr1 := Int.emod_lt_of_pos (nv a) hpos
    simp only [e1, List.length_cons, List.length_nil]
    refine Ev.congr (t := fun _ => some (dn (nv a / nv b), dn (nv a % nv b))) (fun m => ?_) Ev.ret
    rw [if_neg (by decide), if_pos (by decide), if_pos (by decide), show Int.toNat 0 = 0 from rfl, List.getD_cons_zero, F_natural_DivSmall, gif_bind ⟨ha, hbd⟩, if_neg hb0]
    dsimp only
    rw [u64w hr0 (by omega), F_natural_Of, gif_bind (p := Bd 64 _) (by rw [Bd64]; omega)]
  have e1 : (((dn (nv b)).length : Int) == 1) = false := by simp; omega
  simp only [e1]
  obtain ⟨n', hn'⟩ : ∃ n', (dn (nv b)).length = n' + 2 := ⟨(dn (nv b)).length - 2, by omega⟩
  have hlast := gd_last (B := 4294967296) (by decide) (nv b) hpos
  have hlast : (dn (nv b)).getD ((dn (nv b)).length - 1) 0 ≠ 0 := hlast
  have hbd := bl_digits hpos
  rw [hn', show n' + 2 - 1 = n' + 1 by omega] at hlast hbd
  have htd := hdb.get (by decide) (n' + 1)
  rw [hn', i64w (n := ((n' + 2 : Nat) : Int) - 1) (by omega) (by omega), i64w (n := ((n' + 2 : Nat) : Int) - 2) (by omega) (by omega)]
  rw [show Int.toNat (((n' + 2 : Nat) : Int) - 1) = n' + 1 by omega, show Int.toNat (((n' + 2 : Nat) : Int) - 2) = n' by omega]
  generalize hx : (dn (nv b)).getD (n' + 1) 0 = x at *
  have hblx := bl_le (k := 32) (n := x) htd.2
  have hblx0 := bl_pos (n := x) (by omega)
  have hbn := bl_nonneg x
  obtain ⟨sh, hsh⟩ : ∃ sh : Nat, (sh : Int) = 32 - bl x := ⟨(32 - bl x).toNat, by omega⟩
  have hshc : shc (sh : Int) = sh := by unfold shc; rw [if_neg (by omega), if_neg (by omega)]; omega
  have hP := two_pow_pos sh
  -- the divisor
  have hVlen : (dn (nv b * 2 ^ sh)).length = n' + 2 := by
    have h2 := bl_lt (nv b)
    have h3 : nv b * 2 ^ sh < 2 ^ (32 * (n' + 2)) := by
      have := Int.mul_lt_mul_of_pos_right h2 hP
      rw [← Int.pow_add] at this
      rwa [show (bl (nv b)).toNat + sh = 32 * (n' + 2) by omega] at this
    have h4 := dn_len h3
    have h5 := gd_len_ge (B := 4294967296) (by decide) hpos
    have h6 : (dn (nv b)).length = n' + 2 := hn'
    by_cases h7 : (dn (nv b * 2 ^ sh)).length ≤ n' + 1
    · exfalso
      have h8 := gd_len_lt (B := 4294967296) (by decide) (nv b * 2 ^ sh)
      have h9 : nv b ≤ nv b * 2 ^ sh := by
        have : nv b * 1 ≤ nv b * 2 ^ sh := Int.mul_le_mul_of_nonneg_left (by omega) nb
        omega
      have ha1 : (gd 4294967296 (nv b)).length = n' + 2 := hn'
      rw [ha1, show n' + 2 - 1 = n' + 1 by omega, pow32] at h5
      have ha2 : (gd 4294967296 (nv b * 2 ^ sh)).length ≤ n' + 1 := h7
      rw [pow32] at h8
      have := two_pow_le (show 32 * (gd 4294967296 (nv b * 2 ^ sh)).length ≤ 32 * (n' + 1) by omega)
      omega
    · omega
  have hVpos : 0 < nv b * 2 ^ sh := Int.mul_pos hpos hP
  have hVtop := gd_last (B := 4294967296) (by decide) (nv b * 2 ^ sh) hVpos
  have hVtop : (dn (nv b * 2 ^ sh)).getD ((dn (nv b * 2 ^ sh)).length - 1) 0 ≠ 0 := hVtop
  rw [hVlen, show n' + 2 - 1 = n' + 1 by omega] at hVtop
  have hdv : DV 4294967296 (dn (nv b * 2 ^ sh)) := gd_DV (by decide) _
  have hVv : gv 4294967296 (dn (nv b * 2 ^ sh)) = nv b * 2 ^ sh := nv_dn (by omega)
  -- the dividend
  have hUnn : 0 ≤ nv a * 2 ^ sh := Int.mul_nonneg na (by omega)
  have hUV : nv b * 2 ^ sh ≤ nv a * 2 ^ sh := Int.mul_le_mul_of_nonneg_right (by omega) (by omega)
  have hdu : DV 4294967296 (dn (nv a * 2 ^ sh)) := gd_DV (by decide) _
  have hUv : gv 4294967296 (dn (nv a * 2 ^ sh)) = nv a * 2 ^ sh := nv_dn hUnn
  have hUlen : n' + 2 ≤ (dn (nv a * 2 ^ sh)).length := by
    by_cases h7 : n' + 2 ≤ (dn (nv a * 2 ^ sh)).length
    · exact h7
    · exfalso
      have h8 := cmp_len (B := 4294967296) (by decide) hUnn (Int.le_of_lt hVpos) (show (dn (nv a * 2 ^ sh)).length < (dn (nv b * 2 ^ sh)).length by omega)
      omega
  have hUlen2 : (dn (nv a * 2 ^ sh)).length ≤ 68719476737 := by
    have h1 : (dn (nv a * 2 ^ sh)).length ≤ a.length + 1 := by
      refine dn_len (k := a.length + 1) ?_
      have h2 := ha.val.2
      have h3 : nv a * 2 ^ sh < 2 ^ (32 * a.length) * 2 ^ sh := Int.mul_lt_mul_of_pos_right h2 hP
      rw [← Int.pow_add] at h3
      have := two_pow_le (show 32 * a.length + sh ≤ 32 * (a.length + 1) by omega)
      omega
    omega
  have hge : 0 ≤ ((n' + 2 : Nat) : Int) - 1 ∧ ((n' + 2 : Nat) : Int) - 1 < ((n' + 2 : Nat) : Int) := by omega
  have hge' : 0 ≤ ((n' + 2 : Nat) : Int) - 2 ∧ ((n' + 2 : Nat) : Int) - 2 < ((n' + 2 : Nat) : Int) := by omega
  have hres : (dn (nv a / nv b), dn (nv a % nv b)) = (dn (nv a * 2 ^ sh / (nv b * 2 ^ sh)), dn (nv a * 2 ^ sh % (nv b * 2 ^ sh) / 2 ^ sh)) := by
    have h1 : nv a * 2 ^ sh % (nv b * 2 ^ sh) = nv a % nv b * 2 ^ sh := by
      rw [Int.mul_comm (nv a), Int.mul_comm (nv b), Int.mul_emod_mul_of_pos _ _ hP, Int.mul_comm]
    rw [h1, Int.mul_ediv_mul_of_pos_left _ _ hP, Int.mul_ediv_cancel _ (Int.ne_of_gt hP)]
  rw [hres]
  obtain ⟨M, hM⟩ : ∃ M, (dn (nv a * 2 ^ sh)).length + 1 = M + (n' + 2) := ⟨(dn (nv a * 2 ^ sh)).length + 1 - (n' + 2), by omega⟩
  have hU1 : DV 4294967296 (dn (nv a * 2 ^ sh) ++ [0]) := DV.append.2 ⟨hdu, by simp [DV]⟩
  have hU2 : gv 4294967296 (dn (nv a * 2 ^ sh) ++ [0]) = nv a * 2 ^ sh := by rw [gv_append, hUv]; simp [gv]
  have hU3 : (dn (nv a * 2 ^ sh) ++ [(0 : Int)]).length = M + (n' + 2) := by simp; omega
  have hlow : gv 4294967296 ((dn (nv a * 2 ^ sh) ++ [0]).drop M) < nv b * 2 ^ sh := by
    have h1 : (dn (nv a * 2 ^ sh) ++ [0]).drop M = (dn (nv a * 2 ^ sh)).drop M ++ [0] := by rw [List.drop_append_of_le_length (by omega)]
    rw [h1, gv_append]
    have h2 := gv_lt (B := 4294967296) (by decide) (hdu.drop M)
    have h3 := gd_len_ge (B := 4294967296) (by decide) hVpos
    have h4 : (gd 4294967296 (nv b * 2 ^ sh)).length = n' + 2 := hVlen
    rw [List.length_drop, show (dn (nv a * 2 ^ sh)).length - M = n' + 1 by omega] at h2
    rw [h4, show n' + 2 - 1 = n' + 1 by omega] at h3
    simp only [gv, Int.mul_zero, Int.add_zero]
    omega
  have hloop := long_loop (U := nv a * 2 ^ sh) k1 k2 k3 k4 hVlen hdv hVv (by have := hdv.get (B := 4294967296) (by decide) (n' + 1); omega) (by omega) (show sh ≤ 32 by omega) M (List.replicate M 0) _ (by simp; omega) (by simp only [List.length_replicate]; exact hU3) (by simp) (DV.replicate (by decide) _) hU1 hlow (by
    rw [List.drop_eq_nil_of_le (by simp), hU2]; simp [gv])
  have hvt := hdv.get (B := 4294967296) (by decide) (n' + 1)
  have hvn := hdv.get (B := 4294967296) (by decide) n'
  refine Ev.congr (fun m => ?_) hloop
  rw [if_neg (by decide), if_neg (by decide), if_pos hge, F_bits_LeadingZeros32, gif_bind (p := Bd 32 x) htd, ← hsh]
  simp only [F_natural_Shl]
  rw [gif_bind ⟨hnb, by omega, by omega⟩, gif_bind ⟨ha, by omega, by omega⟩, hshc, vb, hVlen, hU3, i64w (n := ((M + (n' + 2) : Nat) : Int) - ((n' + 2 : Nat) : Int)) (by omega) (by omega), if_pos (by simp; omega), if_pos (by rw [LEN]; omega), if_pos hge, if_pos hge', u64w (by omega) (by omega), u64w (by omega) (by omega), i64w (by omega) (by omega), show ((M + (n' + 2) : Nat) : Int) - ((n' + 2 : Nat) : Int) = (M : Int) by omega, Int.toNat_natCast]
end Go.W

set_option linter.unusedVariables false
set_option linter.unusedSimpArgs false
namespace Go.W

/-! ### integer -/
theorem dn_norm {n : Int} (h : 0 ≤ n) : dn n = dn (nv (dn n)) := by rw [nv_dn h]
theorem ab_ite (neg : Bool) {n : Int} (h : 0 ≤ n) : ab (if neg = true then -n else n) = n := by
  unfold ab; split <;> split <;> omega
theorem Rn_integer_made : Run_integer_made := fun neg a => Ok.gif_const fun h => by
  have h0 : 0 ≤ nv a := gv_nonneg (by decide) (by rw [h]; exact gd_DV (by decide) _)
  rw [T_integer_made]
  unfold di
  rw [ab_ite neg h0, ← h]
  cases neg with
  | false => simp; omega
  | true =>
    have : (a.length > 0) ↔ 0 < nv a := by
      constructor
      · intro hl
        by_cases hn : 0 < nv a
        · exact hn
        · have : a = [] := by rw [h]; exact dn_nil.2 (by omega)
          rw [this] at hl; cases hl
      · intro hn
        rcases Nat.eq_zero_or_pos a.length with hl | hl
        · have := List.eq_nil_of_length_eq_zero hl
          rw [this] at hn; simp [nv, gv] at hn
        · exact hl
    simp only [if_true]
    congr 2
    by_cases hn : 0 < nv a
    · have := this.2 hn; simp; omega
    · have hl : ¬ a.length > 0 := fun hl => hn (this.1 hl)
      simp; omega
theorem made_bind {σ : Type} {neg : Bool} {n : Int} (h : 0 ≤ n) {k : Bool × List Int → Option σ} : (F_integer_made neg (dn n)).bind k = k (di (if neg = true then -n else n)) := by
  rw [F_integer_made, gif_bind (dn_norm h), nv_dn h]
theorem Rn_integer_From : Run_integer_From := fun neg a => Ok.gif_const fun h => by
  rw [T_integer_From, F_natural_Normal, gif_bind h, made_bind h.nonneg]; rfl
theorem From_bind {σ : Type} {neg : Bool} {a : List Int} (h : NN a) {k : Bool × List Int → Option σ} : (F_integer_From neg a).bind k = k (di (iv (neg, a))) := gif_bind h
theorem Rn_integer_Normal : Run_integer_Normal := fun a => Ok.gif_const fun h => by
  rw [T_integer_Normal, From_bind h]
theorem Rn_integer_Neg : Run_integer_Neg := fun a => Ok.gif_const fun h => by
  rw [T_integer_Neg, From_bind h]
  congr 2
  unfold iv; cases a.1 <;> simp
theorem Rn_integer_Abs : Run_integer_Abs := fun a => Ok.gif_const fun h => by
  rw [T_integer_Abs, From_bind h, iv_ab h]
  rfl
theorem Rn_integer_Of : Run_integer_Of := fun n => Ok.gif_const fun ⟨h0, h1⟩ => by
  rw [T_integer_Of]
  by_cases hn : n < 0
  · rw [if_pos (decide_eq_true hn)]
    have e : IntKind.wrap .u64 (0 - IntKind.wrap .u64 n) = -n := by simp only [IntKind.wrap_u64]; omega
    rw [e, F_natural_Of, gif_bind (p := Bd 64 _) (by rw [Bd64]; omega), made_bind (by omega)]
    simp
  · rw [if_neg (by simp; omega), u64w (by omega) (by omega), F_natural_Of, gif_bind (p := Bd 64 _) (by rw [Bd64]; omega), made_bind (by omega)]
    simp
theorem sg_pos {n : Int} (h : 0 < n) : sg n = 1 := by unfold sg; rw [if_neg (by omega), if_neg (by omega)]
theorem sg_neg {n : Int} (h : n < 0) : sg n = -1 := by unfold sg; rw [if_pos h]
theorem iv_zero {z : Bool × List Int} (h : II z) : iv z = 0 ↔ nv z.2 = 0 := by
  have := NN.nonneg h
  unfold iv; split <;> omega
theorem Rn_integer_Sign : Run_integer_Sign := fun a => Ok.gif_const fun h => by
  have hn := NN.nonneg h
  rw [T_integer_Sign, F_natural_IsZero, gif_bind (p := NN a.2) h]
  by_cases h0 : nv a.2 = 0
  · rw [if_pos (decide_eq_true h0), (iv_zero h).2 h0]; rfl
  · rw [if_neg (by simpa using h0)]
    by_cases h1 : a.1 = true
    · rw [if_pos h1, sg_neg (by unfold iv; rw [if_pos h1]; omega)]
    · rw [if_neg h1, sg_pos (by unfold iv; rw [if_neg h1]; omega)]
theorem iv_neg {z : Bool × List Int} (h : II z) (hn : iv z < 0) : iv z = -(nv z.2) := by
  have := NN.nonneg h
  unfold iv at *; split at hn <;> (rename_i h1; simp only [h1]) <;> simp at * <;> omega
theorem iv_nonneg {z : Bool × List Int} (h : II z) (hn : ¬ iv z < 0) : iv z = nv z.2 := by
  have := NN.nonneg h
  unfold iv at *; split at hn <;> (rename_i h1; simp only [h1]) <;> simp at * <;> omega
theorem sg_lt {x y : Int} (h : sg x < sg y) : x < y := by
  unfold sg at h; (repeat' split at h) <;> omega
theorem sg_eq {x y : Int} (h : sg x = sg y) : (x < 0 ↔ y < 0) := by
  unfold sg at h; (repeat' split at h) <;> omega
theorem sg_lt0 {x : Int} : sg x < 0 ↔ x < 0 := by
  unfold sg; (repeat' split) <;> omega
theorem cm_neg2 (x y : Int) : cm (-x) (-y) = cm y x := by
  unfold cm; (repeat' split) <;> omega
theorem Rn_integer_Cmp : Run_integer_Cmp := fun a b => Ok.gif_const fun ⟨ha, hb⟩ => by
  have na := NN.nonneg ha
  have nb := NN.nonneg hb
  rw [T_integer_Cmp, F_integer_Sign, F_integer_Sign, gif_bind ha, gif_bind hb, F_natural_Cmp, F_natural_Cmp, gif_bind (p := NN b.2 ∧ NN a.2) ⟨hb, ha⟩, gif_bind (p := NN a.2 ∧ NN b.2) ⟨ha, hb⟩]
  by_cases h1 : sg (iv b) < sg (iv a)
  · rw [if_pos (decide_eq_true h1), cm_of_gt (sg_lt h1)]
  rw [if_neg (by simpa using h1)]
  by_cases h2 : sg (iv a) < sg (iv b)
  · rw [if_pos (decide_eq_true h2), cm_of_lt (sg_lt h2)]
  rw [if_neg (by simpa using h2)]
  have h3 := sg_eq (show sg (iv a) = sg (iv b) by omega)
  by_cases h4 : iv a < 0
  · rw [if_pos (decide_eq_true (sg_lt0.2 h4)), iv_neg ha h4, iv_neg hb (h3.1 h4), cm_neg2]
  · rw [if_neg (by simp; have := sg_lt0 (x := iv a); omega), iv_nonneg ha h4, iv_nonneg hb (fun h => h4 (h3.2 h))]
theorem Rn_integer_Add : Run_integer_Add := fun a b => Ok.gif_const fun ⟨ha, hb⟩ => by
  have na := NN.nonneg ha
  have nb := NN.nonneg hb
  rw [T_integer_Add, F_natural_Add, gif_bind ⟨ha, hb⟩, made_bind (by omega), F_natural_Sub, F_natural_Sub, gif_bind ⟨ha, hb⟩, gif_bind ⟨hb, ha⟩]
  unfold iv
  obtain ⟨sa, a⟩ := a
  obtain ⟨sb, b⟩ := b
  dsimp only at *
  by_cases hs : sa = sb
  · subst hs
    rw [if_pos (by simp)]
    congr 2
    cases sa <;> simp; omega
  · rw [if_neg (by simpa using hs)]
    by_cases hlt : nv a < nv b
    · rw [if_pos hlt, if_neg (by simp), if_neg (by omega)]
      rw [made_bind (by omega)]
      congr 2
      cases sa <;> cases sb <;> simp at hs ⊢ <;> omega
    · rw [if_neg hlt, if_pos rfl, made_bind (by omega)]
      congr 2
      cases sa <;> cases sb <;> simp at hs ⊢ <;> omega
theorem Rn_integer_Sub : Run_integer_Sub := fun a b => Ok.gif_const fun ⟨ha, hb⟩ => by
  rw [T_integer_Sub, F_integer_Add, gif_bind ⟨ha, hb⟩]
  congr 2
  unfold iv
  cases b.1 <;> simp <;> omega
theorem Rn_integer_Mul : Run_integer_Mul := fun a b => Ok.gif_const fun ⟨ha, hb⟩ => by
  have na := NN.nonneg ha
  have nb := NN.nonneg hb
  rw [T_integer_Mul, F_natural_Mul, gif_bind ⟨ha, hb⟩, made_bind (Int.mul_nonneg na nb)]
  congr 2
  unfold iv
  cases a.1 <;> cases b.1 <;> simp [Int.neg_mul, Int.mul_neg]
end Go.W

set_option linter.unusedVariables false
set_option linter.unusedSimpArgs false
namespace Go.W

/-! ### division -/
theorem Rn_division_zero : Run_division_zero := fun a => Ok.gif_const fun h => by
  rw [T_division_zero, F_natural_IsZero, gif_bind (p := NN a.2) h]
  congr 1
  simp only [iv_zero h]
theorem NN.quo {a : List Int} (h : NN a) {d : Int} (hd : 0 ≤ d) : NN (Go.W.dn (nv a / d)) := NN.dn (h.big.div hd) (Nat.le_refl _)
theorem NN.rem {a : List Int} (h : NN a) {d : Int} (hd : 0 < d) : NN (Go.W.dn (nv a % d)) := NN.dn (h.big.emod hd) (Nat.le_refl _)
theorem iv_tdiv {a b : Bool × List Int} (ha : II a) (hb : II b) : iv (!(a.1 == b.1), dn (nv a.2 / nv b.2)) = Int.tdiv (iv a) (iv b) := by
  have na := NN.nonneg ha
  have nb := NN.nonneg hb
  unfold iv
  have e : Int.tdiv (nv a.2) (nv b.2) = nv a.2 / nv b.2 := Int.tdiv_eq_ediv_of_nonneg na
  dsimp only
  rw [nv_dn (Int.ediv_nonneg na nb)]
  cases a.1 <;> cases b.1 <;> simp [e]
theorem iv_tmod {a b : Bool × List Int} (ha : II a) (hb : II b) (h0 : nv b.2 ≠ 0) : iv (a.1, dn (nv a.2 % nv b.2)) = Int.tmod (iv a) (iv b) := by
  have na := NN.nonneg ha
  have nb := NN.nonneg hb
  unfold iv
  have e : Int.tmod (nv a.2) (nv b.2) = nv a.2 % nv b.2 := Int.tmod_eq_emod_of_nonneg na
  dsimp only
  rw [nv_dn (Int.emod_nonneg _ h0)]
  cases a.1 <;> cases b.1 <;> simp [e]
theorem Rn_division_Quo : Run_division_Quo := fun a b => Ok.gif_const fun ⟨ha, hb⟩ => by
  rw [T_division_Quo, F_division_zero, gif_bind hb]
  by_cases h0 : iv b = 0
  · rw [if_pos (decide_eq_true h0), if_pos h0]
  · have hn : nv b.2 ≠ 0 := fun h => h0 ((iv_zero hb).2 h)
    have nb := NN.nonneg hb
    rw [if_neg (by simpa using h0), if_neg h0, F_division_long, gif_bind (p := NN a.2 ∧ NN b.2 ∧ nv b.2 ≠ 0) ⟨ha, hb, hn⟩, From_bind (NN.quo ha nb), From_bind (NN.rem ha (by omega)), iv_tdiv ha hb, iv_tmod ha hb hn]
theorem II.di_le {a : Bool × List Int} (h : II a) {z : Int} (hz : ab z ≤ ab (iv a)) : II (Go.W.di z) := II.di (h.big.le (ab_nonneg _) hz) (Nat.le_refl _)
theorem ab_tmod_le (x y : Int) : ab (Int.tmod x y) ≤ ab x := by
  rw [ab_eq, ab_eq, Int.natAbs_tmod]
  exact Int.ofNat_le.2 (Nat.mod_le _ _)
theorem ab_tdiv_le (x y : Int) : ab (Int.tdiv x y) ≤ ab x := by
  rw [ab_eq, ab_eq, Int.natAbs_tdiv]
  exact Int.ofNat_le.2 (Nat.div_le_self _ _)
theorem Rn_division_Exact : Run_division_Exact := fun a b => Ok.gif_const fun ⟨ha, hb⟩ => by
  rw [T_division_Exact, F_division_Quo, gif_bind ⟨ha, hb⟩]
  by_cases h0 : iv b = 0
  · simp [h0]
  · simp only [if_neg h0]
    rw [if_pos (by decide), F_division_zero, gif_bind (II.di_le ha (ab_tmod_le _ _)), iv_di]
    by_cases h1 : Int.tmod (iv a) (iv b) = 0
    · simp [h1]
    · simp [h1]
theorem floor_unique {a b q r : Int} (h : a = b * q + r) (hr : (0 ≤ r ∧ r < b) ∨ (b < r ∧ r ≤ 0)) : Int.fdiv a b = q ∧ Int.fmod a b = r := by
  have hb : b ≠ 0 := by omega
  have h1 : Int.fdiv a b = q := by
    rcases hr with ⟨h2, h3⟩ | ⟨h2, h3⟩
    · rw [Int.fdiv_eq_ediv_of_nonneg _ (by omega), h, Int.mul_add_ediv_left _ _ hb, Int.ediv_eq_zero_of_lt h2 h3, Int.add_zero]
    · have : Int.fdiv a b = Int.fdiv (-a) (-b) := by rw [Int.neg_fdiv_neg]
      have e : -a = (-b) * q + (-r) := by rw [h, Int.neg_mul]; omega
      rw [this, Int.fdiv_eq_ediv_of_nonneg _ (by omega), e, Int.mul_add_ediv_left _ _ (by omega), Int.ediv_eq_zero_of_lt (by omega) (by omega), Int.add_zero]
  refine ⟨h1, ?_⟩
  have := Int.mul_fdiv_add_fmod a b
  rw [h1] at this
  omega
theorem tmod_facts (x y : Int) (hy : y ≠ 0) : (0 ≤ Int.tmod x y ∧ Int.tmod x y < ab y) ∧ 0 ≤ x ∨ (-(ab y) < Int.tmod x y ∧ Int.tmod x y ≤ 0) ∧ x < 0 := by
  have hab : 0 < ab y := by unfold ab; split <;> omega
  have e : ∀ z : Int, 0 ≤ z → Int.tmod z y = z % ab y := fun z hz => by
    unfold ab; split
    · rw [← Int.tmod_neg, Int.tmod_eq_emod_of_nonneg hz]
    · rw [Int.tmod_eq_emod_of_nonneg hz]
  by_cases hx : 0 ≤ x
  · left
    rw [e x hx]
    exact ⟨⟨Int.emod_nonneg _ (by omega), Int.emod_lt_of_pos _ hab⟩, hx⟩
  · right
    have : Int.tmod x y = -(Int.tmod (-x) y) := by rw [Int.neg_tmod, Int.neg_neg]
    rw [this, e (-x) (by omega)]
    have h1 := Int.emod_nonneg (-x) (show ab y ≠ 0 by omega)
    have h2 := Int.emod_lt_of_pos (-x) hab
    omega
theorem Rn_division_Floor : Run_division_Floor := fun a b => Ok.gif_const fun ⟨ha, hb⟩ => by
  rw [T_division_Floor, F_division_Quo, gif_bind ⟨ha, hb⟩]
  by_cases h0 : iv b = 0
  · simp [h0]
  · simp only [if_neg h0]
    rw [if_pos (by decide), F_division_zero, gif_bind (II.di_le ha (ab_tmod_le _ _)), iv_di]
    have heq : iv a = iv b * Int.tdiv (iv a) (iv b) + Int.tmod (iv a) (iv b) := (Int.mul_tdiv_add_tmod _ _).symm
    have hf := tmod_facts (iv a) (iv b) h0
    have hb1 : (b.1 = true) ↔ iv b < 0 := by
      have nb := NN.nonneg hb
      unfold iv at h0 ⊢
      split
      · rename_i h; rw [if_pos h] at h0; simp [h]; omega
      · rename_i h; simp [h]; omega
    have hdi : ∀ z : Int, (di z).1 = decide (z < 0) := fun z => rfl
    rw [hdi]
    have hQ := II.di_le ha (ab_tdiv_le (iv a) (iv b))
    have hR := II.di_le ha (ab_tmod_le (iv a) (iv b))
    generalize Int.tdiv (iv a) (iv b) = q at *
    generalize hr : Int.tmod (iv a) (iv b) = r at *
    by_cases h1 : r = 0
    · subst h1
      have := floor_unique (q := q) (r := 0) heq (by omega)
      simp [this.1, this.2]
    · rw [if_pos (by simpa using h1)]
      by_cases h2 : (r < 0 ↔ iv b < 0)
      · have e : (decide (r < 0) == b.1) = true := by
          by_cases hb2 : b.1 = true
          · rw [hb2]; simp; exact h2.2 (hb1.1 hb2)
          · have : ¬ iv b < 0 := fun h => hb2 (hb1.2 h)
            simp at hb2; rw [hb2]; simp; have := fun h => this (h2.1 h); omega
        rw [e, if_neg (by decide)]
        have := floor_unique (q := q) (r := r) heq (by unfold ab at hf; split at hf <;> omega)
        rw [this.1, this.2]
      · have e : (decide (r < 0) == b.1) = false := by
          by_cases hb2 : b.1 = true
          · rw [hb2]; simp; have := hb1.1 hb2; omega
          · have : ¬ iv b < 0 := fun h => hb2 (hb1.2 h)
            simp at hb2; rw [hb2]; simp; omega
        rw [e, if_pos (by decide), F_integer_Of, gif_bind (by omega), F_integer_Sub, gif_bind ⟨hQ, II.di (k := 1) (by simp [ab]; rw [Bd1]; omega) (by omega)⟩, F_integer_Add, gif_bind ⟨hR, hb⟩, iv_di, iv_di, iv_di]
        have := floor_unique (q := q - 1) (r := r + iv b) (a := iv a) (b := iv b) (by rw [Int.mul_sub]; omega) (by unfold ab at hf; split at hf <;> omega)
        rw [this.1, this.2]

theorem gcd_step {x y : Int} (hx : 0 ≤ x) (hy : 0 ≤ y) : Int.gcd x y = Int.gcd y (x % y) := by
  obtain ⟨a, rfl⟩ := Int.eq_ofNat_of_zero_le hx
  obtain ⟨b, rfl⟩ := Int.eq_ofNat_of_zero_le hy
  rw [← Int.natCast_emod]
  simp only [Int.gcd_natCast_natCast]
  rw [Nat.gcd_comm a b, Nat.gcd_rec, Nat.gcd_comm]
theorem gcd_zero' {x : Int} (hx : 0 ≤ x) : ((Int.gcd x 0 : Nat) : Int) = x := by rw [Int.gcd_zero]; omega
theorem Rn_division_Gcd : Run_division_Gcd := fun s t hs ht a b => Ok.gif fun ⟨ha, hb⟩ => by
  have na := NN.nonneg ha
  have nb := NN.nonneg hb
  simp only [T_division_Gcd, F_natural_Normal, gif_bind (show NN a.2 from ha), gif_bind (show NN b.2 from hb)]
  have word : ∀ (k : Nat) (x y : Int) (z : Bool × List Int), y.toNat ≤ k → 0 ≤ y → 0 ≤ x → x < 18446744073709551616 → y < 18446744073709551616 → Ev (fun m => t m x y z) (di (Int.gcd x y : Int)) := by
    intro k
    induction k using Nat.strongRecOn with
    | ind k ih =>
    intro x y z hk hy0 hx0 hx hy
    by_cases h0 : y = 0
    · subst h0
      refine Ev.step (t := fun _ => some (di (Int.gcd x 0 : Int))) (fun m => ?_) Ev.ret
      rw [ht]; unfold S_division_Gcd_29
      rw [if_neg (by decide), F_natural_Of, gif_bind (p := Bd 64 x) (by rw [Bd64]; omega), From_bind (NN.dn (k := 64) (by rw [Bd64]; omega) (by omega)), gcd_zero' hx0]
      unfold iv; simp [nv_dn hx0]
    · have hm0 := Int.emod_nonneg x h0
      have hm1 := Int.emod_lt_of_pos x (show 0 < y by omega)
      rw [gcd_step hx0 hy0]
      refine Ev.step (fun m => ?_) (ih (x % y).toNat (by omega) y (x % y) z (Nat.le_refl _) hm0 hy0 hy (by omega))
      rw [ht]; unfold S_division_Gcd_29
      rw [if_pos (by simpa using h0), if_neg h0, Int.tmod_eq_emod_of_nonneg hx0]
  have main : ∀ (k : Nat) (x y : Int) (z : Bool × List Int), y.toNat ≤ k → 0 ≤ y → 0 ≤ x → NN (dn x) → NN (dn y) → Ev (fun m => s m (dn x) (dn y) z) (di (Int.gcd x y : Int)) := by
    intro k
    induction k using Nat.strongRecOn with
    | ind k ih =>
    intro x y z hk hy0 hx0 hx hy
    have vx := nv_dn hx0
    have vy := nv_dn hy0
    by_cases h0 : y = 0
    · subst h0
      refine Ev.step (t := fun _ => some (di (Int.gcd x 0 : Int))) (fun m => ?_) Ev.ret
      rw [hs]; unfold S_division_Gcd_9
      rw [if_neg (by rw [dn_zero]; simp), From_bind hx, gcd_zero' hx0]
      unfold iv; simp [vx]
    · have hl : (decide (((dn y).length : Int) > 0)) = true := by
        rcases Nat.eq_zero_or_pos (dn y).length with h | h
        · have := dn_nil.1 (List.eq_nil_of_length_eq_zero h); omega
        · simp; omega
      have hm0 := Int.emod_nonneg x h0
      have hm1 := Int.emod_lt_of_pos x (show 0 < y by omega)
      have long : Ev (fun m => (F_division_long (dn x) (dn y)).bind fun r => s m (dn y) r.2 z) (di (Int.gcd x y : Int)) := by
        have := ih (x % y).toNat (by omega) y (x % y) z (Nat.le_refl _) hm0 hy0 hy (by have := NN.rem hx (d := y) (by omega); rwa [vx] at this)
        rw [gcd_step hx0 hy0]
        refine Ev.congr (fun m => ?_) this
        rw [F_division_long, gif_bind ⟨hx, hy, by rw [vy]; exact h0⟩, vx, vy]
      by_cases hbx : x < 18446744073709551616
      · by_cases hby : y < 18446744073709551616
        · refine Ev.step (fun m => ?_) (word y.toNat x y z (Nat.le_refl _) hy0 hx0 hbx hby)
          rw [hs]; unfold S_division_Gcd_9
          rw [if_pos hl, F_natural_Uint64, gif_bind hx, vx, if_pos hbx, if_pos rfl, F_natural_Uint64, gif_bind hy, vy, if_pos hby, if_pos rfl]
        · refine Ev.step (fun m => ?_) long
          rw [hs]; unfold S_division_Gcd_9
          rw [if_pos hl, F_natural_Uint64, gif_bind hx, vx, if_pos hbx, if_pos rfl, F_natural_Uint64, gif_bind hy, vy, if_neg hby, if_neg (by decide)]
      · refine Ev.step (fun m => ?_) long
        rw [hs]; unfold S_division_Gcd_9
        rw [if_pos hl, F_natural_Uint64, gif_bind hx, vx, if_neg hbx, if_neg (by decide)]
  have hres := main (nv b.2).toNat (nv a.2) (nv b.2) (false, []) (Nat.le_refl _) nb na (NN.dn (NN.big ha) (Nat.le_refl _)) (NN.dn (NN.big hb) (Nat.le_refl _))
  have e : Int.gcd (iv a) (iv b) = Int.gcd (nv a.2) (nv b.2) := by
    rw [← iv_ab ha, ← iv_ab hb, ab_eq, ab_eq]
    simp [Int.gcd]
  rw [e]
  exact hres
end Go.W

set_option linter.unusedVariables false
set_option linter.unusedSimpArgs false
namespace Go.W

/-! ### fractions -/
theorem divInt_eq0 {n d : Int} (hd : 0 < d) : Rat.divInt n d = 0 ↔ n = 0 := by
  constructor
  · intro h
    rw [← Rat.zero_divInt d, Rat.divInt_eq_divInt_iff (by omega) (by omega)] at h
    have : n * d = 0 := by omega
    rcases Int.mul_eq_zero.1 this with h | h
    · exact h
    · omega
  · intro h; rw [h, Rat.zero_divInt]
theorem dr_div {n d : Int} (hd : 0 < d) : dr (Rat.divInt n d) = (di (n / (Int.gcd n d : Int)), dn (d / (Int.gcd n d : Int))) := by
  unfold dr
  rw [Rat.num_divInt, Rat.den_divInt, if_neg (by omega), Int.sign_eq_one_of_pos hd, Int.one_mul, Int.gcd_comm d n]
  congr 2
  rw [Int.natCast_ediv]
  congr 1; omega
theorem num_div {n d : Int} (hd : 0 < d) : (Rat.divInt n d).num = n / (Int.gcd n d : Int) := by
  rw [Rat.num_divInt, Int.sign_eq_one_of_pos hd, Int.one_mul, Int.gcd_comm d n]
theorem den_div {n d : Int} (hd : 0 < d) : ((Rat.divInt n d).den : Int) = d / (Int.gcd n d : Int) := by
  rw [Rat.den_divInt, if_neg (by omega), Int.gcd_comm d n, Int.natCast_ediv]
  congr 1; omega
theorem divInt_le {n d m e : Int} (hd : 0 < d) (he : 0 < e) : Rat.divInt n d ≤ Rat.divInt m e ↔ n * e ≤ m * d := by
  rw [Rat.le_iff_sub_nonneg, Rat.divInt_sub_divInt _ _ (by omega) (by omega), Rat.divInt_nonneg_iff_of_pos_right (Int.mul_pos he hd)]
  omega
theorem divInt_lt {n d m e : Int} (hd : 0 < d) (he : 0 < e) : Rat.divInt n d < Rat.divInt m e ↔ n * e < m * d := by
  rw [← Rat.not_le, divInt_le he hd]; omega
theorem divInt_neg0 {n d : Int} (hd : 0 < d) : Rat.divInt n d < 0 ↔ n < 0 := by
  have := divInt_lt (n := n) (m := 0) hd (show (0 : Int) < 1 by decide)
  rw [Rat.zero_divInt] at this
  rw [this]; omega
theorem rsg_div {n d : Int} (hd : 0 < d) : rsg (Rat.divInt n d) = sg n := by
  unfold rsg sg
  simp only [divInt_neg0 hd, divInt_eq0 hd]
theorem rcm_div {n d m e : Int} (hd : 0 < d) (he : 0 < e) : rcm (Rat.divInt n d) (Rat.divInt m e) = cm (n * e) (m * d) := by
  unfold rcm cm
  simp only [divInt_lt hd he, divInt_lt he hd]

/-! ### rational -/
theorem Rn_rational_one : Run_rational_one := Ok.gif_const fun _ => by
  rw [T_rational_one, F_natural_Of, gif_bind (p := Bd 64 1) (by rw [Bd64]; omega)]
theorem Rn_rational_isOne : Run_rational_isOne := fun a => Ok.gif_const fun h => by
  have h0 : 0 ≤ nv a := gv_nonneg (by decide) (by rw [h]; exact gd_DV (by decide) _)
  rw [T_rational_isOne]
  by_cases h1 : a.length = 1
  · obtain ⟨x, rfl⟩ : ∃ x, a = [x] := by
      match a, h1 with
      | [x], _ => exact ⟨x, rfl⟩
    rw [if_pos (by simp), if_pos (by simp)]
    simp [nv, gv]
    rfl
  · rw [if_neg (by simp; omega)]
    congr 1
    rw [eq_comm, decide_eq_false_iff_not]
    intro hv
    rw [hv] at h
    rw [h] at h1
    have e : dn 1 = [1] := by
      have : dn 1 = 1 % 4294967296 :: dn (1 / 4294967296) := gd_pos (by decide) (by decide)
      rw [this, show (1 : Int) / 4294967296 = 0 by decide, dn_zero]; rfl
    rw [e] at h1
    simp at h1
theorem isOne_bind {σ : Type} {n : Int} (h : 0 ≤ n) {k : Bool → Option σ} : (F_rational_isOne (dn n)).bind k = k (decide (n = 1)) := by
  rw [F_rational_isOne, gif_bind (dn_norm h), nv_dn h]
theorem dr_zero : dr 0 = ((false, []), dn 1) := by
  unfold dr
  rw [show (0 : Rat).num = 0 from rfl, di_zero]; rfl
theorem Rn_rational_made : Run_rational_made := fun s hs n d => Ok.gif fun ⟨hn, hd⟩ => by
  have nd := hd.nonneg
  have na := NN.nonneg hn
  simp only [T_rational_made, F_natural_Normal, gif_bind hd, F_natural_IsZero, gif_bind (show NN n.2 from hn)]
  have zero : ∀ z, Ev (fun m => s m true (dn (nv d)) n z) (dr 0) := fun z => by
    refine Ev.step (t := fun _ => some (dr 0)) (fun m => ?_) Ev.ret
    rw [hs]; unfold S_rational_made_12
    rw [if_pos rfl, F_rational_one, gif_bind trivial, dr_zero]
  by_cases h0 : nv d = 0
  · simp only [h0, dn_zero, if_true]
    have := zero ((false, []), [])
    rw [h0, dn_zero] at this
    exact this
  have hl : (((dn (nv d)).length : Int) == 0) = false := by
    have : dn (nv d) ≠ [] := fun h => by have := dn_nil.1 h; omega
    simp; exact this
  simp only [hl, if_neg h0, Bool.false_eq_true, if_false]
  by_cases h1 : nv n.2 = 0
  · rw [(iv_zero hn).2 h1, Rat.zero_divInt]
    simp only [h1, decide_true]
    exact zero _
  simp only [h1, decide_false]
  have hdn : NN (dn (nv d)) := NN.dn hd.big (Nat.le_refl _)
  have vd : nv (dn (nv d)) = nv d := nv_dn nd
  refine Ev.step (t := fun _ => some (dr (Rat.divInt (iv n) (nv d)))) (fun m => ?_) Ev.ret
  rw [hs, S_rational_made_12, if_neg (show ¬ (false = true) by decide)]
  rw [isOne_bind nd, dr_div (by omega)]
  by_cases h2 : nv d = 1
  · rw [if_pos (decide_eq_true h2), F_integer_Normal, gif_bind hn, h2, Int.gcd_one]
    simp
  · have hdpos : 0 < nv d := by omega
    have hivd : iv (false, dn (nv d)) = nv d := by unfold iv; simp [vd]
    have hIId : II (di (nv d)) := II.di (k := 2199023255552) (by rw [show ab (nv d) = nv d by unfold ab; rw [if_neg (by omega)]]; exact hd.big) (Nat.le_refl _)
    rw [if_neg (by simpa using h2), From_bind hdn, hivd, F_division_Gcd, gif_bind ⟨hn, hIId⟩, iv_di]
    have hg0 : 0 < (Int.gcd (iv n) (nv d) : Int) := by
      have : Int.gcd (iv n) (nv d) ≠ 0 := fun h => by have := (Int.gcd_eq_zero_iff.1 h).2; omega
      omega
    have hgn := Int.gcd_dvd_left (a := iv n) (b := nv d)
    have hgd := Int.gcd_dvd_right (a := iv n) (b := nv d)
    have hgle : (Int.gcd (iv n) (nv d) : Int) ≤ nv d := Int.le_of_dvd hdpos hgd
    generalize (Int.gcd (iv n) (nv d) : Int) = g at *
    have hIIg : II (di g) := II.di (k := 2199023255552) (by rw [show ab g = g by unfold ab; rw [if_neg (by omega)]]; exact hd.big.le (by omega) hgle) (Nat.le_refl _)
    have hdg : (di g).2 = dn g := by unfold di; rw [show ab g = g by unfold ab; rw [if_neg (by omega)]]
    rw [hdg, isOne_bind (by omega)]
    by_cases h3 : g = 1
    · rw [if_pos (decide_eq_true h3), F_integer_Normal, gif_bind hn, h3]
      simp
    · rw [if_neg (by simpa using h3), F_division_Exact, gif_bind ⟨hn, hIIg⟩, F_division_Exact, gif_bind ⟨hIId, hIIg⟩]
      simp only [iv_di, show ¬ (g = 0) by omega, if_false, Int.tmod_eq_zero_of_dvd hgn, Int.tmod_eq_zero_of_dvd hgd, if_true, Int.tdiv_eq_ediv_of_dvd hgn, Int.tdiv_eq_ediv_of_dvd hgd]
      have : (di (nv d / g)).2 = dn (nv d / g) := by
        unfold di; rw [show ab (nv d / g) = nv d / g by unfold ab; rw [if_neg (by have := Int.ediv_nonneg nd (show 0 ≤ g by omega); omega)]]
      rw [this]
theorem made_div {σ : Type} {n : Bool × List Int} {d : List Int} (hn : II n) (hd : NN d) (h0 : 0 < nv d) {k : ((Bool × List Int) × List Int) → Option σ} : (F_rational_made n d).bind k = k (dr (Rat.divInt (iv n) (nv d))) := by
  rw [F_rational_made, gif_bind ⟨hn, hd⟩, if_neg (by omega)]

/-! ### sizes of fractions -/
theorem QD.nn {a : List Int} (h : QD a) : NN a := ⟨h.1, by have := h.2; omega⟩
theorem QD.bd {a : List Int} (h : QD a) : Bd 33554432 (nv a) := h.nn.val.mono (by have := h.2; omega)
theorem QD.dn {k : Nat} {n : Int} (h : Bd k n) (hk : k ≤ 33554432) : QD (Go.W.dn n) := ⟨gd_DV (by decide) n, dn_len (h.mono hk).2⟩
theorem QQ.i {q : (Bool × List Int) × List Int} (h : QQ q) : II q.1 := h.1.nn
theorem QQ.d {q : (Bool × List Int) × List Int} (h : QQ q) : NN q.2 := h.2.nn
theorem rd_pos {q : (Bool × List Int) × List Int} (h : QQ q) : 0 < rd q := by
  have := h.d.nonneg
  unfold rd; split <;> omega
theorem one_bd : Bd 33554432 1 := Bd.mono (j := 1) (by rw [Bd1]; omega) (by omega)
theorem rd_bd {q : (Bool × List Int) × List Int} (h : QQ q) : Bd 33554432 (rd q) := by
  unfold rd; split
  · exact one_bd
  · exact h.2.bd
theorem rn_bd {q : (Bool × List Int) × List Int} (h : QQ q) : Bd 33554432 (ab (rn q)) := by
  unfold rn; split
  · exact Bd.zero _
  · rw [iv_ab h.i]; exact h.1.bd
theorem QQ.dr {k : Nat} {r : Rat} (h : QB k r) (hk : k ≤ 33554432) : QQ (Go.W.dr r) := ⟨QD.dn h.1 hk, QD.dn h.2 hk⟩
theorem nv_den (r : Rat) : nv (dn r.den) = r.den := nv_dn (by omega)
theorem rn_dr (r : Rat) : rn (dr r) = r.num := by
  unfold rn dr
  dsimp only
  rw [nv_den, if_neg (by have := r.den_pos; omega), iv_di]
theorem rd_dr (r : Rat) : rd (dr r) = r.den := by
  unfold rd dr
  dsimp only
  rw [nv_den, if_neg (by have := r.den_pos; omega)]
theorem rv_dr (r : Rat) : rv (dr r) = r := by
  unfold rv
  rw [rn_dr, rd_dr, Rat.num_divInt_den]
theorem QB.mono {j k : Nat} {r : Rat} (h : QB j r) (hk : j ≤ k) : QB k r := ⟨h.1.mono hk, h.2.mono hk⟩
theorem ab_ediv_le (x : Int) {g : Int} (hg : 0 < g) (h : g ∣ x) : ab (x / g) ≤ ab x := by
  rw [← Int.tdiv_eq_ediv_of_dvd h]
  exact ab_tdiv_le x g
theorem QB.div {j k : Nat} {n d : Int} (hn : Bd j (ab n)) (hd : Bd k d) (h0 : 0 < d) : QB (max j k) (Rat.divInt n d) := by
  have hg0 : 0 < (Int.gcd n d : Int) := by
    have : Int.gcd n d ≠ 0 := fun h => by have := (Int.gcd_eq_zero_iff.1 h).2; omega
    omega
  constructor
  · rw [num_div h0]
    exact (hn.le (ab_nonneg _) (ab_ediv_le n hg0 (Int.gcd_dvd_left n d))).mono (Nat.le_max_left _ _)
  · rw [den_div h0]
    exact (hd.div (by omega)).mono (Nat.le_max_right _ _)
theorem QB.rv {q : (Bool × List Int) × List Int} (h : QQ q) : QB 33554432 (Go.W.rv q) := QB.mono (QB.div (rn_bd h) (rd_bd h) (rd_pos h)) (by simp)
theorem QB.as (r : Rat) : r = Rat.divInt r.num r.den := (Rat.num_divInt_den r).symm
theorem QB.add {j k : Nat} {a b : Rat} (ha : QB j a) (hb : QB k b) : QB (j + k + 1) (a + b) := by
  have h1 := a.den_pos
  have h2 := b.den_pos
  rw [QB.as a, QB.as b, Rat.divInt_add_divInt _ _ (by omega) (by omega)]
  refine QB.mono (QB.div ((ha.1.ab_mul (hb.2.le (ab_nonneg _) (by unfold ab; split <;> omega))).ab_add (hb.1.ab_mul (ha.2.le (ab_nonneg _) (by unfold ab; split <;> omega)))) (ha.2.mul hb.2) (Int.mul_pos (by omega) (by omega))) (by omega)
theorem QB.mul {j k : Nat} {a b : Rat} (ha : QB j a) (hb : QB k b) : QB (j + k) (a * b) := by
  have h1 := a.den_pos
  have h2 := b.den_pos
  rw [QB.as a, QB.as b, Rat.divInt_mul_divInt]
  exact QB.mono (QB.div (ha.1.ab_mul hb.1) (ha.2.mul hb.2) (Int.mul_pos (by omega) (by omega))) (by omega)
theorem QB.neg {k : Nat} {a : Rat} (ha : QB k a) : QB k (-a) := by
  constructor
  · rw [Rat.neg_num, ab_neg]; exact ha.1
  · rw [Rat.neg_den]; exact ha.2
theorem QB.sub {j k : Nat} {a b : Rat} (ha : QB j a) (hb : QB k b) : QB (j + k + 1) (a - b) := by
  rw [Rat.sub_eq_add_neg]; exact ha.add hb.neg
theorem QB.inv {k : Nat} {a : Rat} (ha : QB k a) (h0 : a ≠ 0) : QB k a⁻¹ := by
  have hn : a.num ≠ 0 := fun h => h0 (by rw [QB.as a, h, Rat.zero_divInt])
  have hp := a.den_pos
  have e : a⁻¹ = if 0 < a.num then Rat.divInt a.den a.num else Rat.divInt (-a.den) (-a.num) := by
    rw [Rat.inv_def]
    split
    · rfl
    · rw [Rat.neg_divInt_neg]
  rw [e]
  have hd := ha.2
  have hN := ha.1
  split
  · rename_i h
    exact QB.mono (QB.div (hd.le (ab_nonneg _) (by unfold ab; split <;> omega)) (by rwa [show ab a.num = a.num by unfold ab; rw [if_neg (by omega)]] at hN) h) (by omega)
  · rename_i h
    exact QB.mono (QB.div (hd.le (ab_nonneg _) (by unfold ab; split <;> omega)) (by rwa [show ab a.num = -a.num by unfold ab; rw [if_pos (by omega)]] at hN) (by omega)) (by omega)
theorem QB.int {k : Nat} {n : Int} (h : Bd k (ab n)) (hk : 1 ≤ k) : QB k (n : Rat) := by
  constructor
  · rw [Rat.num_intCast]; exact h
  · rw [Rat.den_intCast]; exact Bd.mono (j := 1) (by rw [show ((1 : Nat) : Int) = 1 from rfl, Bd1]; omega) hk
theorem QB.pow {k : Nat} {a : Rat} (ha : QB k a) (n : Nat) : QB (k * n + 1) (a ^ n) := by
  constructor
  · rw [Rat.num_pow, ab_pow]; exact ha.1.pow n
  · rw [Rat.den_pow, Int.natCast_pow]; exact ha.2.pow n
end Go.W

set_option linter.unusedVariables false
set_option linter.unusedSimpArgs false
namespace Go.W

theorem parts_ok {a : (Bool × List Int) × List Int} (h : QQ a) : ∃ p : (Bool × List Int) × Bool × List Int, F_rational_parts a = some p ∧ II p.1 ∧ II p.2 ∧ iv p.1 = rn a ∧ iv p.2 = rd a ∧ NN p.2.2 ∧ nv p.2.2 = rd a := by
  refine ⟨_, gif_pos h, ?_⟩
  unfold rn rd
  split
  · have h1 : Bd 1 (ab 1) := by simp [ab]; rw [Bd1]; omega
    have h2 : (di 1).2 = dn 1 := rfl
    refine ⟨NN.nil, II.di h1 (by omega), rfl, iv_di 1, ?_, ?_⟩
    · rw [h2]; exact NN.dn (k := 1) (by rw [Bd1]; omega) (by omega)
    · rw [h2]; exact nv_dn (by omega)
  · exact ⟨h.i, h.d, rfl, by unfold iv; simp, h.d, rfl⟩
theorem Rn_rational_parts : Run_rational_parts := fun a => Ok.gif_const fun h => by
  rw [T_rational_parts, F_natural_IsZero, gif_bind h.d]
  by_cases h0 : nv a.2 = 0
  · rw [if_pos (decide_eq_true h0), if_pos h0, F_integer_Of, gif_bind (by omega)]
  · rw [if_neg (by simpa using h0), if_neg h0]
theorem dr_int (n : Int) : dr (n : Rat) = (di n, dn 1) := by
  unfold dr; rw [Rat.num_intCast, Rat.den_intCast]; rfl
theorem Rn_rational_Of : Run_rational_Of := fun n => Ok.gif_const fun h => by
  rw [T_rational_Of, F_integer_Of, gif_bind h, F_rational_one, gif_bind trivial, dr_int]
theorem Rn_rational_From : Run_rational_From := fun n => Ok.gif_const fun h => by
  rw [T_rational_From, F_integer_Normal, gif_bind h, F_rational_one, gif_bind trivial, dr_int]
theorem II.neg {a : Bool × List Int} (h : II a) : II (Go.W.di (-(iv a))) := h.di_le (by rw [ab_neg]; exact Int.le_refl _)
theorem Rn_rational_Make : Run_rational_Make := fun n d => Ok.gif_const fun ⟨hn, hd⟩ => by
  have nd := NN.nonneg hd
  rw [T_rational_Make, F_natural_IsZero, gif_bind (p := NN d.2) hd]
  by_cases h0 : iv d = 0
  · rw [if_pos (decide_eq_true ((iv_zero hd).1 h0)), if_pos h0]
  · have hn0 : nv d.2 ≠ 0 := fun h => h0 ((iv_zero hd).2 h)
    rw [if_neg (by simpa using hn0), if_neg h0]
    by_cases h1 : d.1 = true
    · rw [if_pos h1, F_integer_Neg, gif_bind hn, made_div hn.neg hd (by omega), iv_di]
      have : iv d = -(nv d.2) := by unfold iv; rw [if_pos h1]
      rw [this, ← Rat.divInt_neg']
    · rw [if_neg h1, made_div hn hd (by omega)]
      have : iv d = nv d.2 := by unfold iv; rw [if_neg h1]
      rw [this]
theorem rv_eq (a : (Bool × List Int) × List Int) : rv a = if nv a.2 = 0 then 0 else Rat.divInt (iv a.1) (nv a.2) := by
  unfold rv rn rd
  split
  · rw [Rat.zero_divInt]
  · rfl
theorem Rn_rational_Normal : Run_rational_Normal := fun a => Ok.gif_const fun h => by
  rw [T_rational_Normal, F_rational_made, gif_bind ⟨h.i, h.d⟩, rv_eq]
theorem Rn_rational_Neg : Run_rational_Neg := fun a => Ok.gif_const fun h => by
  have nd := h.d.nonneg
  rw [T_rational_Neg, F_integer_Neg, gif_bind h.i, F_rational_made, gif_bind ⟨h.i.neg, h.d⟩, iv_di, rv_eq]
  split
  · simp
  · rw [Rat.neg_divInt]
theorem Rn_rational_Add : Run_rational_Add := fun a b => Ok.gif_const fun ⟨ha, hb⟩ => by
  obtain ⟨p, hp, p1, p2, p3, p4, p5, p6⟩ := parts_ok ha
  obtain ⟨q, hq, q1, q2, q3, q4, q5, q6⟩ := parts_ok hb
  have da := rd_pos ha
  have db := rd_pos hb
  have B1 : Bd (33554432 + 33554432) (ab (rn a * rd b)) := (rn_bd ha).ab_mul (by rw [show ab (rd b) = rd b by unfold ab; rw [if_neg (by omega)]]; exact rd_bd hb)
  have B2 : Bd (33554432 + 33554432) (ab (rn b * rd a)) := (rn_bd hb).ab_mul (by rw [show ab (rd a) = rd a by unfold ab; rw [if_neg (by omega)]]; exact rd_bd ha)
  have B3 := B1.ab_add B2
  have B4 := (rd_bd ha).mul (rd_bd hb)
  have hD := Int.mul_pos da db
  rw [T_rational_Add, hp, Option.bind_some, hq, Option.bind_some, F_integer_Mul, gif_bind ⟨p1, q2⟩, p3, q4, F_integer_Mul, gif_bind ⟨q1, p2⟩, q3, p4, F_integer_Add, gif_bind ⟨II.di B1 (by omega), II.di B2 (by omega)⟩, iv_di, iv_di, F_natural_Mul, gif_bind ⟨p5, q5⟩, p6, q6]
  rw [made_div (II.di B3 (by omega)) (NN.dn B4 (by omega)) (by rw [nv_dn (by omega)]; exact hD), iv_di, nv_dn (by omega)]
  unfold rv
  rw [Rat.divInt_add_divInt _ _ (by omega) (by omega)]
theorem Rn_rational_Mul : Run_rational_Mul := fun a b => Ok.gif_const fun ⟨ha, hb⟩ => by
  obtain ⟨p, hp, p1, p2, p3, p4, p5, p6⟩ := parts_ok ha
  obtain ⟨q, hq, q1, q2, q3, q4, q5, q6⟩ := parts_ok hb
  have da := rd_pos ha
  have db := rd_pos hb
  have B1 := (rn_bd ha).ab_mul (rn_bd hb)
  have B4 := (rd_bd ha).mul (rd_bd hb)
  have hD := Int.mul_pos da db
  rw [T_rational_Mul, hp, Option.bind_some, hq, Option.bind_some, F_integer_Mul, gif_bind ⟨p1, q1⟩, p3, q3, F_natural_Mul, gif_bind ⟨p5, q5⟩, p6, q6]
  rw [made_div (II.di B1 (by omega)) (NN.dn B4 (by omega)) (by rw [nv_dn (by omega)]; exact hD), iv_di, nv_dn (by omega)]
  unfold rv
  rw [Rat.divInt_mul_divInt]
theorem ab_pos {x : Int} (h : 0 ≤ x) : ab x = x := by unfold ab; rw [if_neg (by omega)]
theorem Rn_rational_Cmp : Run_rational_Cmp := fun a b => Ok.gif_const fun ⟨ha, hb⟩ => by
  obtain ⟨p, hp, p1, p2, p3, p4, p5, p6⟩ := parts_ok ha
  obtain ⟨q, hq, q1, q2, q3, q4, q5, q6⟩ := parts_ok hb
  have da := rd_pos ha
  have db := rd_pos hb
  have B1 := (rn_bd ha).ab_mul (show Bd 33554432 (ab (rd b)) by rw [ab_pos (by omega)]; exact rd_bd hb)
  have B2 := (rn_bd hb).ab_mul (show Bd 33554432 (ab (rd a)) by rw [ab_pos (by omega)]; exact rd_bd ha)
  rw [T_rational_Cmp, hp, Option.bind_some, hq, Option.bind_some, F_integer_Sign, gif_bind p1, F_integer_Sign, gif_bind q1, p3, q3, F_integer_Mul, gif_bind ⟨p1, q2⟩, p3, q4, F_integer_Mul, gif_bind ⟨q1, p2⟩, q3, p4, F_integer_Cmp, gif_bind ⟨II.di B1 (by omega), II.di B2 (by omega)⟩, iv_di, iv_di]
  unfold rv
  rw [rcm_div da db]
  have s1 : ∀ {x y d e : Int}, 0 < d → 0 < e → sg x < sg y → x * e < y * d := fun {x y d e} hd he h => by
    unfold sg at h
    have a1 : x ≤ 0 := by (repeat' split at h) <;> omega
    have a2 : 0 ≤ y := by (repeat' split at h) <;> omega
    have a3 : x < 0 ∨ 0 < y := by (repeat' split at h) <;> omega
    have b1 : x * e ≤ 0 := Int.mul_nonpos_of_nonpos_of_nonneg a1 (by omega)
    have b2 : 0 ≤ y * d := Int.mul_nonneg a2 (by omega)
    rcases a3 with h1 | h1
    · have := Int.mul_neg_of_neg_of_pos h1 he; omega
    · have := Int.mul_pos h1 hd; omega
  by_cases h0 : sg (rn a) = sg (rn b)
  · rw [if_neg (by simpa using h0)]
  · rw [if_pos (by simpa using h0)]
    by_cases h1 : sg (rn b) < sg (rn a)
    · rw [if_pos (decide_eq_true h1), cm_of_gt (s1 db da h1)]
    · rw [if_neg (by simpa using h1), cm_of_lt (s1 da db (by omega))]
theorem QQ.neg {b : (Bool × List Int) × List Int} (h : QQ b) : QQ (di (-(iv b.1)), b.2) := by
  refine ⟨?_, h.2⟩
  show QD (dn (ab (-(iv b.1))))
  rw [ab_neg, iv_ab h.i]
  exact QD.dn h.1.bd (Nat.le_refl _)
theorem rv_neg {b : (Bool × List Int) × List Int} : rv (di (-(iv b.1)), b.2) = -(rv b) := by
  rw [rv_eq, rv_eq]
  dsimp only
  rw [iv_di]
  split
  · rfl
  · rw [Rat.neg_divInt]
theorem Rn_rational_Sub : Run_rational_Sub := fun a b => Ok.gif_const fun ⟨ha, hb⟩ => by
  rw [T_rational_Sub, F_integer_Neg, gif_bind hb.i, F_rational_Add, gif_bind ⟨ha, hb.neg⟩, rv_neg, Rat.sub_eq_add_neg]
theorem QB.rv' {q : (Bool × List Int) × List Int} (h : QQ q) {m : Nat} (h1 : q.1.2.length ≤ m) (h2 : q.2.length ≤ m) (hm : 1 ≤ m) : QB (32 * m) (Go.W.rv q) := by
  refine QB.mono (QB.div (j := 32 * m) (k := 32 * m) ?_ ?_ (rd_pos h)) (by simp)
  · unfold rn; split
    · exact Bd.zero _
    · rw [iv_ab h.i]; exact h.1.nn.val.mono (by omega)
  · unfold rd; split
    · exact Bd.mono (j := 1) (by rw [Bd1]; omega) (by omega)
    · exact h.2.nn.val.mono (by omega)
theorem half_ok : QQ (di 1, dn 2) ∧ rv (di 1, dn 2) = 1 / 2 := by
  constructor
  · exact ⟨QD.dn (k := 1) (by simp [ab]; rw [Bd1]; omega) (by omega), QD.dn (k := 2) (by constructor <;> decide) (by omega)⟩
  · rw [rv_eq]
    have : nv (dn 2) = 2 := nv_dn (by omega)
    rw [if_neg (by rw [this]; omega), iv_di, this, Rat.divInt_eq_div]
    rfl
theorem Rn_rational_Mid : Run_rational_Mid := fun a b => Ok.gif_const fun ⟨ha, hb, a1, a2, b1, b2⟩ => by
  have hq := (QB.rv' ha a1 a2 (by omega)).add (QB.rv' hb b1 b2 (by omega))
  rw [T_rational_Mid, F_rational_Add, gif_bind ⟨ha, hb⟩, F_integer_Of, gif_bind (by omega), F_natural_Of, gif_bind (p := Bd 64 2) (by rw [Bd64]; omega), F_rational_Mul, gif_bind ⟨QQ.dr hq (by omega), half_ok.1⟩, rv_dr, half_ok.2]
  congr 2
  grind
end Go.W

set_option linter.unusedVariables false
set_option linter.unusedSimpArgs false
namespace Go.W

/-! ### the reference: bits -/
theorem BB.w {b : List Int} (h : BB b) : BW b := ⟨h.1, by have := h.2; omega⟩
theorem BW.nonneg {b : List Int} (h : BW b) : 0 ≤ bv b := gv_nonneg (by decide) h.1
end Go.W

set_option linter.unusedVariables false
set_option linter.unusedSimpArgs false
namespace Go.W

theorem BW.bd {k : Nat} {n : Int} (h : Bd k n) (hk : k ≤ 4398046511104) : BW (Go.W.bd n) := ⟨gd_DV (by decide) n, Nat.le_trans (gd_len (by decide) _ n h.2) (by omega)⟩
end Go.W

set_option linter.unusedVariables false
set_option linter.unusedSimpArgs false
namespace Go.W

end Go.W

set_option linter.unusedVariables false
namespace Go.W
/-! ### the reference's integers and fractions -/
/-- the reference's fraction n/d -/
def mq (n d : Int) : (Int × List Int) × Int × List Int := (dz n, dz d)
def qn (q : (Int × List Int) × Int × List Int) : Int := zv q.1
def qd (q : (Int × List Int) × Int × List Int) : Int := zv q.2
def qv (q : (Int × List Int) × Int × List Int) : Rat := Rat.divInt (qn q) (qd q)
/-- fractions of at most k bits -/
def RQ (k : Nat) (q : (Int × List Int) × Int × List Int) : Prop := q = mq (qn q) (qd q) ∧ Bd k (ab (qn q)) ∧ Bd k (qd q) ∧ 0 < qd q
def RK : Nat := 1000000000
noncomputable def F_ref05_Cmp (a b : (Int × List Int) × Int × List Int) : Option Int := gif (RQ RK a ∧ RQ RK b) (rcm (qv a) (qv b))
noncomputable def F_ref05_Neg (a : (Int × List Int) × Int × List Int) : Option ((Int × List Int) × Int × List Int) := gif (RQ RK a) (mq (-(qn a)) (qd a))
noncomputable def F_ref05_Add (a b : (Int × List Int) × Int × List Int) : Option ((Int × List Int) × Int × List Int) := gif (RQ RK a ∧ RQ RK b) (mq (qn a * qd b + qn b * qd a) (qd a * qd b))
noncomputable def F_ref05_Mul (a b : (Int × List Int) × Int × List Int) : Option ((Int × List Int) × Int × List Int) := gif (RQ RK a ∧ RQ RK b) (mq (qn a * qn b) (qd a * qd b))
noncomputable def F_ref05_Quo (a b : (Int × List Int) × Int × List Int) : Option ((Int × List Int) × Int × List Int) := gif (RQ RK a ∧ RQ RK b ∧ qn b ≠ 0) (if qn b < 0 then mq (-(qn a * qd b)) (-(qd a * qn b)) else mq (qn a * qd b) (qd a * qn b))
noncomputable def F_ref05_Floor (a : (Int × List Int) × Int × List Int) : Option (Int × List Int) := gif (RQ RK a) (dz (qv a).floor)
/-! ### the laws' helpers -/
noncomputable def F_law05_of (a : (Bool × List Int) × List Int) : Option ((Int × List Int) × Int × List Int) := gif (QQ a) (mq (rn a) (rd a))
noncomputable def F_law05_is (a : (Bool × List Int) × List Int) (b : (Int × List Int) × Int × List Int) : Option Bool := gif (RQ RK b) (decide (a = dr (qv b)))
noncomputable def F_law05_same (a b : (Bool × List Int) × List Int) : Option Bool := gif (QQ a ∧ QQ b) (decide (rv a = rv b))
end Go.W

set_option linter.unusedVariables false
namespace Go.W
/-! ### texts -/
end Go.W

set_option linter.unusedVariables false
namespace Go.W
/-! ### the laws -/
end Go.W

set_option linter.unusedVariables false
namespace Go.W
noncomputable section

/-! cylinder/decimal.chunk -/
end
end Go.W

set_option linter.unusedVariables false
set_option linter.unusedSimpArgs false
namespace Go.W

/-! ### the reference's integers -/
theorem zv_dz (v : Int) : zv (dz v) = v := by
  unfold zv dz
  dsimp only
  rw [bv_bd (ab_nonneg v)]
  unfold sg ab; (repeat' split) <;> omega
theorem ZZ.dz {v : Int} (h : Bd 2199023255552 (ab v)) : ZZ (Go.W.dz v) := ⟨by rw [zv_dz]; exact h, by rw [zv_dz]⟩
theorem ZZ.bb {z : Int × List Int} (h : ZZ z) : BB z.2 := by
  rw [h.2]; exact BB.bd h.1 (Nat.le_refl _)
theorem ZZ.sign {z : Int × List Int} (h : ZZ z) : z.1 = sg (zv z) := by
  have := congrArg Prod.fst h.2
  exact this
theorem ZZ.bits {z : Int × List Int} (h : ZZ z) : bv z.2 = ab (zv z) := by
  have := congrArg Prod.snd h.2
  have e : z.2 = bd (ab (zv z)) := this
  rw [e, bv_bd (ab_nonneg _)]
end Go.W

set_option linter.unusedVariables false
set_option linter.unusedSimpArgs false
namespace Go.W

theorem ZZ.dz' {k : Nat} {v : Int} (h : Bd k (ab v)) (hk : k ≤ 2199023255552) : ZZ (Go.W.dz v) := ZZ.dz (h.mono hk)
theorem RK_le : RK = 1000000000 := rfl
theorem RQ.z1 {k : Nat} {a : (Int × List Int) × Int × List Int} (h : RQ k a) (hk : k ≤ 2199023255552) : ZZ a.1 := by
  have e : a.1 = dz (qn a) := congrArg Prod.fst h.1
  rw [e]; exact ZZ.dz' h.2.1 hk
theorem RQ.z2 {k : Nat} {a : (Int × List Int) × Int × List Int} (h : RQ k a) (hk : k ≤ 2199023255552) : ZZ a.2 := by
  have e : a.2 = dz (qd a) := congrArg Prod.snd h.1
  have := h.2.2.2
  rw [e]; exact ZZ.dz' (by rw [ab_pos (by omega)]; exact h.2.2.1) hk
theorem qn_mq (n d : Int) : qn (mq n d) = n := zv_dz n
theorem qd_mq (n d : Int) : qd (mq n d) = d := zv_dz d
theorem qv_mq (n d : Int) : qv (mq n d) = Rat.divInt n d := by unfold qv; rw [qn_mq, qd_mq]
theorem RQ.mq {k : Nat} {n d : Int} (h1 : Bd k (ab n)) (h2 : Bd k d) (h3 : 0 < d) : RQ k (Go.W.mq n d) := ⟨by rw [qn_mq, qd_mq], by rw [qn_mq]; exact h1, by rw [qd_mq]; exact h2, by rw [qd_mq]; exact h3⟩
theorem RQ.mono {j k : Nat} {a : (Int × List Int) × Int × List Int} (h : RQ j a) (hk : j ≤ k) : RQ k a := ⟨h.1, h.2.1.mono hk, h.2.2.1.mono hk, h.2.2.2⟩
end Go.W

set_option linter.unusedVariables false
set_option linter.unusedSimpArgs false
namespace Go.W

/-! ### decimal -/
end Go.W

set_option linter.unusedVariables false
set_option linter.unusedSimpArgs false
namespace Go.W

/-- the reference's fraction of a number that came in -/
theorem of_rq {a : (Bool × List Int) × List Int} (h : QQ a) {m : Nat} (h1 : a.1.2.length ≤ m) (h2 : a.2.length ≤ m) (hm : 1 ≤ m) : RQ (32 * m) (mq (rn a) (rd a)) := by
  refine RQ.mq ?_ ?_ (rd_pos h)
  · unfold rn; split
    · exact Bd.zero _
    · rw [iv_ab h.i]; exact h.1.nn.val.mono (by omega)
  · unfold rd; split
    · exact Bd.mono (j := 1) (by rw [Bd1]; omega) (by omega)
    · exact h.2.nn.val.mono (by omega)
theorem of_v (a : (Bool × List Int) × List Int) : qv (mq (rn a) (rd a)) = rv a := by rw [qv_mq]; rfl
end Go.W

set_option linter.unusedVariables false
namespace Go.W
/-! ### intervals -/
abbrev NQ := (Bool × List Int) × List Int
abbrev FQ := (Int × List Int) × Int × List Int
abbrev NI := ((Bool × List Int) × List Int) × (Bool × List Int) × List Int
def rmin (x y : Rat) : Rat := if y < x then y else x
def rmax (x y : Rat) : Rat := if x < y then y else x
def Q2 (a : NI) : Prop := QQ a.1 ∧ QQ a.2
def lo (a : NI) : Rat := rmin (rv a.1) (rv a.2)
def hi (a : NI) : Rat := rmax (rv a.1) (rv a.2)
def hiL (m : FQ) (l : List FQ) : FQ := l.foldl (fun m x => if qv m < qv x then x else m) m
end Go.W

set_option linter.unusedVariables false
namespace Go.W
noncomputable section

/-! cylinder/decimal.Parse -/
end
end Go.W

set_option linter.unusedVariables false
set_option linter.unusedSimpArgs false
namespace Go.W

/-! ### Numbers by their values -/
/-- a has the value r, of at most k bits -/
def QV (k : Nat) (a : NQ) (r : Rat) : Prop := QQ a ∧ rv a = r ∧ QB k r
/-- the reference's q has the value r, of at most k bits -/
def QR (k : Nat) (q : FQ) (r : Rat) : Prop := RQ k q ∧ qv q = r
theorem QV.dr {k : Nat} {r : Rat} (h : QB k r) (hk : k ≤ 33554432) : QV k (Go.W.dr r) r := ⟨QQ.dr h hk, rv_dr r, h⟩
theorem QV.of {a : NQ} (h : QQ a) {m : Nat} (h1 : a.1.2.length ≤ m) (h2 : a.2.length ≤ m) (hm : 1 ≤ m) : QV (32 * m) a (rv a) := ⟨h, rfl, QB.rv' h h1 h2 hm⟩

theorem V.add {j k : Nat} {a b : NQ} {r s : Rat} (ha : QV j a r) (hb : QV k b s) : F_rational_Add a b = some (dr (r + s)) := by rw [F_rational_Add, gif_pos ⟨ha.1, hb.1⟩, ha.2.1, hb.2.1]
theorem V.sub {j k : Nat} {a b : NQ} {r s : Rat} (ha : QV j a r) (hb : QV k b s) : F_rational_Sub a b = some (dr (r - s)) := by rw [F_rational_Sub, gif_pos ⟨ha.1, hb.1⟩, ha.2.1, hb.2.1]
theorem V.mul {j k : Nat} {a b : NQ} {r s : Rat} (ha : QV j a r) (hb : QV k b s) : F_rational_Mul a b = some (dr (r * s)) := by rw [F_rational_Mul, gif_pos ⟨ha.1, hb.1⟩, ha.2.1, hb.2.1]
theorem V.quo {j k : Nat} {a b : NQ} {r s : Rat} (ha : QV j a r) (hb : QV k b s) : F_rational_Quo a b = some (if s = 0 then (zQ, 2) else (dr (r / s), 0)) := by rw [F_rational_Quo, gif_pos ⟨ha.1, hb.1⟩, ha.2.1, hb.2.1]
theorem V.neg {j : Nat} {a : NQ} {r : Rat} (ha : QV j a r) : F_rational_Neg a = some (dr (-r)) := by rw [F_rational_Neg, gif_pos ha.1, ha.2.1]
theorem V.normal {j : Nat} {a : NQ} {r : Rat} (ha : QV j a r) : F_rational_Normal a = some (dr r) := by rw [F_rational_Normal, gif_pos ha.1, ha.2.1]
theorem V.sign {j : Nat} {a : NQ} {r : Rat} (ha : QV j a r) : F_rational_Sign a = some (rsg r) := by rw [F_rational_Sign, gif_pos ha.1, ha.2.1]
theorem V.cmp {j k : Nat} {a b : NQ} {r s : Rat} (ha : QV j a r) (hb : QV k b s) : F_rational_Cmp a b = some (rcm r s) := by rw [F_rational_Cmp, gif_pos ⟨ha.1, hb.1⟩, ha.2.1, hb.2.1]
theorem V.floor {j : Nat} {a : NQ} {r : Rat} (ha : QV j a r) : F_rational_Floor a = some (di r.floor) := by rw [F_rational_Floor, gif_pos ha.1, ha.2.1]
theorem V.same {j k : Nat} {a b : NQ} {r s : Rat} (ha : QV j a r) (hb : QV k b s) : F_law05_same a b = some (decide (r = s)) := by rw [F_law05_same, gif_pos ⟨ha.1, hb.1⟩, ha.2.1, hb.2.1]

theorem R.of {a : NQ} (h : QQ a) {m : Nat} (h1 : a.1.2.length ≤ m) (h2 : a.2.length ≤ m) (hm : 1 ≤ m) : ∃ q, F_law05_of a = some q ∧ QR (32 * m) q (rv a) :=
  ⟨_, by rw [F_law05_of, gif_pos h], of_rq h h1 h2 hm, of_v a⟩
theorem RQ.pos {k : Nat} {q : FQ} (h : RQ k q) : 0 < qd q := h.2.2.2
theorem RQ.k {k : Nat} {q : FQ} (h : RQ k q) (hk : k ≤ 1000000000) : RQ RK q := h.mono (by rw [RK_le]; exact hk)
theorem R.add {j k : Nat} {a b : FQ} {r s : Rat} (ha : QR j a r) (hb : QR k b s) (hj : j ≤ 1000000000 ∧ k ≤ 1000000000) : ∃ q, F_ref05_Add a b = some q ∧ QR (j + k + 1) q (r + s) := by
  refine ⟨_, by rw [F_ref05_Add, gif_pos ⟨ha.1.k hj.1, hb.1.k hj.2⟩], RQ.mq ?_ ?_ (Int.mul_pos ha.1.pos hb.1.pos), ?_⟩
  · exact (((ha.1.2.1).ab_mul (by rw [ab_pos (Int.le_of_lt hb.1.pos)]; exact hb.1.2.2.1)).ab_add ((hb.1.2.1).ab_mul (by rw [ab_pos (Int.le_of_lt ha.1.pos)]; exact ha.1.2.2.1))).mono (by omega)
  · exact (ha.1.2.2.1.mul hb.1.2.2.1).mono (by omega)
  · rw [qv_mq, ← ha.2, ← hb.2]
    exact (Rat.divInt_add_divInt _ _ (by have := ha.1.pos; omega) (by have := hb.1.pos; omega)).symm
theorem R.mul {j k : Nat} {a b : FQ} {r s : Rat} (ha : QR j a r) (hb : QR k b s) (hj : j ≤ 1000000000 ∧ k ≤ 1000000000) : ∃ q, F_ref05_Mul a b = some q ∧ QR (j + k) q (r * s) := by
  refine ⟨_, by rw [F_ref05_Mul, gif_pos ⟨ha.1.k hj.1, hb.1.k hj.2⟩], RQ.mq (ha.1.2.1.ab_mul hb.1.2.1) (ha.1.2.2.1.mul hb.1.2.2.1) (Int.mul_pos ha.1.pos hb.1.pos), ?_⟩
  rw [qv_mq, ← ha.2, ← hb.2]
  exact (Rat.divInt_mul_divInt _ _).symm
theorem R.neg {j : Nat} {a : FQ} {r : Rat} (ha : QR j a r) (hj : j ≤ 1000000000) : ∃ q, F_ref05_Neg a = some q ∧ QR j q (-r) := by
  refine ⟨_, by rw [F_ref05_Neg, gif_pos (ha.1.k hj)], RQ.mq (by rw [ab_neg]; exact ha.1.2.1) ha.1.2.2.1 ha.1.pos, ?_⟩
  rw [qv_mq, ← ha.2]
  exact (Rat.neg_divInt _ _).symm
theorem QR.zero {j : Nat} {a : FQ} {r : Rat} (ha : QR j a r) : qn a = 0 ↔ r = 0 := by
  rw [← ha.2]; exact (divInt_eq0 ha.1.pos).symm
theorem R.quo {j k : Nat} {a b : FQ} {r s : Rat} (ha : QR j a r) (hb : QR k b s) (hj : j ≤ 1000000000 ∧ k ≤ 1000000000) (h0 : s ≠ 0) : ∃ q, F_ref05_Quo a b = some q ∧ QR (j + k) q (r / s) := by
  have hn : qn b ≠ 0 := fun h => h0 (hb.zero.1 h)
  have e : r / s = Rat.divInt (qn a * qd b) (qd a * qn b) := by
    rw [← ha.2, ← hb.2, Rat.div_def]
    unfold qv
    rw [Rat.inv_divInt, Rat.divInt_mul_divInt]
  have b1 : Bd (j + k) (ab (qn a * qd b)) := (ha.1.2.1).ab_mul (by rw [ab_pos (Int.le_of_lt hb.1.pos)]; exact hb.1.2.2.1)
  have b2 : Bd (j + k) (ab (qd a * qn b)) := by
    have := (show Bd j (ab (qd a)) by rw [ab_pos (Int.le_of_lt ha.1.pos)]; exact ha.1.2.2.1).ab_mul hb.1.2.1
    exact this
  refine ⟨_, by rw [F_ref05_Quo, gif_pos ⟨ha.1.k hj.1, hb.1.k hj.2, hn⟩], ?_⟩
  by_cases h1 : qn b < 0
  · have h2 : qd a * qn b < 0 := Int.mul_neg_of_pos_of_neg ha.1.pos h1
    rw [if_pos h1]
    refine ⟨RQ.mq (by rw [ab_neg]; exact b1) ?_ (by omega), ?_⟩
    · rw [show ab (qd a * qn b) = -(qd a * qn b) by unfold ab; rw [if_pos h2]] at b2; exact b2
    · rw [qv_mq, Rat.neg_divInt_neg, e]
  · have h2 : 0 < qd a * qn b := Int.mul_pos ha.1.pos (by omega)
    rw [if_neg h1]
    refine ⟨RQ.mq b1 ?_ h2, ?_⟩
    · rw [ab_pos (Int.le_of_lt h2)] at b2; exact b2
    · rw [qv_mq, e]
theorem R.is {j : Nat} {q : FQ} {r : Rat} (h : QR j q r) (hj : j ≤ 1000000000) (a : NQ) : F_law05_is a q = some (decide (a = dr r)) := by rw [F_law05_is, gif_pos (h.1.k hj), h.2]
theorem R.cmp {j k : Nat} {a b : FQ} {r s : Rat} (ha : QR j a r) (hb : QR k b s) (hj : j ≤ 1000000000 ∧ k ≤ 1000000000) : F_ref05_Cmp a b = some (rcm r s) := by
  rw [F_ref05_Cmp, gif_pos ⟨ha.1.k hj.1, hb.1.k hj.2⟩, ha.2, hb.2]
theorem R.floor {j : Nat} {a : FQ} {r : Rat} (ha : QR j a r) (hj : j ≤ 1000000000) : F_ref05_Floor a = some (dz r.floor) := by
  rw [F_ref05_Floor, gif_pos (ha.1.k hj), ha.2]
theorem QR.sign {j : Nat} {a : FQ} {r : Rat} (ha : QR j a r) : a.1.1 = rsg r := by
  have e : a.1 = dz (qn a) := congrArg Prod.fst ha.1.1
  rw [e, ← ha.2]
  exact (rsg_div ha.1.pos).symm
theorem rsg0 {r : Rat} : rsg r = 0 ↔ r = 0 := by
  unfold rsg
  (repeat' split) <;> rename_i h1 <;> simp_all
  intro h; subst h; exact absurd h1 (Rat.lt_irrefl)
end Go.W

set_option linter.unusedVariables false
set_option linter.unusedSimpArgs false
namespace Go.W

/-! ### Polynomials: lists of coefficients, lowest first -/
/-- without leading zeros -/
def trimL : List Int → List Int
  | [] => []
  | c :: l => if c = 0 ∧ trimL l = [] then [] else c :: trimL l
def TL (l : List Int) : Prop := trimL l = l
theorem trimL_idem : ∀ l : List Int, trimL (trimL l) = trimL l
  | [] => rfl
  | c :: l => by
    simp only [trimL]
    split
    · rfl
    · rename_i h
      simp only [trimL, trimL_idem l]
      rw [if_neg h]
theorem trimL_tl (l : List Int) : TL (trimL l) := trimL_idem l
theorem trimL_len : ∀ l : List Int, (trimL l).length ≤ l.length
  | [] => Nat.le_refl _
  | c :: l => by
    have := trimL_len l
    simp only [trimL]
    split
    · simp
    · simp; omega
theorem trimL_get : ∀ (l : List Int) (i : Nat), (trimL l).getD i 0 = l.getD i 0
  | [], i => rfl
  | c :: l, i => by
    have ih := trimL_get l
    simp only [trimL]
    split
    · rename_i h
      obtain ⟨rfl, h⟩ := h
      cases i with
      | zero => rfl
      | succ i => have := ih i; rw [h] at this; simpa using this
    · cases i with
      | zero => rfl
      | succ i => have := ih i; simpa using this
/-- a cut list begins as the list itself -/
theorem trimL_take : ∀ l : List Int, trimL l = l.take (trimL l).length
  | [] => rfl
  | c :: l => by
    have ih := trimL_take l
    simp only [trimL]
    split
    · rfl
    · rw [List.length_cons, List.take_succ_cons, ← ih]
theorem trimL_nil {l : List Int} : trimL l = [] ↔ ∀ i, l.getD i 0 = 0 := by
  constructor
  · intro h i; rw [← trimL_get, h]; simp
  · intro h
    induction l with
    | nil => rfl
    | cons c l ih =>
      have h0 := h 0
      have := ih fun i => by simpa using h (i + 1)
      simp only [trimL]
      rw [if_pos ⟨by simpa using h0, this⟩]
theorem trimL_ext {a b : List Int} (h : ∀ i, a.getD i 0 = b.getD i 0) : trimL a = trimL b := by
  induction a generalizing b with
  | nil =>
    rw [(trimL_nil (l := b)).2 fun i => by rw [← h i]; simp]; rfl
  | cons c a ih =>
    cases b with
    | nil => rw [(trimL_nil (l := c :: a)).2 fun i => by rw [h i]; simp]; rfl
    | cons d b =>
      have h0 : c = d := by simpa using h 0
      have := ih (b := b) fun i => by simpa using h (i + 1)
      simp only [trimL, this, h0]
theorem TL.ext {a b : List Int} (ha : TL a) (hb : TL b) (h : ∀ i, a.getD i 0 = b.getD i 0) : a = b := by
  rw [← ha, ← hb]; exact trimL_ext h
theorem TL.last {l : List Int} (h : TL l) (h0 : l ≠ []) : l.getD (l.length - 1) 0 ≠ 0 := by
  induction l with
  | nil => exact absurd rfl h0
  | cons c l ih =>
    unfold TL at h
    simp only [trimL] at h
    split at h
    · cases h
    · rename_i hn
      injection h with _ h
      cases l with
      | nil => simpa [trimL] using hn
      | cons d l =>
        have := ih h (by simp)
        simpa using this
theorem TL.of_last {l : List Int} (h : l ≠ [] → l.getD (l.length - 1) 0 ≠ 0) : TL l := by
  induction l with
  | nil => rfl
  | cons c l ih =>
    unfold TL
    have h1 := h (by simp)
    cases l with
    | nil =>
      simp only [trimL]
      rw [if_neg]
      rintro ⟨rfl, _⟩
      simp at h1
    | cons d l =>
      have e : trimL (d :: l) = d :: l := ih fun _ => by simpa using h1
      show (if c = 0 ∧ trimL (d :: l) = [] then [] else c :: trimL (d :: l)) = c :: d :: l
      rw [if_neg (by rw [e]; simp), e]
theorem TL.nil : TL [] := rfl
/-- how long the list without its leading zeros is: the program's loop -/
theorem trimL_length_cut {l : List Int} {n : Nat} (hn : n ≤ l.length) (h0 : ∀ i, n ≤ i → l.getD i 0 = 0) (h1 : n = 0 ∨ l.getD (n - 1) 0 ≠ 0) : (trimL l).length = n := by
  rcases Nat.lt_trichotomy (trimL l).length n with h | h | h
  · exfalso
    rcases h1 with h1 | h1
    · omega
    · apply h1
      rw [← trimL_get]
      simp [List.getD, List.getElem?_eq_none (show (trimL l).length ≤ n - 1 by omega)]
  · exact h
  · exfalso
    have hne : trimL l ≠ [] := by intro e; rw [e] at h; simp at h
    have := (trimL_tl l).last hne
    rw [trimL_get] at this
    exact this (h0 _ (by omega))
end Go.W

set_option linter.unusedVariables false
namespace Go.W
/-! ### polynomials with integer coefficients -/
abbrev NP := List (Bool × List Int)
def pv (f : NP) : List Int := f.map iv
def dp (l : List Int) : NP := l.map di
def KP : Nat := 1000000000000
def PB (k : Nat) (l : List Int) : Prop := ∀ c ∈ l, Bd k (ab c)
/-- what comes in: at most 1000 coefficients, bounded -/
def PP (f : NP) : Prop := f.length ≤ 1000 ∧ (∀ c ∈ f, II c) ∧ PB KP (pv f)
def CC (c : Bool × List Int) : Prop := II c ∧ Bd KP (ab (iv c))
/-- the leading coefficient of a list without leading zeros -/
def lc (l : List Int) : Int := l.getD (l.length - 1) 0
def cmb (op : Int → Int → Int) (a b : List Int) : List Int := (List.range (max a.length b.length)).map fun i => op (a.getD i 0) (b.getD i 0)
def addL (a b : List Int) : List Int := trimL (cmb (· + ·) a b)
def subL (a b : List Int) : List Int := trimL (cmb (· - ·) a b)
def scl (c : Int) (l : List Int) : List Int := trimL (l.map fun x => c * x)
def shf (c : Int) (n : Nat) (l : List Int) : List Int := List.replicate n 0 ++ scl c l
def derL (l : List Int) : List Int := (List.range (l.length - 1)).map fun i => l.getD (i + 1) 0 * ((i + 1 : Nat) : Int)
noncomputable def F_unipoly_trim (f : NP) : Option NP := gif (PP f) (f.take (trimL (pv f)).length)
noncomputable def O_unipoly_trim (l : NP) : Option (NP × Option Int) := gif (PP l) (l, if (trimL (pv l)).length = 0 then none else some ((trimL (pv l)).length : Int))
noncomputable def F_unipoly_Of (l : List Int) : Option NP := gif (l.length ≤ 1000 ∧ ∀ c ∈ l, -9223372036854775808 ≤ c ∧ c ≤ 9223372036854775807) (dp (trimL l))
noncomputable def F_unipoly_Normal (f : NP) : Option NP := gif (PP f) (dp (trimL (pv f)))
noncomputable def F_unipoly_Degree (f : NP) : Option Int := gif (PP f) (((trimL (pv f)).length : Int) - 1)
noncomputable def F_unipoly_Lead (f : NP) : Option (Bool × List Int) := gif (PP f) (di (lc (trimL (pv f))))
noncomputable def F_unipoly_combine_Add (f g : NP) (_ : Unit) : Option NP := gif (PP f ∧ PP g) (dp (cmb (· + ·) (pv f) (pv g)))
noncomputable def F_unipoly_combine_Sub (f g : NP) (_ : Unit) : Option NP := gif (PP f ∧ PP g) (dp (cmb (· - ·) (pv f) (pv g)))
noncomputable def F_unipoly_Add (f g : NP) : Option NP := gif (PP f ∧ PP g ∧ PB (KP - 1) (pv f) ∧ PB (KP - 1) (pv g)) (dp (addL (pv f) (pv g)))
noncomputable def F_unipoly_Sub (f g : NP) : Option NP := gif (PP f ∧ PP g ∧ PB (KP - 1) (pv f) ∧ PB (KP - 1) (pv g)) (dp (subL (pv f) (pv g)))
noncomputable def F_unipoly_Neg (f : NP) : Option NP := gif (PP f ∧ PB (KP - 1) (pv f)) (dp (subL [] (pv f)))
/-- products stay in the bound -/
def MB (f : NP) (c : Int) : Prop := ∃ j k, PB j (pv f) ∧ Bd k (ab c) ∧ j + k ≤ KP
noncomputable def F_unipoly_Scale (f : NP) (c : Bool × List Int) : Option NP := gif (PP f ∧ CC c ∧ MB f (iv c)) (dp (scl (iv c) (pv f)))
noncomputable def F_unipoly_Derivative (f : NP) : Option NP := gif (PP f ∧ PB 900000000000 (pv f)) (dp (derL (trimL (pv f))))
/-- homogeneous: times the denominator to the degree -/
def evZ : List Int → Int → Int → Int
  | [], _, _ => 0
  | c :: l, n, d => c * d ^ l.length + n * evZ l n d
def evR : List Int → Rat → Rat
  | [], _ => 0
  | c :: l, x => (c : Rat) + x * evR l x
noncomputable def F_unipoly_scaled (f : NP) (a : NQ) : Option ((Bool × List Int) × (Bool × List Int)) := gif (f.length ≤ 100 ∧ (∀ c ∈ f, II c) ∧ PB 1000000000 (pv f) ∧ QQ a ∧ QB 1000 (rv a)) (di (if trimL (pv f) = [] then 1 else ((rv a).den : Int) ^ ((trimL (pv f)).length - 1)), di (evZ (trimL (pv f)) (rv a).num ((rv a).den : Int)))
noncomputable def F_unipoly_SignAt (f : NP) (a : NQ) : Option Int := gif (f.length ≤ 100 ∧ (∀ c ∈ f, II c) ∧ PB 1000000000 (pv f) ∧ QQ a ∧ QB 1000 (rv a)) (rsg (evR (pv f) (rv a)))
noncomputable def F_unidiv_zero (f : NP) : Option Bool := gif (PP f) (decide (trimL (pv f) = []))
noncomputable def F_unidiv_shifted (f : NP) (c : Bool × List Int) (n : Int) : Option NP := gif (PP f ∧ CC c ∧ MB f (iv c) ∧ 0 ≤ n ∧ n ≤ 1000) (dp (shf (iv c) n.toNat (pv f)))
noncomputable def F_unidiv_power (a : Bool × List Int) (n : Int) : Option (Bool × List Int) := gif (CC a ∧ 0 ≤ n ∧ n ≤ 1000 ∧ ∃ k, Bd k (ab (iv a)) ∧ (k : Int) * n + 1 ≤ KP) (di (iv a ^ n.toNat))
def psL (g : List Int) : Nat → List Int → List Int → Int → List Int × List Int × Int
  | 0, q, r, left => (q, r, left)
  | n + 1, q, r, left => if g.length ≤ r.length then psL g n (addL (scl (lc g) q) (shf (lc r) (r.length - g.length) [1])) (subL (scl (lc g) r) (shf (lc r) (r.length - g.length) g)) (left - 1) else (q, r, left)
/-- pseudo-division of lists without leading zeros -/
def pseudo (f g : List Int) : List Int × List Int :=
  match psL g (f.length + 1) [] f ((f.length : Int) - g.length + 1) with
  | (q, r, left) => if 0 < left then (scl (lc g ^ left.toNat) q, scl (lc g ^ left.toNat) r) else (q, r)
/-- room for a division -/
def DB (f g : NP) : Prop := f.length ≤ 100 ∧ g.length ≤ 100 ∧ ∃ j k, PB j (pv f) ∧ PB k (pv g) ∧ j + (f.length + 2) * (k + 4) ≤ 900000000000
noncomputable def F_unidiv_Pseudo (f g : NP) : Option (NP × NP × Int) := gif (PP f ∧ PP g ∧ DB f g) (if trimL (pv g) = [] then ([], [], 2) else (dp (pseudo (trimL (pv f)) (trimL (pv g))).1, dp (pseudo (trimL (pv f)) (trimL (pv g))).2, 0))
def exL (g : List Int) : Nat → List Int → List Int → Option (List Int × List Int)
  | 0, q, r => some (q, r)
  | n + 1, q, r => if g.length ≤ r.length then (if Int.tmod (lc r) (lc g) = 0 then exL g n (q.set (r.length - g.length) (Int.tdiv (lc r) (lc g))) (subL r (shf (Int.tdiv (lc r) (lc g)) (r.length - g.length) g)) else none) else some (q, r)
/-- exact division of lists without leading zeros -/
def exact (f g : List Int) : Option (List Int) :=
  match exL g (f.length + 1) (List.replicate (f.length + 1 - g.length) 0) f with
  | some (q, []) => some (trimL q)
  | _ => none
noncomputable def F_unidiv_Exact (f g : NP) : Option (NP × Int) := gif (PP f ∧ PP g ∧ DB f g) (if trimL (pv g) = [] then ([], 2) else match exact (trimL (pv f)) (trimL (pv g)) with
  | some q => (dp q, 0)
  | none => ([], 3))
/-- the greatest common divisor of the coefficients -/
def gcdL : List Int → Int
  | [] => 0
  | c :: l => (Int.gcd c (gcdL l) : Int)
noncomputable def F_unidiv_Content (f : NP) : Option (Bool × List Int) := gif (PP f) (di (gcdL (pv f)))
/-! ### Sturm chains -/
def redL (l : List Int) : List Int := (trimL l).map fun c => Int.tdiv c (gcdL l)
noncomputable def F_sturm_reduced (f : NP) : Option NP := gif (PP f) (dp (redL (pv f)))
def nrm (f g : List Int) : List Int := if lc g < 0 ∧ ((f.length : Int) - g.length + 1 ≥ 0 ∧ Int.tmod ((f.length : Int) - g.length + 1) 2 = 1) then redL (pseudo f g).2 else subL [] (redL (pseudo f g).2)
noncomputable def F_sturm_negRemainder (f g : NP) : Option NP := gif (PP f ∧ PP g ∧ DB f g ∧ trimL (pv g) ≠ []) (dp (nrm (trimL (pv f)) (trimL (pv g))))
def chF : Nat → List Int → List Int → List (List Int)
  | 0, a, b => [a]
  | n + 1, a, b => if b = [] then [a] else a :: chF n b (nrm a b)
def chL (f g : List Int) : List (List Int) := if redL f = [] then [] else chF 100 (redL f) (redL g)
/-- small enough for a chain -/
def SP (f : NP) : Prop := f.length ≤ 14 ∧ (∀ c ∈ f, II c) ∧ PB 100 (pv f)
noncomputable def F_sturm_Chain (f g : NP) : Option (List NP) := gif (SP f ∧ SP g) ((chL (pv f) (pv g)).map dp)
noncomputable def F_sturm_Of (f : NP) : Option (List NP) := gif (SP f ∧ PB 90 (pv f)) ((chL (pv f) (derL (trimL (pv f)))).map dp)
/-- sign changes, zeros left out -/
def chg : Int → List Int → Int
  | _, [] => 0
  | last, s :: l => (if s * last < 0 then 1 else 0) + chg (if s ≠ 0 then s else last) l
def Sg (l : List Int) : Prop := l.length ≤ 1000 ∧ ∀ s ∈ l, -1 ≤ s ∧ s ≤ 1
noncomputable def F_sturm_changes (l : List Int) : Option Int := gif (Sg l) (chg 0 l)
def vA (ch : List (List Int)) (x : Rat) : Int := chg 0 (ch.map fun f => rsg (evR f x))
noncomputable def F_sturm_Variations (ch : List NP) (a : NQ) : Option Int := gif (ch.length ≤ 1000 ∧ (∀ f ∈ ch, f.length ≤ 100 ∧ (∀ c ∈ f, II c) ∧ PB 1000000000 (pv f)) ∧ QQ a ∧ QB 1000 (rv a)) (vA (ch.map pv) (rv a))
noncomputable def F_law15_Rat (q : List Int) : Option NQ := gif (q.length = 2 ∧ ∀ c ∈ q, -128 ≤ c ∧ c ≤ 127) (dr (Rat.divInt (if q.getD 1 0 < 0 then -(q.getD 0 0) else q.getD 0 0) (if q.getD 1 0 = 0 then 1 else ab (q.getD 1 0))))
noncomputable def F_ref15_Frac (q : List Int) : Option (Int × Int) := gif (q.length = 2 ∧ ∀ c ∈ q, -128 ≤ c ∧ c ≤ 127) (if q.getD 1 0 < 0 then -(q.getD 0 0) else q.getD 0 0, if q.getD 1 0 = 0 then 1 else ab (q.getD 1 0))
end Go.W

