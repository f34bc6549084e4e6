/- A part of the proof: texts P37, P38, P39, P40, P41, P42, P43, Rev, IdxB. What is proved in the end stands in the last file. -/
import Derived.Test.YtgjgjobaohakgaaWv3
import Derived.Laws.Strings
import Derived.Test.YtgjgjobaohakgaaProg
import Derived.Shelf.RegionOpenPlain
import Derived.WalkKit
import Derived.Deep.LoopGhost
import Derived.Lib.Walk
import Derived.Sort.WalkB12
import Derived.Lib.SlicesMore
import Derived.Lib.Bytealg
import Derived.Shelf.Strings.Search1
set_option linter.unusedVariables false
set_option linter.unusedSimpArgs false
set_option linter.unusedSectionVars false
set_option linter.unusedVariables false
set_option linter.unusedSimpArgs false
namespace Go.W

/-! ### reading decimal digits -/
theorem digL_append : ∀ (a b : List Int), digL (a ++ b) = match digL a, digL b with | some x, some y => some (x * 10 ^ b.length + y) | _, _ => none
  | [], b => by cases h : digL b <;> simp [digL, h]
  | d :: a, b => by
    have ih := digL_append a b
    simp only [List.cons_append, digL]
    by_cases hd : 48 ≤ d ∧ d ≤ 57
    · rw [if_pos hd, if_pos hd, ih]
      cases digL a with
      | none => rfl
      | some x =>
        cases digL b with
        | none => rfl
        | some y =>
          simp only [Option.map_some, Option.some.injEq]
          rw [List.length_append, Int.pow_add]; grind
    · rw [if_neg hd, if_neg hd]
theorem digL_bd : ∀ (l : List Int) (v : Int), digL l = some v → 0 ≤ v ∧ v < 10 ^ l.length
  | [], v, h => by simp [digL] at h; subst h; decide
  | d :: l, v, h => by
    simp only [digL] at h
    split at h
    · rename_i hd
      cases hl : digL l with
      | none => rw [hl] at h; cases h
      | some x =>
        rw [hl] at h
        simp only [Option.map_some, Option.some.injEq] at h
        obtain ⟨h0, h1⟩ := digL_bd l x hl
        have hp : (0 : Int) < 10 ^ l.length := Int.pow_pos (by decide)
        have e : (10 : Int) ^ (d :: l).length = 10 ^ l.length * 10 := Int.pow_succ 10 l.length
        rw [e]
        generalize (10 : Int) ^ l.length = P at *
        have m1 : (d - 48) * P ≤ 9 * P := Int.mul_le_mul_of_nonneg_right (by omega) (by omega)
        have m0 : 0 ≤ (d - 48) * P := Int.mul_nonneg (by omega) (by omega)
        omega
    · cases h
theorem toB_len (s : ByteArray) : (toB s).length = ByteArray.size s := by unfold toB; rw [List.length_map, Array.length_toList]; rfl
theorem toB_extract (s : ByteArray) (i j : Nat) : toB (ByteArray.extract s i j) = ((toB s).drop i).take (j - i) := by
  unfold toB
  rw [ByteArray.data_extract, Array.toList_extract, List.extract_eq_take_drop, List.map_take, List.map_drop]
theorem toB_range (s : ByteArray) : ∀ d ∈ toB s, 0 ≤ d ∧ d < 256 := by
  intro d hd
  unfold toB at hd
  obtain ⟨b, _, rfl⟩ := List.mem_map.1 hd
  have := b.toNat_lt
  omega
theorem bt_getD (s : ByteArray) (i : Nat) (h : i < ByteArray.size s) : bt s (i : Int) = (toB s).getD i 0 := by
  unfold bt toB
  have h' : i < s.data.size := h
  rw [Int.toNat_natCast]
  simp only [List.getD, List.getElem?_map, Array.getElem?_toList]
  rw [Array.getD, dif_pos h', Array.getElem?_eq_getElem h']; rfl
theorem digL_none {a b : List Int} (h : digL a = none) : digL (a ++ b) = none := by rw [digL_append, h]
theorem digL_snoc {a : List Int} {c v : Int} (h : digL a = some v) (hc : 48 ≤ c ∧ c ≤ 57) : digL (a ++ [c]) = some (v * 10 + (c - 48)) := by
  rw [digL_append, h]; simp [digL, hc]
theorem digL_bad {a : List Int} {c : Int} (hc : ¬ (48 ≤ c ∧ c ≤ 57)) : digL (a ++ [c]) = none := by
  rw [digL_append]; cases digL a <;> simp [digL, hc]

abbrev zZ0 : Bool × List Int := (false, [])
abbrev failR : (Bool × List Int) × Int := ((false, []), 6)
def resR (neg : Bool) (A : Int) (l : List Int) : (Bool × List Int) × Int := match digL l with
  | none => failR
  | some v => (di (if neg = true then -(A * 10 ^ l.length + v) else A * 10 ^ l.length + v), 0)
theorem ten_Bd {A : Int} {t : Nat} (h0 : 0 ≤ A) (h : A < 10 ^ t) : Bd (4 * t) A := ⟨h0, by
  have e : (2 : Int) ^ (4 * t) = 16 ^ t := by rw [Int.pow_mul]; rfl
  rw [e]
  exact Int.lt_of_lt_of_le h (by exact_mod_cast Nat.pow_le_pow_left (by decide) t)⟩

theorem Rn_decimal_read : Run_decimal_read := fun s8 s16 s24 s37 s49 k8 k16 k24 k37 k49 s b => Ok.gif fun ⟨hb, hs⟩ => by
  subst hb
  -- one chunk
  have l49 : ∀ (x0 : ByteArray) (neg : Bool) (X : List Int) (z : Bool × List Int) (C : List Int) (R : (Bool × List Int) × Int), (∀ d ∈ C, 0 ≤ d ∧ d < 256) → C.length ≤ 9 → (digL C = none → R = failR) →
      (∀ v, digL C = some v → Ev (fun m => s49 m x0 10 neg 9 X v (10 ^ C.length) C (C.length : Int) (C.length : Int) z) R) →
      ∀ (d j : Nat) (v : Int), j + d = C.length → digL (C.take j) = some v → Ev (fun m => s49 m x0 10 neg 9 X v (10 ^ j) C (C.length : Int) (j : Int) z) R := by
    intro x0 neg X z C R hC hl hbad hgood d
    induction d with
    | zero =>
      intro j v hj hv
      have hj' : j = C.length := by omega
      subst hj'
      rw [List.take_length] at hv
      exact hgood v hv
    | succ d ih =>
      intro j v hj hv
      have hjl : j < C.length := by omega
      obtain ⟨c0, c1⟩ := hC C[j] (List.getElem_mem hjl)
      have hg : List.getD C (Int.toNat (j : Int)) 0 = C[j] := by rw [Int.toNat_natCast]; simp [List.getD, hjl]
      have htk : C.take (j + 1) = C.take j ++ [C[j]] := by rw [List.take_add_one, List.getElem?_eq_getElem hjl]; rfl
      have hr : (0 : Int) ≤ (j : Int) ∧ (j : Int) < (C.length : Int) := by omega
      obtain ⟨v0, v1⟩ := digL_bd _ _ hv
      have hlen : (C.take j).length = j := by simp; omega
      rw [hlen] at v1
      have hp : (10 : Int) ^ j ≤ 10 ^ 8 := by exact_mod_cast Nat.pow_le_pow_right (by decide) (show j ≤ 8 by omega)
      have hp0 : (0 : Int) < 10 ^ j := Int.pow_pos (by decide)
      have e8 : (10 : Int) ^ 8 = 100000000 := rfl
      have w2 : ∀ n : Int, 0 ≤ n → n < 4294967296 → IntKind.wrap .u32 n = n := fun n a b => by rw [IntKind.wrap_u32]; omega
      by_cases hd : 48 ≤ C[j] ∧ C[j] ≤ 57
      · have := ih (j + 1) (v * 10 + (C[j] - 48)) (by omega) (by rw [htk]; exact digL_snoc hv hd)
        refine Ev.step (fun m => ?_) this
        rw [k49]; unfold S_decimal_read_49
        rw [if_pos (by rw [decide_eq_true_eq]; omega), if_pos hr, hg, F_decimal_digit, gif_bind ⟨c0, c1⟩, if_pos hd, if_neg (by rw [decide_eq_true_eq]; omega), w2 (v * 10) (by omega) (by omega), w2 _ (by omega) (by omega), w2 _ (by omega) (by omega), i64w (by omega) (by omega), ← Int.pow_succ]
        rfl
      · have hn : digL C = none := by
          rw [← List.take_append_drop (j + 1) C, htk]; exact digL_none (digL_bad hd)
        rw [hbad hn]
        refine Ev.step (t := fun _ => some failR) (fun m => ?_) Ev.ret
        rw [k49]; unfold S_decimal_read_49
        rw [if_pos (by rw [decide_eq_true_eq]; omega), if_pos hr, hg, F_decimal_digit, gif_bind ⟨c0, c1⟩, if_neg hd, if_pos (by rw [decide_eq_true_eq]; split <;> omega)]
  -- all chunks
  have l37 : ∀ (n : Nat) (x0 : ByteArray) (neg : Bool) (A : Int) (t : Nat) (z : Bool × List Int), ByteArray.size x0 ≤ n → t + ByteArray.size x0 ≤ 1000000 → 0 ≤ A → A < 10 ^ t → Ev (fun m => s37 m x0 10 neg 9 (dn A) z) (resR neg A (toB x0)) := by
    intro n
    induction n with
    | zero =>
      intro x0 neg A t z hn ht h0 h1
      have hz : ByteArray.size x0 = 0 := by omega
      have hb := toB_len x0
      have hnil : toB x0 = [] := List.length_eq_zero_iff.1 (by omega)
      have hA := ten_Bd h0 h1
      have hN : NN (dn A) := NN.dn hA (by omega)
      have hi : iv (neg, dn A) = if neg = true then -A else A := by
        unfold iv; rw [nv_dn h0]
      refine Ev.step (t := fun _ => some (resR neg A (toB x0))) (fun m => ?_) Ev.ret
      rw [k37]; unfold S_decimal_read_37
      rw [if_neg (by rw [decide_eq_true_eq]; omega), F_integer_From, gif_bind hN, hi, hnil]
      unfold resR
      simp [digL]
    | succ n ih =>
      intro x0 neg A t z hn ht h0 h1
      by_cases hz : ByteArray.size x0 = 0
      · exact ih x0 neg A t z (by omega) ht h0 h1
      · have hb := toB_len x0
        have hv : ∃ k : Nat, (if (ByteArray.size x0 : Int) < 9 then (ByteArray.size x0 : Int) else 9) = (k : Int) ∧ k ≤ 9 ∧ 1 ≤ k ∧ k ≤ ByteArray.size x0 := by
          by_cases h9 : (ByteArray.size x0 : Int) < 9
          · exact ⟨ByteArray.size x0, by rw [if_pos h9], by omega, by omega, by omega⟩
          · exact ⟨9, by rw [if_neg h9]; rfl, by omega, by omega, by omega⟩
        obtain ⟨k, ek, k9, k1', ks⟩ := hv
        have hC : toB (ByteArray.extract x0 0 k) = (toB x0).take k := by rw [toB_extract]; simp
        have hD : toB (ByteArray.extract x0 k (ByteArray.size x0)) = (toB x0).drop k := by
          rw [toB_extract, List.take_of_length_le (by simp; omega)]
        have hCl : (toB (ByteArray.extract x0 0 k)).length = k := by rw [hC]; simp; omega
        have hDl : ByteArray.size (ByteArray.extract x0 k (ByteArray.size x0)) = ByteArray.size x0 - k := by rw [← toB_len, hD]; simp; omega
        have hsplit : toB x0 = toB (ByteArray.extract x0 0 k) ++ toB (ByteArray.extract x0 k (ByteArray.size x0)) := by rw [hC, hD, List.take_append_drop]
        have hA := ten_Bd h0 h1
        have hN : NN (dn A) := NN.dn hA (by omega)
        have main := l49 x0 neg (dn A) z (toB (ByteArray.extract x0 0 k)) (resR neg A (toB x0)) (toB_range _) (by omega) (fun hbad => by
            unfold resR; rw [hsplit, digL_none hbad]) (fun v hv => by
          obtain ⟨v0, v1⟩ := digL_bd _ _ hv
          rw [hCl] at v1
          have hp : (10 : Int) ^ k ≤ 10 ^ 9 := by exact_mod_cast Nat.pow_le_pow_right (by decide) k9
          have hp0 : (0 : Int) < 10 ^ k := Int.pow_pos (by decide)
          have e9 : (10 : Int) ^ 9 = 1000000000 := rfl
          have hA2 : A * 10 ^ k + v < 10 ^ (t + k) := by
            rw [Int.pow_add]
            have : (A + 1) * 10 ^ k ≤ 10 ^ t * 10 ^ k := Int.mul_le_mul_of_nonneg_right (by omega) (by omega)
            rw [Int.add_mul] at this; omega
          have hA0 : 0 ≤ A * 10 ^ k + v := by have := Int.mul_nonneg h0 (Int.le_of_lt hp0); omega
          have := ih (ByteArray.extract x0 k (ByteArray.size x0)) neg (A * 10 ^ k + v) (t + k) z (by rw [hDl]; omega) (by rw [hDl]; omega) hA0 hA2
          have eR : resR neg (A * 10 ^ k + v) (toB (ByteArray.extract x0 k (ByteArray.size x0))) = resR neg A (toB x0) := by
            unfold resR
            rw [hsplit, digL_append, hv]
            cases hy : digL (toB (ByteArray.extract x0 k (ByteArray.size x0))) with
            | none => rfl
            | some y =>
              simp only
              rw [List.length_append, hCl, Int.pow_add]
              have e : (A * 10 ^ k + v) * 10 ^ (toB (ByteArray.extract x0 k (ByteArray.size x0))).length + y = A * (10 ^ k * 10 ^ (toB (ByteArray.extract x0 k (ByteArray.size x0))).length) + (v * 10 ^ (toB (ByteArray.extract x0 k (ByteArray.size x0))).length + y) := by grind
              rw [e]
          rw [eR] at this
          refine Ev.step (fun m => ?_) this
          rw [k49]; unfold S_decimal_read_49
          rw [if_neg (by rw [decide_eq_true_eq]; omega), hCl, F_natural_MulAdd, gif_bind ⟨hN, by rw [Bd32]; omega, by rw [Bd32]; omega⟩, nv_dn h0]
          simp only [ek]
          rw [if_pos (by omega), Int.toNat_natCast]) k 0 0 (by omega) (by simp [digL])
        refine Ev.step (fun m => ?_) main
        rw [k37]; unfold S_decimal_read_37
        rw [if_pos (by rw [decide_eq_true_eq]; omega)]
        simp only [ek]
        rw [if_pos (by omega), Int.toNat_natCast]
        rfl
  have fin : ∀ (x0 : ByteArray) (neg : Bool) (z : Bool × List Int), ByteArray.size x0 ≤ 1000000 → Ev (fun m => s24 m x0 10 neg false z) (resR neg 0 (toB x0)) := fun x0 neg z hx => by
    refine Ev.step (fun m => ?_) (l37 (ByteArray.size x0) x0 neg 0 0 z (Nat.le_refl _) (by omega) (by decide) (by decide))
    rw [k24]; unfold S_decimal_read_24
    rw [if_neg (by decide), F_decimal_chunk, gif_bind rfl, show dn 0 = [] from gd_zero _]
  have bad : ∀ (x0 : ByteArray) (neg : Bool) (z : Bool × List Int), Ev (fun m => s24 m x0 10 neg true z) failR := fun x0 neg z => by
    refine Ev.step (t := fun _ => some failR) (fun m => ?_) Ev.ret
    rw [k24]; unfold S_decimal_read_24; rw [if_pos rfl]
  have hB : ∀ (x0 : ByteArray), (ByteArray.toList x0 == ByteArray.toList (ByteArray.mk #[])) = decide (toB x0 = []) := fun x0 => by
    rw [Bool.eq_iff_iff, beq_iff_eq, decide_eq_true_eq, ByteArray.toList_eq, ByteArray.toList_eq]
    unfold toB
    rw [List.map_eq_nil_iff]
  have h16 : ∀ (x0 : ByteArray) (neg : Bool) (z : Bool × List Int), ByteArray.size x0 ≤ 1000000 → Ev (fun m => s16 m x0 10 neg z) (match natL neg (toB x0) with | none => failR | some v => (di (if neg = true then -v else v), 0)) := fun x0 neg z hx => by
    have hl := toB_len x0
    by_cases hnil : toB x0 = []
    · have e : natL neg (toB x0) = none := by unfold natL; rw [if_pos (.inl hnil)]
      rw [e]
      refine Ev.step (fun m => ?_) (bad x0 neg z)
      rw [k16]; unfold S_decimal_read_16
      rw [hB, if_pos (decide_eq_true hnil)]
    · have hpos : 0 < (toB x0).length := List.length_pos_iff.2 hnil
      have hb0 : bt x0 0 = (toB x0).getD 0 0 := bt_getD x0 0 (by omega)
      have good : natL neg (toB x0) = digL (toB x0) → Ev (fun m => s24 m x0 10 neg false z) (match natL neg (toB x0) with | none => failR | some v => (di (if neg = true then -v else v), 0)) := fun e => by
        have := fin x0 neg z hx
        unfold resR at this
        rw [e]
        cases h : digL (toB x0) with
        | none => rw [h] at this; exact this
        | some v => rw [h] at this; simpa using this
      by_cases h48 : (toB x0).getD 0 0 = 48
      · by_cases hn : neg = true
        · have e : natL neg (toB x0) = none := by unfold natL; rw [if_pos (.inr ⟨h48, .inl hn⟩)]
          rw [e]
          refine Ev.step (fun m => ?_) (bad x0 neg z)
          rw [k16]; unfold S_decimal_read_16
          rw [hB, if_neg (by rw [decide_eq_true_eq]; exact hnil), if_pos (by omega), hb0, if_pos (by rw [beq_iff_eq]; exact h48), if_pos hn]
        · by_cases h1 : 1 < (toB x0).length
          · have e : natL neg (toB x0) = none := by unfold natL; rw [if_pos (.inr ⟨h48, .inr h1⟩)]
            rw [e]
            refine Ev.step (fun m => ?_) (bad x0 neg z)
            rw [k16]; unfold S_decimal_read_16
            rw [hB, if_neg (by rw [decide_eq_true_eq]; exact hnil), if_pos (by omega), hb0, if_pos (by rw [beq_iff_eq]; exact h48), if_neg hn, decide_eq_true (by omega)]
          · refine Ev.step (fun m => ?_) (good (by unfold natL; rw [if_neg (fun h => h.elim hnil (fun h => h.2.elim hn h1))]))
            rw [k16]; unfold S_decimal_read_16
            rw [hB, if_neg (by rw [decide_eq_true_eq]; exact hnil), if_pos (by omega), hb0, if_pos (by rw [beq_iff_eq]; exact h48), if_neg hn, decide_eq_false (by omega)]
      · refine Ev.step (fun m => ?_) (good (by unfold natL; rw [if_neg (fun h => h.elim hnil (fun h => h48 h.1))]))
        rw [k16]; unfold S_decimal_read_16
        rw [hB, if_neg (by rw [decide_eq_true_eq]; exact hnil), if_pos (by omega), hb0, if_neg (by rw [beq_iff_eq]; exact h48)]
  have hl := toB_len s
  simp only [T_decimal_read]
  by_cases h0 : ByteArray.size s = 0
  · have hnil : toB s = [] := List.length_eq_zero_iff.1 (by omega)
    have := h16 s false zZ0 hs
    have e : intL (toB s) = natL false (toB s) := by unfold intL; rw [hnil]; rfl
    rw [e]
    have h0' : ¬ ((ByteArray.size s : Int) > 0) := by omega
    simp only [h0', decide_false, Bool.false_eq_true, if_false]
    refine Ev.step (fun m => ?_) (Ev.congr (fun m => rfl) (by
      cases h : natL false (toB s) with
      | none => rw [h] at this; exact this
      | some v => rw [h] at this; exact this))
    rw [k8]; unfold S_decimal_read_8
    rw [if_neg (by decide)]
  · have h0' : (ByteArray.size s : Int) > 0 := by omega
    have hr : (0 : Int) ≤ 0 ∧ (0 : Int) < (ByteArray.size s : Int) := by omega
    have hb0 : bt s 0 = (toB s).getD 0 0 := bt_getD s 0 (by omega)
    simp only [h0', decide_true, if_true, hr, and_self, hb0]
    by_cases h45 : (toB s).getD 0 0 = 45
    · have hE : toB (ByteArray.extract s 1 (ByteArray.size s)) = (toB s).tail := by
        rw [toB_extract, List.take_of_length_le (by simp; omega), List.drop_one]
      have hsz : ByteArray.size (ByteArray.extract s 1 (ByteArray.size s)) ≤ 1000000 := by rw [← toB_len, hE]; simp; omega
      have := h16 (ByteArray.extract s 1 (ByteArray.size s)) true zZ0 hsz
      rw [hE] at this
      have e : intL (toB s) = (natL true (toB s).tail).map fun v => -v := by unfold intL; rw [if_pos h45]
      rw [e]
      refine Ev.step (fun m => ?_) (show Ev (fun m => s16 m (ByteArray.extract s 1 (ByteArray.size s)) 10 true zZ0) _ from by
        cases h : natL true (toB s).tail with
        | none => rw [h] at this; exact this
        | some v => rw [h] at this; simpa using this)
      rw [k8]; unfold S_decimal_read_8
      rw [if_pos (by rw [beq_iff_eq]; exact h45), if_pos (by omega), show ((toB s).getD 0 0 == 45) = true by rw [beq_iff_eq]; exact h45]
      rfl
    · have := h16 s false zZ0 hs
      have e : intL (toB s) = natL false (toB s) := by unfold intL; rw [if_neg h45]
      have hf : ((toB s).getD 0 0 == 45) = false := by rw [beq_eq_false_iff_ne]; exact h45
      rw [e]
      refine Ev.step (fun m => ?_) (show Ev (fun m => s16 m s 10 false zZ0) _ from by
        cases h : natL false (toB s) with
        | none => rw [h] at this; exact this
        | some v => rw [h] at this; simpa using this)
      rw [k8]; unfold S_decimal_read_8
      rw [hf, if_neg (by decide)]
theorem Rn_decimal_Parse : Run_decimal_Parse := fun s => Ok.gif_const fun h => by
  rw [T_decimal_Parse, F_decimal_read, gif_bind ⟨rfl, h⟩]
end Go.W

set_option linter.unusedVariables false
set_option linter.unusedSimpArgs false
namespace Go.W

theorem ixL_bd : ∀ (l : List Int) (c : Int), ixL l c = -1 ∨ (0 ≤ ixL l c ∧ ixL l c < l.length)
  | [], _ => .inl rfl
  | d :: l, c => by
    unfold ixL
    by_cases h : d = c
    · rw [if_pos h]; exact .inr ⟨by decide, by simp⟩
    · rw [if_neg h]
      rcases ixL_bd l c with h' | h'
      · rw [if_pos h']; exact .inl rfl
      · rw [if_neg (by omega)]; right; simp; omega
theorem toB_one {t : ByteArray} (h : ByteArray.size t = 1) : toB t = [bt t 0] ∧ 0 ≤ bt t 0 ∧ bt t 0 < 256 := by
  have hl := toB_len t
  have e : bt t 0 = (toB t).getD 0 0 := bt_getD t 0 (by omega)
  match hm : toB t, (show (toB t).length = 1 by omega) with
  | [d], _ =>
    have hr := toB_range t d (by rw [hm]; simp)
    rw [hm] at e
    have e' : bt t 0 = d := e
    rw [e']; exact ⟨rfl, hr.1, hr.2⟩
theorem toB_inj {s t : ByteArray} (h : ByteArray.toList s = ByteArray.toList t) : toB s = toB t := by
  rw [ByteArray.toList_eq, ByteArray.toList_eq] at h; unfold toB; rw [h]
theorem Rn_stringslite_Index : Run_stringslite_Index := fun s t => Ok.gif_const fun h => by
  obtain ⟨ht, h0, h1⟩ := toB_one h
  rw [T_stringslite_Index, h, if_neg (by decide)]
  by_cases he : ByteArray.toList t = ByteArray.toList s
  · rw [if_pos (by rw [beq_iff_eq]; exact he), ← toB_inj he, ht]
    unfold ixL; rw [if_pos rfl]
  · rw [if_neg (by rw [beq_iff_eq]; exact he), if_pos (by decide), if_pos (by decide), F_stringslite_IndexByte, gif_bind ⟨h0, h1⟩]
theorem Rn_stringslite_Cut : Run_stringslite_Cut := fun s t => Ok.gif_const fun ⟨h, hs⟩ => by
  have hl := toB_len s
  rw [T_stringslite_Cut, F_stringslite_Index, gif_bind h, h]
  unfold cutL
  rcases ixL_bd (toB s) (bt t 0) with hi | ⟨hi0, hi1⟩
  · rw [if_neg (by rw [decide_eq_true_eq]; omega), if_pos hi]
  · rw [if_pos (decide_eq_true hi0), if_pos (by omega), i64w (by omega) (by omega), if_pos (by omega), if_neg (by omega)]
    rw [show Int.toNat (ixL (toB s) (bt t 0) + ((1 : Nat) : Int)) = (ixL (toB s) (bt t 0)).toNat + 1 by omega]
theorem Rn_strings_Cut : Run_strings_Cut := fun s t => Ok.gif_const fun h => by
  rw [T_strings_Cut, F_stringslite_Cut, gif_bind h]
end Go.W

set_option linter.unusedVariables false
set_option linter.unusedSimpArgs false
namespace Go.W

theorem gd_gv : ∀ ds : List Int, DV 10 ds → (ds ≠ [] → ds.getD (ds.length - 1) 0 ≠ 0) → gd 10 (gv 10 ds) = ds
  | [], _, _ => gd_zero _
  | d :: ds, h, hl => by
    obtain ⟨d0, d1⟩ := h d (by simp)
    have h' : DV 10 ds := fun x hx => h x (List.mem_cons_of_mem _ hx)
    by_cases hn : ds = []
    · subst hn
      have : d ≠ 0 := hl (by simp)
      show gd 10 (d + 10 * 0) = _
      rw [Int.mul_zero, Int.add_zero, gd_pos (by decide) (by omega), show d / 10 = 0 by omega, gd_zero, show d % 10 = d by omega]
    · have hlen : 0 < ds.length := List.length_pos_iff.2 hn
      have ih := gd_gv ds h' (fun _ => by
        have := hl (by simp)
        rw [List.length_cons] at this
        rw [show ds.length + 1 - 1 = (ds.length - 1) + 1 by omega] at this
        simpa using this)
      have g0 := gv_nonneg (B := 10) (by decide) h'
      have gp : 0 < gv 10 ds := by
        rcases Int.lt_or_eq_of_le g0 with h | h
        · exact h
        · rw [← h, gd_zero] at ih; exact absurd ih.symm hn
      show gd 10 (d + 10 * gv 10 ds) = _
      rw [gd_pos (by decide) (by omega), show (d + 10 * gv 10 ds) % 10 = d by omega, show (d + 10 * gv 10 ds) / 10 = gv 10 ds by omega, ih]
/-- the digits of a list of numerals -/
theorem digL_rev : ∀ ds : List Int, DV 10 ds → digL ((ds.map fun d => 48 + d).reverse) = some (gv 10 ds)
  | [], _ => rfl
  | d :: ds, h => by
    obtain ⟨d0, d1⟩ := h d (by simp)
    rw [List.map_cons, List.reverse_cons, digL_snoc (digL_rev ds (fun x hx => h x (List.mem_cons_of_mem _ hx))) (by omega)]
    show some _ = some (d + 10 * gv 10 ds)
    congr 1; omega
theorem digL_all : ∀ (l : List Int) (v : Int), digL l = some v → ∀ x ∈ l, 48 ≤ x ∧ x ≤ 57
  | [], _, _ => by intro x hx; simp at hx
  | d :: l, v, h => by
    simp only [digL] at h
    split at h
    · rename_i hd
      cases hl : digL l with
      | none => rw [hl] at h; cases h
      | some y =>
        intro x hx
        rcases List.mem_cons.1 hx with rfl | hx
        · exact hd
        · exact digL_all l y hl x hx
    · cases h
theorem digL_inv : ∀ (l : List Int) (v : Int), digL l = some v → ∃ ds, DV 10 ds ∧ l = (ds.map fun d => 48 + d).reverse ∧ gv 10 ds = v := by
  intro l v h
  have hd := digL_all l v h
  have hDV : DV 10 ((l.map fun x => x - 48).reverse) := fun x hx => by
    simp only [List.mem_reverse, List.mem_map] at hx
    obtain ⟨y, hy, rfl⟩ := hx
    have := hd y hy; omega
  have he : l = ((((l.map fun x => x - 48).reverse).map fun d => 48 + d).reverse) := by
    rw [List.map_reverse, List.reverse_reverse, List.map_map]
    have : ((fun d : Int => 48 + d) ∘ fun x => x - 48) = id := by funext x; simp; omega
    rw [this, List.map_id]
  refine ⟨_, hDV, he, ?_⟩
  have := digL_rev _ hDV
  rw [← he, h] at this
  injection this with this; exact this.symm

/-- the text of a natural number, read back -/
theorem natL_dec {neg : Bool} {n : Int} (h0 : 0 ≤ n) (hneg : neg = true → n ≠ 0) : natL neg (((gz n).map fun d => 48 + d).reverse) = some n := by
  by_cases hn : n = 0
  · subst hn
    have : neg = false := by cases neg with | true => exact absurd rfl (hneg rfl) | false => rfl
    subst this; rfl
  · have hd := gd_DV (B := 10) (by decide) n
    have hl := gd_last (B := 10) (by decide) n (by omega)
    have hg : gz n = gd 10 n := by unfold gz; rw [if_neg hn]
    have hne : gd 10 n ≠ [] := fun h => by rw [h] at hl; exact hl rfl
    rw [hg]
    unfold natL
    have hlen : 0 < (gd 10 n).length := List.length_pos_iff.2 hne
    have hfirst : (((gd 10 n).map fun d => 48 + d).reverse).getD 0 0 = 48 + (gd 10 n).getD ((gd 10 n).length - 1) 0 := by
      simp only [List.getD, List.getElem?_reverse (show 0 < (List.map (fun d => 48 + d) (gd 10 n)).length by simpa using hlen), List.length_map, List.getElem?_map]
      rw [show (gd 10 n).length - 1 - 0 = (gd 10 n).length - 1 by omega, List.getElem?_eq_getElem (by omega)]
      rfl
    rw [if_neg, digL_rev _ hd, gd_val (by decide) n h0]
    rintro (h | ⟨h, _⟩)
    · simp at h; exact hne h
    · rw [hfirst] at h; omega
theorem natL_inv {neg : Bool} {l : List Int} {n : Int} (h : natL neg l = some n) : 0 ≤ n ∧ (neg = true → n ≠ 0) ∧ l = ((gz n).map fun d => 48 + d).reverse := by
  unfold natL at h
  split at h
  · cases h
  · rename_i hc
    obtain ⟨ds, hD, rfl, rfl⟩ := digL_inv l n h
    have g0 := gv_nonneg (B := 10) (by decide) hD
    have hne : ds ≠ [] := fun e => hc (.inl (by rw [e]; rfl))
    have hlen : 0 < ds.length := List.length_pos_iff.2 hne
    have hfirst : ((ds.map fun d => 48 + d).reverse).getD 0 0 = 48 + ds.getD (ds.length - 1) 0 := by
      simp only [List.getD, List.getElem?_reverse (show 0 < (List.map (fun d => 48 + d) ds).length by simpa using hlen), List.length_map, List.getElem?_map]
      rw [show ds.length - 1 - 0 = ds.length - 1 by omega, List.getElem?_eq_getElem (by omega)]
      rfl
    by_cases hz : ds.getD (ds.length - 1) 0 = 0
    · have h1 : ds.length = 1 := by
        have : ¬ 1 < ds.length := fun h1 => hc (.inr ⟨by rw [hfirst, hz]; rfl, .inr (by simpa using h1)⟩)
        omega
      match ds, h1 with
      | [d], _ =>
        have hd : d = 0 := hz
        subst hd
        have hnf : neg ≠ true := fun e => hc (.inr ⟨by rfl, .inl e⟩)
        exact ⟨by decide, fun e => absurd e hnf, rfl⟩
    · have hg := gd_gv ds hD (fun _ => hz)
      have hp : gv 10 ds ≠ 0 := fun e => by rw [e, gd_zero] at hg; exact hne hg.symm
      refine ⟨g0, fun _ => hp, ?_⟩
      unfold gz; rw [if_neg hp, hg]
end Go.W

set_option linter.unusedVariables false
set_option linter.unusedSimpArgs false
namespace Go.W

theorem toB_ofB : ∀ l : List Int, (∀ x ∈ l, 0 ≤ x ∧ x < 256) → toB (ofB l) = l := by
  intro l h
  unfold toB ofB
  rw [List.map_map]
  conv => rhs; rw [← List.map_id l]
  refine List.map_congr_left fun x hx => ?_
  obtain ⟨h0, h1⟩ := h x hx
  show (((UInt8.ofNat x.toNat).toNat : Nat) : Int) = x
  rw [UInt8.toNat_ofNat']
  omega
theorem toB_append (a b : ByteArray) : toB (a ++ b) = toB a ++ toB b := by
  unfold toB
  rw [ByteArray.data_append, Array.toList_append, List.map_append]
def sgL (z : Int) : List Int := if z < 0 then [45] else []
def dgL (n : Int) : List Int := ((gz n).map fun d => 48 + d).reverse
theorem dgL_mem {n : Int} : ∀ x ∈ dgL n, 48 ≤ x ∧ x ≤ 57 := by
  intro x hx
  unfold dgL at hx
  simp only [List.mem_reverse, List.mem_map] at hx
  obtain ⟨y, hy, rfl⟩ := hx
  have := gz_DV y hy; omega
theorem dgL_ne {n : Int} (h0 : 0 ≤ n) : dgL n ≠ [] := by
  unfold dgL gz
  split
  · simp
  · rename_i h
    intro hh
    simp at hh
    rw [gd_pos (by decide) (show 0 < n by omega)] at hh; cases hh
theorem toB_decS (z : Int) : toB (decS z) = sgL z ++ dgL (ab z) := by
  unfold decS
  by_cases h : z = 0
  · subst h; rfl
  · rw [if_neg h]
    have hg : gz (ab z) = gd 10 (ab z) := by unfold gz; rw [if_neg (by unfold ab; split <;> omega)]
    have e : decL z = sgL z ++ dgL (ab z) := by unfold decL sgL dgL; rw [hg]
    rw [e, toB_ofB]
    intro x hx
    rcases List.mem_append.1 hx with hx | hx
    · unfold sgL at hx; split at hx
      · simp at hx; omega
      · simp at hx
    · have := dgL_mem x hx; omega
theorem first_dg {l : List Int} (hl : l ≠ []) (h : ∀ x ∈ l, 48 ≤ x ∧ x ≤ 57) : l.getD 0 0 ≠ 45 := by
  match l, hl with
  | x :: l, _ => have := h x (by simp); show x ≠ 45; omega
theorem intL_dec (z : Int) : intL (toB (decS z)) = some z := by
  rw [toB_decS]
  unfold intL sgL
  by_cases h : z < 0
  · rw [if_pos h]
    have e : natL true (dgL (ab z)) = some (ab z) := natL_dec (ab_nonneg z) (fun _ => by unfold ab; split <;> omega)
    show (if (45 : Int) = 45 then (natL true (dgL (ab z))).map (fun v => -v) else _) = _
    rw [if_pos rfl, e]
    show some (-(ab z)) = some z
    congr 1; unfold ab; rw [if_pos h]; omega
  · rw [if_neg h, List.nil_append, if_neg (first_dg (dgL_ne (ab_nonneg z)) dgL_mem)]
    have e : natL false (dgL (ab z)) = some (ab z) := natL_dec (ab_nonneg z) (fun h => by cases h)
    rw [e, ab_pos (by omega)]
theorem intL_inv {l : List Int} {v : Int} (h : intL l = some v) : l = toB (decS v) := by
  rw [toB_decS]
  unfold intL at h
  split at h
  · rename_i h45
    cases hn : natL true l.tail with
    | none => rw [hn] at h; cases h
    | some n =>
      rw [hn] at h
      simp only [Option.map_some, Option.some.injEq] at h
      obtain ⟨h0, h1, h2⟩ := natL_inv hn
      have hne := h1 rfl
      have hv : v < 0 := by omega
      have ha : ab v = n := by unfold ab; rw [if_pos hv]; omega
      match l, h45 with
      | x :: l, h45 =>
        have hx : x = 45 := h45
        rw [ha]; unfold sgL dgL; rw [if_pos hv, ← h2, hx]; rfl
  · obtain ⟨h0, _, h2⟩ := natL_inv h
    rw [ab_pos h0]; unfold sgL dgL; rw [if_neg (by omega), ← h2]; rfl
theorem ixL_none {l : List Int} {c : Int} (h : ∀ x ∈ l, x ≠ c) : ixL l c = -1 := by
  induction l with
  | nil => rfl
  | cons d l ih =>
    unfold ixL
    rw [if_neg (h d (by simp)), ih (fun x hx => h x (List.mem_cons_of_mem _ hx)), if_pos rfl]
theorem ixL_app {a b : List Int} {c : Int} (h : ∀ x ∈ a, x ≠ c) : ixL (a ++ c :: b) c = a.length := by
  induction a with
  | nil => show ixL (c :: b) c = 0; unfold ixL; rw [if_pos rfl]
  | cons d a ih =>
    show ixL (d :: (a ++ c :: b)) c = _
    unfold ixL
    rw [if_neg (h d (by simp)), ih (fun x hx => h x (List.mem_cons_of_mem _ hx)), if_neg (by omega)]; simp
theorem ixL_spec : ∀ {l : List Int} {c : Int}, ixL l c ≠ -1 → l = l.take (ixL l c).toNat ++ c :: l.drop ((ixL l c).toNat + 1)
  | [], c, h => absurd rfl h
  | d :: l, c, h => by
    unfold ixL at h ⊢
    by_cases hd : d = c
    · rw [if_pos hd]; simp [hd]
    · rw [if_neg hd] at h ⊢
      by_cases h' : ixL l c = -1
      · rw [if_pos h'] at h; exact absurd rfl h
      · rw [if_neg h']
        have ih := ixL_spec h'
        have hb := ixL_bd l c
        rw [show (ixL l c + 1).toNat = (ixL l c).toNat + 1 by omega]
        simp only [List.take_succ_cons, List.drop_succ_cons, List.cons_append]
        rw [← ih]
theorem dec_no47 (z : Int) : ∀ x ∈ toB (decS z), x ≠ 47 := by
  intro x hx
  rw [toB_decS] at hx
  rcases List.mem_append.1 hx with hx | hx
  · unfold sgL at hx; split at hx
    · simp at hx; omega
    · simp at hx
  · have := dgL_mem x hx; omega
end Go.W

set_option linter.unusedVariables false
set_option linter.unusedSimpArgs false
namespace Go.W

theorem divInt_i (n : Int) : Rat.divInt n 1 = (n : Rat) := by
  have := Rat.num_divInt_den (n : Rat)
  rw [Rat.num_intCast, Rat.den_intCast] at this
  exact this
theorem rat_int {r : Rat} (h : r.den = 1) : ((r.num : Int) : Rat) = r := by
  have := QB.as r
  rw [h] at this
  rw [← divInt_i]; exact this.symm
theorem toB_47 : toB (ByteArray.mk #[47]) = [47] := rfl
theorem cut_none {s : ByteArray} (h : ∀ x ∈ toB s, x ≠ 47) : cutL s 47 = (s, ByteArray.mk #[], false) := by
  unfold cutL; rw [if_pos (ixL_none h)]
theorem cut_at {s : ByteArray} {a b : List Int} (hs : toB s = a ++ 47 :: b) (h : ∀ x ∈ a, x ≠ 47) : toB (cutL s 47).1 = a ∧ toB (cutL s 47).2.1 = b ∧ (cutL s 47).2.2 = true := by
  have e : ixL (toB s) 47 = (a.length : Int) := by rw [hs]; exact ixL_app h
  have hl := toB_len s
  unfold cutL
  rw [e, if_neg (by omega), Int.toNat_natCast]
  refine ⟨?_, ?_, rfl⟩
  · show toB (ByteArray.extract s 0 a.length) = a
    rw [toB_extract, hs]; simp
  · show toB (ByteArray.extract s (a.length + 1) (ByteArray.size s)) = b
    rw [toB_extract, List.take_of_length_le (by simp; omega), hs]
    simp
theorem parse_format (r : Rat) : parseR (ratS r) = (dr r, 0) := by
  unfold ratS
  by_cases h1 : r.den = 1
  · rw [if_pos h1]
    unfold parseR
    rw [cut_none (dec_no47 r.num)]
    simp only [intL_dec, if_true]
    rw [rat_int h1]
  · rw [if_neg h1]
    have hd := r.den_pos
    have hs : toB (decS r.num ++ ByteArray.mk #[47] ++ decS (r.den : Int)) = toB (decS r.num) ++ 47 :: toB (decS (r.den : Int)) := by
      rw [toB_append, toB_append, toB_47, List.append_assoc]; rfl
    obtain ⟨c1, c2, c3⟩ := cut_at hs (dec_no47 r.num)
    unfold parseR
    rw [c1, c2, c3]
    simp only [intL_dec, Bool.true_eq_false, if_false]
    rw [if_neg (by omega), if_pos (by
      have := r.reduced
      unfold Nat.Coprime at this
      exact this)]
    rfl
theorem parse_inv {s : ByteArray} {q : NQ} (h : parseR s = (q, 0)) : ∃ t : Rat, q = dr t ∧ toB s = toB (ratS t) := by
  unfold parseR at h
  cases hn : intL (toB (cutL s 47).1) with
  | none => rw [hn] at h; simp at h
  | some n =>
    rw [hn] at h
    simp only at h
    by_cases hf : (cutL s 47).2.2 = false
    · rw [if_pos hf] at h
      injection h with h _
      have hi : ixL (toB s) 47 = -1 := by
        by_cases hi : ixL (toB s) 47 = -1
        · exact hi
        · unfold cutL at hf; rw [if_neg hi] at hf; cases hf
      have hc : (cutL s 47).1 = s := by unfold cutL; rw [if_pos hi]
      rw [hc] at hn
      refine ⟨(n : Rat), h.symm, ?_⟩
      rw [intL_inv hn]; unfold ratS
      rw [if_pos (Rat.den_intCast n), Rat.num_intCast]
    · rw [if_neg hf] at h
      cases hd : intL (toB (cutL s 47).2.1) with
      | none => rw [hd] at h; simp at h
      | some d =>
        rw [hd] at h
        simp only at h
        by_cases h1 : d ≤ 1
        · rw [if_pos h1] at h; simp at h
        · rw [if_neg h1] at h
          by_cases hg : Int.gcd n d = 1
          · rw [if_pos hg] at h
            injection h with h _
            have hi : ixL (toB s) 47 ≠ -1 := fun hi => hf (by unfold cutL; rw [if_pos hi])
            have hsp := ixL_spec hi
            have hl := toB_len s
            have hb := ixL_bd (toB s) 47
            have c1 : toB (cutL s 47).1 = (toB s).take (ixL (toB s) 47).toNat := by
              unfold cutL; rw [if_neg hi]
              show toB (ByteArray.extract s 0 _) = _
              rw [toB_extract]; simp
            have c2 : toB (cutL s 47).2.1 = (toB s).drop ((ixL (toB s) 47).toNat + 1) := by
              unfold cutL; rw [if_neg hi]
              show toB (ByteArray.extract s _ (ByteArray.size s)) = _
              rw [toB_extract, List.take_of_length_le (by simp; omega)]
            have e1 := intL_inv hn
            have e2 := intL_inv hd
            rw [c1] at e1
            rw [c2] at e2
            rw [e1, e2] at hsp
            have num : (Rat.divInt n d).num = n := by rw [num_div (by omega), hg]; simp
            have den : ((Rat.divInt n d).den : Int) = d := by rw [den_div (by omega), hg]; simp
            refine ⟨Rat.divInt n d, ?_, ?_⟩
            · rw [← h]; show _ = (di _, dn _); rw [num, den]
            · rw [hsp]; unfold ratS
              rw [if_neg (fun e => by rw [e] at den; omega), num, den, toB_append, toB_append, toB_47, List.append_assoc]; rfl
          · rw [if_neg hg] at h; simp at h
theorem parse_cases (s : ByteArray) : (∃ q, parseR s = (q, 0)) ∨ parseR s = (zQ, 6) := by
  unfold parseR
  split
  · exact .inr rfl
  · split
    · exact .inl ⟨_, rfl⟩
    · split
      · exact .inr rfl
      · split
        · exact .inr rfl
        · split
          · exact .inl ⟨_, rfl⟩
          · exact .inr rfl
end Go.W

set_option linter.unusedVariables false
set_option linter.unusedSimpArgs false
namespace Go.W

theorem natL_bd {neg : Bool} {l : List Int} {v : Int} (h : natL neg l = some v) : 0 ≤ v ∧ v < 10 ^ l.length := by
  unfold natL at h
  split at h
  · cases h
  · exact digL_bd l v h
theorem intL_bd {l : List Int} {v : Int} (h : intL l = some v) : Bd (4 * l.length) (ab v) := by
  unfold intL at h
  split at h
  · cases hn : natL true l.tail with
    | none => rw [hn] at h; cases h
    | some n =>
      rw [hn] at h
      simp only [Option.map_some, Option.some.injEq] at h
      obtain ⟨h0, h1⟩ := natL_bd hn
      have := ten_Bd h0 h1
      rw [← h, ab_neg, ab_pos h0]
      exact this.mono (by simp; omega)
  · obtain ⟨h0, h1⟩ := natL_bd h
    rw [ab_pos h0]; exact ten_Bd h0 h1
theorem cut_size (s : ByteArray) : (toB (cutL s 47).1).length ≤ ByteArray.size s ∧ (toB (cutL s 47).2.1).length ≤ ByteArray.size s := by
  have hl := toB_len s
  unfold cutL
  split
  · exact ⟨by show (toB s).length ≤ _; omega, by show (toB (ByteArray.mk #[])).length ≤ _; simp [toB]⟩
  · constructor
    · show (toB (ByteArray.extract s 0 _)).length ≤ _
      rw [toB_extract]; simp; omega
    · show (toB (ByteArray.extract s _ (ByteArray.size s))).length ≤ _
      rw [toB_extract]; simp; omega
theorem Rn_rational_Parse : Run_rational_Parse := fun s => Ok.gif_const fun hs => by
  obtain ⟨z1, z2⟩ := cut_size s
  have l1 := toB_len (cutL s 47).1
  have l2 := toB_len (cutL s 47).2.1
  have hb : bt (ByteArray.mk #[47]) 0 = 47 := rfl
  have ec : F_strings_Cut s (ByteArray.mk #[47]) = some (cutL s 47) := by rw [F_strings_Cut, gif_pos ⟨rfl, by omega⟩, hb]
  have e1 : F_decimal_Parse (cutL s 47).1 = some (match intL (toB (cutL s 47).1) with | none => ((false, []), 6) | some v => (di v, 0)) := gif_pos (by omega)
  have e2 : F_decimal_Parse (cutL s 47).2.1 = some (match intL (toB (cutL s 47).2.1) with | none => ((false, []), 6) | some v => (di v, 0)) := gif_pos (by omega)
  have b8 : ((6 : Int) != 0) = true := rfl
  have b0 : ((0 : Int) != 0) = false := rfl
  rw [T_rational_Parse, ec, Option.bind_some, e1, Option.bind_some]
  unfold parseR
  cases hn : intL (toB (cutL s 47).1) with
  | none => simp only [b8, if_true]
  | some n =>
    have hnb := (intL_bd hn).mono (k := 4000000) (by omega)
    have iN := II.di hnb (by omega)
    simp only [b0, Bool.false_eq_true, if_false]
    by_cases hf : (cutL s 47).2.2 = false
    · have : F_rational_From (di n) = some (dr (n : Rat)) := by rw [F_rational_From, gif_pos iN, iv_di]
      simp only [hf, Bool.not_false, if_true, this, Option.bind_some]
    · have hf' : (cutL s 47).2.2 = true := by cases h : (cutL s 47).2.2 <;> simp_all
      simp only [hf', Bool.not_true, Bool.false_eq_true, if_false, e2, Option.bind_some, Bool.true_eq_false]
      cases hd : intL (toB (cutL s 47).2.1) with
      | none => simp only [b8, if_true]
      | some d =>
        have hdb := (intL_bd hd).mono (k := 4000000) (by omega)
        have iD := II.di hdb (by omega)
        have i1 : II (di 1) := II.di (k := 1) (by constructor <;> decide) (by omega)
        have o1 : F_integer_Of 1 = some (di 1) := gif_pos (by omega)
        have c1 : F_integer_Cmp (di d) (di 1) = some (cm d 1) := by rw [F_integer_Cmp, gif_pos ⟨iD, i1⟩, iv_di, iv_di]
        have g1 : F_division_Gcd (di n) (di d) = some (di (Int.gcd n d : Int)) := by rw [F_division_Gcd, gif_pos ⟨iN, iD⟩, iv_di, iv_di]
        simp only [b0, Bool.false_eq_true, if_false, o1, c1, g1, Option.bind_some]
        have hc : cm d 1 ≤ 0 ↔ d ≤ 1 := by unfold cm; (repeat' split) <;> omega
        by_cases h1 : d ≤ 1
        · simp only [hc, h1, decide_true, if_true]
        · simp only [hc, h1, decide_false, Bool.false_eq_true, if_false]
          have hg : F_rational_isOne (di (Int.gcd n d : Int)).2 = some (decide ((Int.gcd n d : Int) = 1)) := by
            have e : (di (Int.gcd n d : Int)).2 = dn (Int.gcd n d : Int) := by show dn (ab _) = _; rw [ab_pos (by omega)]
            have v := nv_dn (n := (Int.gcd n d : Int)) (by omega)
            rw [e, F_rational_isOne, gif_pos (by rw [v]), v]
          rw [hg, Option.bind_some]
          by_cases h2 : Int.gcd n d = 1
          · rw [decide_eq_true (by omega), if_neg (by decide), if_pos h2]
            show some ((di n, dn (ab d)), (0 : Int)) = _
            rw [ab_pos (by omega)]
          · rw [decide_eq_false (by omega), if_pos (by decide), if_neg h2]

theorem parse_QB {s : ByteArray} {q : NQ} {t : Rat} (h : parseR s = (q, 0)) (hs : ByteArray.size s ≤ 80) (hq : q = dr t) : QB 400 t := by
  obtain ⟨z1, z2⟩ := cut_size s
  unfold parseR at h
  cases hn : intL (toB (cutL s 47).1) with
  | none => rw [hn] at h; simp at h
  | some n =>
    have hnb := (intL_bd hn).mono (k := 400) (by omega)
    rw [hn] at h
    simp only at h
    by_cases hf : (cutL s 47).2.2 = false
    · rw [if_pos hf] at h
      injection h with h _
      rw [hq] at h
      rw [← dr_inj h]; exact QB.int hnb (by omega)
    · rw [if_neg hf] at h
      cases hd : intL (toB (cutL s 47).2.1) with
      | none => rw [hd] at h; simp at h
      | some d =>
        have hdb := (intL_bd hd).mono (k := 400) (by omega)
        rw [hd] at h
        simp only at h
        by_cases h1 : d ≤ 1
        · rw [if_pos h1] at h; simp at h
        · rw [if_neg h1] at h
          by_cases hg : Int.gcd n d = 1
          · rw [if_pos hg] at h
            injection h with h _
            rw [hq] at h
            injection h with ha hb
            have e1 : n = t.num := di_inj ha
            have e2 : d = (t.den : Int) := dn_inj (by omega) (by omega) hb
            rw [ab_pos (by omega)] at hdb
            exact ⟨by rw [← e1]; exact hnb, by rw [← e2]; exact hdb⟩
          · rw [if_neg hg] at h; simp at h
end Go.W

set_option linter.unusedVariables false
set_option linter.unusedSimpArgs false
namespace Go.W

theorem toList_of_toB {s t : ByteArray} (h : toB s = toB t) : ByteArray.toList s = ByteArray.toList t := by
  rw [ByteArray.toList_eq, ByteArray.toList_eq]
  unfold toB at h
  exact (List.map_inj_right (fun a b e => by
    apply UInt8.toNat_inj.1
    have e : ((a.toNat : Nat) : Int) = (b.toNat : Int) := e
    omega)).1 h
theorem few5_some {n : Int} {a b c : NQ} : F_law05_few n a b c = some (decide ((a.1.2.length : Int) ≤ n ∧ (a.2.length : Int) ≤ n ∧ (b.1.2.length : Int) ≤ n ∧ (b.2.length : Int) ≤ n ∧ (c.1.2.length : Int) ≤ n ∧ (c.2.length : Int) ≤ n)) := gif_pos trivial
theorem of_dr {k : Nat} {t : Rat} (h : QB k t) (hk : k ≤ 1000000) : ∃ q, F_law05_of (dr t) = some q ∧ QR k q t := by
  have hp : (0 : Int) < t.den := by have := t.den_pos; omega
  refine ⟨_, gif_pos (QQ.dr h (by omega)), ?_⟩
  rw [rn_dr, rd_dr]
  exact ⟨RQ.mq h.1 h.2 hp, by rw [qv_mq]; exact (QB.as t).symm⟩
theorem Texts_28 {s1 s2} {s : ByteArray} (hs : ByteArray.size s ≤ 80) : S_law05_RationalTexts_28 s1 s2 s (parseR s).2 false (parseR s).1 = some true := by
  unfold S_law05_RationalTexts_28
  rw [if_neg (by decide)]
  rcases parse_cases s with ⟨q, hq⟩ | hq
  · obtain ⟨t, rfl, ht⟩ := parse_inv hq
    have hQ := parse_QB hq hs rfl
    obtain ⟨z, ez, rz⟩ := of_dr hQ (by omega)
    have ef : F_ref05_Format z = some (ratS t) := by rw [F_ref05_Format, gif_pos (rz.1.mono (by omega)), rz.2]
    have ei := R.is' rz (by omega) t
    rw [hq]
    simp only [ez, ef, ei, Option.bind_some, beq_self_eq_true, if_true, decide_true]
    rw [if_pos (by rw [beq_iff_eq]; exact (toList_of_toB ht).symm)]
  · have e5 : F_rational_Sign zQ = some 0 := by rw [F_rational_Sign, gif_pos zQ_ok.1, zQ_ok.2]; rfl
    rw [hq]
    show (if ((6 : Int) == 0) = true then _ else if ((6 : Int) == 6) = true then (F_rational_Sign zQ).bind (fun r => some (r == 0)) else some false) = some true
    rw [if_neg (by decide), if_pos (by decide), e5]; rfl
theorem Rn_law05_RationalTexts : Run_law05_RationalTexts := fun s1 s2 k1 k2 a s => Ok.gif fun ⟨hA, hS⟩ => by
  simp only [T_law05_RationalTexts, awake_some, few5_some, Option.bind_some, Bool.not_true, Bool.false_eq_true, if_false]
  have bad : Ev (fun m => s1 m s true a) true := by
    refine Ev.step (t := fun _ => some true) (fun m => ?_) Ev.ret
    rw [k1]; unfold S_law05_RationalTexts_8
    rw [if_pos rfl, awake_some]; rfl
  by_cases hf : ((a.1.2.length : Int) ≤ 6 ∧ (a.2.length : Int) ≤ 6 ∧ (a.1.2.length : Int) ≤ 6 ∧ (a.2.length : Int) ≤ 6 ∧ (a.1.2.length : Int) ≤ 6 ∧ (a.2.length : Int) ≤ 6)
  · rw [decide_eq_true hf]
    simp only [Bool.not_true, Bool.false_eq_true, if_false]
    by_cases h80 : (ByteArray.size s : Int) > 80
    · rw [decide_eq_true h80]; exact bad
    · rw [decide_eq_false h80]
      have hQ := hA.qq hf.1 hf.2.1 (by omega)
      have va := QV.of hQ (m := 6) (by omega) (by omega) (by omega)
      obtain ⟨q, eq, rq⟩ := R.of hQ (m := 6) (by omega) (by omega) (by omega)
      have e1 : F_rational_Format a = some (ratS (rv a)) := gif_pos hQ
      have e6 : F_ref05_Format q = some (ratS (rv a)) := by rw [F_ref05_Format, gif_pos (rq.1.mono (by omega)), rq.2]
      have sz : ByteArray.size (ratS (rv a)) ≤ 1000000 := by
        have d1 := decS_size va.2.2.1
        have d2 := decS_size (z := ((rv a).den : Int)) (k := 192) (by rw [ab_pos (by omega)]; exact va.2.2.2)
        have d3 : ByteArray.size (ByteArray.mk #[47]) = 1 := rfl
        unfold ratS; split
        · omega
        · rw [ByteArray.size_append, ByteArray.size_append, d3]; omega
      have e2 : F_rational_Parse (ratS (rv a)) = some (dr (rv a), 0) := by rw [F_rational_Parse, gif_pos sz, parse_format]
      have e3 : F_rational_Parse s = some (parseR s) := gif_pos (by omega)
      refine Ev.step (t := fun m => s2 m s (parseR s).2 false (parseR s).1) (fun m => ?_) (Ev.step (t := fun _ => some true) (fun m => ?_) Ev.ret)
      · rw [k1]; unfold S_law05_RationalTexts_8
        simp only [e1, e2, e3, eq, e6, R.is' rq (by omega), Option.bind_some, Bool.false_eq_true, if_false, beq_self_eq_true, Bool.not_true, bne_self_eq_false, decide_true]
      · rw [k2]; exact Texts_28 (by omega)
  · rw [decide_eq_false hf]
    simp only [Bool.not_false, if_true]; exact bad
end Go.W

set_option linter.unusedVariables false
set_option linter.unusedSimpArgs false
namespace Go.W
open Go.Proofs Go.Shelf Go.RowKit Go.Lib Go.Sort

abbrev encU : Int → Value := fun x => Value.int .u8 x

set_option maxHeartbeats 1600000 in
set_option maxRecDepth 1000000 in
theorem reverse_arr (blk off cap : Nat) (d : Array Int) (w : World) (hH : Holds encU w blk off d) (hsz : d.size ≤ 9223372036854775807) :
    Calls Try.prog 171 #[.slice (some ⟨blk, off, none⟩) d.size cap] w fun e w' => e = .returned (.tuple #[]) ∧ ∃ n, w' = putRow encU (Sort.ahead w n) blk off d.reverse := by
  have mixed : Try.prog.follows .mixedOrders = true := by kernel_rfl
  go_enter Try.func171, Try.ntmps171
  go_wp2
  go_loopg [2, 3] d.size (fun k s2 s3 wr => ∃ (i jn : Nat) (jz : Int) (dk : Array Int) (n : Nat), s2 = .int .i64 i ∧ s3 = .int .i64 jz ∧ ((i : Int) < jz → jz = jn ∧ jn < d.size) ∧ (¬ (i : Int) < jz → ¬ i < jn) ∧ jn - i ≤ k ∧
    dk.size = d.size ∧ wr = putRow encU (Sort.ahead w n) blk off dk ∧ reverseLoop i jn dk = reverseLoop 0 (d.size - 1) d)
  case atStart => exact ⟨0, d.size - 1, (d.size : Int) - 1, d, 0, rfl, rfl, fun h => ⟨by omega, by omega⟩, fun h => by omega, by omega, rfl, (putRow_self encU w blk off d hH).symm, rfl⟩
  case round =>
    obtain ⟨i, jn, jz, dk, n, rfl, rfl, h1, h2, hk, hds, hwr, heq⟩ := hrel
    by_cases hlt : (i : Int) < jz
    · obtain ⟨rfl, hjn⟩ := h1 hlt
      have hij : i < jn := by omega
      have hHk : Holds encU wr blk off dk := by rw [hwr]; exact holds_putRow encU _ blk off d dk (holds_ahead encU w n blk off d hH) hds
      obtain ⟨ci, fi⟩ := hHk i (by omega)
      obtain ⟨cj, fj⟩ := hHk jn (by omega)
      have A : Aside (wr = putRow encU (Sort.ahead w n) blk off dk) := hwr
      clear hwr hHk hH h1 h2
      go_wp2_with fail
      go_region_o
      go_wp2
      go_roundg (jn - 1 - (i + 1))
      case measure => omega
      case rel =>
        rw [reverseLoop, if_pos hij] at heq
        exact ⟨i + 1, jn - 1, (jn : Int) - 1, swp dk i jn, n + 1, by simp, rfl, fun h => ⟨by omega, by omega⟩, fun h => by omega, Nat.le_refl _, by rw [size_swp]; exact hds,
          swap_world encU (by omega) (by omega) A.out (by first | rfl | simp [encU, getElem!_pos, show jn < dk.size by omega]) (by first | rfl | simp [encU, getElem!_pos, show i < dk.size by omega]), heq⟩
    · have hnot := h2 hlt
      go_wp2
      go_end0
      refine ⟨rfl, n, ?_⟩
      rw [reverseLoop, if_neg hnot] at heq
      rw [← Lib.reverseLoop_reverse, ← heq]

set_option maxHeartbeats 1000000 in
theorem reverse_empty (a : Option Addr) (cap : Nat) (w : World) :
    Calls Try.prog 171 #[.slice a 0 cap] w fun e w' => e = .returned (.tuple #[]) ∧ w' = w := by
  have mixed : Try.prog.follows .mixedOrders = true := by kernel_rfl
  go_enter Try.func171, Try.ntmps171
  go_wp2
  go_loopg [2, 3] 0 (fun _ s2 s3 wr => s2 = .int .i64 0 ∧ s3 = .int .i64 (-1) ∧ wr = w)
  case atStart => exact ⟨rfl, rfl, rfl⟩
  case round =>
    obtain ⟨rfl, rfl, rfl⟩ := hrel
    go_wp2
    go_end0
    exact ⟨rfl, rfl⟩

theorem heap_putRow {α : Type} [Inhabited α] (enc : α → Value) (w : World) (blk off : Nat) (d : Array α) (g : Nat) : (putRow enc w blk off d).heap[g]? = if g = blk then (w.heap[g]?).map fun o => match o with
    | .cells c eT fr => .cells (putCells enc off d c) eT fr
    | o => o else w.heap[g]? := by
  unfold putRow mapBlock
  simp only [Array.getElem?_modify]
  split
  · rename_i h; subst h; simp
    cases w.heap[blk]? with
    | none => rfl
    | some o => cases o <;> rfl
  · rename_i h; rw [if_neg (fun e => h e.symm)]

theorem os_slices_Reverse : OSound Try.prog 171 [] false (.int .u8) .unit (fun τ l => O_slices_Reverse l) := by
  intro τ l r hr w ok mg vs v hok hmg hargs hbr hv
  have hvs : vs = [] := hargs
  subst hvs
  change gif (l.length ≤ 8796093022208) (l.reverse, ()) = some r at hr
  unfold gif at hr
  split at hr
  · rename_i hl
    injection hr with hr
    subst hr
    obtain ⟨ob, hob, hv⟩ := hv
    have hob' : ob = some ⟨.int .u8, l, false⟩ := by
      simp only [ownPV, lk_cons, if_true] at hob
      injection hob with hob; exact hob.symm
    obtain ⟨A, cap, rfl, hcap, hv⟩ := hv _ hob'
    simp only [toL] at hv hcap hbr
    simp only [List.nil_append, toL]
    have fin : ∀ w', Fr (fun g => mg = some g) w w' → BRep w' (fun g => (ok g ∨ w.heap.size ≤ g) ∧ g < w'.heap.size ∧ mg ≠ some g) mg ⟨.int .u8, l.reverse, false⟩ →
        ∃ xs, Ending.returned (.tuple #[]) = .returned (retV xs) ∧ Fr (fun g => mg = some g) w w' ∧ BRep w' (fun g => (ok g ∨ w.heap.size ≤ g) ∧ g < w'.heap.size ∧ mg ≠ some g) mg ⟨.int .u8, l.reverse, false⟩ ∧
      xs.length = (resO (.int .u8) 20000 .unit ()).length ∧
      ∀ (j : Nat) p u, (resO (.int .u8) 20000 .unit ())[j]? = some p → xs[j]? = some u → RepPV (fun g => ok g ∨ mg = some g ∨ w.heap.size ≤ g) w' (fun _ => mg) (lk [(20000, some ⟨.int .u8, l.reverse, false⟩)]) p u :=
      fun w' h1 h2 => ⟨[], rfl, h1, h2, rfl, fun j p u hj => by simp [resO] at hj⟩
    by_cases hz : l = []
    · subst hz
      refine (reverse_empty A cap w).mono fun x w' ⟨hx, hw⟩ => ?_
      subst hx hw
      refine fin _ (.refl _ _) ?_
      unfold BRep at hbr ⊢
      cases mg with
      | none => rfl
      | some g =>
        obtain ⟨c, eT, h1, h2, h3⟩ := hbr
        exact ⟨c, eT, h1, h2, fun i h => by simp at h⟩
    · have hpos : 0 < l.length := List.length_pos_iff.mpr hz
      cases mg with
      | none => exact absurd hbr hz
      | some g =>
        obtain ⟨o, rfl, h0, _, _⟩ := hv
        obtain rfl := h0 trivial
        obtain ⟨c, eT, hg, hsz, hc⟩ := hbr
        simp only [Ty.size, Nat.mul_one] at hsz hc
        have hcell : ∀ i, i < l.length → c[i]? = some (.int .u8 (l.getD i 0)) := fun i hi => by
          obtain ⟨es, he, hj⟩ := hc i hi
          have he : es = [.int .u8 l[i]] := he
          have := hj 0 _ (by rw [he]; rfl)
          simp only [Nat.add_zero] at this
          rw [this]; simp [List.getD, hi]
        have hH : Holds encU w g 0 l.toArray := fun j hj => by
          have hj' : j < l.length := by simpa using hj
          have hjc : j < c.size := by omega
          have h1 := hcell j hj'
          constructor
          · simp [World.cell?, hg, h1, encU, List.getD, hj']
          · simp [World.frozen?, hg]
        have hs : (Value.slice (some ⟨g, 0, none⟩) l.length cap) = .slice (some ⟨g, 0, none⟩) l.toArray.size cap := by simp
        rw [hs]
        refine (reverse_arr g 0 cap l.toArray w hH (by simp; omega)).mono fun x w' ⟨hx, n, hw⟩ => ?_
        subst hx
        have hhp : ∀ k, w'.heap[k]? = if k = g then some (.cells (putCells encU 0 l.toArray.reverse c) eT (0, 0)) else w.heap[k]? := fun k => by
          rw [hw, heap_putRow]
          split
          · rename_i h; subst h
            rw [heap_ahead, hg]; rfl
          · rfl
        have hpc : (putCells encU 0 l.toArray.reverse c).size = c.size := by simp [putCells]
        refine fin w' ⟨by rw [hw]; rfl, by rw [hw]; rfl, by rw [hw]; rfl, by rw [hw, size_putRow]; exact Nat.le_refl _, fun k hk hn => ?_, fun k c' eT' fr' hk hc' => ?_⟩ ?_
        · rw [hhp, if_neg]; intro e; exact hn (by rw [e])
        · rw [hhp] at hc'
          split at hc'
          · rename_i h; subst h
            injection hc' with hc'; injection hc' with e1 e2 e3
            exact ⟨c, eT, (0,0), hg, by rw [← e1, hpc]; exact Nat.le_refl _⟩
          · exact ⟨c', eT', fr', hc', Nat.le_refl _⟩
        · refine ⟨_, eT, by rw [hhp, if_pos rfl], by rw [hpc]; simpa [Ty.size] using hsz, fun i hi => ⟨[.int .u8 l.reverse[i]], rfl, fun j v hj => ?_⟩⟩
          have hi' : i < l.length := by simpa using hi
          cases j with
          | zero =>
            simp only [List.getElem?_cons_zero, Option.some.injEq] at hj
            subst hj
            have hic : i < c.size := by omega
            simp [Ty.size, putCells, hic, hi', encU]
          | succ j => simp at hj
  · cases hr
end Go.W

set_option linter.unusedVariables false
set_option linter.unusedSimpArgs false
namespace Go.W
open Go.Proofs Go.Shelf Go.RowKit Go.Lib

theorem ixL_eq (c : Int) (h0 : 0 ≤ c) (h1 : c < 256) : ∀ l : List UInt8, Lib.indexByte l c.toNat.toUInt8 = ixL (l.map fun b => (b.toNat : Int)) c
  | [] => rfl
  | b :: l => by
    have e : (b == c.toNat.toUInt8) = decide ((b.toNat : Int) = c) := by
      rw [Bool.eq_iff_iff, beq_iff_eq, decide_eq_true_eq, ← UInt8.toNat_inj]
      have : (c.toNat.toUInt8).toNat = c.toNat := by simp; omega
      rw [this]; omega
    rw [Lib.indexByte, List.map_cons, ixL, ← ixL_eq c h0 h1 l, e]
    by_cases h : (b.toNat : Int) = c
    · rw [if_pos (decide_eq_true h), if_pos h]
    · rw [if_neg (by rw [decide_eq_true_eq]; exact h), if_neg h]
      by_cases h' : Lib.indexByte l c.toNat.toUInt8 = -1
      · rw [if_pos (by rw [beq_iff_eq]; exact h'), if_pos h']
      · rw [if_neg (by rw [beq_iff_eq]; exact h'), if_neg h']

set_option maxHeartbeats 1000000 in
set_option maxRecDepth 100000 in
theorem indexByte_calls (s : ByteArray) (c : Int) (w : World) :
    Calls Try.prog 185 #[.string s, .int .u8 c] w fun e w' => e = .returned (.int .i64 (Lib.indexByte s.data.toList c.toNat.toUInt8)) ∧ w' = w := by
  have mixed : Try.prog.follows .mixedOrders = true := by kernel_rfl
  go_enter Try.func185, Try.ntmps185
  go_wp2
  rw [run_callFunc_extern Try.func192 (by kernel_rfl) (by kernel_rfl) (by kernel_rfl) (e := Extern.BytealgIndexByte.indexByte) (by kernel_rfl), Lib.run_indexByteString]
  simp only [Result.andThen]
  rw [Oper.upon_value]
  go_wp2
  go_ret
  exact ⟨rfl, rfl⟩

theorem fs_stringslite_IndexByte : FSound Try.prog 185 [.str, .int .u8] [(.int .i64, false)] (fun τ => F_stringslite_IndexByte τ.1 τ.2.1) := by
  intro τ r hr w ok vs hok hargs
  obtain ⟨s, c, ⟨⟩⟩ := τ
  obtain ⟨v1, vs1, rfl, ⟨cs1, h1, hx1⟩, v2, vs2, rfl, ⟨cs2, h2, hx2⟩, hnil⟩ := hargs
  have hnil : vs2 = [] := hnil
  subst hnil
  have h1 : cs1 = [.string s] := h1
  have h2 : cs2 = [.int .u8 c] := h2
  subst h1 h2
  have e1 : v1 = .string s := by
    rcases hx1 with ⟨h, _⟩ | ⟨_, h⟩
    · cases h
    · injection h with h _; exact h.symm
  have e2 : v2 = .int .u8 c := by
    rcases hx2 with ⟨h, _⟩ | ⟨_, h⟩
    · cases h
    · injection h with h _; exact h.symm
  subst e1 e2
  obtain ⟨⟨c0, c1⟩, hr⟩ := gif_some.1 (show gif (0 ≤ c ∧ c < 256) (ixL (toB s) c) = some r from hr)
  refine (indexByte_calls s c w).mono fun x w' ⟨hx, hw⟩ => ?_
  subst hx hw
  rw [ixL_eq c c0 c1]
  have hres : ResRep w' (fun g => (ok g ∨ w'.heap.size ≤ g) ∧ g < w'.heap.size) none w'.heap.size (enc [(Ty.int IntKind.i64, false)] r) [Value.int IntKind.i64 (ixL (toB s) c)] := by
    rw [← hr]
    exact ⟨_, [], rfl, ⟨_, rfl, .inr ⟨rfl, rfl⟩⟩, rfl⟩
  exact ⟨[.int .i64 (ixL (toB s) c)], none, rfl, .refl _ _, (by intro g h; cases h), hres⟩
end Go.W

