/- A part of the proof: texts Rev. What is proved in the end stands in the last file. -/
import Derived.Test.YtgjgjobaohakgaaWr4
import Derived.Test.YtgjgjobaohakgaaProg
import Derived.Shelf.RegionOpenPlain
import Derived.WalkKit
import Derived.Deep.LoopGhost
import Derived.Lib.Walk
import Derived.Sort.WalkB12
import Derived.Lib.SlicesMore
set_option linter.unusedVariables false
set_option linter.unusedSimpArgs false
set_option linter.unusedSectionVars false
set_option linter.unusedVariables false
set_option linter.unusedSimpArgs false
namespace Go.W
open Go.Proofs Go.Shelf Go.RowKit Go.Lib Go.Sort

abbrev encU : Int → Value := fun x => Value.int .u8 x

set_option maxHeartbeats 1600000 in
set_option maxRecDepth 1000000 in
theorem reverse_arr (blk off cap : Nat) (d : Array Int) (w : World) (hH : Holds encU w blk off d) (hsz : d.size ≤ 9223372036854775807) :
    Calls Try.prog 171 #[.slice (some ⟨blk, off, none⟩) d.size cap] w fun e w' => e = .returned (.tuple #[]) ∧ ∃ n, w' = putRow encU (Sort.ahead w n) blk off d.reverse := by
  have mixed : Try.prog.follows .mixedOrders = true := by kernel_rfl
  go_enter Try.func171, Try.ntmps171
  go_wp2
  go_loopg [2, 3] d.size (fun k s2 s3 wr => ∃ (i jn : Nat) (jz : Int) (dk : Array Int) (n : Nat), s2 = .int .i64 i ∧ s3 = .int .i64 jz ∧ ((i : Int) < jz → jz = jn ∧ jn < d.size) ∧ (¬ (i : Int) < jz → ¬ i < jn) ∧ jn - i ≤ k ∧
    dk.size = d.size ∧ wr = putRow encU (Sort.ahead w n) blk off dk ∧ reverseLoop i jn dk = reverseLoop 0 (d.size - 1) d)
  case atStart => exact ⟨0, d.size - 1, (d.size : Int) - 1, d, 0, rfl, rfl, fun h => ⟨by omega, by omega⟩, fun h => by omega, by omega, rfl, (putRow_self encU w blk off d hH).symm, rfl⟩
  case round =>
    obtain ⟨i, jn, jz, dk, n, rfl, rfl, h1, h2, hk, hds, hwr, heq⟩ := hrel
    by_cases hlt : (i : Int) < jz
    · obtain ⟨rfl, hjn⟩ := h1 hlt
      have hij : i < jn := by omega
      have hHk : Holds encU wr blk off dk := by rw [hwr]; exact holds_putRow encU _ blk off d dk (holds_ahead encU w n blk off d hH) hds
      obtain ⟨ci, fi⟩ := hHk i (by omega)
      obtain ⟨cj, fj⟩ := hHk jn (by omega)
      have A : Aside (wr = putRow encU (Sort.ahead w n) blk off dk) := hwr
      clear hwr hHk hH h1 h2
      go_wp2_with fail
      go_region_o
      go_wp2
      go_roundg (jn - 1 - (i + 1))
      case measure => omega
      case rel =>
        rw [reverseLoop, if_pos hij] at heq
        exact ⟨i + 1, jn - 1, (jn : Int) - 1, swp dk i jn, n + 1, by simp, rfl, fun h => ⟨by omega, by omega⟩, fun h => by omega, Nat.le_refl _, by rw [size_swp]; exact hds,
          swap_world encU (by omega) (by omega) A.out (by first | rfl | simp [encU, getElem!_pos, show jn < dk.size by omega]) (by first | rfl | simp [encU, getElem!_pos, show i < dk.size by omega]), heq⟩
    · have hnot := h2 hlt
      go_wp2
      go_end0
      refine ⟨rfl, n, ?_⟩
      rw [reverseLoop, if_neg hnot] at heq
      rw [← Lib.reverseLoop_reverse, ← heq]

set_option maxHeartbeats 1000000 in
theorem reverse_empty (a : Option Addr) (cap : Nat) (w : World) :
    Calls Try.prog 171 #[.slice a 0 cap] w fun e w' => e = .returned (.tuple #[]) ∧ w' = w := by
  have mixed : Try.prog.follows .mixedOrders = true := by kernel_rfl
  go_enter Try.func171, Try.ntmps171
  go_wp2
  go_loopg [2, 3] 0 (fun _ s2 s3 wr => s2 = .int .i64 0 ∧ s3 = .int .i64 (-1) ∧ wr = w)
  case atStart => exact ⟨rfl, rfl, rfl⟩
  case round =>
    obtain ⟨rfl, rfl, rfl⟩ := hrel
    go_wp2
    go_end0
    exact ⟨rfl, rfl⟩

theorem heap_putRow {α : Type} [Inhabited α] (enc : α → Value) (w : World) (blk off : Nat) (d : Array α) (g : Nat) : (putRow enc w blk off d).heap[g]? = if g = blk then (w.heap[g]?).map fun o => match o with
    | .cells c eT fr => .cells (putCells enc off d c) eT fr
    | o => o else w.heap[g]? := by
  unfold putRow mapBlock
  simp only [Array.getElem?_modify]
  split
  · rename_i h; subst h; simp
    cases w.heap[blk]? with
    | none => rfl
    | some o => cases o <;> rfl
  · rename_i h; rw [if_neg (fun e => h e.symm)]

theorem os_slices_Reverse : OSound Try.prog 171 [] false (.int .u8) .unit (fun τ l => O_slices_Reverse l) := by
  intro τ l r hr w ok mg vs v hok hmg hargs hbr hv
  have hvs : vs = [] := hargs
  subst hvs
  change gif (l.length ≤ 8796093022208) (l.reverse, ()) = some r at hr
  unfold gif at hr
  split at hr
  · rename_i hl
    injection hr with hr
    subst hr
    obtain ⟨ob, hob, hv⟩ := hv
    have hob' : ob = some ⟨.int .u8, l, false⟩ := by
      simp only [ownPV, lk_cons, if_true] at hob
      injection hob with hob; exact hob.symm
    obtain ⟨A, cap, rfl, hcap, hv⟩ := hv _ hob'
    simp only [toL] at hv hcap hbr
    simp only [List.nil_append, toL]
    have fin : ∀ w', Fr (fun g => mg = some g) w w' → BRep w' (fun g => (ok g ∨ w.heap.size ≤ g) ∧ g < w'.heap.size ∧ mg ≠ some g) mg ⟨.int .u8, l.reverse, false⟩ →
        ∃ xs, Ending.returned (.tuple #[]) = .returned (retV xs) ∧ Fr (fun g => mg = some g) w w' ∧ BRep w' (fun g => (ok g ∨ w.heap.size ≤ g) ∧ g < w'.heap.size ∧ mg ≠ some g) mg ⟨.int .u8, l.reverse, false⟩ ∧
      xs.length = (resO (.int .u8) 20000 .unit ()).length ∧
      ∀ (j : Nat) p u, (resO (.int .u8) 20000 .unit ())[j]? = some p → xs[j]? = some u → RepPV (fun g => ok g ∨ mg = some g ∨ w.heap.size ≤ g) w' (fun _ => mg) (lk [(20000, some ⟨.int .u8, l.reverse, false⟩)]) p u :=
      fun w' h1 h2 => ⟨[], rfl, h1, h2, rfl, fun j p u hj => by simp [resO] at hj⟩
    by_cases hz : l = []
    · subst hz
      refine (reverse_empty A cap w).mono fun x w' ⟨hx, hw⟩ => ?_
      subst hx hw
      refine fin _ (.refl _ _) ?_
      unfold BRep at hbr ⊢
      cases mg with
      | none => rfl
      | some g =>
        obtain ⟨c, eT, h1, h2, h3⟩ := hbr
        exact ⟨c, eT, h1, h2, fun i h => by simp at h⟩
    · have hpos : 0 < l.length := List.length_pos_iff.mpr hz
      cases mg with
      | none => exact absurd hbr hz
      | some g =>
        obtain ⟨o, rfl, h0, _, _⟩ := hv
        obtain rfl := h0 trivial
        obtain ⟨c, eT, hg, hsz, hc⟩ := hbr
        simp only [Ty.size, Nat.mul_one] at hsz hc
        have hcell : ∀ i, i < l.length → c[i]? = some (.int .u8 (l.getD i 0)) := fun i hi => by
          obtain ⟨es, he, hj⟩ := hc i hi
          have he : es = [.int .u8 l[i]] := he
          have := hj 0 _ (by rw [he]; rfl)
          simp only [Nat.add_zero] at this
          rw [this]; simp [List.getD, hi]
        have hH : Holds encU w g 0 l.toArray := fun j hj => by
          have hj' : j < l.length := by simpa using hj
          have hjc : j < c.size := by omega
          have h1 := hcell j hj'
          constructor
          · simp [World.cell?, hg, h1, encU, List.getD, hj']
          · simp [World.frozen?, hg]
        have hs : (Value.slice (some ⟨g, 0, none⟩) l.length cap) = .slice (some ⟨g, 0, none⟩) l.toArray.size cap := by simp
        rw [hs]
        refine (reverse_arr g 0 cap l.toArray w hH (by simp; omega)).mono fun x w' ⟨hx, n, hw⟩ => ?_
        subst hx
        have hhp : ∀ k, w'.heap[k]? = if k = g then some (.cells (putCells encU 0 l.toArray.reverse c) eT (0, 0)) else w.heap[k]? := fun k => by
          rw [hw, heap_putRow]
          split
          · rename_i h; subst h
            rw [heap_ahead, hg]; rfl
          · rfl
        have hpc : (putCells encU 0 l.toArray.reverse c).size = c.size := by simp [putCells]
        refine fin w' ⟨by rw [hw]; rfl, by rw [hw]; rfl, by rw [hw]; rfl, by rw [hw, size_putRow]; exact Nat.le_refl _, fun k hk hn => ?_, fun k c' eT' fr' hk hc' => ?_⟩ ?_
        · rw [hhp, if_neg]; intro e; exact hn (by rw [e])
        · rw [hhp] at hc'
          split at hc'
          · rename_i h; subst h
            injection hc' with hc'; injection hc' with e1 e2 e3
            exact ⟨c, eT, (0,0), hg, by rw [← e1, hpc]; exact Nat.le_refl _⟩
          · exact ⟨c', eT', fr', hc', Nat.le_refl _⟩
        · refine ⟨_, eT, by rw [hhp, if_pos rfl], by rw [hpc]; simpa [Ty.size] using hsz, fun i hi => ⟨[.int .u8 l.reverse[i]], rfl, fun j v hj => ?_⟩⟩
          have hi' : i < l.length := by simpa using hi
          cases j with
          | zero =>
            simp only [List.getElem?_cons_zero, Option.some.injEq] at hj
            subst hj
            have hic : i < c.size := by omega
            simp [Ty.size, putCells, hic, hi', encU]
          | succ j => simp at hj
  · cases hr
end Go.W

