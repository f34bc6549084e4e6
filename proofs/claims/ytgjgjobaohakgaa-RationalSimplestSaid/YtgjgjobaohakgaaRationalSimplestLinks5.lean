/- A part of the proof: texts Row, RowT, RowR. What is proved in the end stands in the last file. -/
import Derived.Test.YtgjgjobaohakgaaRationalSimplestLinks4
import Derived.WalkKit
import Derived.ProofKit
import Derived.OpenShut
import Derived.ChangeOld
import Derived.Below
import Derived.ChangeArms
import Derived.Test.YtgjgjobaohakgaaRows
import Derived.JoinedOf
import Derived.KernelRfl
set_option linter.unusedVariables false
set_option linter.unusedSimpArgs false
set_option linter.unusedSectionVars false
set_option linter.unusedVariables false
set_option linter.unusedSimpArgs false
namespace Go.W
open Go.ChangeShapes Go.WideShapes Go.ChangeAt Go.RowKit

/-! ### What a statement's reading of an argument says -/
def wfT : (t : Ty) → t.D → Prop
  | .int k, n => k.min ≤ n ∧ n ≤ k.max
  | .bool, _ => True
  | .str, s => ByteArray.size s ≤ maxLen
  | .slice e, l => l.length ≤ maxLen ∧ ∀ x ∈ l, wfT e x
  | .pair a b, v => wfT a v.1 ∧ wfT b v.2
  | .arr n e, l => l.length = n ∧ ∀ x ∈ l, wfT e x

/-- a reading of cells opens to a typed value -/
def Opens (P : Program) (t : TypeId) (ty : Ty) : Prop := ∀ (H : Type) (enc : TypeId × Value → H) (w : World) (fuel : Nat) (cs : List Value) (x : DataW H × List MemPlace),
  DataW.trod enc P w 0 (fun _ => true) true fuel t cs = some x → ∃ v : ty.D, Rep w (fun g => g < w.heap.size) ty v cs ∧ wfT ty v

theorem opens_int {P : Program} {t : TypeId} {k : IntKind} (hu : P.underlying t = some (.int k)) : Opens P t (.int k) := by
  intro H enc w fuel cs x h
  obtain ⟨n, rfl, _, hw⟩ := DataW.trod_int hu h
  exact ⟨n, rfl, by simpa [wfT, Lit.wf] using hw⟩

theorem opens_bool {P : Program} {t : TypeId} (hu : P.underlying t = some .bool) : Opens P t .bool := by
  intro H enc w fuel cs x h
  obtain ⟨n, rfl, _⟩ := DataW.trod_bool hu h
  exact ⟨n, rfl, trivial⟩

theorem opens_str {P : Program} {t : TypeId} (hu : P.underlying t = some .string) : Opens P t .str := by
  intro H enc w fuel cs x h
  obtain ⟨n, rfl, _, hw⟩ := DataW.trod_string hu h
  exact ⟨n, rfl, hw⟩

theorem exists_listW {α : Type} {p : Nat → α → Prop} : ∀ n : Nat, (∀ i, i < n → ∃ x, p i x) → ∃ l : List α, l.length = n ∧ ∀ i (h : i < l.length), p i l[i]
  | 0, _ => ⟨[], rfl, fun i h => by simp at h⟩
  | n + 1, h => by
    obtain ⟨l, hl, hp⟩ := exists_listW n (fun i hi => h i (by omega))
    obtain ⟨x, hx⟩ := h n (by omega)
    refine ⟨l ++ [x], by simp [hl], fun i hi => ?_⟩
    by_cases hc : i < l.length
    · rw [List.getElem_append_left hc]; exact hp i hc
    · have : i = n := by simp at hi; omega
      subst this
      rw [List.getElem_append_right (by omega)]
      simpa [hl] using hx

theorem opens_slice {P : Program} {t e : TypeId} {ty : Ty} (hu : P.underlying t = some (.slice e)) (hc : P.cellsOf e = ty.size) (hp : 0 < ty.size) (he : Opens P e ty) : Opens P t (.slice ty) := by
  intro H enc w fuel cs x h
  rcases DataW.trod_slice hu h with ⟨rfl, _⟩ | ⟨a, len, cap, elems, rest, n, _, rfl, _, _, hl, hm, hlen, hel, _⟩
  · exact ⟨[], ⟨none, 0, rfl, Nat.le_refl _, fun i hi => by simp at hi⟩, by simp [wfT]⟩
  · obtain ⟨b, off, spot⟩ := a
    have hspot : 0 < len → spot = none := fun h0 => by
      have h1 := hel 0 h0
      have h2 : 0 < elems.length := by omega
      rw [List.getElem?_eq_getElem h2] at h1
      cases hcs : w.cells? 0 ((⟨b, off, spot⟩ : Addr).add (0 * P.cellsOf e)) (P.cellsOf e) with
      | none => rw [hcs] at h1; cases h1
      | some es =>
        unfold World.cells? at hcs
        rw [if_pos (Nat.zero_le _)] at hcs
        have := mapM_some_get hcs 0 0 (by rw [hc]; simp [hp])
        cases hz : es[0]? with
        | none =>
          rw [hz] at this
          have hlen := mapM_some_length hcs
          have := List.getElem?_eq_none_iff.1 hz
          simp at hlen; omega
        | some u => rw [hz] at this; exact World.cell?_spot (a := ⟨b, off, spot⟩) (by simpa [Addr.add] using this)
    have each : ∀ i, i < len → ∃ v : ty.D, (∃ es, Rep w (fun g => g < w.heap.size) ty v es ∧ b < w.heap.size ∧ spot = none ∧ ∀ j u, es[j]? = some u → w.cell? ⟨b, off + i * ty.size + j, none⟩ = some u) ∧ wfT ty v := fun i hi => by
      obtain rfl := hspot (by omega)
      have h1 := hel i hi
      have h2 : i < elems.length := by omega
      rw [List.getElem?_eq_getElem h2] at h1
      cases hcs : w.cells? 0 ((⟨b, off, none⟩ : Addr).add (i * P.cellsOf e)) (P.cellsOf e) with
      | none => rw [hcs] at h1; cases h1
      | some es =>
        rw [hcs] at h1
        obtain ⟨v, hr, hv⟩ := he H enc w n es _ h1
        unfold World.cells? at hcs
        rw [if_pos (Nat.zero_le _)] at hcs
        have hlen := mapM_some_length hcs
        have hget : ∀ j u, es[j]? = some u → w.cell? ⟨b, off + i * ty.size + j, none⟩ = some u := fun j u hj => by
          have hj' : j < P.cellsOf e := by
            have := (List.getElem?_eq_some_iff.1 hj).1
            simp at hlen; omega
          have := mapM_some_get hcs j j (by simp [hj'])
          rw [hj] at this
          rwa [Addr.add_lit, Addr.add_lit, hc] at this
        have hsz := hr.size
        obtain ⟨u, hu'⟩ : ∃ u, es[0]? = some u := ⟨es[0]'(by omega), by rw [List.getElem?_eq_getElem]⟩
        have h0 := hget 0 u hu'
        exact ⟨v, ⟨es, hr, World.block_lt_of_cell? w _ h0, rfl, hget⟩, hv⟩
    obtain ⟨l, hll, hl'⟩ := exists_listW len each
    refine ⟨l, ⟨_, cap, by rw [hll], by omega, fun i hi => ?_⟩, by omega, fun x hx => ?_⟩
    · obtain ⟨⟨es, hr, hb, rfl, hg⟩, _⟩ := hl' i hi
      exact ⟨b, off, es, rfl, hb, hr, hg⟩
    · obtain ⟨i, hi, rfl⟩ := List.getElem_of_mem hx
      exact (hl' i hi).2

theorem take_drop_all {α : Type} (l : List α) (a b : Nat) (h : l.length = a + b) : l = (l.drop 0).take a ++ (l.drop a).take b := by
  have : (l.drop a).take b = l.drop a := List.take_of_length_le (by simp; omega)
  rw [this, List.drop_zero, List.take_append_drop]

theorem opens_pair {P : Program} {t : TypeId} {f0 f1 : Field} {a b : Ty} (hu : P.underlying t = some (.struct #[f0, f1])) (hc : P.cellsOf t = a.size + b.size) (h0 : f0.offset = 0) (h1 : f1.offset = a.size)
    (c0 : P.cellsOf f0.type = a.size) (c1 : P.cellsOf f1.type = b.size) (o0 : Opens P f0.type a) (o1 : Opens P f1.type b) : Opens P t (.pair a b) := by
  intro H enc w fuel cs x h
  obtain ⟨y0, y1, n, _, hl, e0, e1⟩ := trod_struct2 hu h
  rw [h0, c0] at e0
  rw [h1, c1] at e1
  obtain ⟨v0, r0, w0⟩ := o0 H enc w n _ _ e0
  obtain ⟨v1, r1, w1⟩ := o1 H enc w n _ _ e1
  exact ⟨(v0, v1), ⟨_, _, take_drop_all cs _ _ (by omega), r0, r1⟩, w0, w1⟩

theorem opens_three {P : Program} {t : TypeId} {f0 f1 f2 : Field} {a b c : Ty} (hu : P.underlying t = some (.struct #[f0, f1, f2])) (hc : P.cellsOf t = a.size + (b.size + c.size)) (h0 : f0.offset = 0) (h1 : f1.offset = a.size)
    (h2 : f2.offset = a.size + b.size) (c0 : P.cellsOf f0.type = a.size) (c1 : P.cellsOf f1.type = b.size) (c2 : P.cellsOf f2.type = c.size) (o0 : Opens P f0.type a) (o1 : Opens P f1.type b) (o2 : Opens P f2.type c) : Opens P t (.pair a (.pair b c)) := by
  intro H enc w fuel cs x h
  obtain ⟨xs, n, _, rfl, hl, hlen, hf⟩ := DataW.trod_struct hu h
  match xs, hlen with
  | [y0, y1, y2], _ =>
    have e0 := hf 0 f0 rfl
    have e1 := hf 1 f1 rfl
    have e2 := hf 2 f2 rfl
    rw [h0, c0] at e0
    rw [h1, c1] at e1
    rw [h2, c2] at e2
    obtain ⟨v0, r0, w0⟩ := o0 H enc w n _ _ e0
    obtain ⟨v1, r1, w1⟩ := o1 H enc w n _ _ e1
    obtain ⟨v2, r2, w2⟩ := o2 H enc w n _ _ e2
    refine ⟨(v0, v1, v2), ⟨(cs.drop 0).take a.size, cs.drop a.size, by simp, r0, ⟨(cs.drop a.size).take b.size, (cs.drop (a.size + b.size)).take c.size, ?_, r1, r2⟩⟩, w0, w1, w2⟩
    have := take_drop_all (cs.drop a.size) b.size c.size (by simp; omega)
    simpa [List.drop_drop] using this

theorem opens_two {P : Program} {t e : TypeId} {ty : Ty} (hu : P.underlying t = some (.array 2 e)) (hc : P.cellsOf t = 2 * ty.size) (he : P.cellsOf e = ty.size) (o : Opens P e ty) : Opens P t (.arr 2 ty) := by
  intro H enc w fuel cs x h
  obtain ⟨xs, m, _, rfl, hl, hlen, hf⟩ := DataW.trod_array hu h
  match xs, hlen with
  | [y0, y1], _ =>
    have h0 := hf 0 (by omega)
    have h1 := hf 1 (by omega)
    rw [he] at h0 h1
    obtain ⟨v0, r0, w0⟩ := o H enc w m _ y0 h0
    obtain ⟨v1, r1, w1⟩ := o H enc w m _ y1 h1
    refine ⟨[v0, v1], ⟨rfl, [(cs.drop (0 * ty.size)).take ty.size, (cs.drop (1 * ty.size)).take ty.size], ?_, rfl, fun i hi hi' => ?_⟩, rfl, fun x hx => ?_⟩
    · have := take_drop_all cs ty.size ty.size (by omega)
      simpa using this
    · match i, hi with
      | 0, _ => exact r0
      | 1, _ => exact r1
    · simp only [List.mem_cons, List.not_mem_nil, or_false] at hx
      rcases hx with rfl | rfl
      · exact w0
      · exact w1

/-- a whole value opens -/
def OpensV (P : Program) (t : TypeId) (ty : Ty) : Prop := ∀ (H : Type) (enc : TypeId × Value → H) (w : World) (base : Nat) (v : Value) (d : DataW H) (ps : List MemPlace),
  Value.okWide P w .any base t v → DataW.Trod enc P w 0 (fun _ => true) true t v d ps → ∃ x : ty.D, RepV w (fun g => g < w.heap.size) ty x v ∧ wfT ty x

theorem opensV_int {P : Program} {t : TypeId} {k : IntKind} (hu : P.underlying t = some (.int k)) : OpensV P t (.int k) := by
  intro H enc w base v d ps ho ⟨fuel, h⟩
  obtain ⟨n, rfl⟩ := okWide_int hu ho
  obtain ⟨x, hr, hw⟩ := opens_int hu H enc w fuel _ _ h
  exact ⟨x, ⟨_, hr, .inr ⟨rfl, rfl⟩⟩, hw⟩
theorem opensV_bool {P : Program} {t : TypeId} (hu : P.underlying t = some .bool) : OpensV P t .bool := by
  intro H enc w base v d ps ho ⟨fuel, h⟩
  obtain ⟨n, rfl⟩ := okWide_bool hu ho
  obtain ⟨x, hr, hw⟩ := opens_bool hu H enc w fuel _ _ h
  exact ⟨x, ⟨_, hr, .inr ⟨rfl, rfl⟩⟩, hw⟩
theorem opensV_str {P : Program} {t : TypeId} (hu : P.underlying t = some .string) : OpensV P t .str := by
  intro H enc w base v d ps ho ⟨fuel, h⟩
  obtain ⟨n, rfl⟩ := okWide_string hu ho
  obtain ⟨x, hr, hw⟩ := opens_str hu H enc w fuel _ _ h
  exact ⟨x, ⟨_, hr, .inr ⟨rfl, rfl⟩⟩, hw⟩
theorem opensV_slice {P : Program} {t e : TypeId} {ty : Ty} (hu : P.underlying t = some (.slice e)) (ho : Opens P t (.slice ty)) : OpensV P t (.slice ty) := by
  intro H enc w base v d ps hk ⟨fuel, h⟩
  obtain ⟨a, len, cap, rfl⟩ := okWide_slice hu hk
  obtain ⟨x, hr, hw⟩ := ho H enc w fuel _ _ h
  exact ⟨x, ⟨_, hr, .inr ⟨rfl, rfl⟩⟩, hw⟩
theorem opensV_struct {P : Program} {t : TypeId} {fs : Array Field} {a b : Ty} (hu : P.underlying t = some (.struct fs)) (ho : Opens P t (.pair a b)) : OpensV P t (.pair a b) := by
  intro H enc w base v d ps hk ⟨fuel, h⟩
  obtain ⟨cs, rfl, _⟩ := okWide_struct hu hk
  obtain ⟨x, hr, hw⟩ := ho H enc w fuel _ _ h
  exact ⟨x, ⟨_, hr, .inl ⟨rfl, by simp [Value.cells]⟩⟩, hw⟩

theorem opensV_arr {P : Program} {t e : TypeId} {n : Nat} {ty : Ty} (hu : P.underlying t = some (.array n e)) (ho : Opens P t (.arr n ty)) : OpensV P t (.arr n ty) := by
  intro H enc w base v d ps hk ⟨fuel, h⟩
  have hk' : ∃ cs, v = .agg cs := by
    unfold Value.okWide at hk
    rw [hu] at hk
    obtain ⟨cs, e, _⟩ := hk
    exact ⟨cs, e⟩
  obtain ⟨cs, rfl⟩ := hk'
  obtain ⟨x, hr, hw⟩ := ho H enc w fuel _ _ h
  exact ⟨x, ⟨_, hr, .inl ⟨rfl, by simp [Value.cells]⟩⟩, hw⟩

/-! ### All arguments at once -/
def wfA : (ts : List Ty) → AT ts → Prop
  | [], _ => True
  | t :: ts, τ => wfT t τ.1 ∧ wfA ts τ.2
def ParsOK (P : Program) : List TypeId → List Ty → Prop
  | [], [] => True
  | t :: ts, ty :: tys => (OpensV P t ty ∧ P.readableRec t = true ∧ t < P.types.size) ∧ ParsOK P ts tys
  | _, _ => False

theorem args_open {P : Program} {H : Type} {enc : TypeId × Value → H} {w : World} {base : Nat} : ∀ {ts : List TypeId} {tys : List Ty} {vs : List Value} {ds : List (DataW H)} {ps : List MemPlace}, ParsOK P ts tys →
    DataW.TrodAll enc P w 0 (fun _ => true) true ts vs ds ps → (∀ (j : Nat) t v, ts[j]? = some t → vs[j]? = some v → Value.okWide P w .any base t v) →
    ∃ τ : AT tys, ArgsRep w (fun g => g < w.heap.size) tys τ vs ∧ wfA tys τ
  | [], [], vs, ds, ps, _, h, _ => by
    obtain ⟨rfl, rfl, rfl⟩ := trodAll_nil h
    exact ⟨(), rfl, trivial⟩
  | t :: ts, ty :: tys, vs, ds, ps, hp, h, hk => by
    obtain ⟨v, vs', d, ds', p, q, rfl, rfl, rfl, h1, h2⟩ := trodAll_cons h
    obtain ⟨x, hx, hw⟩ := hp.1.1 H enc w base v d p (hk 0 t v rfl rfl) h1
    obtain ⟨τ, hτ, hwτ⟩ := args_open hp.2 h2 (fun j t' v' ht hv => hk (j + 1) t' v' (by simpa using ht) (by simpa using hv))
    exact ⟨(x, τ), ⟨v, vs', rfl, hx, hτ⟩, hw, hwτ⟩
  | [], _ :: _, _, _, _, hp, _, _ => hp.elim
  | _ :: _, [], _, _, _, hp, _, _ => hp.elim

theorem args_shut {P : Program} (hl : laidOutB P = true) {H : Type} {enc : TypeId × Value → H} {w w' : World} (hb : Below w.heap.size w w') : ∀ {ts : List TypeId} {tys : List Ty} {vs : List Value} {ds : List (DataW H)} {ps : List MemPlace}, ParsOK P ts tys →
    DataW.TrodAll enc P w 0 (fun _ => true) true ts vs ds ps → DataW.TrodAll enc P w' 0 (fun b => decide (b < w.heap.size)) true ts vs ds ps
  | [], [], vs, ds, ps, _, h => by
    obtain ⟨rfl, rfl, rfl⟩ := trodAll_nil h
    exact rfl
  | t :: ts, ty :: tys, vs, ds, ps, hp, h => by
    obtain ⟨v, vs', d, ds', p, q, rfl, rfl, rfl, h1, h2⟩ := trodAll_cons h
    have lt : ∀ x ∈ p, x.block < w.heap.size := by obtain ⟨m, hm⟩ := h1; exact DataW.trod_lt m _ _ _ hm
    exact trodAll_cons_mk (Below.trod hl hp.1.2.1 hp.1.2.2 h1 hb lt) (args_shut hl hb hp.2 h2)
  | [], _ :: _, _, _, _, hp, _ => hp.elim
  | _ :: _, [], _, _, _, hp, _ => hp.elim

theorem Fr.below {w w' : World} (h : Fr (fun _ => False) w w') : Below w.heap.size w w' :=
  ⟨h.os, h.tape, h.output, h.size, fun k hk => h.block k hk (fun x => x)⟩

/-- A law that returns true for every input: its contract over the machine gives the statement's end. -/
theorem law_post {P : Program} {H : Type} {enc : TypeId × Value → H} {f : FuncId} {fn : Func} {s : ChangeSpec} {tys : List Ty} {F : AT tys → Option (RT [(.bool, false)])} (hl : laidOutB P = true) (hF : FSound P f tys [(.bool, false)] F) (hT : ∀ τ, wfA tys τ → F τ = some true)
    (hp : ParsOK P fn.params.toList tys) {rt : TypeId} (hr : fn.resultTypes = #[rt]) (hb : P.underlying rt = some .bool) (hv : s.vars = []) (hs : ∀ (ds : List (DataW H)), ds.length = fn.params.size → (s.fn H ds).results = [.lit (.bool true)] ∧ (s.fn H ds).args = ds ∧ (s.fn H ds).vars = [])
    {W : World} {base : Nat} {args : Array Value} {ds gs : List (DataW H)} {before : List MemPlace} (hval : ∀ (j : Nat) t v, fn.params[j]? = some t → args[j]? = some v → Value.okWide P W .any base t v)
    (hW : DataW.Whole enc P fn.params.toList s.vars false W args.toList ds gs before) :
    Calls P f args W fun e W' => ∃ v, e = .returned v ∧ s.post enc P fn false true false false W args v W' := by
  have hW' := hW
  obtain ⟨p, q, hA, hV, rfl, hfz, hnd⟩ := hW
  rw [hv] at hV
  obtain ⟨rfl, rfl⟩ := trodVars_none hV
  obtain ⟨τ, hτ, hw⟩ := args_open (base := base) hp hA (fun j t v ht hv => hval j t v (by simpa using ht) (by simpa using hv))
  have hc := hF τ true (hT τ hw) W (fun g => g < W.heap.size) args.toList (fun g hg => hg) hτ
  refine (show Calls P f args.toList.toArray W _ from hc).mono fun e W' ⟨xs, mg, he, hfr, _, hres⟩ => ?_
  obtain ⟨x, xs', rfl, hx, hxs⟩ := hres
  have hxs : xs' = [] := hxs
  subst hxs
  obtain ⟨cs, hcs, hcx⟩ := hx
  have hcs : cs = [.bool true] := hcs
  subst hcs
  have hxe : x = .bool true := by
    rcases hcx with ⟨h, _⟩ | ⟨_, h⟩
    · cases h
    · injection h with h _; exact h.symm
  subst hxe he
  have hbel := hfr.below
  have hlen : ds.length = fn.params.size := by
    have : ∀ {ts : List TypeId} {vs : List Value} {ds : List (DataW H)} {ps : List MemPlace}, DataW.TrodAll enc P W 0 (fun _ => true) true ts vs ds ps → ds.length = ts.length := by
      intro ts
      induction ts with
      | nil => intro vs ds ps h; obtain ⟨_, rfl, _⟩ := trodAll_nil h; rfl
      | cons t ts ih =>
        intro vs ds ps h
        obtain ⟨v, vs', d, ds', p, q, rfl, rfl, rfl, h1, h2⟩ := trodAll_cons h
        simp [ih h2]
    rw [this hA]; simp
  obtain ⟨e1, e2, e3⟩ := hs ds hlen
  refine ⟨_, rfl, ds, [], _, [], p, [], hW', ?_, ?_, ?_, hbel.frame _, fun h => by cases h⟩
  · rw [List.append_nil, e1, hr]
    exact trodAll_mk1 (shut_bool hb _)
  · rw [List.append_nil, e2]
    exact args_shut hl hbel hp hA
  · rw [List.append_nil, e3, hv]; exact rfl
end Go.W

set_option linter.unusedVariables false
namespace Go.W
open Go.Proofs Go.ChangeShapes Go.WideShapes Go.ChangeAt Go.RowKit

/-! ### The types of the laws' arguments -/
theorem own : ownKnob Try.prog.godebug = none := by kernel_rfl
theorem laidOut : laidOutB Try.prog = true := by kernel_rfl
theorem opens_nat : Opens Try.prog 23 (.slice (.int .u32)) := opens_slice Try.underlying23 (by kernel_rfl) (by decide) (opens_int Try.underlying153)
theorem opens_integer : Opens Try.prog 25 (.pair .bool (.slice (.int .u32))) := opens_pair Try.underlying25 (by kernel_rfl) rfl rfl (by kernel_rfl) (by kernel_rfl) (opens_bool Try.underlying4) opens_nat
theorem opens_rational : Opens Try.prog 27 (.pair (.pair .bool (.slice (.int .u32))) (.slice (.int .u32))) := opens_pair Try.underlying27 (by kernel_rfl) rfl rfl (by kernel_rfl) (by kernel_rfl) opens_integer opens_nat
abbrev tInt : Ty := .pair .bool (.slice (.int .u32))
abbrev tRat : Ty := .pair (.pair .bool (.slice (.int .u32))) (.slice (.int .u32))
abbrev tIv : Ty := .pair tRat tRat
theorem opens_interval : Opens Try.prog 65 (.pair tRat tRat) := opens_pair Try.underlying65 (by kernel_rfl) rfl rfl (by kernel_rfl) (by kernel_rfl) opens_rational opens_rational
theorem par_interval : OpensV Try.prog 65 tIv ∧ Try.prog.readableRec 65 = true ∧ 65 < Try.prog.types.size := ⟨opensV_struct Try.underlying65 opens_interval, by kernel_rfl, of_decide_eq_true (by kernel_rfl)⟩
theorem par_i64 : OpensV Try.prog 3 (.int .i64) ∧ Try.prog.readableRec 3 = true ∧ 3 < Try.prog.types.size := ⟨opensV_int Try.underlying3, by kernel_rfl, of_decide_eq_true (by kernel_rfl)⟩
theorem par_str : OpensV Try.prog 9 .str ∧ Try.prog.readableRec 9 = true ∧ 9 < Try.prog.types.size := ⟨opensV_str Try.underlying9, by kernel_rfl, of_decide_eq_true (by kernel_rfl)⟩
theorem opens_2 : Opens Try.prog 96 (.arr 2 tRat) := opens_two Try.underlying96 (by kernel_rfl) (by kernel_rfl) opens_rational
theorem par_two : OpensV Try.prog 96 (.arr 2 tRat) ∧ Try.prog.readableRec 96 = true ∧ 96 < Try.prog.types.size := ⟨opensV_arr Try.underlying96 opens_2, by kernel_rfl, of_decide_eq_true (by kernel_rfl)⟩
theorem par_rational : OpensV Try.prog 27 tRat ∧ Try.prog.readableRec 27 = true ∧ 27 < Try.prog.types.size := ⟨opensV_struct Try.underlying27 opens_rational, by kernel_rfl, of_decide_eq_true (by kernel_rfl)⟩
theorem par_integer : OpensV Try.prog 25 tInt ∧ Try.prog.readableRec 25 = true ∧ 25 < Try.prog.types.size := ⟨opensV_struct Try.underlying25 opens_integer, by kernel_rfl, of_decide_eq_true (by kernel_rfl)⟩
theorem par_i8 : OpensV Try.prog 28 (.int .i8) ∧ Try.prog.readableRec 28 = true ∧ 28 < Try.prog.types.size := ⟨opensV_int Try.underlying28, by kernel_rfl, of_decide_eq_true (by kernel_rfl)⟩

theorem DV_of {l : List Int} (h : wfT (.slice (.int .u32)) l) : DV 4294967296 l := fun x hx => by
  have h1 : (0 : Int) ≤ x ∧ x ≤ 4294967295 := h.2 x hx
  omega
theorem DI_of0 {a : tIv.D} (h : wfT tIv a) : (∀ {x : tRat.D}, wfT tRat x → DR x) → DI a := fun f => ⟨f h.1, f h.2⟩
theorem DR_of {a : tRat.D} (h : wfT tRat a) : DR a := ⟨DV_of h.1.2, DV_of h.2⟩
theorem DI_of {a : tIv.D} (h : wfT tIv a) : DI a := DI_of0 h DR_of
theorem two_of {a : List tRat.D} (h : wfT (.arr 2 tRat) a) : a.length = 2 ∧ ∀ c ∈ a, DR c := ⟨h.1, fun c hc => DR_of (h.2 c hc)⟩
end Go.W

set_option linter.unusedVariables false
namespace Go.W

/-! ### No function of a closure calls itself: by a rank -/
def leads (P : Program) (g : FuncId) : List FuncId := (P.funcs[g]?).elim [] P.leadsTo

theorem mem_closureVia {P : Program} {J : Nat → Prop} (hJ : ∀ g, J g → ∀ h ∈ leads P g, J h) : ∀ (n : Nat) (todo seen : List FuncId), (∀ x ∈ todo, J x) → (∀ x ∈ seen, J x) → ∀ x ∈ P.closureVia n todo seen, J x
  | 0, todo, seen, _, hs, x, hx => hs x (by simpa [Program.closureVia] using hx)
  | n + 1, [], seen, _, hs, x, hx => hs x (by simpa [Program.closureVia] using hx)
  | n + 1, f :: todo, seen, ht, hs, x, hx => by
    rw [Program.closureVia] at hx
    split at hx
    · exact mem_closureVia hJ n todo seen (fun y hy => ht y (List.mem_cons_of_mem _ hy)) hs x hx
    · refine mem_closureVia hJ n _ (f :: seen) (fun y hy => ?_) (fun y hy => ?_) x hx
      · rcases List.mem_append.1 hy with hy | hy
        · exact hJ f (ht f (by simp)) y hy
        · exact ht y (List.mem_cons_of_mem _ hy)
      · rcases List.mem_cons.1 hy with rfl | hy
        · exact ht _ (by simp)
        · exact hs y hy

def rankOK (P : Program) (l : List Nat) : Bool := l.all fun g => (leads P g).all fun h => Nat.blt (l.idxOf h) (l.idxOf g)

theorem recurses_false {P : Program} {f : FuncId} {l : List Nat} (hu : P.unfollowed f = false) (h : rankOK P l = true) (hf : l.contains f = true) : P.recurses f = false := by
  have hr : ∀ g, g ∈ l → ∀ h ∈ leads P g, h ∈ l ∧ l.idxOf h < l.idxOf g := fun g hg k hk => by
    have h1 := List.all_eq_true.1 h g hg
    have h2 := List.all_eq_true.1 h1 k hk
    have h3 : l.idxOf k < l.idxOf g := by simpa [Nat.blt_eq] using h2
    exact ⟨List.idxOf_lt_length_iff.1 (Nat.lt_of_lt_of_le h3 (List.idxOf_le_length)), h3⟩
  have hf : f ∈ l := by simpa using hf
  unfold Program.recurses
  rw [hu, Bool.false_or]
  rw [Bool.eq_false_iff]
  intro hx
  obtain ⟨g, hg, hx⟩ := List.any_eq_true.1 hx
  obtain ⟨k, hk, hx⟩ := List.any_eq_true.1 hx
  have hgl : g ∈ l := mem_closureVia (J := fun x => x ∈ l) (fun a ha b hb => (hr a ha b hb).1) _ [f] [] (fun x hx => by simpa using (by simpa using hx : x = f) ▸ hf) (fun x hx => by simp at hx) g hg
  obtain ⟨hkl, hlt⟩ := hr g hgl k hk
  have := mem_closureVia (J := fun x => x ∈ l ∧ l.idxOf x ≤ l.idxOf k) (fun a ha b hb => ⟨(hr a ha.1 b hb).1, Nat.le_trans (Nat.le_of_lt (hr a ha.1 b hb).2) ha.2⟩) _ [k] [] (fun x hx => by
    obtain rfl : x = k := by simpa using hx
    exact ⟨hkl, Nat.le_refl _⟩) (fun x hx => by simp at hx) g (by simpa [Program.closure] using hx)
  omega
end Go.W

