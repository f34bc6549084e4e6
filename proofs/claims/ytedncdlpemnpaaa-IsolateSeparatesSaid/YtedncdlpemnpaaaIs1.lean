/- A part of the proof: texts RTy, M1, RRep, RFrz, RCall, RPath, ROp, ROpA, ROpB, ROpC, ROpD, ROpE, ROpF, ROpG, ROpH, ROpI, ROpJ, ROpK, ROpL, ROpM, ROpN, ROpO. What is proved in the end stands in the last file. -/
import Derived.Orders
import Derived.Laws.World
import Derived.IntWalk
import Derived.Laws.AppendOwn
import Derived.Laws.CopyRow
import Derived.Laws.Rows
import Derived.Laws.Small
import Derived.Laws.BytesString
import Derived.Lib.ConvBytes
set_option linter.unusedVariables false
set_option linter.unusedSimpArgs false
set_option linter.unusedSectionVars false
set_option linter.unusedVariables false
namespace Go.W

/-! ### 1. Types with a meaning -/
inductive Ty where
  | int (k : IntKind)
  | bool
  | str
  | slice (e : Ty)
  | pair (a b : Ty)
  | arr (n : Nat) (e : Ty)
  /-- one function, that captures nothing -/
  | fn (f : Nat)

@[reducible] def Ty.D : Ty → Type
  | .int _ => Int
  | .bool => Bool
  | .str => ByteArray
  | .slice e => List e.D
  | .pair a b => a.D × b.D
  | .arr _ e => List e.D
  | .fn _ => Unit

def Ty.z : (t : Ty) → t.D
  | .int _ => (0 : Int)
  | .bool => false
  | .str => (⟨#[]⟩ : ByteArray)
  | .slice _ => []
  | .pair a b => (a.z, b.z)
  | .arr n e => List.replicate n e.z
  | .fn _ => ()

def Ty.size : Ty → Nat
  | .int _ => 1
  | .bool => 1
  | .str => 1
  | .slice _ => 1
  | .pair a b => a.size + b.size
  | .arr n e => n * e.size
  | .fn _ => 1

def Ty.agg : Ty → Bool
  | .pair _ _ => true
  | .arr _ _ => true
  | _ => false

def Ty.same : (a b : Ty) → Option (PLift (a = b))
  | .int k, .int k' => if h : k = k' then some ⟨by rw [h]⟩ else none
  | .bool, .bool => some ⟨rfl⟩
  | .str, .str => some ⟨rfl⟩
  | .slice a, .slice b => match Ty.same a b with
    | some ⟨h⟩ => some ⟨by rw [h]⟩
    | none => none
  | .pair a b, .pair c d => match Ty.same a c with
    | some ⟨h⟩ => match Ty.same b d with
      | some ⟨h'⟩ => some ⟨by rw [h, h']⟩
      | none => none
    | none => none
  | .arr n a, .arr m b => if h : n = m then match Ty.same a b with
    | some ⟨h'⟩ => some ⟨by rw [h, h']⟩
    | none => none
    else none
  | .fn f, .fn g => if h : f = g then some ⟨by rw [h]⟩ else none
  | _, _ => none

def castD (t' t : Ty) (v : t'.D) : Option t.D :=
  match Ty.same t' t with
  | some ⟨h⟩ => some (h ▸ v)
  | none => none
def castL (t' t : Ty) (l : List t'.D) : Option (List t.D) :=
  match Ty.same t' t with
  | some ⟨h⟩ => some (h ▸ l)
  | none => none

/-! ### 2. Values of the evaluator -/
inductive Sel where
  | fst
  | snd
  | idx (i : Int)

inductive PV where
  | val (t : Ty) (v : t.D)
  | nil
  | loc (e : Ty) (b : Nat)
  | sub (e : Ty) (b : Nat) (off len : Int)
  | ptr (b : Nat) (i : Int) (p : List Sel)
  | eptr (t : Ty) (v : t.D)
  | fn (f : Nat) (caps : List Nat)

inductive TV where
  | one (p : PV)
  | tup (l : List PV)
  | undef

structure Blk where
  e : Ty
  l : List e.D
  fz : Bool

abbrev Ups := List (Nat × Option Blk)

structure St where
  tm : List (Nat × TV)
  hp : Ups

def lk {α : Type _} : List (Nat × α) → Nat → Option α
  | [], _ => none
  | (k, v) :: l, t => match Nat.beq k t with
    | true => some v
    | false => lk l t

def hlk (hp : Ups) (b : Nat) : Option Blk :=
  match lk hp b with
  | some (some x) => some x
  | _ => none

def St.set (st : St) (d : Option Nat) (tv : TV) (ups : Ups) : St :=
  match d with
  | some d => { tm := (d, tv) :: st.tm, hp := ups ++ st.hp }
  | none => { tm := st.tm, hp := ups ++ st.hp }

/-- What a call hands back. -/
inductive RV where
  | imm (t : Ty) (v : t.D)
  | own (e : Ty) (l : List e.D)

abbrev CallE := ∀ {ρ : Type}, List PV → (Nat → Option Blk) → (List RV → Ups → Option ρ) → Option ρ

/-- a call that works on the caller's own blocks: its results are values of the caller's -/
abbrev OwnE := ∀ {ρ : Type}, List PV → (Nat → Option Blk) → (List PV → Ups → Option ρ) → Option ρ

structure TI where
  ty : Ty
  n : Nat
  bytes : Nat

structure Env where
  ty : Nat → Option TI
  fn : Nat → Option CallE
  ow : Nat → Option OwnE

/-! ### 3. Paths -/
def getP {ρ : Type} (p : List Sel) : (t : Ty) → t.D → ((t' : Ty) → t'.D → Option ρ) → Option ρ :=
  match p with
  | [] => fun t v k => k t v
  | .fst :: p => fun t => match t with
    | .pair a _ => fun v k => getP p a v.1 k
    | _ => fun _ _ => none
  | .snd :: p => fun t => match t with
    | .pair _ b => fun v k => getP p b v.2 k
    | _ => fun _ _ => none
  | .idx i :: p => fun t => match t with
    | .arr _ e => fun v k => getP p e (v.getD i.toNat e.z) k
    | _ => fun _ _ => none

def putP (p : List Sel) (t' : Ty) (x : t'.D) : (t : Ty) → t.D → Option t.D :=
  match p with
  | [] => fun t _ => castD t' t x
  | .fst :: p => fun t => match t with
    | .pair a _ => fun v => match putP p t' x a v.1 with
      | some y => some (y, v.2)
      | none => none
    | _ => fun _ => none
  | .snd :: p => fun t => match t with
    | .pair _ b => fun v => match putP p t' x b v.2 with
      | some y => some (v.1, y)
      | none => none
    | _ => fun _ => none
  | .idx i :: p => fun t => match t with
    | .arr _ e => fun v => match putP p t' x e (v.getD i.toNat e.z) with
      | some y => some (v.set i.toNat y)
      | none => none
    | _ => fun _ => none

def subT (p : List Sel) : Ty → Option Ty :=
  match p with
  | [] => fun t => some t
  | .fst :: p => fun t => match t with
    | .pair a _ => subT p a
    | _ => none
  | .snd :: p => fun t => match t with
    | .pair _ b => subT p b
    | _ => none
  | .idx _ :: p => fun t => match t with
    | .arr _ e => subT p e
    | _ => none

/-- The path to field f of a struct of n fields. -/
def fpath : Nat → Nat → List Sel
  | 0, 0 => []
  | 1, 0 => []
  | _ + 2, 0 => [.fst]
  | n + 1, f + 1 => .snd :: fpath n f
  | 0, _ + 1 => []

/-! ### 4. A value handed on: from here on it is not written -/
def frz {ρ : Type} (h : Nat → Option Blk) (t : Ty) (pv : PV) (k : t.D → Ups → Option ρ) : Option ρ :=
  match pv with
  | .val t' v => match castD t' t v with
    | some x => k x []
    | none => none
  | .nil => match t, k with
    | .slice _, k => k [] []
    | _, _ => none
  | .loc _ b => match h b with
    | some blk => match castD (.slice blk.e) t blk.l with
      | some x => match blk.fz with
        | true => k x []
        | false => k x [(b, some { blk with fz := true })]
      | none => none
    | none => none
  | .sub _ b off len => match h b with
    | some blk => match castD (.slice blk.e) t ((blk.l.drop off.toNat).take len.toNat) with
      | some x => match blk.fz with
        | true => k x []
        | false => k x [(b, some { blk with fz := true })]
      | none => none
    | none => none
  | .fn g [] => match t, k with
    | .fn f, k => match Nat.beq g f with
      | true => k () []
      | false => none
    | _, _ => none
  | _ => none

/-! ### 5. Calls by contract: typed arguments, typed results -/
def AT : List Ty → Type
  | [] => Unit
  | t :: ts => t.D × AT ts

abbrev Sh := List (Ty × Bool)
/-- Results: one, or a product. -/
def RT : Sh → Type
  | [] => Unit
  | [(t, _)] => t.D
  | (t, _) :: s :: sh => t.D × RT (s :: sh)

def encRV (t : Ty) (own : Bool) (v : t.D) : RV :=
  match own with
  | false => .imm t v
  | true => match t, v with
    | .slice e, v => .own e v
    | t, v => .imm t v

def enc : (sh : Sh) → RT sh → List RV
  | [], _ => []
  | [(t, o)], v => [encRV t o v]
  | (t, o) :: s :: sh, v => encRV t o v.1 :: enc (s :: sh) v.2

def callGo {ρ : Type} (h : Nat → Option Blk) : (ts : List Ty) → (sh : Sh) → (AT ts → Option (RT sh)) → List PV → Ups → (List RV → Ups → Option ρ) → Option ρ
  | [], sh, F, args, ups, k => match args with
    | [] => (F ()).bind fun r => k (enc sh r) ups
    | _ :: _ => none
  | t :: ts, sh, F, args, ups, k => match args with
    | [] => none
    | a :: args => frz h t a fun x u => callGo h ts sh (fun τ => F (x, τ)) args (u ++ ups) k

def callE (ts : List Ty) (sh : Sh) (F : AT ts → Option (RT sh)) : CallE := fun args h k => callGo h ts sh F args [] k

/-! ### 6. Operations -/
def constTV : Value → Option TV
  | .int k n => some (.one (.val (.int k) n))
  | .bool b => some (.one (.val .bool b))
  | .string s => some (.one (.val .str s))
  | .slice none 0 0 => some (.one .nil)
  | _ => none

def opv (st : St) : Operand → Option TV
  | .tmp t => lk st.tm t
  | .const v => constTV v
  | .func f => some (.one (.fn f []))
  | .global _ => none

/-- byte i of a string -/
def bt (s : ByteArray) (i : Int) : Int := ((s.data.getD i.toNat 0).toNat : Int)

def intOp {ρ : Type} (op : BinOp) (k : IntKind) (a b : Int) (K : TV → Option ρ) : Option ρ :=
  match op with
  | .add => K (.one (.val (.int k) (k.wrap (a + b))))
  | .sub => K (.one (.val (.int k) (k.wrap (a - b))))
  | .mul => K (.one (.val (.int k) (k.wrap (a * b))))
  | .quo => if b = 0 then none else K (.one (.val (.int k) (k.wrap (a.tdiv b))))
  | .rem => if b = 0 then none else K (.one (.val (.int k) (a.tmod b)))
  | .and => K (.one (.val (.int k) (k.wrap (BitVec.ofInt k.bits a &&& BitVec.ofInt k.bits b).toNat)))
  | .or => K (.one (.val (.int k) (k.wrap (BitVec.ofInt k.bits a ||| BitVec.ofInt k.bits b).toNat)))
  | .xor => K (.one (.val (.int k) (k.wrap (BitVec.ofInt k.bits a ^^^ BitVec.ofInt k.bits b).toNat)))
  | .andNot => K (.one (.val (.int k) (k.wrap (BitVec.ofInt k.bits a &&& ~~~ (BitVec.ofInt k.bits b)).toNat)))
  | .eql => K (.one (.val .bool (a == b)))
  | .neq => K (.one (.val .bool (a != b)))
  | .lss => K (.one (.val .bool (decide (a < b))))
  | .leq => K (.one (.val .bool (decide (a ≤ b))))
  | .gtr => K (.one (.val .bool (decide (a > b))))
  | .geq => K (.one (.val .bool (decide (a ≥ b))))
  | _ => none

def shOp {ρ : Type} (op : BinOp) (k : IntKind) (a b : Int) (K : TV → Option ρ) : Option ρ :=
  if b < 0 then none else
  match op with
  | .shl => K (.one (.val (.int k) (k.wrap (a * 2 ^ (min b.toNat k.bits)))))
  | .shr => K (.one (.val (.int k) (a.fdiv (2 ^ (min b.toNat k.bits)))))
  | _ => none

def strOp {ρ : Type} (op : BinOp) (a b : ByteArray) (K : TV → Option ρ) : Option ρ :=
  match op with
  | .add => if a.size + b.size ≤ 9223372036854775807 then K (.one (.val .str (a ++ b))) else none
  | .eql => K (.one (.val .bool (a.toList == b.toList)))
  | .neq => K (.one (.val .bool !(a.toList == b.toList)))
  | _ => none

def isShift : BinOp → Bool
  | .shl => true
  | .shr => true
  | _ => false

def binE {ρ : Type} (tb : Bool) (op : BinOp) (x y : PV) (K : TV → Option ρ) : Option ρ :=
  match x, y with
  | .val (.int k) a, .val (.int k') b => match isShift op with
    | true => shOp op k a b K
    | false => if k = k' then intOp op k a b K else none
  | .val .str a, .val .str b => strOp op a b K
  | .val .bool a, .val .bool b => match tb, op with
    | true, .eql => K (.one (.val .bool (a == b)))
    | true, .neq => K (.one (.val .bool !(a == b)))
    | _, _ => none
  | _, _ => none

def isBool (i : Option TI) : Bool :=
  match i with
  | some ⟨.bool, _, _⟩ => true
  | _ => false

def unE {ρ : Type} (op : UnOp) (x : PV) (K : TV → Option ρ) : Option ρ :=
  match op, x with
  | .neg, .val (.int k) a => K (.one (.val (.int k) (k.wrap (0 - a))))
  | .not, .val .bool b => K (.one (.val .bool (!b)))
  | .xor, .val (.int k) a => K (.one (.val (.int k) (k.wrap (BitVec.ofInt k.bits (if k.signed then -1 else k.max) ^^^ BitVec.ofInt k.bits a).toNat)))
  | _, _ => none

def opInt {ρ : Type} (tv : Option TV) (K : Int → Option ρ) : Option ρ :=
  match tv with
  | some (.one (.val (.int _) n)) => K n
  | _ => none

def opOne {ρ : Type} (tv : Option TV) (K : PV → Option ρ) : Option ρ :=
  match tv with
  | some (.one p) => K p
  | _ => none

/-- parts of a literal: a struct's fields -/
def fillS {ρ : Type} (st : St) (n : Nat) (t : Ty) : List (Nat × Operand) → t.D → Ups → (t.D → Ups → Option ρ) → Option ρ
  | [], v, ups, K => K v ups
  | (i, x) :: ps, v, ups, K => opOne (opv st x) fun pv =>
    match subT (fpath n i) t, Nat.blt i n with
    | some s, true => frz (hlk st.hp) s pv fun y u =>
      match putP (fpath n i) s y t v with
      | some v' => fillS st n t ps v' (u ++ ups) K
      | none => none
    | _, _ => none

/-- .. a slice's or an array's elements -/
def fillL {ρ : Type} (st : St) (e : Ty) (n : Nat) : List (Nat × Operand) → List e.D → Ups → (List e.D → Ups → Option ρ) → Option ρ
  | [], v, ups, K => K v ups
  | (i, x) :: ps, v, ups, K => opOne (opv st x) fun pv =>
    match Nat.blt i n with
    | true => frz (hlk st.hp) e pv fun y u => fillL st e n ps (v.set i y) (u ++ ups) K
    | false => none

def sameOperand : Operand → Operand → Bool
  | .tmp a, .tmp b => Nat.beq a b
  | .const (.int _ a), .const (.int _ b) => a == b
  | _, _ => false

def bound {ρ : Type} (st : St) (x : Option Operand) (d : Int) (K : Int → Option ρ) : Option ρ :=
  match x with
  | none => K d
  | some x => opInt (opv st x) K

def sliceE {ρ : Type} (st : St) (ty : Ty) (x : PV) (lo hi : Option Operand) (K : TV → Option ρ) : Option ρ :=
  match ty with
  | .str => match x with
    | .val .str s => match lo, hi with
      | none, none => none
      | some l, none => opInt (opv st l) fun l => if 0 ≤ l ∧ l ≤ (s.size : Int) then K (.one (.val .str (s.extract l.toNat s.size))) else none
      | none, some h => opInt (opv st h) fun h => if 0 ≤ h ∧ h ≤ (s.size : Int) then K (.one (.val .str (s.extract 0 h.toNat))) else none
      | some l, some h => opInt (opv st l) fun l => opInt (opv st h) fun h => if 0 ≤ l ∧ l ≤ h ∧ h ≤ (s.size : Int) then K (.one (.val .str (s.extract l.toNat h.toNat))) else none
    | _ => none
  | .slice e' => match x with
    | .val (.slice e) s => match Ty.same e' e with
      | some _ => match lo, hi with
        | none, none => none
        | some l, none => opInt (opv st l) fun l => if 0 ≤ l ∧ l ≤ (s.length : Int) then K (.one (.val (.slice e) (s.drop l.toNat))) else none
        | none, some h => opInt (opv st h) fun h => if 0 ≤ h ∧ h ≤ (s.length : Int) then K (.one (.val (.slice e) (s.take h.toNat))) else none
        | some l, some h => opInt (opv st l) fun l => opInt (opv st h) fun h => if 0 ≤ l ∧ l ≤ h ∧ h ≤ (s.length : Int) then K (.one (.val (.slice e) ((s.take h.toNat).drop l.toNat))) else none
      | none => none
    | .loc e b => match hlk st.hp b with
      | some blk => match Ty.same e' blk.e with
        | some _ => match lo, hi with
          | none, none => none
          | some l, none => opInt (opv st l) fun l => if 0 ≤ l ∧ l ≤ (blk.l.length : Int) then K (.one (.sub e b l ((blk.l.length : Int) - l))) else none
          | none, some h => opInt (opv st h) fun h => if 0 ≤ h ∧ h ≤ (blk.l.length : Int) then K (.one (.sub e b 0 h)) else none
          | some l, some h => opInt (opv st l) fun l => opInt (opv st h) fun h => if 0 ≤ l ∧ l ≤ h ∧ h ≤ (blk.l.length : Int) then K (.one (.sub e b l (h - l))) else none
        | none => none
      | none => none
    | _ => none
  | _ => none

/-- a slice that is only read: its list -/
def rdL {ρ : Type} (h : Nat → Option Blk) (e : Ty) (pv : PV) (K : List e.D → Option ρ) : Option ρ :=
  match pv with
  | .val t' v => match castD t' (.slice e) v with
    | some x => K x
    | none => none
  | .nil => K []
  | .loc _ b => match h b with
    | some blk => match castL blk.e e blk.l with
      | some x => K x
      | none => none
    | none => none
  | .sub _ b off len => match h b with
    | some blk => match castL blk.e e ((blk.l.drop off.toNat).take len.toNat) with
      | some x => K x
      | none => none
    | none => none
  | _ => none

def appE {ρ : Type} (st : St) (e : Ty) (bytes d : Nat) (s x : PV) (K : TV → Ups → Option ρ) : Option ρ :=
  rdL (hlk st.hp) e x fun ys =>
  match s with
  | .nil => if ys.length ≤ 70368744177664 / bytes then K (.one (.loc e d)) [(d, some ⟨e, ys, false⟩)] else none
  | .loc _ b => match hlk st.hp b with
    | some ⟨e', l, false⟩ => match castL e' e l with
      | some l => if l.length + ys.length ≤ 70368744177664 / bytes then K (.one (.loc e d)) [(d, some ⟨e, l ++ ys, false⟩), (b, none)] else none
      | none => none
    | _ => none
  | .sub _ b off len => match hlk st.hp b with
    | some ⟨e', l, false⟩ => match castL e' e l with
      | some l => if off = 0 ∧ (l.take len.toNat).length + ys.length ≤ 70368744177664 / bytes then K (.one (.loc e d)) [(d, some ⟨e, l.take len.toNat ++ ys, false⟩), (b, none)] else none
      | none => none
    | _ => none
  | _ => none

/-- copy: all of the source, into a part of an own row -/
def copyE {ρ : Type} (h : Nat → Option Blk) (e : Ty) (x y : PV) (K : TV → Ups → Option ρ) : Option ρ :=
  rdL h e y fun ys =>
  match x with
  | .sub _ b off len => match h b with
    | some ⟨e', l, false⟩ => match castL e' e l with
      | some l => if ys.length ≤ len.toNat then K (.one (.val (.int .i64) ((ys.length : Nat) : Int))) [(b, some ⟨e, l.take off.toNat ++ ys ++ l.drop (off.toNat + ys.length), false⟩)] else none
      | none => none
    | _ => none
  | _ => none

def lenE {ρ : Type} (ty : Ty) (h : Nat → Option Blk) (x : PV) (K : TV → Option ρ) : Option ρ :=
  match ty with
  | .str => match x with
    | .val .str s => K (.one (.val (.int .i64) (s.size : Int)))
    | _ => none
  | .slice _ => match x with
    | .val (.slice _) l => K (.one (.val (.int .i64) (l.length : Int)))
    | .nil => K (.one (.val (.int .i64) 0))
    | .loc _ b => match h b with
      | some blk => K (.one (.val (.int .i64) (blk.l.length : Int)))
      | none => none
    | .sub _ b _ len => match h b with
      | some _ => K (.one (.val (.int .i64) len))
      | none => none
    | _ => none
  | .arr n _ => K (.one (.val (.int .i64) (n : Int)))
  | _ => none

def rvPV (d : Nat) : List RV → Nat → List PV × Ups
  | [], _ => ([], [])
  | .imm t v :: l, j => (.val t v :: (rvPV d l (j + 1)).1, (rvPV d l (j + 1)).2)
  | .own e x :: l, j => (.loc e (d + 100000 * j) :: (rvPV d l (j + 1)).1, (d + 100000 * j, some ⟨e, x, false⟩) :: (rvPV d l (j + 1)).2)

def ownN : List RV → Nat
  | [] => 0
  | .imm _ _ :: l => ownN l
  | .own _ _ :: l => ownN l + 1

def freshE (hp : Ups) : Ups → Bool
  | [] => true
  | (b, _) :: l => match lk hp b with
    | none => freshE hp l
    | some _ => false

def rvTV (ps : List PV) : TV :=
  match ps with
  | [p] => .one p
  | ps => .tup ps

def opArgs {ρ : Type} (st : St) : List Operand → (List PV → Option ρ) → Option ρ
  | [], K => K []
  | x :: xs, K => opOne (opv st x) fun p => opArgs st xs fun ps => K (p :: ps)

def fnCall {ρ : Type} (E : Env) (st : St) (d : Nat) (f : Nat) (args : List PV) (K : TV → Ups → Option ρ) : Option ρ :=
  match E.fn f with
  | some C => C args (hlk st.hp) fun rs ups => match Bool.and (freshE st.hp (rvPV d rs 0).2) (Nat.ble (ownN rs) 1) with
    | true => K (rvTV (rvPV d rs 0).1) ((rvPV d rs 0).2 ++ ups)
    | false => none
  | none => match E.ow f with
    | some C => C args (hlk st.hp) fun ps ups => K (rvTV ps) ups
    | none => none

def minE {ρ : Type} (mx : Bool) : List PV → (Int → Option ρ) → Option ρ
  | [.val (.int .i64) a, .val (.int .i64) b], K => match mx with
    | true => K (if b > a then b else a)
    | false => K (if b < a then b else a)
  | _, _ => none

def allocE {ρ : Type} (st : St) (d : Nat) (t : Ty) (v : t.D) (K : TV → Ups → Option ρ) : Option ρ :=
  match lk st.hp d with
  | none => K (.one (.ptr d 0 [])) [(d, some ⟨t, [v], false⟩)]
  | some _ => none

def isCap : PV → Option Nat
  | .ptr b 0 [] => some b
  | _ => none
def capsOf : List PV → Option (List Nat)
  | [] => some []
  | p :: ps => match isCap p with
    | some b => match capsOf ps with
      | some bs => some (b :: bs)
      | none => none
    | none => none

def loadE {ρ : Type} (h : Nat → Option Blk) (t : Ty) (x : PV) (K : TV → Option ρ) : Option ρ :=
  match x with
  | .ptr b i p => match h b with
    | some blk => getP p blk.e (blk.l.getD i.toNat blk.e.z) fun t' v => match castD t' t v with
      | some v => K (.one (.val t v))
      | none => none
    | none => none
  | .eptr t' v => match castD t' t v with
    | some v => K (.one (.val t v))
    | none => none
  | _ => none

def storeE {ρ : Type} (h : Nat → Option Blk) (t : Ty) (x y : PV) (K : Ups → Option ρ) : Option ρ :=
  match x with
  | .ptr b i p => match h b with
    | some ⟨e, l, false⟩ => frz h t y fun v u => match lk u b, putP p t v e (l.getD i.toNat e.z) with
      | none, some v' => K ((b, some ⟨e, l.set i.toNat v', false⟩) :: u)
      | _, _ => none
    | _ => none
  | _ => none

def indexAddrE {ρ : Type} (ty : Ty) (h : Nat → Option Blk) (x : PV) (i : Int) (K : TV → Option ρ) : Option ρ :=
  match ty with
  | .slice e' => match x with
    | .val (.slice e) l => match Ty.same e' e with
      | some _ => if 0 ≤ i ∧ i < (l.length : Int) then K (.one (.eptr e (l.getD i.toNat e.z))) else none
      | none => none
    | .loc _ b => match h b with
      | some blk => match Ty.same e' blk.e with
        | some _ => if 0 ≤ i ∧ i < (blk.l.length : Int) then K (.one (.ptr b i [])) else none
        | none => none
      | none => none
    | .sub _ b off len => match h b with
      | some blk => match Ty.same e' blk.e with
        | some _ => if 0 ≤ i ∧ i < len then K (.one (.ptr b (off + i) [])) else none
        | none => none
      | none => none
    | _ => none
  | .arr n e' => match x with
    | .ptr b j p => match h b with
      | some blk => match subT p blk.e with
        | some t => match Ty.same t (.arr n e') with
          | some _ => if 0 ≤ i ∧ i < (n : Int) then K (.one (.ptr b j (p ++ [.idx i]))) else none
          | none => none
        | none => none
      | none => none
    | .eptr t v => match castD t (.arr n e') v with
      | some v => if 0 ≤ i ∧ i < (n : Int) then K (.one (.eptr e' (v.getD i.toNat e'.z))) else none
      | none => none
    | _ => none
  | _ => none

def indexE {ρ : Type} (ty : Ty) (x : PV) (i : Int) (K : TV → Option ρ) : Option ρ :=
  match ty with
  | .str => match x with
    | .val .str s => if 0 ≤ i ∧ i < (s.size : Int) then K (.one (.val (.int .u8) (bt s i))) else none
    | _ => none
  | .arr n e => match x with
    | .val t v => match castD t (.arr n e) v with
      | some v => if 0 ≤ i ∧ i < (n : Int) then K (.one (.val e (v.getD i.toNat e.z))) else none
      | none => none
    | _ => none
  | _ => none

/-- bytes as a string, and back -/
def ofB (l : List Int) : ByteArray := ⟨(l.map fun n => UInt8.ofNat n.toNat).toArray⟩
def toB (s : ByteArray) : List Int := s.data.toList.map fun b => (b.toNat : Int)

def convE {ρ : Type} (s t : Ty) (h : Nat → Option Blk) (x : PV) (K : TV → Option ρ) : Option ρ :=
  match t, x with
  | .int k, .val (.int _) n => K (.one (.val (.int k) (k.wrap n)))
  | .slice (.int .u8), .val .str v => K (.one (.val (.slice (.int .u8)) (toB v)))
  | .str, x => match s with
    | .slice (.int .u8) => rdL h (.int .u8) x fun l => K (.one (.val .str (ofB l)))
    | _ => none
  | _, _ => none

def fieldAddrE {ρ : Type} (n f : Nat) (ty : Ty) (h : Nat → Option Blk) (x : PV) (K : TV → Option ρ) : Option ρ :=
  match ty with
  | .pair a b => match x with
    | .ptr k i p => match h k with
      | some blk => match subT p blk.e with
        | some t' => match Ty.same t' (.pair a b) with
          | some _ => K (.one (.ptr k i (p ++ fpath n f)))
          | none => none
        | none => none
      | none => none
    | .eptr t v => match Ty.same t (.pair a b) with
      | some _ => getP (fpath n f) t v fun t' v' => K (.one (.eptr t' v'))
      | none => none
    | _ => none
  | _ => none

def fieldE {ρ : Type} (n f : Nat) (ty : Ty) (x : PV) (K : TV → Option ρ) : Option ρ :=
  match ty with
  | .pair a b => match x with
    | .val t v => match Ty.same t (.pair a b) with
      | some _ => getP (fpath n f) t v fun t' v' => K (.one (.val t' v'))
      | none => none
    | _ => none
  | _ => none

def tyOf {ρ : Type} (E : Env) (t : Nat) (K : TI → Option ρ) : Option ρ :=
  match E.ty t with
  | some i => K i
  | none => none

def opE {ρ : Type} (E : Env) (st : St) (o : Oper) (K : TV → Ups → Option ρ) : Option ρ :=
  match o.op with
  | .move x => match opv st x with
    | some tv => K tv []
    | none => none
  | .assign x => match opv st x with
    | some tv => K tv []
    | none => none
  | .pick c a b => match opv st c with
    | some (.one (.val .bool c)) => if c = true then opOne (opv st a) fun p => K (.one p) [] else opOne (opv st b) fun p => K (.one p) []
    | _ => none
  | .alloc t => tyOf E t fun i => match o.dst with
    | some d => allocE st d i.ty i.ty.z K
    | none => none
  | .box t x => tyOf E t fun i => match o.dst with
    | some d => opOne (opv st x) fun p => frz (hlk st.hp) i.ty p fun v u => allocE st d i.ty v fun tv u' => K tv (u' ++ u)
    | none => none
  | .build t ps => tyOf E t fun i => match i.ty with
    | .pair a b => fillS st i.n (.pair a b) ps.toList (Ty.z (.pair a b)) [] fun v u => K (.one (.val (.pair a b) v)) u
    | .arr n e => fillL st e n ps.toList (Ty.z (.arr n e)) [] fun v u => K (.one (.val (.arr n e) v)) u
    | _ => none
  | .buildSlice t len ps => tyOf E t fun i => match i.ty, o.dst with
    | .slice e, some d => match lk st.hp d with
      | none => if len * e.size ≤ 16777216 then fillL st e len ps.toList (List.replicate len e.z) [] fun v u => K (.one (.loc e d)) ((d, some ⟨e, v, false⟩) :: u) else none
      | some _ => none
    | _, _ => none
  | .load t x => tyOf E t fun i => opOne (opv st x) fun p => loadE (hlk st.hp) i.ty p fun tv => K tv []
  | .store t x y => tyOf E t fun i => opOne (opv st x) fun p => opOne (opv st y) fun q => storeE (hlk st.hp) i.ty p q fun u => K .undef u
  | .binOp op t x y _ => opOne (opv st x) fun p => opOne (opv st y) fun q => binE (isBool (E.ty t)) op p q fun tv => K tv []
  | .unOp op _ x => opOne (opv st x) fun p => unE op p fun tv => K tv []
  | .convert s t x => tyOf E s fun i0 => tyOf E t fun i => opOne (opv st x) fun p => convE i0.ty i.ty (hlk st.hp) p fun tv => K tv []
  | .makeFunc (.func f) first caps => match first.toList with
    | [] => opArgs st caps.toList fun ps => match capsOf ps with
      | some bs => K (.one (.fn f bs)) []
      | none => none
    | _ => none
  | .makeSlice t l c => tyOf E t fun i => match i.ty, o.dst, sameOperand l c with
    | .slice e, some d, true => match lk st.hp d with
      | none => opInt (opv st l) fun n => if 0 ≤ n ∧ n ≤ ((70368744177664 / i.bytes : Nat) : Int) then K (.one (.loc e d)) [(d, some ⟨e, List.replicate n.toNat e.z, false⟩)] else none
      | some _ => none
    | _, _, _ => none
  | .slice t x lo hi none => tyOf E t fun i => opOne (opv st x) fun p => sliceE st i.ty p lo hi fun tv => K tv []
  | .fieldAddr s x f => tyOf E s fun i => opOne (opv st x) fun p => if f < i.n then fieldAddrE i.n f i.ty (hlk st.hp) p fun tv => K tv [] else none
  | .field s x f => tyOf E s fun i => opOne (opv st x) fun p => if f < i.n then fieldE i.n f i.ty p fun tv => K tv [] else none
  | .indexAddr t x ix => tyOf E t fun i => opOne (opv st x) fun p => opInt (opv st ix) fun n => indexAddrE i.ty (hlk st.hp) p n fun tv => K tv []
  | .index t x ix => tyOf E t fun i => opOne (opv st x) fun p => opInt (opv st ix) fun n => indexE i.ty p n fun tv => K tv []
  | .extract x j => match opv st x with
    | some (.tup l) => match l[j]? with
      | some p => K (.one p) []
      | none => none
    | _ => none
  | .call { callee := .builtin .len, args, argTypes } => match argTypes.toList with
    | t :: _ => tyOf E t fun i => opArgs st args.toList fun ps => match ps with
      | [p] => lenE i.ty (hlk st.hp) p fun tv => K tv []
      | _ => none
    | _ => none
  | .call { callee := .builtin .append, args, argTypes } => match o.dst, argTypes.toList with
    | some d, t :: t2 :: _ => tyOf E t fun i => tyOf E t2 fun i2 => match i.ty, i2.ty with
      | .slice e, .slice _ => match lk st.hp d with
        | none => opArgs st args.toList fun ps => match ps with
          | [s, x] => appE st e i.bytes d s x K
          | _ => none
        | some _ => none
      | _, _ => none
    | _, _ => none
  | .call { callee := .builtin .copy, args, argTypes } => match argTypes.toList with
    | t :: _ => tyOf E t fun i => match i.ty with
      | .slice e => opArgs st args.toList fun ps => match ps with
        | [x, y] => copyE (hlk st.hp) e x y K
        | _ => none
      | _ => none
    | _ => none
  | .call { callee := .builtin .min, args, .. } => opArgs st args.toList fun ps => minE false ps fun n => K (.one (.val (.int .i64) n)) []
  | .call { callee := .builtin .max, args, .. } => opArgs st args.toList fun ps => minE true ps fun n => K (.one (.val (.int .i64) n)) []
  | .call { callee := .value (.func f), args, .. } => opArgs st args.toList fun ps => fnCall E st (o.dst.getD 900000) f ps K
  | .call { callee := .value (.tmp t), args, .. } => match lk st.tm t with
    | some (.one (.fn f caps)) => opArgs st args.toList fun ps => fnCall E st (o.dst.getD 900000) f (ps ++ caps.map fun b => .ptr b 0 []) K
    | some (.one (.val (.fn f) _)) => opArgs st args.toList fun ps => fnCall E st (o.dst.getD 900000) f ps K
    | _ => none
  | _ => none

end Go.W

set_option linter.unusedVariables false
namespace Go.W

/-! ### Digits: the value of a list of digits in base B, lowest first -/
def gv (B : Int) : List Int → Int
  | [] => 0
  | x :: l => x + B * gv B l
def DV (B : Int) (a : List Int) : Prop := ∀ x ∈ a, 0 ≤ x ∧ x < B

def gd (B : Int) (n : Int) : List Int := if h : n ≤ 0 ∨ B ≤ 1 then [] else n % B :: gd B (n / B)
termination_by n.toNat
decreasing_by
  have h1 : 0 < n := by omega
  have h2 : 1 < B := by omega
  have h3 : n / B < n := Int.ediv_lt_of_lt_mul (by omega) (by
    have : n * 1 < n * B := Int.mul_lt_mul_of_pos_left h2 h1
    simpa using this)
  omega

theorem DV.nil {B : Int} : DV B [] := by simp [DV]
theorem DV.cons {B x : Int} {l : List Int} : DV B (x :: l) ↔ (0 ≤ x ∧ x < B) ∧ DV B l := by simp [DV]
theorem DV.append {B : Int} {a b : List Int} : DV B (a ++ b) ↔ DV B a ∧ DV B b := by
  simp only [DV, List.mem_append]
  exact ⟨fun h => ⟨fun x hx => h x (.inl hx), fun x hx => h x (.inr hx)⟩, fun h x hx => hx.elim (h.1 x) (h.2 x)⟩
theorem DV.take {B : Int} {a : List Int} (h : DV B a) (k : Nat) : DV B (a.take k) := fun x hx => h x (List.mem_of_mem_take hx)
theorem DV.drop {B : Int} {a : List Int} (h : DV B a) (k : Nat) : DV B (a.drop k) := fun x hx => h x (List.mem_of_mem_drop hx)
theorem DV.set {B : Int} {a : List Int} (h : DV B a) {k : Nat} {v : Int} (hv : 0 ≤ v ∧ v < B) : DV B (a.set k v) := fun x hx => by
  rcases List.mem_or_eq_of_mem_set hx with hx | rfl
  · exact h x hx
  · exact hv
theorem DV.get {B : Int} {a : List Int} (h : DV B a) (hB : 0 < B) (k : Nat) : 0 ≤ a.getD k 0 ∧ a.getD k 0 < B := by
  rw [List.getD_eq_getElem?_getD]
  cases hk : a[k]? with
  | none => simpa using hB
  | some x => simpa using h x (List.mem_of_getElem? hk)
theorem DV.replicate {B : Int} (hB : 0 < B) (n : Nat) : DV B (List.replicate n 0) := fun x hx => by
  rw [List.mem_replicate] at hx; obtain ⟨_, rfl⟩ := hx; exact ⟨Int.le_refl _, hB⟩

theorem gv_nonneg {B : Int} (hB : 0 ≤ B) : ∀ {a : List Int}, DV B a → 0 ≤ gv B a
  | [], _ => Int.le_refl _
  | x :: l, h => by
    have := (DV.cons.1 h).1
    have := Int.mul_nonneg hB (gv_nonneg hB (DV.cons.1 h).2)
    simp only [gv]; omega
theorem pow_pos' {B : Int} (hB : 0 < B) (n : Nat) : 0 < B ^ n := Int.pow_pos hB
theorem gv_lt {B : Int} (hB : 0 < B) : ∀ {a : List Int}, DV B a → gv B a < B ^ a.length
  | [], _ => by simp [gv]
  | x :: l, h => by
    have h1 := (DV.cons.1 h).1
    have h2 := gv_lt hB (DV.cons.1 h).2
    simp only [gv, List.length_cons, Int.pow_succ]
    have : B * (gv B l + 1) ≤ B * B ^ l.length := Int.mul_le_mul_of_nonneg_left (by omega) (by omega)
    rw [Int.mul_add, Int.mul_one] at this
    rw [Int.mul_comm (B ^ l.length)]; omega
theorem gv_append (B : Int) : ∀ (a b : List Int), gv B (a ++ b) = gv B a + B ^ a.length * gv B b
  | [], b => by simp [gv]
  | x :: l, b => by
    simp only [List.cons_append, gv, gv_append B l b, List.length_cons, Int.pow_succ]
    grind
theorem gv_split (B : Int) (k : Nat) (a : List Int) (h : k ≤ a.length) : gv B a = gv B (a.take k) + B ^ k * gv B (a.drop k) := by
  have := gv_append B (a.take k) (a.drop k)
  rw [List.take_append_drop, List.length_take, Nat.min_eq_left h] at this
  exact this
theorem gv_replicate (B : Int) : ∀ n, gv B (List.replicate n 0) = 0
  | 0 => rfl
  | n + 1 => by simp [List.replicate_succ, gv, gv_replicate B n]
theorem take_succ' {a : List Int} {i : Nat} (h : i < a.length) : a.take (i + 1) = a.take i ++ [a.getD i 0] := by
  rw [List.take_add_one, List.getD_eq_getElem?_getD, List.getElem?_eq_getElem h]; simp
theorem gv_take_succ (B : Int) {a : List Int} {i : Nat} (h : i < a.length) : gv B (a.take (i + 1)) = gv B (a.take i) + a.getD i 0 * B ^ i := by
  rw [take_succ' h, gv_append, List.length_take, Nat.min_eq_left (by omega)]
  simp [gv]; grind
theorem drop_cons' {a : List Int} {i : Nat} (h : i < a.length) : a.drop i = a.getD i 0 :: a.drop (i + 1) := by
  rw [List.drop_eq_getElem_cons h, List.getD_eq_getElem?_getD, List.getElem?_eq_getElem h]; simp
theorem gv_drop_succ (B : Int) {a : List Int} {i : Nat} (h : i < a.length) : gv B (a.drop i) = a.getD i 0 + B * gv B (a.drop (i + 1)) := by
  rw [drop_cons' h]; rfl
theorem take_set_lt {a : List Int} {i : Nat} {v : Int} : (a.set i v).take i = a.take i := by
  apply List.ext_getElem?
  intro j
  simp only [List.getElem?_take, List.getElem?_set]
  split
  · rename_i h; rw [if_neg (by omega)]
  · rfl
theorem drop_set_lt {a : List Int} {i k : Nat} {v : Int} (h : i < k) : (a.set i v).drop k = a.drop k := by
  apply List.ext_getElem?
  intro j
  simp only [List.getElem?_drop, List.getElem?_set]
  rw [if_neg (by omega)]
theorem take_set_ge {a : List Int} {i k : Nat} {v : Int} (h : k ≤ i) : (a.set i v).take k = a.take k := by
  apply List.ext_getElem?
  intro j
  simp only [List.getElem?_take, List.getElem?_set]
  split
  · rw [if_neg (by omega)]
  · rfl
theorem getD_set {a : List Int} {i j : Nat} {v : Int} : (a.set i v).getD j 0 = if i = j ∧ i < a.length then v else a.getD j 0 := by
  simp only [List.getD_eq_getElem?_getD, List.getElem?_set]
  split
  · rename_i h
    subst h
    split
    · simp [*]
    · rename_i hl; simp [hl]
  · rename_i h; simp [h]
theorem gv_take_set (B : Int) {a : List Int} {i : Nat} {v : Int} (h : i < a.length) : gv B ((a.set i v).take (i + 1)) = gv B (a.take i) + v * B ^ i := by
  rw [gv_take_succ B (by simpa using h), take_set_lt, getD_set, if_pos ⟨rfl, h⟩]
theorem gd_zero (B : Int) : gd B 0 = [] := by rw [gd]; simp
theorem gd_neg {B n : Int} (h : n ≤ 0) : gd B n = [] := by rw [gd]; simp [h]
theorem gd_pos {B n : Int} (hB : 1 < B) (h : 0 < n) : gd B n = n % B :: gd B (n / B) := by
  rw [gd, dif_neg (by omega)]
theorem ediv_lt_self' {B n : Int} (hB : 1 < B) (h : 0 < n) : n / B < n := Int.ediv_lt_of_lt_mul (by omega) (by
    have : n * 1 < n * B := Int.mul_lt_mul_of_pos_left hB h
    simpa using this)
theorem gd_DV {B : Int} (hB : 1 < B) (n : Int) : DV B (gd B n) := by
  by_cases h : 0 < n
  · rw [gd_pos hB h]
    exact DV.cons.2 ⟨⟨Int.emod_nonneg _ (by omega), Int.emod_lt_of_pos _ (by omega)⟩, gd_DV hB (n / B)⟩
  · rw [gd_neg (by omega)]; exact .nil
termination_by n.toNat
decreasing_by have := ediv_lt_self' hB h; omega
theorem gd_val {B : Int} (hB : 1 < B) (n : Int) (h0 : 0 ≤ n) : gv B (gd B n) = n := by
  by_cases h : 0 < n
  · rw [gd_pos hB h, gv, gd_val hB (n / B) (Int.ediv_nonneg h0 (by omega))]
    exact Int.emod_add_mul_ediv n B
  · rw [gd_neg (by omega)]; simp [gv]; omega
termination_by n.toNat
decreasing_by have := ediv_lt_self' hB h; omega
theorem gd_len {B : Int} (hB : 1 < B) : ∀ (k : Nat) (n : Int), n < B ^ k → (gd B n).length ≤ k
  | 0, n, h => by rw [gd_neg (by simp at h; omega)]; simp
  | k + 1, n, h => by
    by_cases hn : 0 < n
    · rw [gd_pos hB hn, List.length_cons]
      have : n / B < B ^ k := Int.ediv_lt_of_lt_mul (by omega) (by rw [Int.pow_succ] at h; exact h)
      have := gd_len hB k _ this
      omega
    · rw [gd_neg (by omega)]; simp
theorem gd_nil {B n : Int} (hB : 1 < B) : gd B n = [] ↔ n ≤ 0 := by
  constructor
  · intro h
    by_cases hn : 0 < n
    · rw [gd_pos hB hn] at h; cases h
    · omega
  · exact gd_neg
theorem gd_last {B : Int} (hB : 1 < B) (n : Int) (h : 0 < n) : (gd B n).getD ((gd B n).length - 1) 0 ≠ 0 := by
  rw [gd_pos hB h, List.length_cons, Nat.add_sub_cancel]
  by_cases hq : 0 < n / B
  · have := gd_last hB (n / B) hq
    have hl : (gd B (n / B)).length ≠ 0 := fun hl => by
      have := (gd_nil hB).1 (List.eq_nil_of_length_eq_zero hl); omega
    obtain ⟨k, hk⟩ := Nat.exists_eq_succ_of_ne_zero hl
    rw [hk] at this ⊢
    simpa using this
  · rw [gd_neg (by omega)]
    simp
    have h1 : n / B = 0 := by have := Int.ediv_nonneg (a := n) (b := B) (by omega) (by omega); omega
    have := Int.emod_add_mul_ediv n B
    rw [h1] at this
    omega
termination_by n.toNat
decreasing_by have := ediv_lt_self' hB h; omega
/-- digits without a leading zero are the normal ones -/
theorem gd_of {B : Int} (hB : 1 < B) : ∀ {a : List Int}, DV B a → (a = [] ∨ a.getD (a.length - 1) 0 ≠ 0) → gd B (gv B a) = a
  | [], _, _ => gd_zero B
  | x :: l, h, hl => by
    have hd := DV.cons.1 h
    have hl' : l = [] ∨ l.getD (l.length - 1) 0 ≠ 0 := by
      cases l with
      | nil => exact .inl rfl
      | cons y l => right; rcases hl with h | h; cases h; simpa using h
    have ih := gd_of hB hd.2 hl'
    have hg := gv_nonneg (by omega) hd.2
    have hpos : 0 < gv B (x :: l) := by
      simp only [gv]
      rcases hl' with rfl | hne
      · simp only [gv, Int.mul_zero, Int.add_zero]
        rcases hl with h | h
        · cases h
        · simp at h; omega
      · have : gv B l ≠ 0 := fun h0 => by
          rw [h0, gd_zero] at ih
          subst ih; simp at hne
        have := Int.mul_pos (show 0 < B by omega) (show 0 < gv B l by omega)
        omega
    rw [gd_pos hB hpos]
    simp only [gv]
    rw [Int.add_mul_emod_self_left, Int.emod_eq_of_lt hd.1.1 hd.1.2, Int.add_mul_ediv_left _ _ (by omega), Int.ediv_eq_zero_of_lt hd.1.1 hd.1.2, Int.zero_add, ih]
/-- cut off leading zeros -/
theorem gd_take {B : Int} (hB : 1 < B) {a : List Int} (h : DV B a) {k : Nat} (hk : k ≤ a.length) (hz : gv B (a.drop k) = 0) (hl : k = 0 ∨ a.getD (k - 1) 0 ≠ 0) : a.take k = gd B (gv B a) := by
  have h1 : gv B a = gv B (a.take k) := by rw [gv_split B k a hk, hz]; simp
  rw [h1]
  refine (gd_of hB (h.take k) ?_).symm
  rcases Nat.eq_zero_or_pos k with rfl | hp
  · left; simp
  · right
    rw [List.length_take, Nat.min_eq_left hk, List.getD_eq_getElem?_getD, List.getElem?_take, if_pos (by omega), ← List.getD_eq_getElem?_getD]
    exact hl.resolve_left (by omega)
end Go.W

set_option linter.unusedVariables false
set_option linter.unusedSimpArgs false
namespace Go.W

/-! ### 1. What a typed value is in memory -/
def Rep (w : World) (ok : Nat → Prop) : (t : Ty) → t.D → List Value → Prop
  | .int k, n, cs => cs = [.int k n]
  | .bool, b, cs => cs = [.bool b]
  | .str, s, cs => cs = [.string s]
  | .slice e, l, cs => ∃ A c, cs = [.slice A l.length c] ∧ l.length ≤ c ∧ ∀ i (h : i < l.length), ∃ g o es, A = some ⟨g, o, none⟩ ∧ ok g ∧ Rep w ok e l[i] es ∧
      ∀ j v, es[j]? = some v → w.cell? ⟨g, o + i * e.size + j, none⟩ = some v
  | .pair a b, v, cs => ∃ c1 c2, cs = c1 ++ c2 ∧ Rep w ok a v.1 c1 ∧ Rep w ok b v.2 c2
  | .arr n e, l, cs => l.length = n ∧ ∃ ess : List (List Value), cs = ess.flatten ∧ ess.length = l.length ∧ ∀ i (h : i < l.length) (h' : i < ess.length), Rep w ok e l[i] ess[i]
  | .fn f, _, cs => cs = [.func (.func f) #[] #[]]

theorem flatten_length_of {α : Type _} (n : Nat) : ∀ ess : List (List α), (∀ es ∈ ess, es.length = n) → ess.flatten.length = ess.length * n
  | [], _ => by simp
  | es :: ess, h => by
    rw [List.flatten_cons, List.length_append, flatten_length_of n ess (fun x hx => h x (List.mem_cons_of_mem _ hx)), h es (by simp), List.length_cons, Nat.succ_mul]
    omega

theorem Rep.size {w : World} {ok : Nat → Prop} : ∀ {t : Ty} {v : t.D} {cs : List Value}, Rep w ok t v cs → cs.length = t.size
  | .int _, _, _, h => by subst h; rfl
  | .bool, _, _, h => by subst h; rfl
  | .str, _, _, h => by subst h; rfl
  | .fn _, _, _, h => by rw [show _ = [_] from h]; rfl
  | .slice _, _, _, h => by obtain ⟨A, c, rfl, _, _⟩ := h; rfl
  | .pair a b, _, _, h => by
    obtain ⟨c1, c2, rfl, h1, h2⟩ := h
    rw [List.length_append, h1.size, h2.size]; rfl
  | .arr n e, l, _, h => by
    obtain ⟨hn, ess, rfl, hl, hr⟩ := h
    rw [flatten_length_of e.size, hl, hn]; rfl
    intro es hes
    obtain ⟨i, hi, rfl⟩ := List.getElem_of_mem hes
    exact (hr i (by omega) hi).size

theorem Rep.mono {w w' : World} {ok ok' : Nat → Prop} (hw : ∀ g, ok g → g < w.heap.size → w'.heap[g]? = w.heap[g]?) (ho : ∀ g, ok g → g < w.heap.size → ok' g) :
    ∀ {t : Ty} {v : t.D} {cs : List Value}, Rep w ok t v cs → (∀ g, ok g → g < w.heap.size) → Rep w' ok' t v cs
  | .int _, _, _, h, _ => h
  | .bool, _, _, h, _ => h
  | .str, _, _, h, _ => h
  | .fn _, _, _, h, _ => h
  | .slice e, l, _, h, hb => by
    obtain ⟨A, c, rfl, hle, h⟩ := h
    refine ⟨A, c, rfl, hle, fun i hi => ?_⟩
    obtain ⟨g, o, es, ha, hg, hr, hc⟩ := h i hi
    refine ⟨g, o, es, ha, ho g hg (hb g hg), Rep.mono hw ho hr hb, fun j v hj => ?_⟩
    rw [World.cell?_of_block (hw g hg (hb g hg))]
    exact hc j v hj
  | .pair a b, _, _, h, hb => by
    obtain ⟨c1, c2, rfl, h1, h2⟩ := h
    exact ⟨c1, c2, rfl, Rep.mono hw ho h1 hb, Rep.mono hw ho h2 hb⟩
  | .arr n e, l, _, h, hb => by
    obtain ⟨hn, ess, rfl, hl, hr⟩ := h
    exact ⟨hn, ess, rfl, hl, fun i hi hi' => Rep.mono hw ho (hr i hi hi') hb⟩

/-- Blocks beyond the heap hold nothing: 'ok' may be narrowed to the heap, if cells are there. -/
theorem Rep.bound {w : World} {ok : Nat → Prop} : ∀ {t : Ty} {v : t.D} {cs : List Value}, 0 < t.size → Rep w ok t v cs → Rep w (fun g => ok g) t v cs := fun _ h => h

def RepV (w : World) (ok : Nat → Prop) (t : Ty) (v : t.D) (x : Value) : Prop :=
  ∃ cs, Rep w ok t v cs ∧ ((t.agg = true ∧ x = .agg cs.toArray) ∨ (t.agg = false ∧ cs = [x]))

theorem Rep.one {w : World} {ok : Nat → Prop} {t : Ty} {v : t.D} {cs : List Value} (h : Rep w ok t v cs) (ha : t.agg = false) : ∃ x, cs = [x] ∧ (∀ y, x ≠ .agg y) ∧ (∀ y, x ≠ .tuple y) := by
  cases t with
  | int k => exact ⟨_, h, by simp, by simp⟩
  | bool => exact ⟨_, h, by simp, by simp⟩
  | str => exact ⟨_, h, by simp, by simp⟩
  | fn f => exact ⟨_, h, by simp, by simp⟩
  | slice e => obtain ⟨A, c, rfl, _⟩ := h; exact ⟨_, rfl, by simp, by simp⟩
  | pair a b => simp [Ty.agg] at ha
  | arr n e => simp [Ty.agg] at ha

/-- No cell of a value is itself an aggregate or a tuple. -/
theorem Rep.cells {w : World} {ok : Nat → Prop} : ∀ {t : Ty} {v : t.D} {cs : List Value}, Rep w ok t v cs → ∀ x ∈ cs, (∀ y, x ≠ .agg y) ∧ (∀ y, x ≠ .tuple y)
  | .int _, _, _, h => by subst h; simp
  | .bool, _, _, h => by subst h; simp
  | .str, _, _, h => by subst h; simp
  | .fn _, _, _, h => by rw [show _ = [_] from h]; simp
  | .slice _, _, _, h => by obtain ⟨A, c, rfl, _⟩ := h; simp
  | .pair a b, _, _, h => by
    obtain ⟨c1, c2, rfl, h1, h2⟩ := h
    intro x hx
    rcases List.mem_append.1 hx with hx | hx
    · exact h1.cells x hx
    · exact h2.cells x hx
  | .arr n e, l, _, h => by
    obtain ⟨hn, ess, rfl, hl, hr⟩ := h
    intro x hx
    obtain ⟨es, hes, hx⟩ := List.mem_flatten.1 hx
    obtain ⟨i, hi, rfl⟩ := List.getElem_of_mem hes
    exact (hr i (by omega) hi).cells x hx

theorem RepV.cells {w : World} {ok : Nat → Prop} {t : Ty} {v : t.D} {x : Value} (h : RepV w ok t v x) : Rep w ok t v x.cells.toList := by
  obtain ⟨cs, h, ⟨_, rfl⟩ | ⟨ha, rfl⟩⟩ := h
  · simpa [Value.cells] using h
  · obtain ⟨y, hy, hag, _⟩ := h.one ha
    simp only [List.cons.injEq, and_true] at hy
    subst hy
    have : x.cells = #[x] := by cases x <;> simp_all [Value.cells]
    rw [this]; exact h

theorem RepV.of_cells {w : World} {ok : Nat → Prop} {t : Ty} {v : t.D} {cs : List Value} (h : Rep w ok t v cs) : ∃ x, RepV w ok t v x ∧ x.cells.toList = cs ∧ ((t.agg = true ∧ x = .agg cs.toArray) ∨ (t.agg = false ∧ cs = [x])) := by
  cases ha : t.agg with
  | true => exact ⟨.agg cs.toArray, ⟨cs, h, .inl ⟨ha, rfl⟩⟩, by simp [Value.cells], .inl ⟨rfl, rfl⟩⟩
  | false =>
    obtain ⟨y, rfl, hag, _⟩ := h.one ha
    refine ⟨y, ⟨_, h, .inr ⟨ha, rfl⟩⟩, ?_, .inr ⟨rfl, rfl⟩⟩
    cases y <;> simp_all [Value.cells]

theorem RepV.mono {w w' : World} {ok ok' : Nat → Prop} (hw : ∀ g, ok g → g < w.heap.size → w'.heap[g]? = w.heap[g]?) (ho : ∀ g, ok g → g < w.heap.size → ok' g) (hb : ∀ g, ok g → g < w.heap.size)
    {t : Ty} {v : t.D} {x : Value} (h : RepV w ok t v x) : RepV w' ok' t v x := by
  obtain ⟨cs, h, hx⟩ := h
  exact ⟨cs, Rep.mono hw ho h hb, hx⟩

/-! ### 2. Blocks of the call's own -/
def BRep (w : World) (ok : Nat → Prop) (mg : Option Nat) (b : Blk) : Prop :=
  match mg with
  | none => b.l = []
  | some g => ∃ c eT, w.heap[g]? = some (.cells c eT (0, 0)) ∧ b.l.length * b.e.size ≤ c.size ∧
      ∀ i (h : i < b.l.length), ∃ es, Rep w ok b.e b.l[i] es ∧ ∀ j v, es[j]? = some v → c[i * b.e.size + j]? = some v

abbrev Hp := Nat → Option (Option Blk)
/-- blocks that values which are only read may lie in -/
def okS (B : Nat → Prop) (n : Nat) (μ : Nat → Option Nat) (h : Hp) (g : Nat) : Prop :=
  B g ∧ g < n ∧ ∀ b blk, h b = some (some blk) → blk.fz = false → μ b ≠ some g

/-- W: blocks that may be written; B: blocks that results may lie in. -/
structure HOK (W B : Nat → Prop) (w : World) (μ : Nat → Option Nat) (h : Hp) : Prop where
  lt : ∀ b blk g, h b = some (some blk) → μ b = some g → B g ∧ g < w.heap.size ∧ (blk.fz = false → W g)
  apart : ∀ b b' blk blk' g, h b = some (some blk) → h b' = some (some blk') → blk.fz = false → b ≠ b' → μ b = some g → μ b' ≠ some g
  rep : ∀ b blk, h b = some (some blk) → BRep w (okS B w.heap.size μ h) (μ b) blk

def SliceOf (w : World) (mg : Option Nat) (sz off len : Nat) (x : Value) : Prop :=
  ∃ A cap, x = .slice A len cap ∧ len ≤ cap ∧ match mg with
    | none => A = none ∧ len = 0 ∧ cap = 0
    | some g => ∃ o, A = some ⟨g, o, none⟩ ∧ (off = 0 → o = 0) ∧ (0 < len → o = off * sz) ∧ ∀ c eT fr, w.heap[g]? = some (.cells c eT fr) → o + cap * sz ≤ c.size

def offP : List Sel → Ty → Option Nat
  | [] => fun _ => some 0
  | .fst :: p => fun t => match t with
    | .pair a _ => offP p a
    | _ => none
  | .snd :: p => fun t => match t with
    | .pair a b => (offP p b).map (a.size + ·)
    | _ => none
  | .idx i :: p => fun t => match t with
    | .arr n e => if 0 ≤ i ∧ i < n then (offP p e).map (i.toNat * e.size + ·) else none
    | _ => none

def PtrOf (mg : Option Nat) (blk : Blk) (i : Int) (p : List Sel) (x : Value) : Prop :=
  0 ≤ i ∧ i < blk.l.length ∧ ∃ g o, mg = some g ∧ offP p blk.e = some o ∧ x = .pointer (some ⟨g, i.toNat * blk.e.size + o, none⟩)

def RepPV (B : Nat → Prop) (w : World) (μ : Nat → Option Nat) (h : Hp) : PV → Value → Prop
  | .val t v, x => RepV w (okS B w.heap.size μ h) t v x
  | .nil, x => x = .slice none 0 0
  | .loc _ b, x => ∃ ob, h b = some ob ∧ ∀ blk, ob = some blk → SliceOf w (μ b) blk.e.size 0 blk.l.length x
  | .sub _ b off len, x => ∃ ob, h b = some ob ∧ ∀ blk, ob = some blk → 0 ≤ off ∧ 0 ≤ len ∧ off + len ≤ blk.l.length ∧ SliceOf w (μ b) blk.e.size off.toNat len.toNat x
  | .ptr b i p, x => ∃ ob, h b = some ob ∧ ∀ blk, ob = some blk → PtrOf (μ b) blk i p x
  | .eptr t v, x => ∃ g o es, x = .pointer (some ⟨g, o, none⟩) ∧ okS B w.heap.size μ h g ∧ Rep w (okS B w.heap.size μ h) t v es ∧ ∀ (j : Nat) u, es[j]? = some u → w.cell? ⟨g, o + j, none⟩ = some u
  | .fn f caps, x => ∃ cv : List Value, x = .func (.func f) #[] cv.toArray ∧ cv.length = caps.length ∧ ∀ (j b : Nat) (u : Value), caps[j]? = some b → cv[j]? = some u → ∃ ob, h b = some ob ∧ ∀ blk, ob = some blk → PtrOf (μ b) blk 0 [] u

def RepTV (B : Nat → Prop) (w : World) (μ : Nat → Option Nat) (h : Hp) : TV → Value → Prop
  | .one p, x => RepPV B w μ h p x
  | .tup l, x => ∃ xs : List Value, x = .tuple xs.toArray ∧ xs.length = l.length ∧ ∀ (j : Nat) (p : PV) (u : Value), l[j]? = some p → xs[j]? = some u → RepPV B w μ h p u
  | .undef, _ => True

/-- What is left as it was. -/
structure Fr (W : Nat → Prop) (w w' : World) : Prop where
  os : w'.os = w.os
  tape : w'.tape = w.tape
  output : w'.output = w.output
  size : w.heap.size ≤ w'.heap.size
  block : ∀ g, g < w.heap.size → ¬ W g → w'.heap[g]? = w.heap[g]?
  room : ∀ (g : Nat) (c : Array Value) eT fr, g < w.heap.size → w'.heap[g]? = some (.cells c eT fr) → ∃ (c' : Array Value) (eT' : _) (fr' : _), w.heap[g]? = some (.cells c' eT' fr') ∧ c'.size ≤ c.size

theorem Fr.refl (W : Nat → Prop) (w : World) : Fr W w w := ⟨rfl, rfl, rfl, Nat.le_refl _, fun _ _ _ => rfl, fun g c eT fr _ h => ⟨c, eT, fr, h, Nat.le_refl _⟩⟩
theorem Fr.trans {W : Nat → Prop} {a b c : World} (h : Fr W a b) (k : Fr W b c) : Fr W a c :=
  ⟨k.os.trans h.os, k.tape.trans h.tape, k.output.trans h.output, Nat.le_trans h.size k.size, fun g hg hn => (k.block g (Nat.lt_of_lt_of_le hg h.size) hn).trans (h.block g hg hn), fun g c eT fr hg hc => by
    obtain ⟨c', eT', fr', h1, h2⟩ := k.room g c eT fr (Nat.lt_of_lt_of_le hg h.size) hc
    obtain ⟨c'', eT'', fr'', h3, h4⟩ := h.room g c' eT' fr' hg h1
    exact ⟨c'', eT'', fr'', h3, Nat.le_trans h4 h2⟩⟩
theorem Fr.mono {W W' : Nat → Prop} {a b : World} (h : Fr W a b) (hw : ∀ g, g < a.heap.size → W g → W' g) : Fr W' a b :=
  ⟨h.os, h.tape, h.output, h.size, fun g hg hn => h.block g hg (fun x => hn (hw g hg x)), h.room⟩
theorem Fr.drew {W : Nat → Prop} {a b : World} (h : Fr W a b) : Fr W a b.drew := ⟨h.os, h.tape, h.output, h.size, h.block, h.room⟩
theorem Fr.alloc {W : Nat → Prop} {a b : World} (h : Fr W a b) (o : Obj) : Fr W a (b.alloc o) :=
  h.trans ⟨rfl, rfl, rfl, by simp, fun g hg _ => by show (b.heap.push o)[g]? = _; rw [Array.getElem?_push, if_neg (by omega)], fun g c eT fr hg hc => ⟨c, eT, fr, by
    have : (b.alloc o).heap[g]? = b.heap[g]? := by show (b.heap.push o)[g]? = _; rw [Array.getElem?_push, if_neg (by omega)]
    rw [← this]; exact hc, Nat.le_refl _⟩⟩
theorem heap_setCell (w : World) (a : Addr) (u : Value) (k : Nat) (h : k ≠ a.block) : (w.setCell a u).heap[k]? = w.heap[k]? := by
  simp only [World.setCell, Array.getElem?_modify]
  rw [if_neg (by omega)]
theorem Fr.setCell {W : Nat → Prop} {a b : World} (h : Fr W a b) (p : Addr) (u : Value) (hp : W p.block) : Fr W a (b.setCell p u) :=
  h.trans ⟨rfl, rfl, rfl, by simp, fun g hg hn => heap_setCell b p u g (fun e => hn (e ▸ hp)), fun g c eT fr hg hc => by
    by_cases hgb : g = p.block
    · subst hgb
      simp only [World.setCell, Array.getElem?_modify] at hc
      rw [if_pos trivial] at hc
      cases hx : b.heap[p.block]? with
      | none => rw [hx] at hc; cases hc
      | some ob =>
        rw [hx] at hc
        simp only [Option.map_some, Option.some.injEq] at hc
        cases ob with
        | cells c0 e0 f0 =>
          simp only [Obj.cells.injEq] at hc
          refine ⟨c0, e0, f0, rfl, ?_⟩
          rw [← hc.1]
          split <;> simp
        | _ => cases hc
    · exact ⟨c, eT, fr, by rw [← heap_setCell b p u g hgb]; exact hc, Nat.le_refl _⟩⟩
theorem heap_alloc (w : World) (o : Obj) (k : Nat) (h : k < w.heap.size) : (w.alloc o).heap[k]? = w.heap[k]? := by
  show (w.heap.push o)[k]? = _
  rw [Array.getElem?_push, if_neg (by omega)]
theorem heap_alloc_new (w : World) (o : Obj) : (w.alloc o).heap[w.heap.size]? = some o := by
  show (w.heap.push o)[w.heap.size]? = _
  simp

/-! ### 3. From one world to the next -/
/-- Old readings live on. -/
structure Tr (B : Nat → Prop) (w : World) (μ : Nat → Option Nat) (h : Hp) (w' : World) (μ' : Nat → Option Nat) (h' : Hp) : Prop where
  pv : ∀ p x, RepPV B w μ h p x → RepPV B w' μ' h' p x

theorem Tr.refl (B : Nat → Prop) (w : World) (μ : Nat → Option Nat) (h : Hp) : Tr B w μ h w μ h := ⟨fun _ _ h => h⟩
theorem Tr.trans {B : Nat → Prop} {w w1 w2 : World} {μ μ1 μ2 : Nat → Option Nat} {h h1 h2 : Hp} (a : Tr B w μ h w1 μ1 h1) (b : Tr B w1 μ1 h1 w2 μ2 h2) : Tr B w μ h w2 μ2 h2 :=
  ⟨fun tv x hx => b.pv tv x (a.pv tv x hx)⟩
theorem Tr.tv {B : Nat → Prop} {w w' : World} {μ μ' : Nat → Option Nat} {h h' : Hp} (a : Tr B w μ h w' μ' h') (tv : TV) (x : Value) (hx : RepTV B w μ h tv x) : RepTV B w' μ' h' tv x := by
  cases tv with
  | one p => exact a.pv p x hx
  | tup l =>
    obtain ⟨xs, rfl, hl, hc⟩ := hx
    exact ⟨xs, rfl, hl, fun j p u hj hu => a.pv p u (hc j p u hj hu)⟩
  | undef => trivial

theorem okS_lt {B : Nat → Prop} {n : Nat} {μ : Nat → Option Nat} {h : Hp} : ∀ g, okS B n μ h g → g < n := fun _ h => h.2.1

theorem SliceOf.step {w w' : World} {mg : Option Nat} {sz off len : Nat} {x : Value} (h : SliceOf w mg sz off len x)
    (hs : ∀ g c eT fr, mg = some g → w'.heap[g]? = some (.cells c eT fr) → ∃ c' eT' fr', w.heap[g]? = some (.cells c' eT' fr') ∧ c'.size ≤ c.size) : SliceOf w' mg sz off len x := by
  obtain ⟨A, cap, rfl, hle, h⟩ := h
  refine ⟨A, cap, rfl, hle, ?_⟩
  cases mg with
  | none => exact h
  | some g =>
    obtain ⟨o, rfl, h0, h1, h2⟩ := h
    refine ⟨o, rfl, h0, h1, fun c eT fr hc => ?_⟩
    obtain ⟨c', eT', fr', hc', hsz⟩ := hs g c eT fr rfl hc
    exact Nat.le_trans (h2 c' eT' fr' hc') hsz

theorem PtrOf.step {mg : Option Nat} {blk blk' : Blk} {i : Int} {p : List Sel} {x : Value} (h : PtrOf mg blk i p x) (he : blk'.e = blk.e) (hl : blk'.l.length = blk.l.length) : PtrOf mg blk' i p x := by
  obtain ⟨a1, a2, g, o, a3, a4, a5⟩ := h
  exact ⟨a1, by omega, g, o, a3, by rw [he]; exact a4, by rw [he]; exact a5⟩

/-- The general step. -/
theorem Tr.mk' {B : Nat → Prop} {w w' : World} {μ μ' : Nat → Option Nat} {h h' : Hp}
    (hw : ∀ g, okS B w.heap.size μ h g → w'.heap[g]? = w.heap[g]?)
    (ho : ∀ g, okS B w.heap.size μ h g → okS B w'.heap.size μ' h' g)
    (hd : ∀ b, h b ≠ none → h' b ≠ none)
    (hh : ∀ b blk', h b ≠ none → h' b = some (some blk') → ∃ blk, h b = some (some blk) ∧ blk'.e = blk.e ∧ blk'.l.length = blk.l.length ∧ μ' b = μ b)
    (hs : ∀ b blk' g c eT fr, h b ≠ none → h' b = some (some blk') → μ b = some g → w'.heap[g]? = some (.cells c eT fr) → ∃ c' eT' fr', w.heap[g]? = some (.cells c' eT' fr') ∧ c'.size ≤ c.size) :
    Tr B w μ h w' μ' h' := by
  have hob : ∀ b ob, h b = some ob → ∃ ob', h' b = some ob' := fun b ob hb => by
    cases hx : h' b with
    | none => exact (hd b (by rw [hb]; simp) hx).elim
    | some y => exact ⟨y, rfl⟩
  refine ⟨fun p x hx => ?_⟩
  cases p with
  | val t v => exact RepV.mono (fun g hg _ => hw g hg) (fun g hg _ => ho g hg) okS_lt hx
  | nil => exact hx
  | loc e b =>
    obtain ⟨ob, hb, hx⟩ := hx
    obtain ⟨ob', hb'⟩ := hob b ob hb
    refine ⟨ob', hb', fun blk' he => ?_⟩
    subst he
    obtain ⟨blk, h1, h2, h3, h4⟩ := hh b blk' (by rw [hb]; simp) hb'
    obtain rfl : ob = some blk := by rw [hb] at h1; injection h1
    rw [h4, h3, h2]
    exact (hx blk rfl).step (fun g c eT fr hg hc => hs b blk' g c eT fr (by rw [hb]; simp) hb' hg hc)
  | sub e b off len =>
    obtain ⟨ob, hb, hx⟩ := hx
    obtain ⟨ob', hb'⟩ := hob b ob hb
    refine ⟨ob', hb', fun blk' he => ?_⟩
    subst he
    obtain ⟨blk, h1, h2, h3, h4⟩ := hh b blk' (by rw [hb]; simp) hb'
    obtain rfl : ob = some blk := by rw [hb] at h1; injection h1
    obtain ⟨a1, a2, a3, a4⟩ := hx blk rfl
    rw [h4, h3, h2]
    exact ⟨a1, a2, a3, a4.step (fun g c eT fr hg hc => hs b blk' g c eT fr (by rw [hb]; simp) hb' hg hc)⟩
  | ptr b i q =>
    obtain ⟨ob, hb, hx⟩ := hx
    obtain ⟨ob', hb'⟩ := hob b ob hb
    refine ⟨ob', hb', fun blk' he => ?_⟩
    subst he
    obtain ⟨blk, h1, h2, h3, h4⟩ := hh b blk' (by rw [hb]; simp) hb'
    obtain rfl : ob = some blk := by rw [hb] at h1; injection h1
    rw [h4]
    exact (hx blk rfl).step h2 h3
  | eptr t v =>
    obtain ⟨g, o, es, rfl, hg, hr, hc⟩ := hx
    exact ⟨g, o, es, rfl, ho g hg, Rep.mono (fun g hg _ => hw g hg) (fun g hg _ => ho g hg) hr okS_lt, fun j u hj => by rw [World.cell?_of_block (hw g hg)]; exact hc j u hj⟩
  | fn f caps =>
    obtain ⟨cv, rfl, hl, hc⟩ := hx
    refine ⟨cv, rfl, hl, fun j b u hj hu => ?_⟩
    obtain ⟨ob, hb, hx⟩ := hc j b u hj hu
    obtain ⟨ob', hb'⟩ := hob b ob hb
    refine ⟨ob', hb', fun blk' he => ?_⟩
    subst he
    obtain ⟨blk, h1, h2, h3, h4⟩ := hh b blk' (by rw [hb]; simp) hb'
    obtain rfl : ob = some blk := by rw [hb] at h1; injection h1
    rw [h4]
    exact (hx blk rfl).step h2 h3
end Go.W

set_option linter.unusedVariables false
set_option linter.unusedSimpArgs false
namespace Go.W

/-! ### Inversions -/
theorem castD_inv {t' t : Ty} {v : t'.D} {x : t.D} (h : castD t' t v = some x) : ∃ e : t' = t, x = e ▸ v := by
  unfold castD at h
  split at h
  · rename_i e _; injection h with h; exact ⟨e, h.symm⟩
  · cases h
theorem castL_inv {t' t : Ty} {v : List t'.D} {x : List t.D} (h : castL t' t v = some x) : ∃ e : t' = t, x = e ▸ v := by
  unfold castL at h
  split at h
  · rename_i e _; injection h with h; exact ⟨e, h.symm⟩
  · cases h

theorem hlk_inv {hp : Ups} {b : Nat} {blk : Blk} (h : hlk hp b = some blk) : lk hp b = some (some blk) := by
  unfold hlk at h
  split at h
  · rename_i x hx; injection h with h; rw [hx, h]
  · cases h

theorem lk_cons {α : Type _} (k : Nat) (v : α) (l : List (Nat × α)) (t : Nat) : lk ((k, v) :: l) t = if k = t then some v else lk l t := by
  show (match Nat.beq k t with | true => some v | false => lk l t) = _
  by_cases h : k = t
  · subst h; simp
  · have : Nat.beq k t = false := by
      cases hb : Nat.beq k t with
      | false => rfl
      | true => exact absurd (Nat.eq_of_beq_eq_true hb) h
    rw [this, if_neg h]

theorem lk_append {α : Type _} : ∀ (l m : List (Nat × α)) (t : Nat), lk (l ++ m) t = (lk l t).or (lk m t)
  | [], m, t => by simp [lk]
  | (k, v) :: l, m, t => by
    rw [List.cons_append, lk_cons, lk_cons, lk_append l m t]
    split <;> rfl

/-- hp' is hp, some blocks having been handed on. -/
def FzLe (hp hp' : Ups) : Prop :=
  ∀ b, lk hp' b = lk hp b ∨ ∃ blk, lk hp b = some (some blk) ∧ lk hp' b = some (some ⟨blk.e, blk.l, true⟩)

theorem FzLe.refl (hp : Ups) : FzLe hp hp := fun _ => .inl rfl
theorem FzLe.trans {a b c : Ups} (h : FzLe a b) (k : FzLe b c) : FzLe a c := fun x => by
  rcases k x with k | ⟨blk, k1, k2⟩
  · rw [k]; exact h x
  · rcases h x with h | ⟨blk', h1, h2⟩
    · rw [h] at k1; exact .inr ⟨blk, k1, k2⟩
    · rw [h2] at k1; injection k1 with k1; injection k1 with k1; subst k1; exact .inr ⟨blk', h1, k2⟩

section
variable {W B : Nat → Prop} {w : World} {μ : Nat → Option Nat}

theorem FzLe.okS {hp hp' : Ups} (h : FzLe hp hp') {n : Nat} {g : Nat} (hg : okS B n μ (lk hp) g) : okS B n μ (lk hp') g := by
  refine ⟨hg.1, hg.2.1, fun b blk hb hf => ?_⟩
  rcases h b with h | ⟨blk', h1, h2⟩
  · exact hg.2.2 b blk (h ▸ hb) hf
  · rw [h2] at hb; injection hb with hb; injection hb with hb; subst hb; cases hf

theorem FzLe.tr {hp hp' : Ups} (h : FzLe hp hp') : Tr B w μ (lk hp) w μ (lk hp') := by
  refine Tr.mk' (fun _ _ => rfl) (fun g hg => h.okS hg) (fun b hb => ?_) (fun b blk' hb hb' => ?_) (fun b blk' g c eT fr _ _ _ hc => ⟨c, eT, fr, hc, Nat.le_refl _⟩)
  · rcases h b with h | ⟨blk, h1, h2⟩
    · rw [h]; exact hb
    · rw [h2]; simp
  · rcases h b with h | ⟨blk, h1, h2⟩
    · exact ⟨blk', h ▸ hb', rfl, rfl, rfl⟩
    · rw [h2] at hb'; injection hb' with hb'; injection hb' with hb'; subst hb'
      exact ⟨blk, h1, rfl, rfl, rfl⟩

theorem BRep.mono_ok {ok ok' : Nat → Prop} {mg : Option Nat} {b : Blk} (ho : ∀ g, ok g → ok' g) (hl : ∀ g, ok g → g < w.heap.size) (h : BRep w ok mg b) : BRep w ok' mg b := by
  cases mg with
  | none => exact h
  | some g =>
    obtain ⟨c, eT, h1, h2, h3⟩ := h
    exact ⟨c, eT, h1, h2, fun i hi => let ⟨es, hr, hc⟩ := h3 i hi; ⟨es, Rep.mono (fun _ _ _ => rfl) (fun g hg _ => ho g hg) hr hl, hc⟩⟩

theorem HOK.fz {hp hp' : Ups} (h : FzLe hp hp') (hH : HOK W B w μ (lk hp)) : HOK W B w μ (lk hp') := by
  have back : ∀ b blk, lk hp' b = some (some blk) → ∃ blk0, lk hp b = some (some blk0) ∧ blk.e = blk0.e ∧ HEq blk.l blk0.l ∧ (blk.fz = false → blk0.fz = false) := fun b blk hb => by
    rcases h b with h | ⟨blk0, h1, h2⟩
    · exact ⟨blk, h ▸ hb, rfl, HEq.rfl, id⟩
    · rw [h2] at hb; injection hb with hb; injection hb with hb; subst hb
      exact ⟨blk0, h1, rfl, HEq.rfl, fun h => by cases h⟩
  refine ⟨fun b blk g hb hg => ?_, fun b b' blk blk' g hb hb' hf hne hg => ?_, fun b blk hb => ?_⟩
  · obtain ⟨blk0, h0, _, _, h3⟩ := back b blk hb
    obtain ⟨a1, a2, a3⟩ := hH.lt b blk0 g h0 hg
    exact ⟨a1, a2, fun hf => a3 (h3 hf)⟩
  · obtain ⟨blk0, h0, _, _, h3⟩ := back b blk hb
    obtain ⟨blk0', h0', _, _, _⟩ := back b' blk' hb'
    exact hH.apart b b' blk0 blk0' g h0 h0' (h3 hf) hne hg
  · obtain ⟨blk0, h0, h1, h2, _⟩ := back b blk hb
    have := hH.rep b blk0 h0
    have h4 := BRep.mono_ok (ok' := okS B w.heap.size μ (lk hp')) (fun g hg => h.okS hg) okS_lt this
    obtain ⟨e, l, f⟩ := blk
    obtain ⟨e0, l0, f0⟩ := blk0
    dsimp only at h1 h2
    subst h1
    have h2 := eq_of_heq h2
    subst h2
    exact h4

/-- What an own block says of a part of it, read as a slice. -/
theorem BRep.slice {ok : Nat → Prop} {mg : Option Nat} {e : Ty} {l : List e.D} {f : Bool} {off len : Nat} {v : Value} (hb : BRep w ok mg ⟨e, l, f⟩) (hg : ∀ g, mg = some g → ok g) (hle : off + len ≤ l.length) (hs : SliceOf w mg e.size off len v) :
    RepV w ok (.slice e) ((l.drop off).take len) v := by
  obtain ⟨A, cap, rfl, hlc, hm⟩ := hs
  have hlen : ((l.drop off).take len).length = len := by simp; omega
  refine ⟨_, ⟨A, cap, by rw [hlen], by omega, fun i hi => ?_⟩, .inr ⟨rfl, rfl⟩⟩
  rw [hlen] at hi
  cases mg with
  | none => omega
  | some g =>
    obtain ⟨c, eT, h1, h2, h3⟩ := hb
    obtain ⟨o, rfl, h4, h5, h6⟩ := hm
    dsimp only at h3
    obtain ⟨es, hr, hc⟩ := h3 (off + i) (by omega)
    refine ⟨g, o, es, rfl, hg g rfl, by simpa using hr, fun j u hj => ?_⟩
    have := hc j u hj
    rw [h5 (by omega)]
    simp only [World.cell?, h1]
    rw [← this]
    simp only [Option.isSome_none, Bool.false_eq_true, if_false]
    congr 1
    rw [Nat.add_mul]

theorem ok_own {hp : Ups} (hH : HOK W B w μ (lk hp)) {b g : Nat} {blk : Blk} (hb : lk hp b = some (some blk)) (hf : blk.fz = true) (hg : μ b = some g) : okS B w.heap.size μ (lk hp) g := by
  obtain ⟨a1, a2, _⟩ := hH.lt b blk g hb hg
  refine ⟨a1, a2, fun b' blk' hb' hf' hg' => ?_⟩
  by_cases hne : b' = b
  · subst hne; rw [hb] at hb'; injection hb' with hb'; injection hb' with hb'; subst hb'; rw [hf] at hf'; cases hf'
  · exact hH.apart b' b blk' blk g hb' hb hf' hne hg' hg

theorem fz_one {hp0 hp : Ups} (h0 : FzLe hp0 hp) {b : Nat} {blk : Blk} (hb : lk hp0 b = some (some blk)) : FzLe hp0 ((b, some { blk with fz := true }) :: hp) := fun x => by
  rw [lk_cons]
  by_cases hx : b = x
  · subst hx; exact .inr ⟨blk, hb, by simp⟩
  · rw [if_neg hx]; exact h0 x

theorem fz_same {hp0 hp : Ups} (h0 : FzLe hp0 hp) {b : Nat} {blk : Blk} (hb : lk hp0 b = some (some blk)) (hf : blk.fz = true) : lk hp b = some (some blk) := by
  rcases h0 b with h | ⟨blk', h1, h2⟩
  · rw [h]; exact hb
  · rw [hb] at h1; injection h1 with h1; injection h1 with h1; subst h1
    rw [h2, ← hf]

theorem ok_lt {hp : Ups} : ∀ g, okS B w.heap.size μ (lk hp) g → g < w.heap.size := fun _ h => h.2.1

/-- A part of an own block that is frozen, as a slice. -/
theorem own_slice {hp : Ups} (hH : HOK W B w μ (lk hp)) {b : Nat} {e : Ty} {l : List e.D} (hb : lk hp b = some (some ⟨e, l, true⟩)) {off len : Nat} {v : Value} (hle : off + len ≤ l.length) (hs : SliceOf w (μ b) e.size off len v) :
    RepV w (okS B w.heap.size μ (lk hp)) (.slice e) ((l.drop off).take len) v :=
  BRep.slice (hH.rep b _ hb) (fun g hg => ok_own hH hb rfl hg) hle hs

theorem frz_sound {ρ : Type} {hp0 hp : Ups} {t : Ty} {pv : PV} {k : t.D → Ups → Option ρ} {r : ρ} (h : frz (hlk hp0) t pv k = some r) (h0 : FzLe hp0 hp) :
    ∃ x u, (∀ (ρ' : Type) (k' : t.D → Ups → Option ρ'), frz (hlk hp0) t pv k' = k' x u) ∧ k x u = some r ∧ FzLe hp0 (u ++ hp) ∧ FzLe hp (u ++ hp) ∧ ∀ (W B : Nat → Prop) (w : World) (μ : Nat → Option Nat) v, HOK W B w μ (lk hp) → RepPV B w μ (lk hp) pv v → RepV w (okS B w.heap.size μ (lk (u ++ hp))) t x v := by
  have fz2 : ∀ {b : Nat} {blk : Blk}, lk hp0 b = some (some blk) → FzLe hp ((b, some { blk with fz := true }) :: hp) := fun {b blk} hb x => by
    rw [lk_cons]
    by_cases hx : b = x
    · subst hx
      rcases h0 b with h | ⟨blk', h1, h2⟩
      · exact .inr ⟨blk, by rw [h]; exact hb, by simp⟩
      · rw [hb] at h1; injection h1 with h1; injection h1 with h1; subst h1
        exact .inl (by rw [h2]; simp)
    · rw [if_neg hx]; exact .inl rfl
  cases pv with
  | val t' v =>
    simp only [frz] at h ⊢
    cases hx : castD t' t v with
    | none => rw [hx] at h; cases h
    | some x =>
      rw [hx] at h
      obtain ⟨rfl, rfl⟩ := castD_inv hx
      exact ⟨_, [], fun _ _ => rfl, h, h0, .refl _, fun W B w μ v _ hv => hv⟩
  | nil =>
    cases t with
    | slice e =>
      refine ⟨[], [], fun _ _ => rfl, h, h0, .refl _, fun W B w μ v _ hv => ?_⟩
      subst hv
      exact ⟨_, ⟨none, 0, rfl, by simp, fun i hi => by simp at hi⟩, .inr ⟨rfl, rfl⟩⟩
    | _ => cases h
  | loc e b =>
    simp only [frz] at h ⊢
    cases hb' : hlk hp0 b with
    | none => rw [hb'] at h; cases h
    | some blk =>
      rw [hb'] at h
      have hb := hlk_inv hb'
      dsimp only at h ⊢
      cases hx : castD (.slice blk.e) t blk.l with
      | none => rw [hx] at h; cases h
      | some x =>
        rw [hx] at h
        dsimp only at h ⊢
        obtain ⟨rfl, rfl⟩ := castD_inv hx
        cases hf : blk.fz with
        | true =>
          rw [hf] at h
          refine ⟨_, [], fun _ _ => rfl, h, h0, .refl _, fun W B w μ v hH hv => ?_⟩
          obtain ⟨ob, hob, hv⟩ := hv
          have hs := fz_same h0 hb hf
          have := hv blk (by rw [hob] at hs; injection hs)
          obtain ⟨e', l, f⟩ := blk
          dsimp only at hf; subst hf
          have hr := own_slice hH hs (off := 0) (len := l.length) (by omega) this
          simpa using hr
        | false =>
          rw [hf] at h
          refine ⟨_, [_], fun _ _ => rfl, h, fz_one h0 hb, fz2 hb, fun W B w μ v hH hv => ?_⟩
          have hl : lk ([(b, some { blk with fz := true })] ++ hp) b = some (some { blk with fz := true }) := by
            rw [List.singleton_append, lk_cons, if_pos rfl]
          have hv := (fz2 hb).tr.pv _ _ hv
          obtain ⟨ob, hob, hv⟩ := hv
          have hv := hv _ (by rw [← List.singleton_append, hl] at hob; injection hob with hob; exact hob.symm)
          have hr := own_slice (HOK.fz (fz2 hb) hH) hl (off := 0) (len := blk.l.length) (by omega) hv
          simpa using hr
  | sub e b off len =>
    simp only [frz] at h ⊢
    cases hb' : hlk hp0 b with
    | none => rw [hb'] at h; cases h
    | some blk =>
      rw [hb'] at h
      have hb := hlk_inv hb'
      dsimp only at h ⊢
      cases hx : castD (.slice blk.e) t ((blk.l.drop off.toNat).take len.toNat) with
      | none => rw [hx] at h; cases h
      | some x =>
        rw [hx] at h
        dsimp only at h ⊢
        obtain ⟨rfl, rfl⟩ := castD_inv hx
        cases hf : blk.fz with
        | true =>
          rw [hf] at h
          refine ⟨_, [], fun _ _ => rfl, h, h0, .refl _, fun W B w μ v hH hv => ?_⟩
          obtain ⟨ob, hob, hv⟩ := hv
          have hs := fz_same h0 hb hf
          obtain ⟨a1, a2, a3, a4⟩ := hv blk (by rw [hob] at hs; injection hs)
          obtain ⟨e', l, f⟩ := blk
          dsimp only at hf; subst hf
          exact own_slice hH hs (off := off.toNat) (len := len.toNat) (by dsimp only at a3; omega) a4
        | false =>
          rw [hf] at h
          refine ⟨_, [_], fun _ _ => rfl, h, fz_one h0 hb, fz2 hb, fun W B w μ v hH hv => ?_⟩
          have hl : lk ([(b, some { blk with fz := true })] ++ hp) b = some (some { blk with fz := true }) := by
            rw [List.singleton_append, lk_cons, if_pos rfl]
          have hv := (fz2 hb).tr.pv _ _ hv
          obtain ⟨ob, hob, hv⟩ := hv
          obtain ⟨a1, a2, a3, a4⟩ := hv _ (by rw [← List.singleton_append, hl] at hob; injection hob with hob; exact hob.symm)
          exact own_slice (HOK.fz (fz2 hb) hH) hl (off := off.toNat) (len := len.toNat) (by dsimp only at a3; omega) a4
  | fn g caps =>
    cases caps with
    | cons _ _ => cases h
    | nil =>
      cases t with
      | fn f =>
        simp only [frz] at h ⊢
        cases hb : Nat.beq g f with
        | false => rw [hb] at h; cases h
        | true =>
          rw [hb] at h
          have hgf := Nat.eq_of_beq_eq_true hb
          subst hgf
          refine ⟨(), [], fun _ _ => rfl, h, h0, .refl _, fun W B w μ v _ hv => ?_⟩
          obtain ⟨cv, rfl, hl, _⟩ := hv
          obtain rfl := List.eq_nil_of_length_eq_zero hl
          exact ⟨_, rfl, .inr ⟨rfl, rfl⟩⟩
      | _ => cases h
  | ptr _ _ _ => cases h
  | eptr _ _ => cases h
end
end Go.W

set_option linter.unusedVariables false
set_option linter.unusedSimpArgs false
namespace Go.W

def ArgsRep (w : World) (ok : Nat → Prop) : (ts : List Ty) → AT ts → List Value → Prop
  | [], _, vs => vs = []
  | t :: ts, τ, vs => ∃ v vs', vs = v :: vs' ∧ RepV w ok t τ.1 v ∧ ArgsRep w ok ts τ.2 vs'

def retV : List Value → Value
  | [x] => x
  | xs => .tuple xs.toArray

/-- What the results are in memory; mg: the one own block among them. -/
def ResRep (w : World) (ok : Nat → Prop) (mg : Option Nat) (lo : Nat) : List RV → List Value → Prop
  | [], xs => xs = []
  | .imm t v :: rs, xs => ∃ x xs', xs = x :: xs' ∧ RepV w (fun g => ok g ∧ mg ≠ some g) t v x ∧ ResRep w ok mg lo rs xs'
  | .own e l :: rs, xs => ∃ x xs', xs = x :: xs' ∧ SliceOf w mg e.size 0 l.length x ∧ BRep w (fun g => ok g ∧ mg ≠ some g) mg ⟨e, l, false⟩ ∧ (∀ g, mg = some g → lo ≤ g ∧ g < w.heap.size) ∧ ResRep w ok mg lo rs xs'

/-- A Go function does what a Lean function says: for whatever arguments that are read, nothing that was is changed. -/
def FSound (P : Program) (f : FuncId) (ts : List Ty) (sh : Sh) (F : AT ts → Option (RT sh)) : Prop :=
  ∀ (τ : AT ts) (r : RT sh), F τ = some r → ∀ (w : World) (ok : Nat → Prop) (vs : List Value), (∀ g, ok g → g < w.heap.size) → ArgsRep w ok ts τ vs →
    Calls P f vs.toArray w fun e w' => ∃ xs mg, e = .returned (retV xs) ∧ Fr (fun _ => False) w w' ∧ (∀ g, mg = some g → w.heap.size ≤ g) ∧
      ResRep w' (fun g => (ok g ∨ w.heap.size ≤ g) ∧ g < w'.heap.size) mg w.heap.size (enc sh r) xs

/-- From the world before a call to the world behind it. -/
structure CStep (W B : Nat → Prop) (w : World) (μ : Nat → Option Nat) (hp : Ups) (w' : World) (ups : Ups) (mg : Option Nat) : Prop where
  hw : ∀ g, okS B w.heap.size μ (lk hp) g → w'.heap[g]? = w.heap[g]?
  ho : ∀ g, okS B w.heap.size μ (lk hp) g → ∀ b blk, lk (ups ++ hp) b = some (some blk) → blk.fz = false → μ b ≠ some g
  hh : ∀ b blk', lk (ups ++ hp) b = some (some blk') → ∃ blk, lk hp b = some (some blk) ∧ blk'.e = blk.e ∧ blk'.l.length = blk.l.length ∧ (blk'.fz = false → blk.fz = false)
  hs : ∀ b blk' g c eT fr, lk (ups ++ hp) b = some (some blk') → μ b = some g → w'.heap[g]? = some (.cells c eT fr) → ∃ c' eT' fr', w.heap[g]? = some (.cells c' eT' fr') ∧ c'.size ≤ c.size
  rep : ∀ b blk, lk (ups ++ hp) b = some (some blk) → BRep w' (fun g => okS B w'.heap.size μ (lk (ups ++ hp)) g ∧ mg ≠ some g) (μ b) blk

/-- How a call is told to the evaluator. -/
structure CSem (P : Program) (f : FuncId) (args : List PV) (hp : Ups) (rs : List RV) (ups : Ups) : Prop where
  run : ∀ (W B : Nat → Prop) (w : World) (μ : Nat → Option Nat) (vs : List Value), (∀ g, w.heap.size ≤ g → W g ∧ B g) → HOK W B w μ (lk hp) → vs.length = args.length →
    (∀ (j : Nat) p v, args[j]? = some p → vs[j]? = some v → RepPV B w μ (lk hp) p v) →
    Calls P f vs.toArray w fun e w' => ∃ xs mg, e = .returned (retV xs) ∧ Fr W w w' ∧ CStep W B w μ hp w' ups mg ∧
      ResRep w' (okS B w'.heap.size μ (lk (ups ++ hp))) mg w.heap.size rs xs

def CSound (P : Program) (f : FuncId) (C : CallE) : Prop :=
  ∀ {ρ : Type} (args : List PV) (hp : Ups) (k : List RV → Ups → Option ρ) (r : ρ), C args (hlk hp) k = some r →
    ∃ rs ups, (∀ (ρ' : Type) (k' : List RV → Ups → Option ρ'), C args (hlk hp) k' = k' rs ups) ∧ k rs ups = some r ∧ (∀ b, lk ups b ≠ none → lk hp b ≠ none) ∧ CSem P f args hp rs ups

/-- How a call that works on the caller's own blocks is told. -/
def PSem (P : Program) (f : FuncId) (args : List PV) (hp : Ups) (ps : List PV) (ups : Ups) : Prop :=
  ∀ (W B : Nat → Prop) (w : World) (μ : Nat → Option Nat) (vs : List Value), (∀ g, w.heap.size ≤ g → W g ∧ B g) → HOK W B w μ (lk hp) → vs.length = args.length →
    (∀ (j : Nat) p v, args[j]? = some p → vs[j]? = some v → RepPV B w μ (lk hp) p v) →
    Calls P f vs.toArray w fun e w' => ∃ xs, e = .returned (retV xs) ∧ Fr W w w' ∧ HOK W B w' μ (lk (ups ++ hp)) ∧ Tr B w μ (lk hp) w' μ (lk (ups ++ hp)) ∧ xs.length = ps.length ∧
      ∀ (j : Nat) p u, ps[j]? = some p → xs[j]? = some u → RepPV B w' μ (lk (ups ++ hp)) p u

def PSound (P : Program) (f : FuncId) (C : OwnE) : Prop :=
  ∀ {ρ : Type} (args : List PV) (hp : Ups) (k : List PV → Ups → Option ρ) (r : ρ), C args (hlk hp) k = some r →
    ∃ ps ups, (∀ (ρ' : Type) (k' : List PV → Ups → Option ρ'), C args (hlk hp) k' = k' ps ups) ∧ k ps ups = some r ∧ (∀ b, lk ups b ≠ none → lk hp b ≠ none) ∧ PSem P f args hp ps ups

theorem ArgsRep.mono {w w' : World} {ok ok' : Nat → Prop} (hw : ∀ g, ok g → g < w.heap.size → w'.heap[g]? = w.heap[g]?) (ho : ∀ g, ok g → g < w.heap.size → ok' g) (hb : ∀ g, ok g → g < w.heap.size) :
    ∀ (ts : List Ty) (τ : AT ts) (vs : List Value), ArgsRep w ok ts τ vs → ArgsRep w' ok' ts τ vs
  | [], _, _, h => h
  | t :: ts, τ, _, ⟨v, vs', he, h, h'⟩ => ⟨v, vs', he, h.mono hw ho hb, ArgsRep.mono hw ho hb ts τ.2 vs' h'⟩

theorem BRep.mono {w w' : World} {ok ok' : Nat → Prop} {mg : Option Nat} {b : Blk} (hw : ∀ g, ok g → w'.heap[g]? = w.heap[g]?) (hm : ∀ g, mg = some g → w'.heap[g]? = w.heap[g]?)
    (ho : ∀ g, ok g → ok' g) (hl : ∀ g, ok g → g < w.heap.size) (h : BRep w ok mg b) : BRep w' ok' mg b := by
  cases mg with
  | none => exact h
  | some g =>
    obtain ⟨c, eT, h1, h2, h3⟩ := h
    exact ⟨c, eT, by rw [hm g rfl]; exact h1, h2, fun i hi => let ⟨es, hr, hc⟩ := h3 i hi; ⟨es, Rep.mono (fun g hg _ => hw g hg) (fun g hg _ => ho g hg) hr hl, hc⟩⟩

theorem ResRep.mono {w : World} {ok ok' : Nat → Prop} {mg : Option Nat} {lo lo' : Nat} (ho : ∀ g, ok g → mg ≠ some g → ok' g) (hb : ∀ g, ok g → g < w.heap.size) (hl : lo' ≤ lo) :
    ∀ (rs : List RV) (xs : List Value), ResRep w ok mg lo rs xs → ResRep w ok' mg lo' rs xs
  | [], _, h => h
  | .imm t v :: rs, _, ⟨x, xs, he, h, h'⟩ => ⟨x, xs, he, h.mono (fun g _ _ => rfl) (fun g hg _ => ⟨ho g hg.1 hg.2, hg.2⟩) (fun g hg => hb g hg.1), ResRep.mono ho hb hl rs xs h'⟩
  | .own e l :: rs, _, ⟨x, xs, he, h1, h2, h3, h'⟩ =>
    ⟨x, xs, he, h1, BRep.mono_ok (fun g hg => ⟨ho g hg.1 hg.2, hg.2⟩) (fun g hg => hb g hg.1) h2, fun g hg => ⟨Nat.le_trans hl (h3 g hg).1, (h3 g hg).2⟩, ResRep.mono ho hb hl rs xs h'⟩

theorem callGo_sound {ρ : Type} {hp : Ups} {sh : Sh} {k : List RV → Ups → Option ρ} {r : ρ} : ∀ (ts : List Ty) (F : AT ts → Option (RT sh)) (args : List PV) (ups : Ups),
    callGo (hlk hp) ts sh F args ups k = some r → FzLe hp (ups ++ hp) →
    ∃ τ res u, F τ = some res ∧ k (enc sh res) u = some r ∧ (∀ (ρ' : Type) (k' : List RV → Ups → Option ρ'), callGo (hlk hp) ts sh F args ups k' = k' (enc sh res) u) ∧ FzLe (ups ++ hp) (u ++ hp) ∧ FzLe hp (u ++ hp) ∧
      ∀ (W B : Nat → Prop) (w : World) (μ : Nat → Option Nat) (vs : List Value), HOK W B w μ (lk (ups ++ hp)) → vs.length = args.length →
        (∀ (j : Nat) p v, args[j]? = some p → vs[j]? = some v → RepPV B w μ (lk (ups ++ hp)) p v) → ArgsRep w (okS B w.heap.size μ (lk (u ++ hp))) ts τ vs
  | [], F, args, ups, h, h0 => by
    cases args with
    | cons a as => cases h
    | nil =>
      simp only [callGo] at h ⊢
      cases hF : F () with
      | none => rw [hF] at h; cases h
      | some res =>
        rw [hF] at h
        exact ⟨(), res, ups, hF, h, fun _ _ => rfl, .refl _, h0, fun W B w μ vs _ hl _ => List.eq_nil_of_length_eq_zero hl⟩
  | t :: ts, F, args, ups, h, h0 => by
    cases args with
    | nil => cases h
    | cons a as =>
      simp only [callGo] at h ⊢
      obtain ⟨x, u, hlaw, hk, hz0, hz, hrep⟩ := frz_sound h h0
      rw [← List.append_assoc] at hz0 hz
      obtain ⟨τ, res, u', hF, hk', hlaw', hz1, hz2, hargs⟩ := callGo_sound ts (fun τ => F (x, τ)) as (u ++ ups) hk hz0
      refine ⟨(x, τ), res, u', hF, hk', fun ρ' k' => by rw [hlaw]; exact hlaw' ρ' k', hz.trans hz1, hz2, fun W B w μ vs hH hl hv => ?_⟩
      cases vs with
      | nil => simp at hl
      | cons v vs =>
        have h1 := hrep W B w μ v hH (hv 0 a v rfl rfl)
        rw [← List.append_assoc] at h1
        have hH' := HOK.fz hz hH
        refine ⟨v, vs, rfl, h1.mono (fun _ _ _ => rfl) (fun g hg _ => hz1.okS hg) okS_lt, hargs W B w μ vs hH' (by simpa using hl) (fun j p v' hj hj' => hz.tr.pv _ _ (hv (j + 1) p v' (by simpa using hj) (by simpa using hj')))⟩

/-- A contract serves the evaluator. -/
theorem FSound.csound {P : Program} {f : FuncId} {ts : List Ty} {sh : Sh} {F : AT ts → Option (RT sh)} (hF : FSound P f ts sh F) : CSound P f (callE ts sh F) := by
  intro ρ args hp k r h
  obtain ⟨τ, res, u, hτ, hk, hlaw, hz0, hz, hargs⟩ := callGo_sound ts F args [] h (.refl _)
  refine ⟨enc sh res, u, hlaw, hk, fun b hb hn => ?_, ⟨fun W B w μ vs hWB hH hl hv => ?_⟩⟩
  · rcases hz b with h1 | ⟨blk, h1, _⟩
    · rw [lk_append, hn] at h1
      cases hx : lk u b with
      | none => exact hb hx
      | some y => rw [hx] at h1; cases h1
    · rw [hn] at h1; cases h1
  have hA := hargs W B w μ vs hH hl hv
  have hH' : HOK W B w μ (lk (u ++ hp)) := HOK.fz hz hH
  refine (hF τ res hτ w (okS B w.heap.size μ (lk (u ++ hp))) vs okS_lt hA).mono ?_
  rintro e w' ⟨xs, mg, he, hfr, hmgl, hres⟩
  have hsame : ∀ g, g < w.heap.size → w'.heap[g]? = w.heap[g]? := fun g hg => hfr.block g hg (fun h => h)
  have hok : ∀ g, okS B w.heap.size μ (lk (u ++ hp)) g → okS B w'.heap.size μ (lk (u ++ hp)) g := fun g hg => ⟨hg.1, Nat.lt_of_lt_of_le hg.2.1 hfr.size, hg.2.2⟩
  refine ⟨xs, mg, he, hfr.mono (fun _ _ h => h.elim), ⟨fun g hg => hsame g hg.2.1, fun g hg b blk hb hf => (hz.okS hg).2.2 b blk hb hf, fun b blk' hb => ?_, fun b blk' g c eT fr hb hg hc => ⟨c, eT, fr, ?_, Nat.le_refl _⟩, fun b blk hb => ?_⟩, ?_⟩
  · rcases hz b with h1 | ⟨blk, h1, h2⟩
    · rw [h1] at hb; exact ⟨blk', hb, rfl, rfl, id⟩
    · rw [h2] at hb; injection hb with hb; injection hb with hb; subst hb
      exact ⟨blk, h1, rfl, rfl, fun h => by cases h⟩
  · rw [← hsame g (hH'.lt b blk' g hb hg).2.1]; exact hc
  · have h2 := hH'.rep b blk hb
    cases hmu : μ b with
    | none => rw [hmu] at h2; exact h2
    | some g0 =>
      rw [hmu] at h2
      obtain ⟨c, eT, h1, h3, h4⟩ := h2
      refine ⟨c, eT, by rw [hsame g0 (hH'.lt b blk g0 hb hmu).2.1]; exact h1, h3, fun i hi => ?_⟩
      obtain ⟨es, hr, hes⟩ := h4 i hi
      refine ⟨es, Rep.mono (ok' := fun g => okS B w'.heap.size μ (lk (u ++ hp)) g ∧ mg ≠ some g) (fun g hg _ => hsame g hg.2.1) (fun g hg _ => ⟨hok g hg, fun he => ?_⟩) hr okS_lt, hes⟩
      have := hmgl g he
      have := hg.2.1
      omega
  · refine ResRep.mono (fun g hg _ => ?_) (fun g hg => hg.2) (Nat.le_refl _) _ _ hres
    rcases hg.1 with h | h
    · exact hok g h
    · exact ⟨(hWB g h).2, hg.2, fun b blk hb hf hm => by have := (hH'.lt b blk g hb hm).2.1; omega⟩

end Go.W

set_option linter.unusedVariables false
set_option linter.unusedSimpArgs false
namespace Go.W

theorem Ty.size_flat {n : Nat} {e : Ty} {ess : List (List Value)} (h : ∀ es ∈ ess, es.length = n) (i : Nat) (hi : i < ess.length) :
    (ess.flatten.drop (i * n)).take n = ess[i] := by
  induction ess generalizing i with
  | nil => simp at hi
  | cons es ess ih =>
    have hes : es.length = n := h es (by simp)
    cases i with
    | zero =>
      simp only [Nat.zero_mul, List.drop_zero, List.flatten_cons, List.getElem_cons_zero]
      rw [List.take_append_of_le_length (by omega), ← hes, List.take_length]
    | succ i =>
      simp only [List.flatten_cons, List.getElem_cons_succ]
      rw [show (i + 1) * n = n + i * n by rw [Nat.succ_mul]; omega, ← hes, ← List.drop_drop, List.drop_left, hes]
      exact ih (fun x hx => h x (List.mem_cons_of_mem _ hx)) i (by simpa using hi)

/-- The part of a value at a path. -/
theorem getP_sound {ρ : Type} (p : List Sel) : ∀ {t : Ty} {v : t.D} {k : (t' : Ty) → t'.D → Option ρ} {r : ρ}, getP p t v k = some r →
    ∃ s x, subT p t = some s ∧ k s x = some r ∧ (∀ (ρ' : Type) (k' : (t' : Ty) → t'.D → Option ρ'), getP p t v k' = k' s x) ∧
      ∀ w ok cs o, Rep w ok t v cs → offP p t = some o → Rep w ok s x ((cs.drop o).take s.size) ∧ o + s.size ≤ cs.length := by
  induction p with
  | nil =>
    intro t v k r h
    refine ⟨t, v, rfl, h, fun _ _ => rfl, fun w ok cs o hr ho => ?_⟩
    injection ho with ho; subst ho
    rw [List.drop_zero, ← hr.size, List.take_length]
    exact ⟨hr, by omega⟩
  | cons q p ih =>
    intro t v k r h
    cases q with
    | fst =>
      cases t with
      | pair a b =>
        obtain ⟨s, x, h1, h2, h3, h4⟩ := ih (t := a) (v := v.1) h
        refine ⟨s, x, h1, h2, h3, fun w ok cs o hr ho => ?_⟩
        obtain ⟨c1, c2, rfl, r1, r2⟩ := hr
        obtain ⟨r3, hl⟩ := h4 w ok c1 o r1 ho
        refine ⟨?_, by rw [List.length_append]; omega⟩
        rw [List.drop_append_of_le_length (by omega), List.take_append_of_le_length (by rw [List.length_drop]; omega)]
        exact r3
      | _ => cases h
    | snd =>
      cases t with
      | pair a b =>
        obtain ⟨s, x, h1, h2, h3, h4⟩ := ih (t := b) (v := v.2) h
        refine ⟨s, x, h1, h2, h3, fun w ok cs o hr ho => ?_⟩
        obtain ⟨c1, c2, rfl, r1, r2⟩ := hr
        simp only [offP, Option.map_eq_some_iff] at ho
        obtain ⟨o', ho', rfl⟩ := ho
        obtain ⟨r3, hl⟩ := h4 w ok c2 o' r2 ho'
        rw [← r1.size]
        refine ⟨?_, by rw [List.length_append]; omega⟩
        rw [← List.drop_drop, List.drop_left]
        exact r3
      | _ => cases h
    | idx i =>
      cases t with
      | arr n e =>
        obtain ⟨s, x, h1, h2, h3, h4⟩ := ih (t := e) (v := v.getD i.toNat e.z) h
        refine ⟨s, x, h1, h2, h3, fun w ok cs o hr ho => ?_⟩
        obtain ⟨hn, ess, rfl, hl, hr⟩ := hr
        simp only [offP] at ho
        split at ho
        · rename_i hi
          simp only [Option.map_eq_some_iff] at ho
          obtain ⟨o', ho', rfl⟩ := ho
          have hi' : i.toNat < v.length := by omega
          have hr1 := hr i.toNat hi' (by omega)
          have hg : v.getD i.toNat e.z = v[i.toNat] := by simp [List.getD, List.getElem?_eq_getElem hi']
          rw [← hg] at hr1
          obtain ⟨r3, hl3⟩ := h4 w ok _ o' hr1 ho'
          have hsz : ∀ es ∈ ess, es.length = e.size := fun es hes => by
            obtain ⟨j, hj, rfl⟩ := List.getElem_of_mem hes
            exact (hr j (by omega) hj).size
          have hflat := Ty.size_flat (e := e) hsz i.toNat (by omega)
          have hlen : ess.flatten.length = ess.length * e.size := flatten_length_of _ _ hsz
          have hes := hsz ess[i.toNat] (List.getElem_mem _)
          have hmul : (i.toNat + 1) * e.size ≤ ess.length * e.size := Nat.mul_le_mul_right _ (by omega)
          rw [Nat.succ_mul] at hmul
          refine ⟨?_, by omega⟩
          rw [← hflat] at r3
          rw [List.drop_take, List.take_take, List.drop_drop, Nat.min_eq_left (by omega)] at r3
          exact r3
        · cases ho
      | _ => cases h

/-- cells with a part replaced -/
def splice (cs ys : List Value) (o : Nat) : List Value := cs.take o ++ ys ++ cs.drop (o + ys.length)

theorem splice_length {cs ys : List Value} {o : Nat} (h : o + ys.length ≤ cs.length) : (splice cs ys o).length = cs.length := by
  simp [splice]; omega

theorem splice_left {c1 c2 ys : List Value} {o : Nat} (h : o + ys.length ≤ c1.length) : splice (c1 ++ c2) ys o = splice c1 ys o ++ c2 := by
  unfold splice
  rw [List.take_append_of_le_length (by omega), List.drop_append_of_le_length (by omega), List.append_assoc, List.append_assoc, List.append_assoc]
theorem splice_right {c1 c2 ys : List Value} {o : Nat} : splice (c1 ++ c2) ys (c1.length + o) = c1 ++ splice c2 ys o := by
  unfold splice
  rw [List.take_append, List.take_of_length_le (by omega), show c1.length + o - c1.length = o by omega, show c1.length + o + ys.length = c1.length + (o + ys.length) by omega, ← List.drop_drop, List.drop_left]
  simp

theorem splice_flat {n : Nat} {ess : List (List Value)} (h : ∀ es ∈ ess, es.length = n) (i : Nat) (hi : i < ess.length) (ys : List Value) (o : Nat) (ho : o + ys.length ≤ n) :
    splice ess.flatten ys (i * n + o) = (ess.set i (splice ess[i] ys o)).flatten := by
  induction ess generalizing i with
  | nil => simp at hi
  | cons es ess ih =>
    have hes : es.length = n := h es (by simp)
    cases i with
    | zero =>
      simp only [List.flatten_cons, Nat.zero_mul, Nat.zero_add, List.getElem_cons_zero, List.set_cons_zero]
      exact splice_left (by omega)
    | succ i =>
      simp only [List.flatten_cons, List.getElem_cons_succ, List.set_cons_succ]
      rw [show (i + 1) * n + o = es.length + (i * n + o) by rw [Nat.succ_mul]; omega, splice_right, ih (fun x hx => h x (List.mem_cons_of_mem _ hx)) i (by simpa using hi)]

theorem putP_sound (p : List Sel) {t' : Ty} {x : t'.D} : ∀ {t : Ty} {v v' : t.D}, putP p t' x t v = some v' →
    subT p t = some t' ∧ ∀ w ok cs ys o, Rep w ok t v cs → Rep w ok t' x ys → offP p t = some o → Rep w ok t v' (splice cs ys o) ∧ o + ys.length ≤ cs.length := by
  induction p with
  | nil =>
    intro t v v' h
    obtain ⟨rfl, rfl⟩ := castD_inv h
    refine ⟨rfl, fun w ok cs ys o hr hy ho => ?_⟩
    injection ho with ho; subst ho
    have h1 := hr.size
    have h2 := hy.size
    refine ⟨?_, by omega⟩
    unfold splice
    rw [List.take_zero, List.drop_eq_nil_of_le (by omega), List.nil_append, List.append_nil]
    exact hy
  | cons q p ih =>
    intro t v v' h
    cases q with
    | fst =>
      cases t with
      | pair a b =>
        simp only [putP] at h
        split at h
        · rename_i y hy
          injection h with h; subst h
          obtain ⟨h1, h2⟩ := ih hy
          refine ⟨h1, fun w ok cs ys o hr hy ho => ?_⟩
          obtain ⟨c1, c2, rfl, r1, r2⟩ := hr
          obtain ⟨r3, hl⟩ := h2 w ok c1 ys o r1 hy ho
          exact ⟨⟨_, _, splice_left hl, r3, r2⟩, by rw [List.length_append]; omega⟩
        · cases h
      | _ => cases h
    | snd =>
      cases t with
      | pair a b =>
        simp only [putP] at h
        split at h
        · rename_i y hy
          injection h with h; subst h
          obtain ⟨h1, h2⟩ := ih hy
          refine ⟨h1, fun w ok cs ys o hr hy ho => ?_⟩
          obtain ⟨c1, c2, rfl, r1, r2⟩ := hr
          simp only [offP, Option.map_eq_some_iff] at ho
          obtain ⟨o', ho', rfl⟩ := ho
          obtain ⟨r3, hl⟩ := h2 w ok c2 ys o' r2 hy ho'
          rw [← r1.size]
          exact ⟨⟨_, _, splice_right, r1, r3⟩, by rw [List.length_append]; omega⟩
        · cases h
      | _ => cases h
    | idx i =>
      cases t with
      | arr n e =>
        simp only [putP] at h
        split at h
        · rename_i y hy
          injection h with h; subst h
          obtain ⟨h1, h2⟩ := ih hy
          refine ⟨h1, fun w ok cs ys o hr hy ho => ?_⟩
          obtain ⟨hn, ess, rfl, hl, hr⟩ := hr
          simp only [offP] at ho
          split at ho
          · rename_i hi
            simp only [Option.map_eq_some_iff] at ho
            obtain ⟨o', ho', rfl⟩ := ho
            have hi' : i.toNat < v.length := by omega
            have hr1 := hr i.toNat hi' (by omega)
            have hg : v.getD i.toNat e.z = v[i.toNat] := by simp [List.getD, List.getElem?_eq_getElem hi']
            rw [← hg] at hr1
            obtain ⟨r3, hl3⟩ := h2 w ok _ ys o' hr1 hy ho'
            have hsz : ∀ es ∈ ess, es.length = e.size := fun es hes => by
              obtain ⟨j, hj, rfl⟩ := List.getElem_of_mem hes
              exact (hr j (by omega) hj).size
            have hlen : ess.flatten.length = ess.length * e.size := flatten_length_of _ _ hsz
            have hes := hsz ess[i.toNat] (List.getElem_mem _)
            have hmul : (i.toNat + 1) * e.size ≤ ess.length * e.size := Nat.mul_le_mul_right _ (by omega)
            rw [Nat.succ_mul] at hmul
            refine ⟨⟨by simpa using hn, _, splice_flat hsz i.toNat (by omega) ys o' (by omega), by simpa using hl, fun j hj hj' => ?_⟩, by omega⟩
            simp only [List.getElem_set]
            split
            · exact r3
            · exact hr j (by simpa using hj) (by simpa using hj')
          · cases ho
        · cases h
      | _ => cases h

theorem offP_append : ∀ (p q : List Sel) (t s : Ty) (o o' : Nat), subT p t = some s → offP p t = some o → offP q s = some o' → offP (p ++ q) t = some (o + o')
  | [], q, t, s, o, o', h1, h2, h3 => by
    injection h1 with h1; injection h2 with h2; subst h1; subst h2
    simpa using h3
  | .fst :: p, q, t, s, o, o', h1, h2, h3 => by
    cases t with
    | pair a b => exact offP_append p q a s o o' h1 h2 h3
    | _ => cases h1
  | .snd :: p, q, t, s, o, o', h1, h2, h3 => by
    cases t with
    | pair a b =>
      simp only [offP, Option.map_eq_some_iff, List.cons_append] at h2 ⊢
      obtain ⟨o1, h2, rfl⟩ := h2
      exact ⟨_, offP_append p q b s o1 o' h1 h2 h3, by omega⟩
    | _ => cases h1
  | .idx i :: p, q, t, s, o, o', h1, h2, h3 => by
    cases t with
    | arr n e =>
      simp only [offP, List.cons_append] at h2 ⊢
      split at h2
      · rename_i hi
        rw [if_pos hi]
        simp only [Option.map_eq_some_iff] at h2 ⊢
        obtain ⟨o1, h2, rfl⟩ := h2
        exact ⟨_, offP_append p q e s o1 o' h1 h2 h3, by omega⟩
      · cases h2
    | _ => cases h1

/-- The cells of a zero value. -/
def zc : Ty → List Value
  | .int k => [.int k 0]
  | .bool => [.bool false]
  | .str => [.string ⟨#[]⟩]
  | .slice _ => [.slice none 0 0]
  | .pair a b => zc a ++ zc b
  | .arr n e => (List.replicate n (zc e)).flatten
  | .fn f => [.func (.func f) #[] #[]]

theorem Rep.zero (w : World) (ok : Nat → Prop) : ∀ t : Ty, Rep w ok t t.z (zc t)
  | .fn _ => rfl
  | .int _ => rfl
  | .bool => rfl
  | .str => rfl
  | .slice _ => ⟨none, 0, rfl, by simp [Ty.z], fun i hi => by simp [Ty.z] at hi⟩
  | .pair a b => ⟨_, _, rfl, Rep.zero w ok a, Rep.zero w ok b⟩
  | .arr n e => ⟨by simp [Ty.z], _, rfl, by simp [Ty.z], fun i hi hi' => by
    simp only [Ty.z, List.getElem_replicate]
    exact Rep.zero w ok e⟩

end Go.W

set_option linter.unusedVariables false
set_option linter.unusedSimpArgs false
namespace Go.W

/-! ### Types -/
def UndOK (P : Program) (E : Env) (i : TI) (d : TypeDesc) : Prop :=
  match i.ty with
  | .int k => d = .int k
  | .bool => d = .bool
  | .str => d = .string
  | .slice e => ∃ te ie inf, d = .slice te ∧ E.ty te = some ie ∧ ie.ty = e ∧ P.info? te = some inf ∧ inf.bytes = i.bytes ∧ 0 < i.bytes ∧ 0 < e.size
  | .pair a b => ∃ fs, d = .struct fs ∧ fs.size = i.n ∧ ∀ (f : Nat) fd, fs[f]? = some fd → ∃ s ie, subT (fpath i.n f) (.pair a b) = some s ∧ offP (fpath i.n f) (.pair a b) = some fd.offset ∧ E.ty fd.type = some ie ∧ ie.ty = s ∧ 0 < s.size
  | .arr n e => ∃ te ie, d = .array n te ∧ E.ty te = some ie ∧ ie.ty = e
  | .fn _ => False

structure TyOK (P : Program) (E : Env) (t : Nat) (i : TI) : Prop where
  info : ∃ inf zv, P.info? t = some inf ∧ inf.size = i.ty.size ∧ inf.zero = some zv ∧ zv.cells.toList = zc i.ty
  und : ∃ d, P.underlying t = some d ∧ UndOK P E i d

structure EnvOK (P : Program) (E : Env) : Prop where
  ty : ∀ t i, E.ty t = some i → TyOK P E t i
  fn : ∀ f C, E.fn f = some C → CSound P f C ∧ ∃ fn, P.funcs[f]? = some fn ∧ (fn.name == "runtime.NumGoroutine") = false ∧ fn.body.isNone = false
  ow : ∀ f C, E.ow f = some C → PSound P f C ∧ ∃ fn, P.funcs[f]? = some fn ∧ (fn.name == "runtime.NumGoroutine") = false ∧ fn.body.isNone = false

section
variable {P : Program} {E : Env} (hE : EnvOK P E)
include hE

theorem TyOK.size {t : Nat} {i : TI} (h : E.ty t = some i) (w : World) : (sizeOf t).run P w = .ok i.ty.size w := by
  obtain ⟨⟨inf, zv, h1, h2, _, _⟩, _⟩ := hE.ty t i h
  simp [sizeOf, typeInfo, h1, h2]
theorem TyOK.zero {t : Nat} {i : TI} (h : E.ty t = some i) : ∃ zv : Value, zv.cells.toList = zc i.ty ∧ ∀ w, (zeroValue t).run P w = .ok zv w := by
  obtain ⟨⟨inf, zv, h1, h2, h3, h4⟩, _⟩ := hE.ty t i h
  exact ⟨zv, h4, fun w => by simp [zeroValue, typeInfo, h1, h3]⟩
theorem TyOK.agg {t : Nat} {i : TI} (h : E.ty t = some i) (w : World) : (isAgg t).run P w = .ok i.ty.agg w := by
  obtain ⟨_, d, h1, h2⟩ := hE.ty t i h
  unfold UndOK at h2
  simp only [isAgg, underlying, Sem.run_bind, run_program, Result.andThen_ok, h1, Sem.run_pure]
  split at h2 <;> rename_i hi <;> rw [hi]
  · subst h2; rfl
  · subst h2; rfl
  · subst h2; rfl
  · obtain ⟨_, _, _, rfl, _⟩ := h2; rfl
  · obtain ⟨_, rfl, _⟩ := h2; rfl
  · obtain ⟨_, _, rfl, _⟩ := h2; rfl
  · exact h2.elim

/-- A variable's value, read. -/
theorem run_loadVar {t : Nat} {i : TI} (h : E.ty t = some i) {w : World} {ok : Nat → Prop} {v : i.ty.D} {cs : List Value} {g o : Nat} (hr : Rep w ok i.ty v cs)
    (hc : ∀ (j : Nat) u, cs[j]? = some u → w.cell? ⟨g, o + j, none⟩ = some u) : ∃ x, (loadVar t ⟨g, o, none⟩).run P w = .ok x w ∧ RepV w ok i.ty v x := by
  have hadd : ∀ j, (⟨g, o, none⟩ : Addr).add j = ⟨g, o + j, none⟩ := fun j => by unfold Addr.add; split <;> simp_all
  have hsz := hr.size
  obtain ⟨x, hx, hcells, hform⟩ := RepV.of_cells hr
  refine ⟨x, ?_, hx⟩
  unfold loadVar
  simp only [Sem.run_bind, TyOK.agg hE h, Result.andThen_ok]
  rcases hform with ⟨ha, rfl⟩ | ⟨ha, rfl⟩
  · simp only [ha, if_true, Sem.run_bind, TyOK.size hE h, Result.andThen_ok, ← hsz]
    rw [run_loadCells_list w _ cs (fun j v hj => by rw [hadd]; exact hc j v hj)]
    rfl
  · have := hc 0 x rfl
    simp only [Nat.add_zero] at this
    simp [ha, this]
end

/-! ### What an operation does, told for whatever memory -/
def TmOK (B : Nat → Prop) (w : World) (μ : Nat → Option Nat) (st : St) (a : Act) : Prop :=
  ∀ t tv, lk st.tm t = some tv → RepTV B w μ (lk st.hp) tv (a.tmps.getD t undef)

def OpSem (P : Program) (o : Oper) (st : St) (tv : TV) (ups : Ups) : Prop :=
  ∀ (W B : Nat → Prop) (w : World) (μ : Nat → Option Nat) (a : Act), (∀ g, w.heap.size ≤ g → W g ∧ B g) → HOK W B w μ (lk st.hp) → TmOK B w μ st a →
    ∀ (K : Act → World → Prop) (Q : Exit → Act → World → Prop),
      (∀ x w' μ', Fr W w w' → HOK W B w' μ' (lk (ups ++ st.hp)) → Tr B w μ (lk st.hp) w' μ' (lk (ups ++ st.hp)) → RepTV B w' μ' (lk (ups ++ st.hp)) tv x → K (a.put o.dst x) w') →
      o.wp P a w K Q

def OpLaw {ρ : Type} (E : Env) (P : Program) (o : Oper) (st : St) (K : TV → Ups → Option ρ) (r : ρ) : Prop :=
  ∃ tv ups, (∀ (ρ' : Type) (K' : TV → Ups → Option ρ'), opE E st o K' = K' tv ups) ∧ K tv ups = some r ∧ (∀ b, lk ups b ≠ none → lk st.hp b ≠ none ∨ ∃ j, o.dst.getD 900000 + 100000 * j = b) ∧ OpSem P o st tv ups

theorem wp_value {P : Program} {o : Oper} {a : Act} {w w' : World} {K : Act → World → Prop} {Q : Exit → Act → World → Prop} {v : Value}
    (h : (execOp a.eval o).run P w = .ok (.value v) w') (hk : K (a.put o.dst v) w') : o.wp P a w K Q := by
  unfold Oper.wp; rw [h]; exact hk
theorem wp_skip' {P : Program} {o : Oper} {a : Act} {w w' : World} {K : Act → World → Prop} {Q : Exit → Act → World → Prop}
    (h : (execOp a.eval o).run P w = .ok .skip w') (hk : K (a.put o.dst undef) w') : o.wp P a w K Q := by
  unfold Oper.wp; rw [h]; exact hk

section
variable {B : Nat → Prop} {w : World} {μ : Nat → Option Nat} {st : St} {a : Act}
theorem opv_sound (hT : TmOK B w μ st a) {x : Operand} {tv : TV} (h : opv st x = some tv) : RepTV B w μ (lk st.hp) tv (a.eval x) := by
  cases x with
  | tmp t => exact hT t tv h
  | const v =>
    simp only [opv, constTV] at h
    split at h
    · injection h with h; subst h; exact ⟨_, rfl, .inr ⟨rfl, rfl⟩⟩
    · injection h with h; subst h; exact ⟨_, rfl, .inr ⟨rfl, rfl⟩⟩
    · injection h with h; subst h; exact ⟨_, rfl, .inr ⟨rfl, rfl⟩⟩
    · injection h with h; subst h; rfl
    · cases h
  | global g => cases h
  | func f => injection h with h; subst h; exact ⟨[], rfl, rfl, fun j b u hj => by simp at hj⟩
end

theorem opOne_inv {ρ : Type} {tv : Option TV} {K : PV → Option ρ} {r : ρ} (h : opOne tv K = some r) : ∃ p, tv = some (.one p) ∧ K p = some r := by
  unfold opOne at h; split at h
  · exact ⟨_, rfl, h⟩
  · cases h
theorem opInt_inv {ρ : Type} {tv : Option TV} {K : Int → Option ρ} {r : ρ} (h : opInt tv K = some r) : ∃ k n, tv = some (.one (.val (.int k) n)) ∧ K n = some r := by
  unfold opInt at h; split at h
  · exact ⟨_, _, rfl, h⟩
  · cases h
theorem tyOf_inv {ρ : Type} {E : Env} {t : Nat} {K : TI → Option ρ} {r : ρ} (h : tyOf E t K = some r) : ∃ i, E.ty t = some i ∧ K i = some r := by
  unfold tyOf at h; split at h
  · exact ⟨_, by assumption, h⟩
  · cases h

theorem rep_int {B : Nat → Prop} {w : World} {μ : Nat → Option Nat} {h : Hp} {k : IntKind} {n : Int} {x : Value} (hx : RepTV B w μ h (.one (.val (.int k) n)) x) : x = .int k n := by
  obtain ⟨cs, hr, ⟨hc, _⟩ | ⟨_, hc⟩⟩ := hx
  · cases hc
  · rw [show cs = [Value.int k n] from hr] at hc; injection hc with hc; exact hc.symm
theorem rep_bool {B : Nat → Prop} {w : World} {μ : Nat → Option Nat} {h : Hp} {b : Bool} {x : Value} (hx : RepTV B w μ h (.one (.val .bool b)) x) : x = .bool b := by
  obtain ⟨cs, hr, ⟨hc, _⟩ | ⟨_, hc⟩⟩ := hx
  · cases hc
  · rw [show cs = [Value.bool b] from hr] at hc; injection hc with hc; exact hc.symm
theorem rep_str {B : Nat → Prop} {w : World} {μ : Nat → Option Nat} {h : Hp} {s : ByteArray} {x : Value} (hx : RepTV B w μ h (.one (.val .str s)) x) : x = .string s := by
  obtain ⟨cs, hr, ⟨hc, _⟩ | ⟨_, hc⟩⟩ := hx
  · cases hc
  · rw [show cs = [Value.string s] from hr] at hc; injection hc with hc; exact hc.symm
theorem int_rep (B : Nat → Prop) (w : World) (μ : Nat → Option Nat) (h : Hp) (k : IntKind) (n : Int) : RepTV B w μ h (.one (.val (.int k) n)) (.int k n) := ⟨_, rfl, .inr ⟨rfl, rfl⟩⟩
theorem bool_rep (B : Nat → Prop) (w : World) (μ : Nat → Option Nat) (h : Hp) (b : Bool) : RepTV B w μ h (.one (.val .bool b)) (.bool b) := ⟨_, rfl, .inr ⟨rfl, rfl⟩⟩
theorem str_rep (B : Nat → Prop) (w : World) (μ : Nat → Option Nat) (h : Hp) (s : ByteArray) : RepTV B w μ h (.one (.val .str s)) (.string s) := ⟨_, rfl, .inr ⟨rfl, rfl⟩⟩

/-- An operation that only computes. -/
theorem OpSem.pure {P : Program} {o : Oper} {st : St} {tv : TV}
    (h : ∀ (B : Nat → Prop) (w : World) (μ : Nat → Option Nat) (a : Act) W, HOK W B w μ (lk st.hp) → TmOK B w μ st a → ∃ x, (execOp a.eval o).run P w = .ok (.value x) w ∧ RepTV B w μ (lk st.hp) tv x) : OpSem P o st tv [] := by
  intro W B w μ a hWB hH hT K Q hK
  obtain ⟨x, hx, hr⟩ := h B w μ a W hH hT
  exact wp_value hx (hK x w μ (.refl _ _) hH (.refl _ _ _ _) hr)

/-! ### A new block -/
theorem new_block {W B : Nat → Prop} {w : World} {μ : Nat → Option Nat} {hp : Ups} (hH : HOK W B w μ (lk hp)) {d : Nat} (hd : lk hp d = none) (hWB : ∀ g, w.heap.size ≤ g → W g ∧ B g)
    (e : Ty) (l : List e.D) (c : Array Value) (eT : TypeId) (hsz : l.length * e.size ≤ c.size)
    (hc : ∀ i (h : i < l.length), ∃ es, Rep w (okS B w.heap.size μ (lk hp)) e l[i] es ∧ ∀ (j : Nat) v, es[j]? = some v → c[i * e.size + j]? = some v) :
    HOK W B (w.alloc (.cells c eT)) (fun b => if b = d then some w.heap.size else μ b) (lk ((d, some ⟨e, l, false⟩) :: hp)) ∧
    Tr B w μ (lk hp) (w.alloc (.cells c eT)) (fun b => if b = d then some w.heap.size else μ b) (lk ((d, some ⟨e, l, false⟩) :: hp)) := by
  have hsize : (w.alloc (.cells c eT)).heap.size = w.heap.size + 1 := World.size_alloc _ _
  have hold : ∀ g, g < w.heap.size → (w.alloc (.cells c eT)).heap[g]? = w.heap[g]? := fun g hg => heap_alloc w _ g hg
  have hok : ∀ g, okS B w.heap.size μ (lk hp) g → okS B (w.alloc (.cells c eT)).heap.size (fun b => if b = d then some w.heap.size else μ b) (lk ((d, some ⟨e, l, false⟩) :: hp)) g := fun g hg => by
    refine ⟨hg.1, by rw [hsize]; have := hg.2.1; omega, fun b blk hb hf => ?_⟩
    rw [lk_cons] at hb
    by_cases hbd : d = b
    · subst hbd
      dsimp only
      rw [if_pos rfl]
      intro he; injection he with he; have := hg.2.1; omega
    · rw [if_neg hbd] at hb
      dsimp only
      rw [if_neg (Ne.symm hbd)]
      exact hg.2.2 b blk hb hf
  refine ⟨⟨fun b blk g hb hg => ?_, fun b b' blk blk' g hb hb' hf hne hg => ?_, fun b blk hb => ?_⟩, Tr.mk' (fun g hg => hold g hg.2.1) hok (fun b hb => ?_) (fun b blk' hb hb' => ?_) (fun b blk' g c' eT' fr hb hb' hg hc' => ?_)⟩
  · rw [lk_cons] at hb
    by_cases hbd : d = b
    · subst hbd
      rw [if_pos rfl] at hg; injection hg with hg; subst hg
      exact ⟨(hWB _ (Nat.le_refl _)).2, by rw [hsize]; omega, fun _ => (hWB _ (Nat.le_refl _)).1⟩
    · rw [if_neg hbd] at hb; rw [if_neg (Ne.symm hbd)] at hg
      obtain ⟨a1, a2, a3⟩ := hH.lt b blk g hb hg
      exact ⟨a1, by rw [hsize]; omega, a3⟩
  · rw [lk_cons] at hb hb'
    by_cases hbd : d = b
    · subst hbd
      rw [if_pos rfl] at hg; injection hg with hg; subst hg
      rw [if_neg hne] at hb'; rw [if_neg (Ne.symm hne)]
      intro he; have := (hH.lt b' blk' _ hb' he).2.1; omega
    · rw [if_neg hbd] at hb; rw [if_neg (Ne.symm hbd)] at hg
      by_cases hbd' : d = b'
      · subst hbd'
        rw [if_pos rfl]; intro he; injection he with he; have := (hH.lt b blk g hb hg).2.1; omega
      · rw [if_neg hbd'] at hb'; rw [if_neg (Ne.symm hbd')]
        exact hH.apart b b' blk blk' g hb hb' hf hne hg
  · rw [lk_cons] at hb
    by_cases hbd : d = b
    · subst hbd
      rw [if_pos rfl] at hb ⊢
      injection hb with hb; injection hb with hb; subst hb
      refine ⟨c, eT, heap_alloc_new _ _, hsz, fun i hi => ?_⟩
      obtain ⟨es, hr, hcs⟩ := hc i hi
      exact ⟨es, Rep.mono (fun g hg _ => hold g hg.2.1) (fun g hg _ => hok g hg) hr okS_lt, hcs⟩
    · rw [if_neg hbd] at hb; rw [if_neg (Ne.symm hbd)]
      exact BRep.mono (fun g hg => hold g hg.2.1) (fun g hg => hold g (hH.lt b blk g hb hg).2.1) hok okS_lt (hH.rep b blk hb)
  · rw [lk_cons]; split
    · simp
    · exact hb
  · have hbd : d ≠ b := fun he => hb (he ▸ hd)
    rw [lk_cons, if_neg hbd] at hb'
    exact ⟨blk', hb', rfl, rfl, by rw [if_neg (Ne.symm hbd)]⟩
  · have hbd : d ≠ b := fun he => hb (he ▸ hd)
    rw [lk_cons, if_neg hbd] at hb'
    rw [hold g (hH.lt b blk' g hb' hg).2.1] at hc'
    exact ⟨c', eT', fr, hc', Nat.le_refl _⟩

theorem new_ptr {B : Nat → Prop} {w : World} {μ : Nat → Option Nat} {hp : Ups} {d : Nat} (e : Ty) (v : e.D) (w' : World) : RepTV B w' (fun b => if b = d then some w.heap.size else μ b) (lk ((d, some ⟨e, [v], false⟩) :: hp)) (.one (.ptr d 0 [])) (.pointer (some ⟨w.heap.size, 0, none⟩)) := by
  refine ⟨_, by rw [lk_cons, if_pos rfl], fun blk hb => ?_⟩
  injection hb with hb; subst hb
  exact ⟨Int.le_refl _, by simp, w.heap.size, 0, if_pos rfl, rfl, by simp⟩

theorem new_loc {B : Nat → Prop} {w : World} {μ : Nat → Option Nat} {hp : Ups} {d : Nat} (e : Ty) (l : List e.D) (c : Array Value) (eT : TypeId) (cap : Nat) (hl : l.length ≤ cap) (hcap : cap * e.size ≤ c.size) :
    RepTV B (w.alloc (.cells c eT)) (fun b => if b = d then some w.heap.size else μ b) (lk ((d, some ⟨e, l, false⟩) :: hp)) (.one (.loc e d)) (.slice (some ⟨w.heap.size, 0, none⟩) l.length cap) := by
  refine ⟨_, by rw [lk_cons, if_pos rfl], fun blk hb => ?_⟩
  injection hb with hb; subst hb
  show SliceOf _ (if d = d then some w.heap.size else μ d) _ _ _ _
  rw [if_pos rfl]
  refine ⟨_, cap, rfl, hl, 0, rfl, fun _ => rfl, fun _ => by simp, fun c' eT' fr hc' => ?_⟩
  rw [heap_alloc_new] at hc'
  injection hc' with hc'; injection hc' with hc'; subst hc'
  show 0 + cap * e.size ≤ c.size
  omega
end Go.W

set_option linter.unusedVariables false
set_option linter.unusedSimpArgs false
namespace Go.W
section
variable {P : Program} {E : Env} (hE : EnvOK P E) {ρ : Type} {o : Oper} {st : St} {K : TV → Ups → Option ρ} {r : ρ}

theorem lk_nil_ne {α : Type _} {b : Nat} : lk ([] : List (Nat × α)) b = none := rfl

theorem op_move {x : Operand} (ho : o.op = .move x ∨ o.op = .assign x) (h : opE E st o K = some r) : OpLaw E P o st K r := by
  have hr : ∀ (ρ' : Type) (K' : TV → Ups → Option ρ'), opE E st o K' = match opv st x with | some tv => K' tv [] | none => none := fun _ K' => by
    rcases ho with ho | ho <;> simp only [opE, ho] <;> cases opv st x <;> rfl
  rw [hr] at h
  cases hx : opv st x with
  | none => rw [hx] at h; cases h
  | some tv =>
    rw [hx] at h
    refine ⟨tv, [], fun ρ' K' => by rw [hr, hx], h, fun b hb => absurd rfl hb, OpSem.pure fun B w μ a W hH hT => ⟨a.eval x, ?_, opv_sound hT hx⟩⟩
    rcases ho with ho | ho <;> simp [execOp, ho]

theorem op_pick {c x y : Operand} (ho : o.op = .pick c x y) (h : opE E st o K = some r) : OpLaw E P o st K r := by
  simp only [opE, ho] at h
  split at h
  · rename_i b hb
    split at h
    · rename_i hb'
      subst hb'
      obtain ⟨p, hp, h⟩ := opOne_inv h
      refine ⟨_, [], fun ρ' K' => by simp only [opE, ho, hb, hp, opOne, if_true], h, fun b hb => absurd rfl hb, OpSem.pure fun B w μ a W hH hT => ⟨a.eval x, ?_, opv_sound hT hp⟩⟩
      have := rep_bool (opv_sound hT hb)
      simp [execOp, ho, this, asBool]
    · rename_i hb'
      obtain rfl : b = false := by simpa using hb'
      obtain ⟨p, hp, h⟩ := opOne_inv h
      refine ⟨_, [], fun ρ' K' => by simp only [opE, ho, hb, hp, opOne, if_false, Bool.false_eq_true], h, fun b hb => absurd rfl hb, OpSem.pure fun B w μ a W hH hT => ⟨a.eval y, ?_, opv_sound hT hp⟩⟩
      have := rep_bool (opv_sound hT hb)
      simp [execOp, ho, this, asBool]
  · cases h

theorem dst_fresh {d : Nat} (hd : o.dst = some d) {ups : Ups} {b : Nat} {v : Option Blk} (h : lk ((d, v) :: ups) b ≠ none) : lk ups b ≠ none ∨ ∃ j, o.dst.getD 900000 + 100000 * j = b := by
  rw [lk_cons] at h
  by_cases hb : d = b
  · exact .inr ⟨0, by rw [hd]; simpa using hb⟩
  · rw [if_neg hb] at h; exact .inl h

include hE in
theorem op_alloc {t : Nat} (ho : o.op = .alloc t) (h : opE E st o K = some r) : OpLaw E P o st K r := by
  simp only [opE, ho] at h
  obtain ⟨i, hi, h⟩ := tyOf_inv h
  split at h
  · rename_i d hd
    unfold allocE at h
    split at h
    · rename_i hf
      refine ⟨_, _, fun ρ' K' => by simp only [opE, ho, tyOf, hi, hd, allocE, hf], h, fun b hb => ?_, ?_⟩
      · rcases dst_fresh hd hb with h | h
        · exact absurd rfl h
        · exact .inr h
      intro W B w μ a hWB hH hT K Q hK
      obtain ⟨zv, hz, hrun⟩ := TyOK.zero hE hi
      have hex : (execOp a.eval o).run P w = .ok (.value (.pointer (some ⟨w.heap.size, 0, none⟩))) (w.alloc (.cells zv.cells t)) := by
        simp [execOp, ho, Instr.alloc, hrun, newVar, newRow]
      have hnew := new_block hH hf hWB i.ty [i.ty.z] zv.cells t (by
        rw [← Array.length_toList, hz, (Rep.zero w (okS B w.heap.size μ (lk st.hp)) i.ty).size]; simp) (fun j hj => by
        obtain rfl : j = 0 := by simp at hj; exact hj
        exact ⟨zc i.ty, Rep.zero _ _ _, fun j v hj => by rw [← hz] at hj; simpa using hj⟩)
      refine wp_value hex (hK _ _ _ (Fr.alloc (.refl _ _) _) hnew.1 hnew.2 (new_ptr i.ty i.ty.z _))
    · cases h
  · cases h

theorem op_box {t : Nat} {x : Operand} (ho : o.op = .box t x) (h : opE E st o K = some r) : OpLaw E P o st K r := by
  simp only [opE, ho] at h
  obtain ⟨i, hi, h⟩ := tyOf_inv h
  split at h
  · rename_i d hd
    obtain ⟨p, hp, h⟩ := opOne_inv h
    obtain ⟨v, u, hlaw, h, hz0, hz, hrep⟩ := frz_sound h (.refl _)
    unfold allocE at h
    split at h
    · rename_i hf
      refine ⟨_, _, fun ρ' K' => by simp only [opE, ho, tyOf, hi, hd, opOne, hp, hlaw, allocE, hf], h, fun b hb => ?_, ?_⟩
      · rcases dst_fresh hd hb with h | h
        · left
          intro hn
          rcases hz b with h1 | ⟨blk, h1, _⟩
          · rw [lk_append, hn] at h1
            cases hx : lk u b with
            | none => exact h hx
            | some y => rw [hx] at h1; cases h1
          · rw [hn] at h1; cases h1
        · exact .inr h
      intro W B w μ a hWB hH hT K Q hK
      have hv := hrep W B w μ (a.eval x) hH (opv_sound hT hp)
      have hH' : HOK W B w μ (lk (u ++ st.hp)) := HOK.fz hz hH
      have hcells := hv.cells
      have hex : (execOp a.eval o).run P w = .ok (.value (.pointer (some ⟨w.heap.size, 0, none⟩))) (w.alloc (.cells (a.eval x).cells t)) := by
        simp [execOp, ho, Instr.box, newVar, newRow]
      have hf' : lk (u ++ st.hp) d = none := by
        rcases hz d with h1 | ⟨blk, h1, _⟩
        · rw [h1]; exact hf
        · rw [hf] at h1; cases h1
      have hnew := new_block hH' hf' hWB i.ty [v] (a.eval x).cells t (by
        rw [← Array.length_toList, hcells.size]; simp) (fun j hj => by
        obtain rfl : j = 0 := by simp at hj; exact hj
        exact ⟨_, hcells, fun j v hj => by simpa using hj⟩)
      refine wp_value hex (hK _ _ _ (Fr.alloc (.refl _ _) _) hnew.1 ((FzLe.tr hz).trans hnew.2) (new_ptr i.ty v _))
    · cases h
  · cases h

include hE in
theorem op_load {t : Nat} {x : Operand} (ho : o.op = .load t x) (h : opE E st o K = some r) : OpLaw E P o st K r := by
  simp only [opE, ho] at h
  obtain ⟨i, hi, h⟩ := tyOf_inv h
  obtain ⟨p, hp, h⟩ := opOne_inv h
  unfold loadE at h
  split at h
  · rename_i b j q
    split at h
    · rename_i blk hb
      obtain ⟨s, v, hs, h, hlaw, hrep⟩ := getP_sound _ h
      dsimp only at h
      cases hx : castD s i.ty v with
      | none => rw [hx] at h; cases h
      | some v' =>
        rw [hx] at h
        dsimp only at h
        refine ⟨_, [], fun ρ' K' => by simp only [opE, ho, tyOf, hi, opOne, hp, loadE, hb, hlaw, hx], h, fun b hb => absurd rfl hb, OpSem.pure fun B w μ a W hH hT => ?_⟩
        obtain ⟨ob, hob, hptr⟩ := opv_sound hT hp
        have hb := hlk_inv hb
        rw [hb] at hob; injection hob with hob
        obtain ⟨hj0, hj1, g, of, hg, hof, hev⟩ := hptr blk hob.symm
        have hbr := hH.rep b blk hb
        rw [hg] at hbr
        obtain ⟨c, eT, hc, hsz, hcs⟩ := hbr
        obtain ⟨es, hr, hes⟩ := hcs j.toNat (by omega)
        have hget : blk.l.getD j.toNat blk.e.z = blk.l[j.toNat] := by simp [List.getD, List.getElem?_eq_getElem (show j.toNat < blk.l.length by omega)]
        rw [← hget] at hr
        obtain ⟨hr', hle⟩ := hrep w _ es of hr hof
        obtain ⟨e1, e2⟩ := castD_inv hx
        cases i with | mk ity n bytes =>
        dsimp only at hx e1 e2 h ⊢
        subst e1
        subst e2
        obtain ⟨xv, hxv, hrepv⟩ := run_loadVar hE hi (g := g) (o := j.toNat * blk.e.size + of) hr' (fun k u hk => by
          simp only [World.cell?, hc]
          have := hes (of + k) u (by
            rw [List.getElem?_take] at hk
            split at hk
            · simpa using hk
            · cases hk)
          rw [← Nat.add_assoc] at this
          simpa using this)
        exact ⟨xv, by simp [execOp, ho, Instr.loadAt, Instr.sureAddr, hev, hxv], hrepv⟩
    · cases h
  · rename_i s v
    cases hx : castD s i.ty v with
    | none => rw [hx] at h; cases h
    | some v' =>
      rw [hx] at h
      dsimp only at h
      refine ⟨_, [], fun ρ' K' => by simp only [opE, ho, tyOf, hi, opOne, hp, loadE, hx], h, fun b hb => absurd rfl hb, OpSem.pure fun B w μ a W hH hT => ?_⟩
      obtain ⟨g, of, es, hev, hg, hr, hes⟩ := opv_sound hT hp
      obtain ⟨e1, e2⟩ := castD_inv hx
      cases i with | mk ity n bytes =>
      dsimp only at hx e1 e2 h ⊢
      subst e1
      subst e2
      obtain ⟨xv, hxv, hrepv⟩ := run_loadVar hE hi (g := g) (o := of) hr hes
      exact ⟨xv, by simp [execOp, ho, Instr.loadAt, Instr.sureAddr, hev, hxv], hrepv⟩
  · cases h
end
end Go.W

set_option linter.unusedVariables false
set_option linter.unusedSimpArgs false
namespace Go.W

/-- A block of the call's own, written. -/
theorem set_block {W B : Nat → Prop} {w : World} {μ : Nat → Option Nat} {hp : Ups} (hH : HOK W B w μ (lk hp)) {b g : Nat} {e : Ty} {l l' : List e.D} {c c' : Array Value} {eT : TypeId}
    (hb : lk hp b = some (some ⟨e, l, false⟩)) (hg : μ b = some g) (hc : w.heap[g]? = some (.cells c eT (0, 0))) (hl : l'.length = l.length) (hs : c'.size = c.size)
    (hcs : ∀ i (h : i < l'.length), ∃ es, Rep w (okS B w.heap.size μ (lk hp)) e l'[i] es ∧ ∀ (j : Nat) v, es[j]? = some v → c'[i * e.size + j]? = some v) :
    HOK W B (w.setRow g c') μ (lk ((b, some ⟨e, l', false⟩) :: hp)) ∧ Tr B w μ (lk hp) (w.setRow g c') μ (lk ((b, some ⟨e, l', false⟩) :: hp)) ∧ Fr W w (w.setRow g c') := by
  have hsize : (w.setRow g c').heap.size = w.heap.size := setRow_size _ _ _
  have hne : ∀ g', okS B w.heap.size μ (lk hp) g' → g' ≠ g := fun g' hg' he => hg'.2.2 b _ hb rfl (he ▸ hg)
  have hold : ∀ g', okS B w.heap.size μ (lk hp) g' → (w.setRow g c').heap[g']? = w.heap[g']? := fun g' hg' => setRow_other w g g' c' (hne g' hg')
  have hok : ∀ g', okS B w.heap.size μ (lk hp) g' → okS B (w.setRow g c').heap.size μ (lk ((b, some ⟨e, l', false⟩) :: hp)) g' := fun g' hg' => by
    refine ⟨hg'.1, by rw [hsize]; exact hg'.2.1, fun b' blk hb' hf => ?_⟩
    rw [lk_cons] at hb'
    by_cases hbb : b = b'
    · subst hbb; exact hg'.2.2 b _ hb rfl
    · rw [if_neg hbb] at hb'; exact hg'.2.2 b' blk hb' hf
  refine ⟨⟨fun b' blk g' hb' hg' => ?_, fun b1 b2 blk1 blk2 g' hb1 hb2 hf hne' hg' => ?_, fun b' blk hb' => ?_⟩, Tr.mk' hold hok (fun b' hb' => ?_) (fun b' blk' hb' hb'' => ?_) (fun b' blk' g' c1 eT' fr hb' hb'' hg' hc' => ?_), ?_⟩
  · rw [lk_cons] at hb'
    rw [hsize]
    by_cases hbb : b = b'
    · subst hbb
      obtain ⟨a1, a2, a3⟩ := hH.lt b _ g' hb hg'
      exact ⟨a1, a2, fun _ => a3 rfl⟩
    · rw [if_neg hbb] at hb'; exact hH.lt b' blk g' hb' hg'
  · rw [lk_cons] at hb1 hb2
    have h1 : ∃ blk, lk hp b1 = some (some blk) ∧ blk.fz = false := by
      by_cases hbb : b = b1
      · subst hbb; exact ⟨_, hb, rfl⟩
      · rw [if_neg hbb] at hb1; exact ⟨_, hb1, hf⟩
    have h2 : ∃ blk, lk hp b2 = some (some blk) := by
      by_cases hbb : b = b2
      · subst hbb; exact ⟨_, hb⟩
      · rw [if_neg hbb] at hb2; exact ⟨_, hb2⟩
    obtain ⟨x1, y1, z1⟩ := h1
    obtain ⟨x2, y2⟩ := h2
    exact hH.apart b1 b2 x1 x2 g' y1 y2 z1 hne' hg'
  · rw [lk_cons] at hb'
    by_cases hbb : b = b'
    · subst hbb
      rw [if_pos rfl] at hb'
      injection hb' with hb'; injection hb' with hb'; subst hb'
      rw [hg]
      have hbr := hH.rep b _ hb
      rw [hg] at hbr
      obtain ⟨c0, eT0, hc0, hsz, _⟩ := hbr
      rw [hc] at hc0; injection hc0 with hc0; injection hc0 with hc0 _; subst hc0
      refine ⟨c', eT, setRow_heap w g c c' eT (0, 0) hc, by dsimp only at hsz ⊢; rw [hl, hs]; exact hsz, fun i hi => ?_⟩
      obtain ⟨es, hr, hes⟩ := hcs i hi
      exact ⟨es, Rep.mono (fun g' hg' _ => hold g' hg') (fun g' hg' _ => hok g' hg') hr okS_lt, hes⟩
    · rw [if_neg hbb] at hb'
      exact BRep.mono hold (fun g' hg' => setRow_other w g g' c' (fun he => hH.apart b b' _ blk g hb hb' rfl hbb hg (he ▸ hg'))) hok okS_lt (hH.rep b' blk hb')
  · rw [lk_cons]; split
    · simp
    · exact hb'
  · rw [lk_cons] at hb''
    by_cases hbb : b = b'
    · subst hbb
      rw [if_pos rfl] at hb''
      injection hb'' with hb''; injection hb'' with hb''; subst hb''
      exact ⟨_, hb, rfl, hl, rfl⟩
    · rw [if_neg hbb] at hb''; exact ⟨blk', hb'', rfl, rfl, rfl⟩
  · by_cases hgg : g' = g
    · subst hgg
      rw [setRow_heap w g' c c' eT (0, 0) hc] at hc'
      injection hc' with hc'; injection hc' with hc' _; subst hc'
      exact ⟨c, eT, (0, 0), hc, by omega⟩
    · rw [setRow_other w g g' c' hgg] at hc'
      exact ⟨c1, eT', fr, hc', Nat.le_refl _⟩
  · exact ⟨rfl, rfl, rfl, by rw [hsize]; exact Nat.le_refl _, fun g' hg' hn => setRow_other w g g' c' (fun he => hn (he ▸ (hH.lt b _ g hb hg).2.2 rfl)), fun g' c1 eT1 fr1 hg' hc1 => by
    by_cases hgg : g' = g
    · subst hgg
      rw [setRow_heap w g' c c' eT (0, 0) hc] at hc1
      injection hc1 with hc1; injection hc1 with hc1 _; subst hc1
      exact ⟨c, eT, (0, 0), hc, by omega⟩
    · rw [setRow_other w g g' c' hgg] at hc1
      exact ⟨c1, eT1, fr1, hc1, Nat.le_refl _⟩⟩

section
variable {P : Program} {E : Env} (hE : EnvOK P E) {ρ : Type} {o : Oper} {st : St} {K : TV → Ups → Option ρ} {r : ρ}

theorem splice_get {cs ys : List Value} {o : Nat} (h : o + ys.length ≤ cs.length) (j : Nat) : (splice cs ys o)[j]? = if o ≤ j ∧ j < o + ys.length then ys[j - o]? else cs[j]? := by
  unfold splice
  rw [List.append_assoc]
  by_cases h1 : j < o
  · rw [if_neg (by omega), List.getElem?_append_left (by simp; omega), List.getElem?_take_of_lt h1]
  · rw [List.getElem?_append_right (by simp; omega)]
    have hl : (cs.take o).length = o := by simp; omega
    rw [hl]
    by_cases h2 : j < o + ys.length
    · rw [if_pos ⟨by omega, h2⟩, List.getElem?_append_left (by omega)]
    · rw [if_neg (by omega), List.getElem?_append_right (by omega), List.getElem?_drop]
      congr 1; omega

theorem run_storeVar_at {t : Nat} {i : TI} (hE : EnvOK P E) (hi : E.ty t = some i) {w : World} {ok : Nat → Prop} {v : i.ty.D} {x : Value} (hx : RepV w ok i.ty v x) {g o' : Nat} {c : Array Value} {eT : TypeId}
    (hc : w.heap[g]? = some (.cells c eT (0, 0))) (hle : o' + i.ty.size ≤ c.size) :
    (storeVar t ⟨g, o', none⟩ x).run P w = .ok () (w.setRow g (splice c.toList x.cells.toList o').toArray) := by
  have hcells := hx.cells
  have hsz := hcells.size
  unfold storeVar
  have h1 : x.cells.size = i.ty.size := by rw [← Array.length_toList]; exact hsz
  have hst := run_storeCells_at P g o' eT x.cells.toList 0 c w hc (by omega) (fun v hv => by
    obtain ⟨n1, n2⟩ := hcells.cells v hv
    cases v <;> simp_all [Value.oneCell'])
  simp only [Nat.add_zero] at hst
  simp only [Sem.run_bind, TyOK.size hE hi, Result.andThen_ok, h1]
  simp only [ne_eq, not_true_eq_false, if_false, Sem.run_bind, Sem.run_pure, Result.andThen_ok]
  simpa [splice] using hst

include hE in
theorem op_store {t : Nat} {x y : Operand} (ho : o.op = .store t x y) (h : opE E st o K = some r) : OpLaw E P o st K r := by
  simp only [opE, ho] at h
  obtain ⟨i, hi, h⟩ := tyOf_inv h
  obtain ⟨p, hp, h⟩ := opOne_inv h
  obtain ⟨q, hq, h⟩ := opOne_inv h
  unfold storeE at h
  split at h
  · rename_i b j pa _
    split at h
    · rename_i e l hb
      obtain ⟨v, u, hlaw, h, hz0, hz, hrep⟩ := frz_sound h (.refl _)
      dsimp only at h
      split at h
      · rename_i v' hub hput
        refine ⟨_, _, fun ρ' K' => by simp only [opE, ho, tyOf, hi, opOne, hp, hq, storeE, hb, hlaw, hub, hput], h, fun b' hb' => ?_, ?_⟩
        · left
          intro hn
          rw [lk_cons] at hb'
          by_cases hbb : b = b'
          · subst hbb; rw [hlk_inv hb] at hn; cases hn
          · rw [if_neg hbb] at hb'
            rcases hz b' with h1 | ⟨blk, h1, _⟩
            · rw [lk_append, hn] at h1
              cases hx : lk u b' with
              | none => exact hb' hx
              | some y => rw [hx] at h1; cases h1
            · rw [hn] at h1; cases h1
        intro W B w μ a hWB hH hT K Q hK
        have hx := hrep W B w μ (a.eval y) hH (opv_sound hT hq)
        have hH' : HOK W B w μ (lk (u ++ st.hp)) := HOK.fz hz hH
        have hb0 := hlk_inv hb
        have hb' : lk (u ++ st.hp) b = some (some ⟨e, l, false⟩) := by rw [lk_append, hub]; exact hb0
        obtain ⟨ob, hob, hptr⟩ := opv_sound hT hp
        rw [hb0] at hob; injection hob with hob
        obtain ⟨hj0, hj1, g, of, hg, hof, hev⟩ := hptr _ hob.symm
        dsimp only at hj1 hof hev
        have hbr := hH'.rep b _ hb'
        rw [hg] at hbr
        obtain ⟨c, eT, hc, hsz, hcs⟩ := hbr
        dsimp only at hsz hcs
        obtain ⟨es, hr, hes⟩ := hcs j.toNat (by omega)
        have hget : l.getD j.toNat e.z = l[j.toNat] := by simp [List.getD, List.getElem?_eq_getElem (show j.toNat < l.length by omega)]
        rw [← hget] at hr
        obtain ⟨_, hput'⟩ := putP_sound _ hput
        obtain ⟨hr', hle⟩ := hput' w _ es _ of hr hx.cells hof
        have hcsz := hx.cells.size
        have hesz := hr.size
        have hmul : (j.toNat + 1) * e.size ≤ l.length * e.size := Nat.mul_le_mul_right _ (by omega)
        rw [Nat.succ_mul] at hmul
        have hst := run_storeVar_at hE hi hx (g := g) (o' := j.toNat * e.size + of) hc (by rw [← hcsz]; omega)
        have hex : (execOp a.eval o).run P w = .ok .skip (w.setRow g (splice c.toList (a.eval y).cells.toList (j.toNat * e.size + of)).toArray) := by
          simp [execOp, ho, Instr.storeAt, Instr.sureAddr, hev, hst]
        have hlen : j.toNat * e.size + of + (a.eval y).cells.toList.length ≤ c.toList.length := by rw [hcsz, Array.length_toList]; omega
        have hset := set_block hH' hb' hg hc (l' := l.set j.toNat v') (c' := (splice c.toList (a.eval y).cells.toList (j.toNat * e.size + of)).toArray) (by simp) (by
          rw [List.size_toArray, splice_length hlen, Array.length_toList]) (fun i' hi' => by
            simp only [List.getElem_set]
            by_cases hij : j.toNat = i'
            · subst hij
              rw [if_pos rfl]
              refine ⟨_, hr', fun k u' hk => ?_⟩
              rw [splice_get hle] at hk
              rw [List.getElem?_toArray, splice_get hlen]
              split at hk
              · rw [if_pos (by omega), ← hk]; congr 1; omega
              · rw [if_neg (by omega)]
                have := hes k u' hk
                simpa using this
            · rw [if_neg hij]
              obtain ⟨es', hr2, hes2⟩ := hcs i' (by simpa using hi')
              refine ⟨es', hr2, fun k u' hk => ?_⟩
              have := hes2 k u' hk
              rw [List.getElem?_toArray, splice_get hlen, if_neg]
              · simpa using this
              · have hk' : k < es'.length := (List.getElem?_eq_some_iff.1 hk).1
                have := hr2.size
                rcases Nat.lt_or_ge i' j.toNat with hlt | hge
                · have : (i' + 1) * e.size ≤ j.toNat * e.size := Nat.mul_le_mul_right _ (by omega)
                  rw [Nat.succ_mul] at this; omega
                · have : (j.toNat + 1) * e.size ≤ i' * e.size := Nat.mul_le_mul_right _ (by omega)
                  rw [Nat.succ_mul] at this; omega)
        exact wp_skip' hex (hK _ _ _ hset.2.2 hset.1 ((FzLe.tr hz).trans hset.2.1) trivial)
      · cases h
    · cases h
  · cases h
end
end Go.W

set_option linter.unusedVariables false
set_option linter.unusedSimpArgs false
namespace Go.W
section
variable {ρ : Type}

theorem intOp_sound {op : BinOp} {k : IntKind} {a b : Int} {K : TV → Option ρ} {r : ρ} (h : intOp op k a b K = some r) :
    ∃ tv, (∀ (ρ' : Type) (K' : TV → Option ρ'), intOp op k a b K' = K' tv) ∧ K tv = some r ∧
      ∀ (P : Program) (B : Nat → Prop) (w : World) μ hp (xt : TypeId) (ox oy : Operand), ∃ x, ((do eqGuard op xt ox oy (.int k a) (.int k b); binOp op xt (.int k a) (.int k b)) : Sem Value).run P w = .ok x w ∧ RepTV B w μ hp tv x := by
  cases op <;> simp only [intOp] at h ⊢
  case quo | rem =>
    split at h
    · cases h
    · rename_i hb
      refine ⟨_, fun ρ' K' => by rw [if_neg hb], h, fun P B w μ hp xt ox oy => ⟨_, ?_, int_rep _ _ _ _ _ _⟩⟩
      simp [eqGuard, binOp, Op.intDiv, hb]
  case add | sub | mul => exact ⟨_, fun _ _ => rfl, h, fun P B w μ hp xt ox oy => ⟨_, by simp [eqGuard, binOp, Op.intArith], int_rep _ _ _ _ _ _⟩⟩
  case and | or | xor | andNot => exact ⟨_, fun _ _ => rfl, h, fun P B w μ hp xt ox oy => ⟨_, by simp [eqGuard, binOp, Op.intBits], int_rep _ _ _ _ _ _⟩⟩
  case eql | neq | lss | leq | gtr | geq => exact ⟨_, fun _ _ => rfl, h, fun P B w μ hp xt ox oy => ⟨_, by simp [eqGuard, binOp, Op.intCmp], bool_rep _ _ _ _ _⟩⟩
  all_goals cases h

theorem shOp_sound {op : BinOp} {k k' : IntKind} {a b : Int} {K : TV → Option ρ} {r : ρ} (h : shOp op k a b K = some r) :
    ∃ tv, (∀ (ρ' : Type) (K' : TV → Option ρ'), shOp op k a b K' = K' tv) ∧ K tv = some r ∧
      ∀ (P : Program) (B : Nat → Prop) (w : World) μ hp (xt : TypeId) (ox oy : Operand), ∃ x, ((do eqGuard op xt ox oy (.int k a) (.int k' b); binOp op xt (.int k a) (.int k' b)) : Sem Value).run P w = .ok x w ∧ RepTV B w μ hp tv x := by
  unfold shOp at h ⊢
  split at h
  · cases h
  · rename_i hb
    cases op
    case shl => exact ⟨_, fun ρ' K' => by rw [if_neg hb], h, fun P B w μ hp xt ox oy => ⟨_, by simp [eqGuard, binOp, Op.shift, hb], int_rep _ _ _ _ _ _⟩⟩
    case shr => exact ⟨_, fun ρ' K' => by rw [if_neg hb], h, fun P B w μ hp xt ox oy => ⟨_, by simp [eqGuard, binOp, Op.shift, hb], int_rep _ _ _ _ _ _⟩⟩
    all_goals cases h

theorem strOp_sound {op : BinOp} {a b : ByteArray} {K : TV → Option ρ} {r : ρ} (h : strOp op a b K = some r) :
    ∃ tv, (∀ (ρ' : Type) (K' : TV → Option ρ'), strOp op a b K' = K' tv) ∧ K tv = some r ∧
      ∀ (P : Program) (B : Nat → Prop) (w : World) μ hp (xt : TypeId) (ox oy : Operand), ∃ x, ((do eqGuard op xt ox oy (.string a) (.string b); binOp op xt (.string a) (.string b)) : Sem Value).run P w = .ok x w ∧ RepTV B w μ hp tv x := by
  cases op <;> simp only [strOp] at h ⊢
  case add =>
    split at h
    · rename_i hb
      refine ⟨_, fun ρ' K' => by rw [if_pos hb], h, fun P B w μ hp xt ox oy => ⟨_, ?_, str_rep _ _ _ _ _⟩⟩
      have : ¬ (((a.size + b.size : Nat) : Int) > IntKind.i64.max) := by
        have : IntKind.i64.max = 9223372036854775807 := rfl
        rw [this]; omega
      simp only [eqGuard, binOp, Op.stringOp, this, if_false, Sem.run_bind, Sem.run_pure, Result.andThen_ok]
      rfl
    · cases h
  case eql | neq => exact ⟨_, fun _ _ => rfl, h, fun P B w μ hp xt ox oy => ⟨_, by simp [eqGuard, binOp, Op.stringOp], bool_rep _ _ _ _ _⟩⟩
  all_goals cases h

theorem binE_sound {tb : Bool} {op : BinOp} {p q : PV} {K : TV → Option ρ} {r : ρ} (h : binE tb op p q K = some r) :
    ∃ tv, (∀ (ρ' : Type) (K' : TV → Option ρ'), binE tb op p q K' = K' tv) ∧ K tv = some r ∧
      ∀ (P : Program) (B : Nat → Prop) (w : World) μ hp (xt : TypeId) (ox oy : Operand) vx vy, (tb = true → P.underlying xt = some .bool) → RepPV B w μ hp p vx → RepPV B w μ hp q vy →
        ∃ x, ((do eqGuard op xt ox oy vx vy; binOp op xt vx vy) : Sem Value).run P w = .ok x w ∧ RepTV B w μ hp tv x := by
  unfold binE at h
  split at h
  · rename_i k a k' b
    split at h
    · rename_i hs
      obtain ⟨tv, h1, h2, h3⟩ := shOp_sound (k' := k') h
      refine ⟨tv, fun ρ' K' => by simp only [binE, hs]; exact h1 ρ' K', h2, fun P B w μ hp xt ox oy vx vy ht hx hy => ?_⟩
      rw [rep_int (B := B) (w := w) (μ := μ) (h := hp) hx, rep_int (B := B) (w := w) (μ := μ) (h := hp) hy]
      exact h3 P B w μ hp xt ox oy
    · rename_i hs
      split at h
      · rename_i hk
        subst hk
        obtain ⟨tv, h1, h2, h3⟩ := intOp_sound h
        refine ⟨tv, fun ρ' K' => by simp only [binE, hs, if_true]; exact h1 ρ' K', h2, fun P B w μ hp xt ox oy vx vy ht hx hy => ?_⟩
        rw [rep_int (B := B) (w := w) (μ := μ) (h := hp) hx, rep_int (B := B) (w := w) (μ := μ) (h := hp) hy]
        exact h3 P B w μ hp xt ox oy
      · cases h
  · obtain ⟨tv, h1, h2, h3⟩ := strOp_sound h
    refine ⟨tv, fun ρ' K' => by simp only [binE]; exact h1 ρ' K', h2, fun P B w μ hp xt ox oy vx vy ht hx hy => ?_⟩
    rw [rep_str (B := B) (w := w) (μ := μ) (h := hp) hx, rep_str (B := B) (w := w) (μ := μ) (h := hp) hy]
    exact h3 P B w μ hp xt ox oy
  · rename_i a b
    split at h
    · refine ⟨_, fun ρ' K' => rfl, h, fun P B w μ hp xt ox oy vx vy ht hx hy => ?_⟩
      rw [rep_bool (B := B) (w := w) (μ := μ) (h := hp) hx, rep_bool (B := B) (w := w) (μ := μ) (h := hp) hy]
      exact ⟨.bool (a == b), by simp [eqGuard, binOp, run_equal_bool w xt a b (ht rfl)], bool_rep _ _ _ _ _⟩
    · refine ⟨_, fun ρ' K' => rfl, h, fun P B w μ hp xt ox oy vx vy ht hx hy => ?_⟩
      rw [rep_bool (B := B) (w := w) (μ := μ) (h := hp) hx, rep_bool (B := B) (w := w) (μ := μ) (h := hp) hy]
      exact ⟨.bool (!(a == b)), by simp [eqGuard, binOp, run_equal_bool w xt a b (ht rfl)], bool_rep _ _ _ _ _⟩
    · cases h
  · cases h

theorem unE_sound {op : UnOp} {p : PV} {K : TV → Option ρ} {r : ρ} (h : unE op p K = some r) :
    ∃ tv, (∀ (ρ' : Type) (K' : TV → Option ρ'), unE op p K' = K' tv) ∧ K tv = some r ∧
      ∀ (P : Program) (B : Nat → Prop) (w : World) μ hp vx, RepPV B w μ hp p vx → ∃ x, (Op.unary op vx).run P w = .ok x w ∧ RepTV B w μ hp tv x := by
  unfold unE at h
  split at h
  · refine ⟨_, fun _ _ => rfl, h, fun P B w μ hp vx hx => ?_⟩
    rw [rep_int (B := B) (w := w) (μ := μ) (h := hp) hx]
    exact ⟨_, by simp [Op.unary, Op.intArith], int_rep _ _ _ _ _ _⟩
  · refine ⟨_, fun _ _ => rfl, h, fun P B w μ hp vx hx => ?_⟩
    rw [rep_bool (B := B) (w := w) (μ := μ) (h := hp) hx]
    exact ⟨_, by simp [Op.unary], bool_rep _ _ _ _ _⟩
  · refine ⟨_, fun _ _ => rfl, h, fun P B w μ hp vx hx => ?_⟩
    rw [rep_int (B := B) (w := w) (μ := μ) (h := hp) hx]
    exact ⟨_, by simp only [Op.unary, Op.intBits, Sem.run_pure], int_rep _ _ _ _ _ _⟩
  · cases h
end

section
variable {P : Program} {E : Env} (hE : EnvOK P E) {ρ : Type} {o : Oper} {st : St} {K : TV → Ups → Option ρ} {r : ρ}

include hE in
theorem isBool_und {t : TypeId} (h : isBool (E.ty t) = true) : P.underlying t = some .bool := by
  unfold isBool at h
  split at h
  · rename_i n b hi
    obtain ⟨_, d, hd, hu⟩ := hE.ty t _ hi
    rw [hd]; exact congrArg _ hu
  · cases h

include hE in
theorem op_bin {op : BinOp} {xt yt : TypeId} {x y : Operand} (ho : o.op = .binOp op xt x y yt) (h : opE E st o K = some r) : OpLaw E P o st K r := by
  simp only [opE, ho] at h
  obtain ⟨p, hp, h⟩ := opOne_inv h
  obtain ⟨q, hq, h⟩ := opOne_inv h
  obtain ⟨tv, h1, h2, h3⟩ := binE_sound h
  refine ⟨tv, [], fun ρ' K' => by simp only [opE, ho, opOne, hp, hq]; exact h1 _ _, h2, fun b hb => absurd rfl hb, OpSem.pure fun B w μ a W hH hT => ?_⟩
  obtain ⟨v, hv, hr⟩ := h3 P B w μ (lk st.hp) xt x y _ _ (isBool_und hE) (opv_sound hT hp) (opv_sound hT hq)
  refine ⟨v, ?_, hr⟩
  simp only [execOp, ho]
  simp only [Sem.run_bind] at hv ⊢
  rw [hv]; rfl

theorem op_un {op : UnOp} {xt : TypeId} {x : Operand} (ho : o.op = .unOp op xt x) (h : opE E st o K = some r) : OpLaw E P o st K r := by
  simp only [opE, ho] at h
  obtain ⟨p, hp, h⟩ := opOne_inv h
  obtain ⟨tv, h1, h2, h3⟩ := unE_sound h
  refine ⟨tv, [], fun ρ' K' => by simp only [opE, ho, opOne, hp]; exact h1 _ _, h2, fun b hb => absurd rfl hb, OpSem.pure fun B w μ a W hH hT => ?_⟩
  obtain ⟨v, hv, hr⟩ := h3 P B w μ (lk st.hp) _ (opv_sound hT hp)
  exact ⟨v, by simp [execOp, ho, hv], hr⟩

theorem op_extract {x : Operand} {j : Nat} (ho : o.op = .extract x j) (h : opE E st o K = some r) : OpLaw E P o st K r := by
  simp only [opE, ho] at h
  split at h
  · rename_i l hx
    split at h
    · rename_i p hj
      refine ⟨_, [], fun ρ' K' => by simp only [opE, ho, hx, hj], h, fun b hb => absurd rfl hb, OpSem.pure fun B w μ a W hH hT => ?_⟩
      obtain ⟨xs, hev, hl, hc⟩ := opv_sound hT hx
      have hjl : j < xs.length := by
        have := (List.getElem?_eq_some_iff.1 hj).1
        omega
      refine ⟨xs[j], by simp [execOp, ho, Instr.extract, hev, hjl], hc j p _ hj (List.getElem?_eq_getElem hjl)⟩
    · cases h
  · cases h

end
end Go.W

set_option linter.unusedVariables false
set_option linter.unusedSimpArgs false
namespace Go.W
section
variable {P : Program} {E : Env} (hE : EnvOK P E) {ρ : Type} {o : Oper} {st : St} {K : TV → Ups → Option ρ} {r : ρ}

theorem subT_append : ∀ (p q : List Sel) (t s : Ty), subT p t = some s → subT (p ++ q) t = subT q s
  | [], q, t, s, h => by injection h with h; subst h; rfl
  | .fst :: p, q, t, s, h => by
    cases t with
    | pair a b => exact subT_append p q a s h
    | _ => cases h
  | .snd :: p, q, t, s, h => by
    cases t with
    | pair a b => exact subT_append p q b s h
    | _ => cases h
  | .idx i :: p, q, t, s, h => by
    cases t with
    | arr n e => exact subT_append p q e s h
    | _ => cases h

theorem subT_offP : ∀ (p : List Sel) (t : Ty) (o : Nat), offP p t = some o → ∃ s, subT p t = some s
  | [], t, o, h => ⟨t, rfl⟩
  | .fst :: p, t, o, h => by
    cases t with
    | pair a b => exact subT_offP p a o h
    | _ => cases h
  | .snd :: p, t, o, h => by
    cases t with
    | pair a b =>
      simp only [offP, Option.map_eq_some_iff] at h
      obtain ⟨o', h, _⟩ := h
      exact subT_offP p b o' h
    | _ => cases h
  | .idx i :: p, t, o, h => by
    cases t with
    | arr n e =>
      simp only [offP] at h
      split at h
      · simp only [Option.map_eq_some_iff] at h
        obtain ⟨o', h, _⟩ := h
        exact subT_offP p e o' h
      · cases h
    | _ => cases h

include hE in
/-- a struct's field: its place -/
theorem field_und {s : TypeId} {i : TI} (hi : E.ty s = some i) {a b : Ty} (hty : i.ty = .pair a b) {f : Nat} (hf : f < i.n) : ∃ fs fd u ie, P.underlying s = some (.struct fs) ∧ fs[f]? = some fd ∧ subT (fpath i.n f) (.pair a b) = some u ∧ offP (fpath i.n f) (.pair a b) = some fd.offset ∧ E.ty fd.type = some ie ∧ ie.ty = u ∧ 0 < u.size := by
  obtain ⟨_, d, hd, hu⟩ := hE.ty s i hi
  unfold UndOK at hu
  rw [hty] at hu
  obtain ⟨fs, rfl, hn, hall⟩ := hu
  have hfs : f < fs.size := by omega
  obtain ⟨u, ie, h1, h2, h3, h4, h5⟩ := hall f fs[f] (Array.getElem?_eq_getElem hfs)
  exact ⟨fs, fs[f], u, ie, hd, Array.getElem?_eq_getElem hfs, h1, h2, h3, h4, h5⟩

theorem rep_add (g o n : Nat) : (⟨g, o, none⟩ : Addr).add n = ⟨g, o + n, none⟩ := by unfold Addr.add; split <;> simp_all

include hE in
theorem op_fieldAddr {s : TypeId} {x : Operand} {f : Nat} (ho : o.op = .fieldAddr s x f) (h : opE E st o K = some r) : OpLaw E P o st K r := by
  simp only [opE, ho] at h
  obtain ⟨i, hi, h⟩ := tyOf_inv h
  obtain ⟨p, hp, h⟩ := opOne_inv h
  obtain ⟨hf, h⟩ : f < i.n ∧ fieldAddrE i.n f i.ty (hlk st.hp) p (fun tv => K tv []) = some r := by
    split at h
    · exact ⟨by assumption, h⟩
    · cases h
  cases hty : i.ty with
  | pair ta tb =>
    obtain ⟨fs, fd, u, ie, hu, hfd, hsub, hoff, hie, hiu, hpos⟩ := field_und hE hi hty hf
    have hplace : ∀ g of w, (Instr.fieldAt s (.pointer (some ⟨g, of, none⟩)) f).run P w = .ok (.pointer (some ⟨g, of + fd.offset, none⟩)) w := fun g of w => by
      have : u.size ≠ 0 := by omega
      simp [Instr.fieldAt, underlying, hu, hfd, Instr.sureAddr, fieldPlace, TyOK.size hE hie, hiu, this, rep_add]
    rw [hty] at h
    cases p with
    | ptr b j q =>
      simp only [fieldAddrE] at h
      split at h
      · rename_i blk hb
        split at h
        · rename_i t' ht'
          split at h
          · rename_i qe hsame
            refine ⟨_, [], fun ρ' K' => by simp only [opE, ho, tyOf, hi, opOne, hp, hf, if_true, fieldAddrE, hb, ht', hty, hsame], h, fun b hb => absurd rfl hb, OpSem.pure fun B w μ a W hH hT => ?_⟩
            obtain ⟨ob, hob, hptr⟩ := opv_sound hT hp
            have hb := hlk_inv hb
            rw [hb] at hob; injection hob with hob; subst hob
            obtain ⟨hj0, hj1, g, of, hg, hof, hev⟩ := hptr blk rfl
            refine ⟨.pointer (some ⟨g, j.toNat * blk.e.size + (of + fd.offset), none⟩), by simp [execOp, ho, hev, hplace, Nat.add_assoc], some blk, hb, fun blk' he => ?_⟩
            injection he with he; subst he
            obtain ⟨heq⟩ := qe
            subst heq
            exact ⟨hj0, hj1, g, _, hg, offP_append q (fpath i.n f) blk.e _ of fd.offset ht' hof hoff, rfl⟩
          · cases h
        · cases h
      · cases h
    | eptr t v =>
      simp only [fieldAddrE] at h
      split at h
      · rename_i qe hsame
        obtain ⟨t', v', h1, h2, h3, h4⟩ := getP_sound _ h
        refine ⟨_, [], fun ρ' K' => by simp only [opE, ho, tyOf, hi, opOne, hp, hf, if_true, fieldAddrE, hty, hsame, h3], h2, fun b hb => absurd rfl hb, OpSem.pure fun B w μ a W hH hT => ?_⟩
        obtain ⟨g, of, es, hev, hg, hr, hes⟩ := opv_sound hT hp
        obtain ⟨heq⟩ := qe
        subst heq
        obtain ⟨hr', hle⟩ := h4 w _ es _ hr hoff
        refine ⟨.pointer (some ⟨g, of + fd.offset, none⟩), by simp [execOp, ho, hev, hplace], g, _, _, rfl, hg, hr', fun j u' hj => ?_⟩
        rw [List.getElem?_take] at hj
        split at hj
        · have := hes (fd.offset + j) u' (by simpa using hj)
          rw [← Nat.add_assoc] at this
          exact this
        · cases hj
      · cases h
    | _ => cases h
  | _ => rw [hty] at h; cases p <;> simp [fieldAddrE] at h

include hE in
theorem op_field {s : TypeId} {x : Operand} {f : Nat} (ho : o.op = .field s x f) (h : opE E st o K = some r) : OpLaw E P o st K r := by
  simp only [opE, ho] at h
  obtain ⟨i, hi, h⟩ := tyOf_inv h
  obtain ⟨p, hp, h⟩ := opOne_inv h
  obtain ⟨hf, h⟩ : f < i.n ∧ fieldE i.n f i.ty p (fun tv => K tv []) = some r := by
    split at h
    · exact ⟨by assumption, h⟩
    · cases h
  cases hty : i.ty with
  | pair ta tb =>
    obtain ⟨fs, fd, u, ie, hu, hfd, hsub, hoff, hie, hiu, hpos⟩ := field_und hE hi hty hf
    rw [hty] at h
    cases p with
    | val t v =>
      simp only [fieldE] at h
      split at h
      · rename_i qe hsame
        obtain ⟨t', v', h1, h2, h3, h4⟩ := getP_sound _ h
        refine ⟨_, [], fun ρ' K' => by simp only [opE, ho, tyOf, hi, opOne, hp, hf, if_true, fieldE, hty, hsame, h3], h2, fun b hb => absurd rfl hb, OpSem.pure fun B w μ a W hH hT => ?_⟩
        obtain ⟨heq⟩ := qe
        subst heq
        obtain ⟨cs, hr, ⟨_, hev⟩ | ⟨hc, _⟩⟩ := opv_sound hT hp
        · obtain ⟨hr', hle⟩ := h4 w _ cs _ hr hoff
          rw [hsub] at h1; injection h1 with h1; subst h1
          obtain ⟨xv, hxv, hcells, hform⟩ := RepV.of_cells hr'
          refine ⟨xv, ?_, hxv⟩
          have hag := TyOK.agg hE hie w
          have hsz := TyOK.size hE hie w
          rw [hiu] at hag hsz
          rcases hform with ⟨ha, hx⟩ | ⟨ha, hx⟩
          · simp [execOp, ho, Instr.field, underlying, hu, hfd, hev, asAgg, part, hag, ha, hsz, hx]
          · rw [ha] at hag
            have h1s : u.size = 1 := by have := hr'.size; rw [hx] at this; simpa using this.symm
            have hget : cs[fd.offset]? = some xv := by
              have := congrArg (fun l => l[0]?) hx
              simpa [List.getElem?_take, h1s] using this
            simp [execOp, ho, Instr.field, underlying, hu, hfd, hev, asAgg, part, hag, hget]
        · cases hc
      · cases h
    | _ => cases h
  | _ => rw [hty] at h; cases p <;> simp [fieldE] at h
end
end Go.W

set_option linter.unusedVariables false
set_option linter.unusedSimpArgs false
namespace Go.W
section
variable {P : Program} {E : Env} (hE : EnvOK P E) {ρ : Type} {o : Oper} {st : St} {K : TV → Ups → Option ρ} {r : ρ}

include hE in
theorem und_slice {t : TypeId} {i : TI} (hi : E.ty t = some i) {e : Ty} (hty : i.ty = .slice e) : ∃ te, P.underlying t = some (.slice te) ∧ (∀ w, (sizeOf te).run P w = .ok e.size w) ∧ ∃ inf, P.info? te = some inf ∧ inf.bytes = i.bytes ∧ inf.size = e.size ∧ 0 < i.bytes ∧ 0 < e.size ∧ ∃ zv, inf.zero = some zv ∧ zv.cells.toList = zc e := by
  obtain ⟨_, d, hd, hu⟩ := hE.ty t i hi
  unfold UndOK at hu
  rw [hty] at hu
  obtain ⟨te, ie, inf, rfl, h1, h2, h3, h4, h5, h6⟩ := hu
  refine ⟨te, hd, fun w => by rw [← h2]; exact TyOK.size hE h1 w, inf, h3, h4, ?_, h5, h6, ?_⟩
  · obtain ⟨⟨inf', zv, a1, a2, a3, a4⟩, _⟩ := hE.ty te ie h1
    rw [h3] at a1; injection a1 with a1; subst a1
    rw [← h2]; exact a2
  · obtain ⟨⟨inf', zv, a1, a2, a3, a4⟩, _⟩ := hE.ty te ie h1
    rw [h3] at a1; injection a1 with a1; subst a1
    exact ⟨zv, a3, by rw [← h2]; exact a4⟩

include hE in
theorem und_arr {t : TypeId} {i : TI} (hi : E.ty t = some i) {n : Nat} {e : Ty} (hty : i.ty = .arr n e) : ∃ te, P.underlying t = some (.array n te) ∧ (∀ w, (sizeOf te).run P w = .ok e.size w) ∧ (∀ w, (isAgg te).run P w = .ok e.agg w) := by
  obtain ⟨_, d, hd, hu⟩ := hE.ty t i hi
  unfold UndOK at hu
  rw [hty] at hu
  obtain ⟨te, ie, rfl, h1, h2⟩ := hu
  exact ⟨te, hd, fun w => by rw [← h2]; exact TyOK.size hE h1 w, fun w => by rw [← h2]; exact TyOK.agg hE h1 w⟩

include hE in
theorem und_str {t : TypeId} {i : TI} (hi : E.ty t = some i) (hty : i.ty = .str) : P.underlying t = some .string := by
  obtain ⟨_, d, hd, hu⟩ := hE.ty t i hi
  unfold UndOK at hu
  rw [hty] at hu
  rw [hd]; exact congrArg _ hu

theorem run_indexAt_slice {t te : TypeId} {k : IntKind} {n : Int} {g of len cap sz : Nat} (hu : P.underlying t = some (.slice te)) (hs : ∀ w, (sizeOf te).run P w = .ok sz w) (h0 : 0 ≤ n) (h1 : n < len) (w : World) :
    (Instr.indexAt t (.slice (some ⟨g, of, none⟩) len cap) (.int k n)).run P w = .ok (.pointer (some ⟨g, of + n.toNat * sz, none⟩)) w := by
  simp [Instr.indexAt, asIntOf, underlying, hu, h0, h1, hs, rep_add]

theorem run_indexAt_arr {t te : TypeId} {k : IntKind} {n : Int} {g of len sz : Nat} (hu : P.underlying t = some (.array len te)) (hs : ∀ w, (sizeOf te).run P w = .ok sz w) (h0 : 0 ≤ n) (h1 : n < len) (w : World) :
    (Instr.indexAt t (.pointer (some ⟨g, of, none⟩)) (.int k n)).run P w = .ok (.pointer (some ⟨g, of + n.toNat * sz, none⟩)) w := by
  simp [Instr.indexAt, asIntOf, underlying, hu, h0, h1, hs, rep_add, Instr.sureAddr]

include hE in
theorem op_indexAddr {t : TypeId} {x y : Operand} (ho : o.op = .indexAddr t x y) (h : opE E st o K = some r) : OpLaw E P o st K r := by
  simp only [opE, ho] at h
  obtain ⟨i, hi, h⟩ := tyOf_inv h
  obtain ⟨p, hp, h⟩ := opOne_inv h
  obtain ⟨k, n, hn, h⟩ := opInt_inv h
  unfold indexAddrE at h
  split at h
  · rename_i e' hty
    obtain ⟨te, hu, hsz, _⟩ := und_slice hE hi hty
    cases p with
    | val vt v =>
      cases vt with
      | slice e =>
        dsimp only at h
        split at h
        · rename_i qe hsame
          split at h
          · rename_i hb
            refine ⟨_, [], fun ρ' K' => by simp only [opE, ho, tyOf, hi, opOne, hp, opInt, hn, indexAddrE, hty, hsame]; rw [if_pos hb], h, fun b hb => absurd rfl hb, OpSem.pure fun B w μ a W hH hT => ?_⟩
            obtain ⟨heq⟩ := qe
            subst heq
            have hy := rep_int (opv_sound hT hn)
            obtain ⟨cs, hr, ⟨hc, _⟩ | ⟨_, hev⟩⟩ := opv_sound hT hp
            · cases hc
            obtain ⟨A, cap, hcs, hle, hel⟩ := hr
            rw [hcs] at hev; injection hev with hev
            obtain ⟨g, of, es, rfl, hg, hr, hes⟩ := hel n.toNat (by omega)
            refine ⟨_, by simp only [execOp, ho, ← hev, hy, Sem.run_bind]; rw [run_indexAt_slice hu hsz hb.1 (by omega)]; rfl, g, _, es, rfl, hg, ?_, fun j u hj => hes j u hj⟩
            have hget : v.getD n.toNat e'.z = v[n.toNat]'(by omega) := by simp [List.getD, List.getElem?_eq_getElem (show n.toNat < v.length by omega)]
            rw [hget]; exact hr
          · cases h
        · cases h
      | _ => cases h
    | loc e b =>
      dsimp only at h
      split at h
      · rename_i blk hb
        split at h
        · rename_i qe hsame
          split at h
          · rename_i hbd
            refine ⟨_, [], fun ρ' K' => by simp only [opE, ho, tyOf, hi, opOne, hp, opInt, hn, indexAddrE, hty, hb, hsame]; rw [if_pos hbd], h, fun b hb => absurd rfl hb, OpSem.pure fun B w μ a W hH hT => ?_⟩
            obtain ⟨heq⟩ := qe
            have hy := rep_int (opv_sound hT hn)
            have hb := hlk_inv hb
            obtain ⟨ob, hob, hsl⟩ := opv_sound hT hp
            rw [hb] at hob; injection hob with hob; subst hob
            obtain ⟨A, cap, hev, hle, hm⟩ := hsl blk rfl
            have hbr := hH.rep b blk hb
            cases hmu : μ b with
            | none => rw [hmu] at hm; have := hm.2.1; omega
            | some g =>
              rw [hmu] at hm
              obtain ⟨of, rfl, h0, h1, _⟩ := hm
              have h0 := h0 rfl
              subst h0
              refine ⟨_, by simp only [execOp, ho, hev, hy, Sem.run_bind]; rw [run_indexAt_slice hu hsz hbd.1 (by omega)]; rfl, _, hb, fun blk' he => ?_⟩
              injection he with he; subst he
              exact ⟨hbd.1, hbd.2, g, 0, hmu, rfl, by rw [heq]; simp⟩
          · cases h
        · cases h
      · cases h
    | sub e b off len =>
      dsimp only at h
      split at h
      · rename_i blk hb
        split at h
        · rename_i qe hsame
          split at h
          · rename_i hbd
            refine ⟨_, [], fun ρ' K' => by simp only [opE, ho, tyOf, hi, opOne, hp, opInt, hn, indexAddrE, hty, hb, hsame]; rw [if_pos hbd], h, fun b hb => absurd rfl hb, OpSem.pure fun B w μ a W hH hT => ?_⟩
            obtain ⟨heq⟩ := qe
            have hy := rep_int (opv_sound hT hn)
            have hb := hlk_inv hb
            obtain ⟨ob, hob, hsl⟩ := opv_sound hT hp
            rw [hb] at hob; injection hob with hob; subst hob
            obtain ⟨a1, a2, a3, A, cap, hev, hle, hm⟩ := hsl blk rfl
            cases hmu : μ b with
            | none => rw [hmu] at hm; have := hm.2.1; omega
            | some g =>
              rw [hmu] at hm
              obtain ⟨of, rfl, h0, h1, _⟩ := hm
              have h1 := h1 (by omega)
              subst h1
              refine ⟨_, by simp only [execOp, ho, hev, hy, Sem.run_bind]; rw [run_indexAt_slice hu hsz hbd.1 (by omega)]; rfl, _, hb, fun blk' he => ?_⟩
              injection he with he; subst he
              refine ⟨by omega, by omega, g, 0, hmu, rfl, ?_⟩
              rw [heq, show (off + n).toNat = off.toNat + n.toNat by omega, Nat.add_mul]; simp
          · cases h
        · cases h
      · cases h
    | _ => cases h
  · rename_i m e' hty
    obtain ⟨te, hu, hsz, _⟩ := und_arr hE hi hty
    cases p with
    | ptr b j q =>
      dsimp only at h
      split at h
      · rename_i blk hb
        split at h
        · rename_i t' ht'
          split at h
          · rename_i qe hsame
            split at h
            · rename_i hbd
              refine ⟨_, [], fun ρ' K' => by simp only [opE, ho, tyOf, hi, opOne, hp, opInt, hn, indexAddrE, hty, hb, ht', hsame]; rw [if_pos hbd], h, fun b hb => absurd rfl hb, OpSem.pure fun B w μ a W hH hT => ?_⟩
              obtain ⟨heq⟩ := qe
              subst heq
              have hy := rep_int (opv_sound hT hn)
              have hb := hlk_inv hb
              obtain ⟨ob, hob, hptr⟩ := opv_sound hT hp
              rw [hb] at hob; injection hob with hob; subst hob
              obtain ⟨hj0, hj1, g, of, hg, hof, hev⟩ := hptr blk rfl
              refine ⟨_, by simp only [execOp, ho, hev, hy, Sem.run_bind]; rw [run_indexAt_arr hu hsz hbd.1 hbd.2]; rfl, _, hb, fun blk' he => ?_⟩
              injection he with he; subst he
              refine ⟨hj0, hj1, g, of + n.toNat * e'.size, hg, offP_append q [.idx n] blk.e _ of _ ht' hof ?_, by rw [Nat.add_assoc]⟩
              simp only [offP]
              rw [if_pos hbd]; rfl
            · cases h
          · cases h
        · cases h
      · cases h
    | eptr vt v =>
      dsimp only at h
      split at h
      · rename_i v' hc
        split at h
        · rename_i hbd
          refine ⟨_, [], fun ρ' K' => by simp only [opE, ho, tyOf, hi, opOne, hp, opInt, hn, indexAddrE, hty, hc]; rw [if_pos hbd], h, fun b hb => absurd rfl hb, OpSem.pure fun B w μ a W hH hT => ?_⟩
          obtain ⟨e1, e2⟩ := castD_inv hc
          subst e1
          subst e2
          have hy := rep_int (opv_sound hT hn)
          obtain ⟨g, of, es, hev, hg, hr, hes⟩ := opv_sound hT hp
          have hget : getP [.idx n] (.arr m e') v' (fun t x => some (⟨t, x⟩ : (t : Ty) × t.D)) = some ⟨e', v'.getD n.toNat e'.z⟩ := rfl
          obtain ⟨s, x, q1, q2, q3, q4⟩ := getP_sound _ hget
          have q2 := Option.some.inj q2
          have hoff : offP [.idx n] (.arr m e') = some (n.toNat * e'.size) := by
            simp only [offP]; rw [if_pos hbd]; rfl
          obtain ⟨hr', hle⟩ := q4 w _ es _ hr hoff
          injection q2 with q5 q6
          subst q5
          have q6 := eq_of_heq q6
          subst q6
          refine ⟨_, by simp only [execOp, ho, hev, hy, Sem.run_bind]; rw [run_indexAt_arr hu hsz hbd.1 hbd.2]; rfl, g, _, _, rfl, hg, hr', fun j u hj => ?_⟩
          rw [List.getElem?_take] at hj
          split at hj
          · have := hes (n.toNat * s.size + j) u (by simpa using hj)
            rw [← Nat.add_assoc] at this
            exact this
          · cases hj
        · cases h
      · cases h
    | _ => cases h
  · cases h

include hE in
theorem op_index {t : TypeId} {x y : Operand} (ho : o.op = .index t x y) (h : opE E st o K = some r) : OpLaw E P o st K r := by
  simp only [opE, ho] at h
  obtain ⟨i, hi, h⟩ := tyOf_inv h
  obtain ⟨p, hp, h⟩ := opOne_inv h
  obtain ⟨k, n, hn, h⟩ := opInt_inv h
  unfold indexE at h
  split at h
  · rename_i hty
    have hu := und_str hE hi hty
    split at h
    · rename_i s _
      split at h
      · rename_i hb
        refine ⟨_, [], fun ρ' K' => by simp only [opE, ho, tyOf, hi, opOne, hp, opInt, hn, indexE, hty]; rw [if_pos hb], h, fun b hb => absurd rfl hb, OpSem.pure fun B w μ a W hH hT => ?_⟩
        have hy := rep_int (opv_sound hT hn)
        have hx := rep_str (opv_sound hT hp)
        refine ⟨_, ?_, int_rep _ _ _ _ _ _⟩
        have hlt : n.toNat < s.data.size := by have := hb.2; simp only [ByteArray.size] at this; omega
        have hget : s[n.toNat]? = some (s.data[n.toNat]) := by
          have : n.toNat < s.size := hlt
          simp [this]; rfl
        simp [execOp, ho, hx, hy, Instr.index, asIntOf, underlying, hu, hb.1, hget, bt, Array.getD, hlt]
        rw [dif_pos hb.2]
      · cases h
    · cases h
  · rename_i m e hty
    obtain ⟨te, hu, hsz, hag⟩ := und_arr hE hi hty
    split at h
    · rename_i vt v _
      split at h
      · rename_i v' hc
        split at h
        · rename_i hb
          refine ⟨_, [], fun ρ' K' => by simp only [opE, ho, tyOf, hi, opOne, hp, opInt, hn, indexE, hty, hc]; rw [if_pos hb], h, fun b hb => absurd rfl hb, OpSem.pure fun B w μ a W hH hT => ?_⟩
          obtain ⟨e1, e2⟩ := castD_inv hc
          subst e1
          subst e2
          have hy := rep_int (opv_sound hT hn)
          obtain ⟨cs, hr, ⟨_, hev⟩ | ⟨hcc, _⟩⟩ := opv_sound hT hp
          · have hget : getP [.idx n] (.arr m e) v' (fun t x => some (⟨t, x⟩ : (t : Ty) × t.D)) = some ⟨e, v'.getD n.toNat e.z⟩ := rfl
            obtain ⟨s, x, q1, q2, q3, q4⟩ := getP_sound _ hget
            have q2 := Option.some.inj q2
            have hoff : offP [.idx n] (.arr m e) = some (n.toNat * e.size) := by
              simp only [offP]; rw [if_pos hb]; rfl
            obtain ⟨hr', hle⟩ := q4 w _ cs _ hr hoff
            injection q2 with q5 q6
            subst q5
            have q6 := eq_of_heq q6
            subst q6
            obtain ⟨xv, hxv, hcells, hform⟩ := RepV.of_cells hr'
            refine ⟨xv, ?_, hxv⟩
            have hag := hag w
            rcases hform with ⟨ha, hx⟩ | ⟨ha, hx⟩
            · simp [execOp, ho, hev, hy, Instr.index, asIntOf, underlying, hu, hb.1, hb.2, hsz, part, hag, ha, hx]
            · rw [ha] at hag
              have h1s : s.size = 1 := by have := hr'.size; rw [hx] at this; simpa using this.symm
              have hget : cs[n.toNat * s.size]? = some xv := by
                have := congrArg (fun l => l[0]?) hx
                simpa [List.getElem?_take, h1s] using this
              simp [execOp, ho, hev, hy, Instr.index, asIntOf, underlying, hu, hb.1, hb.2, hsz, part, hag, hget]
          · cases hcc
        · cases h
      · cases h
    · cases h
  · cases h
end
end Go.W

set_option linter.unusedVariables false
set_option linter.unusedSimpArgs false
namespace Go.W
section
variable {P : Program} {E : Env} (hE : EnvOK P E) {ρ : Type} {o : Oper} {st : St} {K : TV → Ups → Option ρ} {r : ρ}

theorem opArgs_inv {ρ : Type} {st : St} : ∀ {xs : List Operand} {K : List PV → Option ρ} {r : ρ}, opArgs st xs K = some r →
    ∃ ps, K ps = some r ∧ (∀ (ρ' : Type) (K' : List PV → Option ρ'), opArgs st xs K' = K' ps) ∧ ps.length = xs.length ∧ ∀ (j : Nat) x p, xs[j]? = some x → ps[j]? = some p → opv st x = some (.one p)
  | [], K, r, h => ⟨[], h, fun _ _ => rfl, rfl, fun j x p hx => by simp at hx⟩
  | x :: xs, K, r, h => by
    obtain ⟨p, hp, h⟩ := opOne_inv h
    obtain ⟨ps, h1, h2, h3, h4⟩ := opArgs_inv h
    refine ⟨p :: ps, h1, fun ρ' K' => by simp only [opArgs, opOne, hp]; exact h2 ρ' _, by simp [h3], fun j y q hy hq => ?_⟩
    cases j with
    | zero => simp at hy hq; subst hy; subst hq; exact hp
    | succ j => exact h4 j y q (by simpa using hy) (by simpa using hq)

theorem sl_bound {k : IntKind} {n : Int} {y : Nat} {code : BoundsCode} (h0 : 0 ≤ n) (h1 : n ≤ y) (w : World) : (Instr.sliceBound (.int k n) y code).run P w = .ok n.toNat w := by
  simp [Instr.sliceBound, asIntOf, h0, h1]

/-- The bounds of a cut. -/
structure Cut (st : St) (lo hi : Option Operand) (len : Nat) (l h : Nat) : Prop where
  le : l ≤ h
  le2 : h ≤ len
  run : ∀ (P : Program) (B : Nat → Prop) (w : World) μ a (b : Bool) (cap : Nat), TmOK B w μ st a → len ≤ cap → (Instr.sliceBounds b len cap (lo.map a.eval) (hi.map a.eval) none).run P w = .ok (l, h, cap) w

theorem cut_lo {st : St} {l : Operand} {k : IntKind} {n : Int} {len : Nat} (hl : opv st l = some (.one (.val (.int k) n))) (hb : 0 ≤ n ∧ n ≤ (len : Int)) : Cut st (some l) none len n.toNat len := by
  refine ⟨by omega, Nat.le_refl _, fun P B w μ a b cap hT hc => ?_⟩
  have := rep_int (opv_sound hT hl)
  simp [Instr.sliceBounds, this, sl_bound hb.1 hb.2]
theorem cut_hi {st : St} {l : Operand} {k : IntKind} {n : Int} {len : Nat} (hl : opv st l = some (.one (.val (.int k) n))) (hb : 0 ≤ n ∧ n ≤ (len : Int)) : Cut st none (some l) len 0 n.toNat := by
  refine ⟨by omega, by omega, fun P B w μ a b cap hT hc => ?_⟩
  have := rep_int (opv_sound hT hl)
  simp [Instr.sliceBounds, this, sl_bound hb.1 (show n ≤ (cap : Int) by omega)]
theorem cut_both {st : St} {l h : Operand} {k k' : IntKind} {n m : Int} {len : Nat} (hl : opv st l = some (.one (.val (.int k) n))) (hh : opv st h = some (.one (.val (.int k') m))) (hb : 0 ≤ n ∧ n ≤ m ∧ m ≤ (len : Int)) : Cut st (some l) (some h) len n.toNat m.toNat := by
  refine ⟨by omega, by omega, fun P B w μ a b cap hT hc => ?_⟩
  have h1 := rep_int (opv_sound hT hl)
  have h2 := rep_int (opv_sound hT hh)
  have e1 := sl_bound (P := P) (k := k') (n := m) (y := cap) (code := if b then .sliceAcap else .sliceAlen) (by omega) (show m ≤ (cap : Int) by omega) w
  have e2 := sl_bound (P := P) (k := k) (n := n) (y := m.toNat) (code := .sliceB) hb.1 (by omega) w
  simp [Instr.sliceBounds, h1, h2, e1, e2]

include hE in
theorem sem_slice_str {t : TypeId} {i : TI} (hi : E.ty t = some i) (hty : i.ty = .str) {x : Operand} {lo hi' : Option Operand} (ho : o.op = .slice t x lo hi' none) {s : ByteArray} (hp : opv st x = some (.one (.val .str s))) {l h : Nat} (hc : Cut st lo hi' s.size l h) :
    OpSem P o st (.one (.val .str (s.extract l h))) [] := OpSem.pure fun B w μ a W hH hT => by
  have hu := und_str hE hi hty
  have hx := rep_str (opv_sound hT hp)
  have hr := hc.run P B w μ a false s.size hT (Nat.le_refl _)
  exact ⟨_, by simp [execOp, ho, Instr.sliceAt, Instr.slice, underlying, hu, hx, hr], str_rep _ _ _ _ _⟩

include hE in
theorem sem_slice_val {t : TypeId} {i : TI} (hi : E.ty t = some i) {e : Ty} (hty : i.ty = .slice e) {x : Operand} {lo hi' : Option Operand} (ho : o.op = .slice t x lo hi' none) {s : List e.D} (hp : opv st x = some (.one (.val (.slice e) s))) {l h : Nat} (hc : Cut st lo hi' s.length l h) :
    OpSem P o st (.one (.val (.slice e) ((s.take h).drop l))) [] := OpSem.pure fun B w μ a W hH hT => by
  obtain ⟨te, hu, hsz, _⟩ := und_slice hE hi hty
  obtain ⟨cs, hr, ⟨hcc, _⟩ | ⟨_, hev⟩⟩ := opv_sound hT hp
  · cases hcc
  obtain ⟨A, cap, hcs, hle, hel⟩ := hr
  rw [hcs] at hev; injection hev with hev
  have hrun := hc.run P B w μ a true cap hT hle
  have h1 := hc.le
  have h2 := hc.le2
  have hlen : ((s.take h).drop l).length = h - l := by simp; omega
  refine ⟨.slice (if cap = l then A else A.map (·.add (l * e.size))) (h - l) (cap - l), ?_, _, ⟨_, cap - l, by rw [hlen], by omega, fun j hj => ?_⟩, .inr ⟨rfl, rfl⟩⟩
  · simp [execOp, ho, Instr.sliceAt, Instr.slice, underlying, hu, ← hev, hrun, hsz]
  · rw [hlen] at hj
    obtain ⟨g, of, es, rfl, hg, hr, hes⟩ := hel (l + j) (by omega)
    refine ⟨g, of + l * e.size, es, ?_, hg, ?_, fun k u hk => ?_⟩
    · rw [if_neg (by omega)]; simp [rep_add]
    · simpa using hr
    · have := hes k u hk
      rw [Nat.add_mul] at this
      rw [show of + l * e.size + j * e.size + k = of + (l * e.size + j * e.size) + k by omega]; exact this

include hE in
theorem sem_slice_loc {t : TypeId} {i : TI} (hi : E.ty t = some i) {e' e : Ty} (hty : i.ty = .slice e') {x : Operand} {lo hi' : Option Operand} (ho : o.op = .slice t x lo hi' none) {b : Nat} {blk : Blk} (heq : e' = blk.e) (hb : hlk st.hp b = some blk)
    (hp : opv st x = some (.one (.loc e b))) {l h : Int} (hl0 : 0 ≤ l) (hlh : l ≤ h) (hc : Cut st lo hi' blk.l.length l.toNat h.toNat) : OpSem P o st (.one (.sub e b l (h - l))) [] := OpSem.pure fun B w μ a W hH hT => by
  obtain ⟨te, hu, hsz, _⟩ := und_slice hE hi hty
  have hb := hlk_inv hb
  obtain ⟨ob, hob, hsl⟩ := opv_sound hT hp
  rw [hb] at hob; injection hob with hob; subst hob
  obtain ⟨A, cap, hev, hle, hm⟩ := hsl blk rfl
  have hrun := hc.run P B w μ a true cap hT hle
  have h1 := hc.le
  have h2 := hc.le2
  refine ⟨.slice (if cap = l.toNat then A else A.map (·.add (l.toNat * blk.e.size))) (h.toNat - l.toNat) (cap - l.toNat), ?_, some blk, hb, fun blk' he => ?_⟩
  · simp [execOp, ho, Instr.sliceAt, Instr.slice, underlying, hu, hev, hrun, hsz, heq]
  · injection he with he; subst he
    refine ⟨hl0, by omega, by omega, _, cap - l.toNat, by rw [show (h - l).toNat = h.toNat - l.toNat by omega], by omega, ?_⟩
    cases hmu : μ b with
    | none =>
      rw [hmu] at hm
      obtain ⟨rfl, a1, a2⟩ := hm
      exact ⟨by simp, by omega, by omega⟩
    | some g =>
      rw [hmu] at hm
      obtain ⟨of, rfl, q0, q1, q2⟩ := hm
      have q0 := q0 rfl
      subst q0
      by_cases hcl : cap = l.toNat
      · rw [if_pos hcl]
        exact ⟨0, rfl, fun _ => rfl, fun hpos => by omega, fun c eT fr hcc => by
          rw [show cap - l.toNat = 0 by omega]; simp⟩
      · rw [if_neg hcl]
        refine ⟨l.toNat * blk.e.size, by simp [rep_add], fun hz => by rw [hz]; simp, fun _ => rfl, fun c eT fr hcc => ?_⟩
        have := q2 c eT fr hcc
        rw [← Nat.add_mul, show l.toNat + (cap - l.toNat) = cap by omega]; omega

include hE in
theorem op_slice {t : TypeId} {x : Operand} {lo hi' : Option Operand} (ho : o.op = .slice t x lo hi' none) (h : opE E st o K = some r) : OpLaw E P o st K r := by
  simp only [opE, ho] at h
  obtain ⟨i, hi, h⟩ := tyOf_inv h
  obtain ⟨p, hp, h⟩ := opOne_inv h
  have hlaw : ∀ (ρ' : Type) (K' : TV → Ups → Option ρ'), opE E st o K' = sliceE st i.ty p lo hi' fun tv => K' tv [] := fun ρ' K' => by
    simp only [opE, ho, tyOf, hi, opOne, hp]
  have fin : ∀ {tv : TV}, (∀ (ρ' : Type) (K' : TV → Option ρ'), sliceE st i.ty p lo hi' K' = K' tv) → K tv [] = some r → OpSem P o st tv [] → OpLaw E P o st K r := fun {tv} h1 h2 h3 =>
    ⟨tv, [], fun ρ' K' => by rw [hlaw, h1], h2, fun b hb => absurd rfl hb, h3⟩
  cases hty : i.ty with
  | str =>
    rw [hty] at h fin
    cases p with
    | val vt s =>
      cases vt with
      | str =>
        simp only [sliceE] at h
        split at h
        · cases h
        · obtain ⟨k, n, hn, h⟩ := opInt_inv h
          split at h
          · rename_i hb
            exact fin (fun ρ' K' => by simp only [sliceE, opInt, hn]; rw [if_pos hb]) h (sem_slice_str hE hi hty ho hp (cut_lo hn hb))
          · cases h
        · obtain ⟨k, n, hn, h⟩ := opInt_inv h
          split at h
          · rename_i hb
            exact fin (fun ρ' K' => by simp only [sliceE, opInt, hn]; rw [if_pos hb]) h (sem_slice_str hE hi hty ho hp (cut_hi hn hb))
          · cases h
        · obtain ⟨k, n, hn, h⟩ := opInt_inv h
          obtain ⟨k', n', hn', h⟩ := opInt_inv h
          split at h
          · rename_i hb
            exact fin (fun ρ' K' => by simp only [sliceE, opInt, hn, hn']; rw [if_pos hb]) h (sem_slice_str hE hi hty ho hp (cut_both hn hn' hb))
          · cases h
      | _ => cases h
    | _ => cases h
  | slice e' =>
    rw [hty] at h fin
    cases p with
    | val vt s =>
      cases vt with
      | slice e =>
        simp only [sliceE] at h
        split at h
        · rename_i qe hsame
          obtain ⟨heq⟩ := qe
          subst heq
          split at h
          · cases h
          · obtain ⟨k, n, hn, h⟩ := opInt_inv h
            split at h
            · rename_i hb
              have := sem_slice_val hE hi hty ho hp (cut_lo hn hb)
              rw [List.take_length] at this
              exact fin (fun ρ' K' => by simp only [sliceE, hsame, opInt, hn]; rw [if_pos hb]) h this
            · cases h
          · obtain ⟨k, n, hn, h⟩ := opInt_inv h
            split at h
            · rename_i hb
              have := sem_slice_val hE hi hty ho hp (cut_hi hn hb)
              rw [List.drop_zero] at this
              exact fin (fun ρ' K' => by simp only [sliceE, hsame, opInt, hn]; rw [if_pos hb]) h this
            · cases h
          · obtain ⟨k, n, hn, h⟩ := opInt_inv h
            obtain ⟨k', n', hn', h⟩ := opInt_inv h
            split at h
            · rename_i hb
              exact fin (fun ρ' K' => by simp only [sliceE, hsame, opInt, hn, hn']; rw [if_pos hb]) h (sem_slice_val hE hi hty ho hp (cut_both hn hn' hb))
            · cases h
        · cases h
      | _ => cases h
    | loc e b =>
      simp only [sliceE] at h
      split at h
      · rename_i blk hb
        split at h
        · rename_i qe hsame
          obtain ⟨heq⟩ := qe
          split at h
          · cases h
          · obtain ⟨k, n, hn, h⟩ := opInt_inv h
            split at h
            · rename_i hbd
              exact fin (fun ρ' K' => by simp only [sliceE, hb, hsame, opInt, hn]; rw [if_pos hbd]) h (sem_slice_loc hE hi hty ho heq hb hp (h := (blk.l.length : Int)) hbd.1 hbd.2 (by simpa using cut_lo hn hbd))
            · cases h
          · obtain ⟨k, n, hn, h⟩ := opInt_inv h
            split at h
            · rename_i hbd
              have := sem_slice_loc hE hi hty ho heq hb hp (l := 0) (h := n) (by omega) hbd.1 (by simpa using cut_hi hn hbd)
              rw [Int.sub_zero] at this
              exact fin (fun ρ' K' => by simp only [sliceE, hb, hsame, opInt, hn]; rw [if_pos hbd]) h this
            · cases h
          · obtain ⟨k, n, hn, h⟩ := opInt_inv h
            obtain ⟨k', n', hn', h⟩ := opInt_inv h
            split at h
            · rename_i hbd
              exact fin (fun ρ' K' => by simp only [sliceE, hb, hsame, opInt, hn, hn']; rw [if_pos hbd]) h (sem_slice_loc hE hi hty ho heq hb hp hbd.1 hbd.2.1 (cut_both hn hn' hbd))
            · cases h
        · cases h
      · cases h
    | _ => cases h
  | _ => rw [hty] at h; cases h

include hE in
theorem op_len {args : Array Operand} {ats : Array TypeId} (ho : o.op = .call { callee := .builtin .len, args := args, argTypes := ats }) (h : opE E st o K = some r) : OpLaw E P o st K r := by
  simp only [opE, ho] at h
  split at h
  · rename_i t ts hts
    obtain ⟨i, hi, h⟩ := tyOf_inv h
    obtain ⟨ps, h2, hl1, hlen, hps⟩ := opArgs_inv h
    clear h
    match ps, h2, hlen, hps, hl1 with
    | [], h2, _, _, _ => cases h2
    | _ :: _ :: _, h2, _, _, _ => cases h2
    | [p], h, hlen, hps, hl1 =>
      have hlaw : ∀ (ρ' : Type) (K' : TV → Ups → Option ρ'), opE E st o K' = lenE i.ty (hlk st.hp) p fun tv => K' tv [] := fun ρ' K' => by
        simp only [opE, ho, hts, tyOf, hi, hl1]
      obtain ⟨x, hx⟩ : ∃ x, args.toList = [x] := by
        match args.toList, hlen with
        | [x], _ => exact ⟨x, rfl⟩
      have hax : args = #[x] := by apply Array.ext'; simpa using hx
      obtain ⟨ts', hts'⟩ : ∃ l, ats = (t :: l).toArray := ⟨ts, by apply Array.ext'; simpa using hts⟩
      subst hax
      subst hts'
      have hp := hps 0 x p rfl rfl
      have fin : ∀ {n : Int}, (∀ (ρ' : Type) (K' : TV → Option ρ'), lenE i.ty (hlk st.hp) p K' = K' (.one (.val (.int .i64) n))) → K (.one (.val (.int .i64) n)) [] = some r →
          (∀ (B : Nat → Prop) (w : World) (μ : Nat → Option Nat) a W, HOK W B w μ (lk st.hp) → TmOK B w μ st a → ∃ d, P.underlying t = some d ∧ (match d, a.eval x with | .string, .string s => n = s.size | .array m _, _ => n = m | .slice _, .slice _ m _ => n = m | _, _ => False)) → OpLaw E P o st K r := fun {n} h1 h2 h3 => by
        refine ⟨_, [], fun ρ' K' => by rw [hlaw, h1], h2, fun b hb => absurd rfl hb, OpSem.pure fun B w μ a W hH hT => ?_⟩
        obtain ⟨d, hd, hm⟩ := h3 B w μ a W hH hT
        refine ⟨.int .i64 n, ?_, int_rep _ _ _ _ _ _⟩
        have : (Builtin.len_ ((t :: ts').toArray) o.type #[a.eval x]).run P w = .ok (.int .i64 n) w := by
          simp only [Builtin.len_]
          split at hm <;> simp_all [underlying, goInt]
        simp [execOp, ho, resolve, invoke, builtin, this]
      obtain ⟨ity, ni, bi⟩ := i
      dsimp only at h fin
      cases ity with
      | str =>
        cases p with
        | val vt s =>
          cases vt with
          | str => exact fin (fun _ _ => rfl) h fun B w μ a W hH hT => ⟨_, und_str hE hi rfl, by rw [rep_str (opv_sound hT hp)]⟩
          | _ => cases h
        | _ => cases h
      | slice e' =>
        obtain ⟨te, hu, _⟩ := und_slice hE hi rfl
        cases p with
        | val vt s =>
          cases vt with
          | slice e => exact fin (fun _ _ => rfl) h fun B w μ a W hH hT => ⟨_, hu, by
              obtain ⟨cs, hr, ⟨hcc, _⟩ | ⟨_, hev⟩⟩ := opv_sound hT hp
              · cases hcc
              obtain ⟨A, cap, hcs, hle, hel⟩ := hr
              rw [hcs] at hev; injection hev with hev
              rw [← hev]⟩
          | _ => cases h
        | nil => exact fin (fun _ _ => rfl) h fun B w μ a W hH hT => ⟨_, hu, by
            have := opv_sound hT hp
            rw [show a.eval x = .slice none 0 0 from this]; rfl⟩
        | loc e b =>
          simp only [lenE] at h
          split at h
          · rename_i blk hb
            exact fin (fun _ _ => by simp only [lenE, hb]) h fun B w μ a W hH hT => ⟨_, hu, by
              have hb := hlk_inv hb
              obtain ⟨ob, hob, hsl⟩ := opv_sound hT hp
              rw [hb] at hob; injection hob with hob; subst hob
              obtain ⟨A, cap, hev, hle, hm⟩ := hsl blk rfl
              rw [hev]⟩
          · cases h
        | sub e b off len =>
          simp only [lenE] at h
          split at h
          · rename_i blk hb
            exact fin (fun _ _ => by simp only [lenE, hb]) h fun B w μ a W hH hT => ⟨_, hu, by
              have hb := hlk_inv hb
              obtain ⟨ob, hob, hsl⟩ := opv_sound hT hp
              rw [hb] at hob; injection hob with hob; subst hob
              obtain ⟨a1, a2, a3, A, cap, hev, hle, hm⟩ := hsl blk rfl
              rw [hev]
              dsimp only
              omega⟩
          · cases h
        | _ => cases h
      | arr n e =>
        obtain ⟨te, hu, _⟩ := und_arr hE hi rfl
        exact fin (fun _ _ => rfl) h fun B w μ a W hH hT => ⟨_, hu, by split <;> simp_all⟩
      | _ => cases h
  · cases h
end
end Go.W

set_option linter.unusedVariables false
set_option linter.unusedSimpArgs false
namespace Go.W

theorem exists_list {α : Type _} {p : Nat → α → Prop} : ∀ (n : Nat), (∀ i, i < n → ∃ a, p i a) → ∃ l : List α, l.length = n ∧ ∀ i (h : i < l.length), p i l[i]
  | 0, _ => ⟨[], rfl, fun i h => by simp at h⟩
  | n + 1, h => by
    obtain ⟨l, hl, hp⟩ := exists_list n (fun i hi => h i (by omega))
    obtain ⟨a, ha⟩ := h n (by omega)
    refine ⟨l ++ [a], by simp [hl], fun i hi => ?_⟩
    rw [List.getElem_append]
    split
    · exact hp i _
    · rename_i hn
      have : i = n := by simp at hi; omega
      subst this
      simpa using ha

/-- A list that lies in cells, element by element. -/
structure Lies (w : World) (ok : Nat → Prop) (e : Ty) (l : List e.D) (cs : List Value) : Prop where
  len : cs.length = l.length * e.size
  at_ : ∀ i (h : i < l.length), ∃ es, Rep w ok e l[i] es ∧ ∀ (j : Nat) u, es[j]? = some u → cs[i * e.size + j]? = some u

theorem Lies.of_ess {w : World} {ok : Nat → Prop} {e : Ty} {l : List e.D} {ess : List (List Value)} (hl : ess.length = l.length) (h : ∀ i (h : i < l.length) (h' : i < ess.length), Rep w ok e l[i] ess[i]) : Lies w ok e l ess.flatten := by
  have hsz : ∀ es ∈ ess, es.length = e.size := fun es hes => by
    obtain ⟨j, hj, rfl⟩ := List.getElem_of_mem hes
    exact (h j (by omega) hj).size
  refine ⟨by rw [flatten_length_of _ _ hsz, hl], fun i hi => ⟨ess[i]'(by omega), h i hi (by omega), fun j u hj => ?_⟩⟩
  have hf := Ty.size_flat (e := e) hsz i (by omega)
  rw [← hf, List.getElem?_take] at hj
  split at hj
  · simpa using hj
  · cases hj

theorem Lies.cell {w : World} {ok : Nat → Prop} {e : Ty} {l : List e.D} {cs : List Value} (h : Lies w ok e l cs) : ∀ x ∈ cs, x.oneCell' = true := by
  intro x hx
  obtain ⟨k, hk, rfl⟩ := List.getElem_of_mem hx
  have hlen := h.len
  have he : 0 < e.size := by
    rcases Nat.eq_zero_or_pos e.size with h0 | h0
    · rw [h0] at hlen; omega
    · exact h0
  have hi : k / e.size < l.length := by rw [Nat.div_lt_iff_lt_mul he]; omega
  obtain ⟨es, hr, hes⟩ := h.at_ (k / e.size) hi
  have hm : k % e.size < es.length := by rw [hr.size]; exact Nat.mod_lt _ he
  have := hes (k % e.size) _ (List.getElem?_eq_getElem hm)
  rw [Nat.mul_comm, Nat.div_add_mod] at this
  rw [List.getElem?_eq_getElem hk] at this
  injection this with this
  rw [this]
  obtain ⟨n1, n2⟩ := hr.cells _ (List.getElem_mem hm)
  generalize es[k % e.size] = z at n1 n2
  cases z <;> simp_all [Value.oneCell']

theorem Lies.append {w : World} {ok : Nat → Prop} {e : Ty} {l m : List e.D} {cs ds : List Value} (h : Lies w ok e l cs) (k : Lies w ok e m ds) : Lies w ok e (l ++ m) (cs ++ ds) := by
  refine ⟨by rw [List.length_append, List.length_append, h.len, k.len, Nat.add_mul], fun i hi => ?_⟩
  rw [List.getElem_append]
  split
  · rename_i hil
    obtain ⟨es, hr, hes⟩ := h.at_ i hil
    refine ⟨es, hr, fun j u hj => ?_⟩
    have := hes j u hj
    rw [List.getElem?_append_left (List.getElem?_eq_some_iff.1 this).1]; exact this
  · rename_i hil
    obtain ⟨es, hr, hes⟩ := k.at_ (i - l.length) (by simp at hi; omega)
    refine ⟨es, hr, fun j u hj => ?_⟩
    have := hes j u hj
    rw [List.getElem?_append_right (by rw [h.len]; have := Nat.mul_le_mul_right e.size (show l.length ≤ i by omega); omega), h.len]
    rw [show i * e.size + j - l.length * e.size = (i - l.length) * e.size + j by
      rw [Nat.sub_mul]; have := Nat.mul_le_mul_right e.size (show l.length ≤ i by omega); omega]
    exact this

/-- A slice whose elements are there. -/
def RdOK (w : World) (ok : Nat → Prop) (e : Ty) (l : List e.D) (x : Value) : Prop :=
  ∃ A cap, x = .slice A l.length cap ∧ (l = [] ∨ ∃ g o cs, A = some ⟨g, o, none⟩ ∧ Lies w ok e l cs ∧ ∀ (j : Nat) u, cs[j]? = some u → w.cell? ⟨g, o + j, none⟩ = some u)

theorem lies_cells {w : World} {ok : Nat → Prop} {e : Ty} {l : List e.D} {g o : Nat} (h : ∀ i (h : i < l.length), ∃ es, Rep w ok e l[i] es ∧ ∀ (j : Nat) u, es[j]? = some u → w.cell? ⟨g, o + i * e.size + j, none⟩ = some u) :
    ∃ cs, Lies w ok e l cs ∧ ∀ (j : Nat) u, cs[j]? = some u → w.cell? ⟨g, o + j, none⟩ = some u := by
  obtain ⟨ess, hl, hess⟩ := exists_list (p := fun i es => ∀ (h : i < l.length), Rep w ok e l[i] es ∧ ∀ (j : Nat) u, es[j]? = some u → w.cell? ⟨g, o + i * e.size + j, none⟩ = some u) l.length (fun i hi => by
    obtain ⟨es, h1, h2⟩ := h i hi
    exact ⟨es, fun _ => ⟨h1, h2⟩⟩)
  have hL := Lies.of_ess (w := w) (ok := ok) hl (fun i hi hi' => (hess i hi' hi).1)
  refine ⟨ess.flatten, hL, fun k u hk => ?_⟩
  have hklt : k < ess.flatten.length := (List.getElem?_eq_some_iff.1 hk).1
  rw [hL.len] at hklt
  have he : 0 < e.size := by
    rcases Nat.eq_zero_or_pos e.size with h0 | h0
    · rw [h0] at hklt; omega
    · exact h0
  have hi : k / e.size < l.length := by rw [Nat.div_lt_iff_lt_mul he]; exact hklt
  have hsz : ∀ es ∈ ess, es.length = e.size := fun es hes => by
    obtain ⟨j, hj, rfl⟩ := List.getElem_of_mem hes
    exact ((hess j hj (by omega)).1).size
  have hf := Ty.size_flat (e := e) hsz (k / e.size) (by omega)
  have h2 := (hess (k / e.size) (by omega) hi).2 (k % e.size) u (by
    rw [← hf, List.getElem?_take, if_pos (Nat.mod_lt _ he), List.getElem?_drop, Nat.mul_comm, Nat.div_add_mod]; exact hk)
  rw [Nat.add_assoc, Nat.mul_comm, Nat.div_add_mod] at h2
  exact h2

theorem RdOK.first {w : World} {ok : Nat → Prop} {e : Ty} {l : List e.D} {x : Value} (h : RdOK w ok e l x) : ∃ cs, Lies w ok e l cs ∧ ∀ (P : Program) (w' : World), w'.heap = w.heap → (Builtin.firstCells e.size l.length x).run P w' = .ok cs.toArray w' := by
  obtain ⟨A, cap, rfl, rfl | ⟨g, o, cs, rfl, hL, hc⟩⟩ := h
  · refine ⟨[], ⟨by simp, fun i hi => by simp at hi⟩, fun P w' hw => ?_⟩
    cases A with
    | none => simp [Builtin.firstCells]
    | some a => simp [Builtin.firstCells, loadCells, loadCellsFrom]
  · refine ⟨cs, hL, fun P w' hw => ?_⟩
    simp only [Builtin.firstCells, ← hL.len]
    exact run_loadCells_list w' _ cs (fun j v hj => by
      rw [rep_add]
      have := hc j v hj
      simpa [World.cell?, hw] using this)

section
variable {W B : Nat → Prop} {w : World} {μ : Nat → Option Nat}

theorem rd_own {hp : Ups} (hH : HOK W B w μ (lk hp)) {b : Nat} {blk : Blk} (hb : lk hp b = some (some blk)) {off len : Nat} {v : Value} (hle : off + len ≤ blk.l.length) (hs : SliceOf w (μ b) blk.e.size off len v) :
    RdOK w (okS B w.heap.size μ (lk hp)) blk.e ((blk.l.drop off).take len) v := by
  obtain ⟨A, cap, rfl, _, hm⟩ := hs
  have hlen : ((blk.l.drop off).take len).length = len := by simp; omega
  refine ⟨A, cap, by rw [hlen], ?_⟩
  by_cases h0 : len = 0
  · left; exact List.eq_nil_of_length_eq_zero (by omega)
  · right
    have hbr := hH.rep b blk hb
    cases hmu : μ b with
    | none => rw [hmu] at hm; omega
    | some g =>
      rw [hmu] at hm hbr
      obtain ⟨o, rfl, _, h5, _⟩ := hm
      obtain ⟨c, eT, h1, h2, h3⟩ := hbr
      have := h5 (by omega)
      subst this
      obtain ⟨cs, hL, hc⟩ := lies_cells (w := w) (ok := okS B w.heap.size μ (lk hp)) (l := (blk.l.drop off).take len) (g := g) (o := off * blk.e.size) (fun i hi => by
        rw [hlen] at hi
        obtain ⟨es, hr, hes⟩ := h3 (off + i) (by omega)
        refine ⟨es, by simpa using hr, fun j u hj => ?_⟩
        have := hes j u hj
        rw [Nat.add_mul] at this
        simp [World.cell?, h1, this])
      exact ⟨g, _, cs, rfl, hL, hc⟩

theorem rdL_sound {ρ : Type} {hp : Ups} {e : Ty} {pv : PV} {K : List e.D → Option ρ} {r : ρ} (h : rdL (hlk hp) e pv K = some r) :
    ∃ l, (∀ (ρ' : Type) (K' : List e.D → Option ρ'), rdL (hlk hp) e pv K' = K' l) ∧ K l = some r ∧ ∀ (W B : Nat → Prop) (w : World) (μ : Nat → Option Nat) v, HOK W B w μ (lk hp) → RepPV B w μ (lk hp) pv v → RdOK w (okS B w.heap.size μ (lk hp)) e l v := by
  cases pv with
  | val t' v =>
    simp only [rdL] at h ⊢
    cases hx : castD t' (.slice e) v with
    | none => rw [hx] at h; cases h
    | some x =>
      rw [hx] at h
      obtain ⟨rfl, rfl⟩ := castD_inv hx
      refine ⟨_, fun _ _ => rfl, h, fun W B w μ v' hH hv => ?_⟩
      obtain ⟨cs, hr, ⟨hcc, _⟩ | ⟨_, hev⟩⟩ := hv
      · cases hcc
      obtain ⟨A, cap, hcs, hle, hel⟩ := hr
      rw [hcs] at hev; injection hev with hev
      refine ⟨A, cap, hev.symm, ?_⟩
      by_cases h0 : x.length = 0
      · left; exact List.eq_nil_of_length_eq_zero h0
      · right
        obtain ⟨g, o, _, hA, _, _, _⟩ := hel 0 (by omega)
        subst hA
        obtain ⟨cs', hL, hc⟩ := lies_cells (w := w) (ok := okS B w.heap.size μ (lk hp)) (l := x) (g := g) (o := o) (fun i hi => by
          obtain ⟨g', o', es, h1, h2, h3, h4⟩ := hel i hi
          injection h1 with h1; injection h1 with h1 h1'; subst h1; subst h1'
          exact ⟨es, h3, h4⟩)
        exact ⟨g, o, cs', rfl, hL, hc⟩
  | nil => exact ⟨[], fun _ _ => rfl, h, fun W B w μ v' hH hv => ⟨none, 0, hv, .inl rfl⟩⟩
  | loc e' b =>
    simp only [rdL] at h ⊢
    cases hb' : hlk hp b with
    | none => rw [hb'] at h; cases h
    | some blk =>
      rw [hb'] at h
      dsimp only at h ⊢
      cases hx : castL blk.e e blk.l with
      | none => rw [hx] at h; cases h
      | some x =>
        rw [hx] at h
        have hb := hlk_inv hb'
        obtain ⟨e1, e2⟩ := castL_inv hx
        obtain ⟨be, bl, bf⟩ := blk
        dsimp only at e1 e2
        subst e1
        subst e2
        refine ⟨_, fun _ _ => rfl, h, fun W B w μ v' hH hv => ?_⟩
        obtain ⟨ob, hob, hsl⟩ := hv
        rw [hb] at hob; injection hob with hob; subst hob
        have := rd_own hH hb (off := 0) (len := x.length) (by simp) (hsl _ rfl)
        simpa using this
  | sub e' b off len =>
    simp only [rdL] at h ⊢
    cases hb' : hlk hp b with
    | none => rw [hb'] at h; cases h
    | some blk =>
      rw [hb'] at h
      dsimp only at h ⊢
      cases hx : castL blk.e e ((blk.l.drop off.toNat).take len.toNat) with
      | none => rw [hx] at h; cases h
      | some x =>
        rw [hx] at h
        have hb := hlk_inv hb'
        obtain ⟨e1, e2⟩ := castL_inv hx
        obtain ⟨be, bl, bf⟩ := blk
        dsimp only at e1 e2
        subst e1
        subst e2
        refine ⟨_, fun _ _ => rfl, h, fun W B w μ v' hH hv => ?_⟩
        obtain ⟨ob, hob, hsl⟩ := hv
        rw [hb] at hob; injection hob with hob; subst hob
        obtain ⟨a1, a2, a3, a4⟩ := hsl _ rfl
        exact rd_own hH hb (off := off.toNat) (len := len.toNat) (by dsimp only at a3 ⊢; omega) a4
  | _ => cases h
end

theorem growBy_le {n : Nat} : ∀ (k c : Nat), c ≤ n + (n + 768) / 4 → Builtin.growBy n k c ≤ n + (n + 768) / 4
  | 0, c, h => h
  | k + 1, c, h => by
    simp only [Builtin.growBy]
    split
    · exact h
    · exact growBy_le k _ (by omega)
theorem next_le {n c : Nat} (h : c < n) : Builtin.nextslicecap n c ≤ 3 * n := by
  unfold Builtin.nextslicecap
  split
  · omega
  · split
    · omega
    · have := growBy_le (n := n) 4 c (by omega)
      omega
end Go.W

set_option linter.unusedVariables false
set_option linter.unusedSimpArgs false
namespace Go.W

section
variable {W B : Nat → Prop} {w : World} {μ : Nat → Option Nat}

theorem kill_block {hp : Ups} (hH : HOK W B w μ (lk hp)) (b : Nat) : HOK W B w μ (lk ((b, none) :: hp)) ∧ Tr B w μ (lk hp) w μ (lk ((b, none) :: hp)) := by
  have back : ∀ b' blk, lk ((b, none) :: hp) b' = some (some blk) → lk hp b' = some (some blk) := fun b' blk hb => by
    rw [lk_cons] at hb
    split at hb
    · cases hb
    · exact hb
  have hok : ∀ g, okS B w.heap.size μ (lk hp) g → okS B w.heap.size μ (lk ((b, none) :: hp)) g := fun g hg => ⟨hg.1, hg.2.1, fun b' blk hb hf => hg.2.2 b' blk (back b' blk hb) hf⟩
  refine ⟨⟨fun b' blk g hb hg => hH.lt b' blk g (back _ _ hb) hg, fun b1 b2 x1 x2 g h1 h2 => hH.apart b1 b2 x1 x2 g (back _ _ h1) (back _ _ h2), fun b' blk hb => BRep.mono_ok hok okS_lt (hH.rep b' blk (back _ _ hb))⟩, Tr.mk' (fun _ _ => rfl) hok (fun b' hb => ?_) (fun b' blk' _ hb => ⟨blk', back _ _ hb, rfl, rfl, rfl⟩) (fun b' blk' g c eT fr _ _ _ hc => ⟨c, eT, fr, hc, Nat.le_refl _⟩)⟩
  rw [lk_cons]; split
  · simp
  · exact hb

/-- A new name for nothing: the empty row. -/
theorem new_none {hp : Ups} (hH : HOK W B w μ (lk hp)) {d : Nat} (hd : lk hp d = none) (e : Ty) : HOK W B w (fun b => if b = d then none else μ b) (lk ((d, some ⟨e, [], false⟩) :: hp)) ∧
    Tr B w μ (lk hp) w (fun b => if b = d then none else μ b) (lk ((d, some ⟨e, [], false⟩) :: hp)) ∧ RepTV B w (fun b => if b = d then none else μ b) (lk ((d, some ⟨e, [], false⟩) :: hp)) (.one (.loc e d)) (.slice none 0 0) := by
  have hok : ∀ g, okS B w.heap.size μ (lk hp) g → okS B w.heap.size (fun b => if b = d then none else μ b) (lk ((d, some ⟨e, [], false⟩) :: hp)) g := fun g hg => ⟨hg.1, hg.2.1, fun b' blk hb hf => by
    rw [lk_cons] at hb
    by_cases hbd : d = b'
    · subst hbd; simp
    · rw [if_neg hbd] at hb; show (if b' = d then none else μ b') ≠ _; rw [if_neg (Ne.symm hbd)]; exact hg.2.2 b' blk hb hf⟩
  refine ⟨⟨fun b' blk g hb hg => ?_, fun b1 b2 x1 x2 g h1 h2 hf hne hg => ?_, fun b' blk hb => ?_⟩, Tr.mk' (fun _ _ => rfl) hok (fun b' hb => ?_) (fun b' blk' hb hb' => ?_) (fun b' blk' g c eT fr _ _ _ hc => ⟨c, eT, fr, hc, Nat.le_refl _⟩), ?_⟩
  · rw [lk_cons] at hb
    by_cases hbd : d = b'
    · subst hbd; rw [if_pos rfl] at hg; cases hg
    · rw [if_neg hbd] at hb; rw [if_neg (Ne.symm hbd)] at hg; exact hH.lt b' blk g hb hg
  · rw [lk_cons] at h1 h2
    by_cases hbd : d = b1
    · subst hbd; rw [if_pos rfl] at hg; cases hg
    · rw [if_neg hbd] at h1; rw [if_neg (Ne.symm hbd)] at hg
      by_cases hbd' : d = b2
      · subst hbd'; rw [if_pos rfl]; simp
      · rw [if_neg hbd'] at h2; rw [if_neg (Ne.symm hbd')]; exact hH.apart b1 b2 x1 x2 g h1 h2 hf hne hg
  · rw [lk_cons] at hb
    by_cases hbd : d = b'
    · subst hbd; rw [if_pos rfl] at hb ⊢; injection hb with hb; injection hb with hb; subst hb; rfl
    · rw [if_neg hbd] at hb; rw [if_neg (Ne.symm hbd)]; exact BRep.mono_ok hok okS_lt (hH.rep b' blk hb)
  · rw [lk_cons]; split
    · simp
    · exact hb
  · have hbd : d ≠ b' := fun he => hb (he ▸ hd)
    rw [lk_cons, if_neg hbd] at hb'
    exact ⟨blk', hb', rfl, rfl, by rw [if_neg (Ne.symm hbd)]⟩
  · refine ⟨_, by rw [lk_cons, if_pos rfl], fun blk hb => ?_⟩
    injection hb with hb; subst hb
    show SliceOf _ (if d = d then none else μ d) _ _ _ _
    rw [if_pos rfl]
    exact ⟨none, 0, rfl, Nat.le_refl _, rfl, rfl, rfl⟩

/-- A row written on in its own block, under a new name. -/
theorem grow_block {hp : Ups} (hH : HOK W B w μ (lk hp)) {b d g : Nat} {e : Ty} {l l' : List e.D} {c c' : Array Value} {eT : TypeId} (hd : lk hp d = none)
    (hb : lk hp b = some (some ⟨e, l, false⟩)) (hg : μ b = some g) (hc : w.heap[g]? = some (.cells c eT (0, 0))) (hs : c'.size = c.size) (hl' : l'.length * e.size ≤ c'.size)
    (hcs : ∀ i (h : i < l'.length), ∃ es, Rep w (okS B w.heap.size μ (lk hp)) e l'[i] es ∧ ∀ (j : Nat) v, es[j]? = some v → c'[i * e.size + j]? = some v) :
    HOK W B (w.setRow g c') (fun x => if x = d then some g else μ x) (lk ((d, some ⟨e, l', false⟩) :: (b, none) :: hp)) ∧
    Tr B w μ (lk hp) (w.setRow g c') (fun x => if x = d then some g else μ x) (lk ((d, some ⟨e, l', false⟩) :: (b, none) :: hp)) ∧ Fr W w (w.setRow g c') := by
  have hdb : d ≠ b := fun he => by rw [he, hb] at hd; cases hd
  have hsize : (w.setRow g c').heap.size = w.heap.size := setRow_size _ _ _
  have hne : ∀ g', okS B w.heap.size μ (lk hp) g' → g' ≠ g := fun g' hg' he => hg'.2.2 b _ hb rfl (he ▸ hg)
  have hold : ∀ g', okS B w.heap.size μ (lk hp) g' → (w.setRow g c').heap[g']? = w.heap[g']? := fun g' hg' => setRow_other w g g' c' (hne g' hg')
  have look : ∀ x blk, lk ((d, some ⟨e, l', false⟩) :: (b, none) :: hp) x = some (some blk) → (x = d ∧ blk = ⟨e, l', false⟩) ∨ (x ≠ d ∧ x ≠ b ∧ lk hp x = some (some blk)) := fun x blk hx => by
    rw [lk_cons, lk_cons] at hx
    split at hx
    · rename_i h; injection hx with hx; injection hx with hx; exact .inl ⟨h.symm, hx.symm⟩
    · rename_i h
      split at hx
      · cases hx
      · rename_i h'; exact .inr ⟨Ne.symm h, Ne.symm h', hx⟩
  have hok : ∀ g', okS B w.heap.size μ (lk hp) g' → okS B (w.setRow g c').heap.size (fun x => if x = d then some g else μ x) (lk ((d, some ⟨e, l', false⟩) :: (b, none) :: hp)) g' := fun g' hg' => by
    refine ⟨hg'.1, by rw [hsize]; exact hg'.2.1, fun x blk hx hf => ?_⟩
    show (if x = d then some g else μ x) ≠ _
    rcases look x blk hx with ⟨rfl, rfl⟩ | ⟨h1, h2, h3⟩
    · rw [if_pos rfl]; intro he; injection he with he; exact hne g' hg' he.symm
    · rw [if_neg h1]; exact hg'.2.2 x blk h3 hf
  refine ⟨⟨fun x blk g' hx hg' => ?_, fun x y b1 b2 g' hx hy hf hxy hg' => ?_, fun x blk hx => ?_⟩, Tr.mk' hold hok (fun x hx => ?_) (fun x blk' hx hx' => ?_) (fun x blk' g' c1 eT' fr hx hx' hg' hc' => ?_), ?_⟩
  · rw [hsize]
    rcases look x blk hx with ⟨rfl, rfl⟩ | ⟨h1, h2, h3⟩
    · rw [if_pos rfl] at hg'; injection hg' with hg'; subst hg'; obtain ⟨a1, a2, a3⟩ := hH.lt b _ _ hb hg; exact ⟨a1, a2, fun _ => a3 rfl⟩
    · rw [if_neg h1] at hg'; exact hH.lt x blk g' h3 hg'
  · rcases look x b1 hx with ⟨rfl, rfl⟩ | ⟨h1, h2, h3⟩
    · rw [if_pos rfl] at hg'; injection hg' with hg'; subst hg'
      rcases look y b2 hy with ⟨rfl, rfl⟩ | ⟨k1, k2, k3⟩
      · exact absurd rfl hxy
      · rw [if_neg k1]; exact hH.apart b y _ b2 _ hb k3 rfl (Ne.symm k2) hg
    · rw [if_neg h1] at hg'
      rcases look y b2 hy with ⟨rfl, rfl⟩ | ⟨k1, k2, k3⟩
      · rw [if_pos rfl]; intro he; injection he with he; subst he
        exact hH.apart x b b1 _ _ h3 hb hf h2 hg' hg
      · rw [if_neg k1]; exact hH.apart x y b1 b2 g' h3 k3 hf hxy hg'
  · rcases look x blk hx with ⟨rfl, rfl⟩ | ⟨h1, h2, h3⟩
    · rw [if_pos rfl]
      refine ⟨c', eT, setRow_heap w g c c' eT (0, 0) hc, hl', fun i hi => ?_⟩
      obtain ⟨es, hr, hes⟩ := hcs i hi
      exact ⟨es, Rep.mono (fun g' hg' _ => hold g' hg') (fun g' hg' _ => hok g' hg') hr okS_lt, hes⟩
    · rw [if_neg h1]
      exact BRep.mono hold (fun g' hg' => setRow_other w g g' c' (fun he => hH.apart b x _ blk g hb h3 rfl (Ne.symm h2) hg (he ▸ hg'))) hok okS_lt (hH.rep x blk h3)
  · rw [lk_cons, lk_cons]; split
    · simp
    · split
      · simp
      · exact hx
  · have hxd : x ≠ d := fun he => hx (he ▸ hd)
    rcases look x blk' hx' with ⟨rfl, rfl⟩ | ⟨h1, h2, h3⟩
    · exact absurd rfl hxd
    · exact ⟨blk', h3, rfl, rfl, by rw [if_neg h1]⟩
  · by_cases hgg : g' = g
    · subst hgg
      rw [setRow_heap w g' c c' eT (0, 0) hc] at hc'
      injection hc' with hc'; injection hc' with hc' _; subst hc'
      exact ⟨c, eT, (0, 0), hc, by omega⟩
    · rw [setRow_other w g g' c' hgg] at hc'
      exact ⟨c1, eT', fr, hc', Nat.le_refl _⟩
  · exact ⟨rfl, rfl, rfl, by rw [hsize]; exact Nat.le_refl _, fun g' hg' hn => setRow_other w g g' c' (fun he => hn (he ▸ (hH.lt b _ g hb hg).2.2 rfl)), fun g' c1 eT1 fr1 hg' hc1 => by
    by_cases hgg : g' = g
    · subst hgg
      rw [setRow_heap w g' c c' eT (0, 0) hc] at hc1
      injection hc1 with hc1; injection hc1 with hc1 _; subst hc1
      exact ⟨c, eT, (0, 0), hc, by omega⟩
    · rw [setRow_other w g g' c' hgg] at hc1
      exact ⟨c1, eT1, fr1, hc1, Nat.le_refl _⟩⟩
end

section
variable {P : Program} {t t2 te te2 : TypeId} (hu : P.underlying t = some (.slice te)) (hu2 : P.underlying t2 = some (.slice te2)) {inf : TypeInfo} (hinf : P.info? te = some inf) {sz : Nat} (hsz : inf.size = sz)
include hu hu2 hinf hsz

theorem run_app_none (rest : List TypeId) (ty : TypeId) (xA : Option Addr) (xc : Nat) (w : World) :
    (Builtin.append_ (t :: t2 :: rest).toArray ty #[.slice none 0 0, .slice xA 0 xc]).run P w = .ok (.slice none 0 0) w := by
  have hfc : (Builtin.firstCells inf.size 0 (.slice xA 0 xc)).run P w = .ok #[] w := by
    cases xA with
    | none => simp [Builtin.firstCells]
    | some a => simp [Builtin.firstCells, loadCells, loadCellsFrom]
  simp [Builtin.append_, underlying, hu, hu2, sizeOf, typeInfo, hinf, Builtin.lenOf, hfc]

theorem run_app_fit (rest : List TypeId) (ty : TypeId) {g sLen sCap m xc : Nat} {xA : Option Addr} {c : Array Value} {eT : TypeId} {cs : List Value} {w : World} (hg : w.heap[g]? = some (.cells c eT (0, 0)))
    (hcs : cs.length = m * sz) (h1 : ∀ x ∈ cs, x.oneCell' = true) (hfc : (Builtin.firstCells sz m (.slice xA m xc)).run P w = .ok cs.toArray w) (hroom : sLen + m ≤ sCap) (hfit : sLen * sz + cs.length ≤ c.size) :
    (Builtin.append_ (t :: t2 :: rest).toArray ty #[.slice (some ⟨g, 0, none⟩) sLen sCap, .slice xA m xc]).run P w = .ok (.slice (some ⟨g, 0, none⟩) (sLen + m) sCap) (w.setRow g (splice c.toList cs (sLen * sz)).toArray) := by
  subst hsz
  have hst := run_storeCells_at P g (sLen * inf.size) eT cs 0 c w hg (by simpa using hfit) h1
  simp only [Nat.add_zero] at hst
  simp [Builtin.append_, underlying, hu, hu2, sizeOf, typeInfo, hinf, Builtin.lenOf, hroom, hfc, rep_add, hst, splice]

theorem run_app_grow (rest : List TypeId) (ty : TypeId) {zv : Value} (hz : inf.zero = some zv) (hpos : 0 < inf.bytes) {sLen sCap m xc : Nat} {sA xA : Option Addr} {cs olds : List Value} {w : World}
    (hfs : ∀ w' : World, w'.heap = w.heap → (Builtin.firstCells sz sLen (.slice sA sLen sCap)).run P w' = .ok olds.toArray w') (hfc : ∀ w' : World, w'.heap = w.heap → (Builtin.firstCells sz m (.slice xA m xc)).run P w' = .ok cs.toArray w')
    (hroom : sCap < sLen + m) (hb : sLen + m ≤ 70368744177664 / inf.bytes) :
    ∃ newCap, sLen + m ≤ newCap ∧ (Builtin.append_ (t :: t2 :: rest).toArray ty #[.slice sA sLen sCap, .slice xA m xc]).run P w =
      .ok (.slice (some ⟨w.heap.size, 0, none⟩) (sLen + m) newCap) (w.drew.alloc (.cells (olds ++ cs ++ (Builtin.zeroCells zv.cells (newCap - (sLen + m))).toList).toArray te)) := by
  subst hsz
  have hmul : (sLen + m) * inf.bytes ≤ 70368744177664 := by
    have := Nat.mul_le_mul_right inf.bytes hb
    have h2 := Nat.div_mul_le_self 70368744177664 inf.bytes
    omega
  have hnext : Builtin.nextslicecap (sLen + m) sCap * inf.bytes ≤ 281474976710656 := by
    have := Nat.mul_le_mul_right inf.bytes (next_le hroom)
    rw [Nat.mul_assoc] at this
    omega
  refine ⟨(Question.appendCap (sLen + m) sCap te).cut (w.tape w.drawn (.appendCap (sLen + m) sCap te)), by simp [Question.cut], ?_⟩
  have h1 : ¬ (sLen + m ≤ sCap) := by omega
  have h2 : ¬ (Builtin.nextslicecap (sLen + m) sCap * inf.bytes > 281474976710656) := by omega
  have h3 : inf.bytes ≠ 0 := by omega
  have hf : (Question.appendCap (sLen + m) sCap te).forced = false := rfl
  have e1 := hfs w.drew rfl
  have e2 := hfc w.drew rfl
  simp [Builtin.append_, underlying, hu, hu2, sizeOf, typeInfo, hinf, Builtin.lenOf, h1, h2, h3, hf, zeroValue, hz, newRow, e1, e2]
  congr 2
  apply Array.ext'
  simp
end
end Go.W

set_option linter.unusedVariables false
set_option linter.unusedSimpArgs false
namespace Go.W

theorem Rep.same {w w' : World} {ok : Nat → Prop} (hw : w'.heap = w.heap) : ∀ {t : Ty} {v : t.D} {cs : List Value}, Rep w ok t v cs → Rep w' ok t v cs
  | .int _, _, _, h => h
  | .bool, _, _, h => h
  | .str, _, _, h => h
  | .fn _, _, _, h => h
  | .slice e, l, _, h => by
    obtain ⟨A, c, rfl, hle, h⟩ := h
    refine ⟨A, c, rfl, hle, fun i hi => ?_⟩
    obtain ⟨g, o, es, ha, hg, hr, hc⟩ := h i hi
    exact ⟨g, o, es, ha, hg, Rep.same hw hr, fun j v hj => by have := hc j v hj; simpa [World.cell?, hw] using this⟩
  | .pair a b, _, _, h => by
    obtain ⟨c1, c2, rfl, h1, h2⟩ := h
    exact ⟨c1, c2, rfl, Rep.same hw h1, Rep.same hw h2⟩
  | .arr n e, l, _, h => by
    obtain ⟨hn, ess, rfl, hl, hr⟩ := h
    exact ⟨hn, ess, rfl, hl, fun i hi hi' => Rep.same hw (hr i hi hi')⟩

theorem HOK.drew {W B : Nat → Prop} {w : World} {μ : Nat → Option Nat} {h : Hp} (hH : HOK W B w μ h) : HOK W B w.drew μ h :=
  ⟨hH.lt, hH.apart, fun b blk hb => BRep.mono (w := w) (fun _ _ => rfl) (fun _ _ => rfl) (fun _ hg => hg) okS_lt (hH.rep b blk hb)⟩
theorem Tr.drew {B : Nat → Prop} {w : World} {μ : Nat → Option Nat} {h : Hp} : Tr B w μ h w.drew μ h :=
  Tr.mk' (fun _ _ => rfl) (fun _ hg => hg) (fun _ hb => hb) (fun b blk' _ hb => ⟨blk', hb, rfl, rfl, rfl⟩) (fun b blk' g c eT fr _ _ _ hc => ⟨c, eT, fr, hc, Nat.le_refl _⟩)
theorem Lies.same {w w' : World} {ok : Nat → Prop} (hw : w'.heap = w.heap) {e : Ty} {l : List e.D} {cs : List Value} (h : Lies w ok e l cs) : Lies w' ok e l cs :=
  ⟨h.len, fun i hi => let ⟨es, hr, hes⟩ := h.at_ i hi; ⟨es, hr.same hw, hes⟩⟩

section
variable {P : Program} {E : Env} (hE : EnvOK P E) {ρ : Type} {o : Oper} {st : St} {K : TV → Ups → Option ρ} {r : ρ}

/-- What append needs of its types. -/
structure AppTy (P : Program) (o : Oper) (s x : Operand) (e : Ty) (bytes : Nat) : Prop where
  ex : ∃ t t2 rest te te2 inf zv, o.op = .call { callee := .builtin .append, args := #[s, x], argTypes := (t :: t2 :: rest).toArray } ∧ P.underlying t = some (.slice te) ∧ P.underlying t2 = some (.slice te2) ∧ P.info? te = some inf ∧ inf.size = e.size ∧ inf.bytes = bytes ∧ inf.zero = some zv ∧ zv.cells.toList = zc e ∧ 0 < bytes ∧ 0 < e.size

/-- A row that is made anew, of cells that lie. -/
theorem grown_new {W B : Nat → Prop} {w : World} {μ : Nat → Option Nat} {hp : Ups} (hH : HOK W B w μ (lk hp)) {d : Nat} (hd : lk hp d = none) (hWB : ∀ g, w.heap.size ≤ g → W g ∧ B g)
    {e : Ty} {l : List e.D} {cs rest : List Value} {te : TypeId} (hL : Lies w (okS B w.heap.size μ (lk hp)) e l cs) (cap : Nat) (hcap : l.length ≤ cap) (hsz : (cs ++ rest).length = cap * e.size) :
    ∃ μ', Fr W w (w.drew.alloc (.cells (cs ++ rest).toArray te)) ∧ HOK W B (w.drew.alloc (.cells (cs ++ rest).toArray te)) μ' (lk ((d, some ⟨e, l, false⟩) :: hp)) ∧
      Tr B w μ (lk hp) (w.drew.alloc (.cells (cs ++ rest).toArray te)) μ' (lk ((d, some ⟨e, l, false⟩) :: hp)) ∧
      RepTV B (w.drew.alloc (.cells (cs ++ rest).toArray te)) μ' (lk ((d, some ⟨e, l, false⟩) :: hp)) (.one (.loc e d)) (.slice (some ⟨w.heap.size, 0, none⟩) l.length cap) := by
  have hnew := new_block (w := w.drew) hH.drew hd hWB e l (cs ++ rest).toArray te (by
    rw [List.size_toArray, hsz]; exact Nat.mul_le_mul_right _ hcap) (fun i hi => by
    obtain ⟨es, hr, hes⟩ := hL.at_ i hi
    refine ⟨es, Rep.same (w := w) (w' := w.drew) (ok := okS B w.heap.size μ (lk hp)) rfl hr, fun j u hj => ?_⟩
    have := hes j u hj
    rw [List.getElem?_toArray, List.getElem?_append_left (List.getElem?_eq_some_iff.1 this).1]; exact this)
  exact ⟨_, (Fr.refl W w).drew.alloc _, hnew.1, Tr.drew.trans hnew.2, new_loc (w := w.drew) e l _ te cap hcap (by rw [List.size_toArray, hsz]; exact Nat.le_refl _)⟩

theorem zeros_len {zv : Value} {e : Ty} (hz : zv.cells.toList = zc e) (n : Nat) : (Builtin.zeroCells zv.cells n).toList.length = n * e.size := by
  have : zv.cells.size = e.size := by rw [← Array.length_toList, hz]; exact (Rep.zero default (fun _ => True) e).size
  simp [Builtin.zeroCells, this]

theorem exec_append {a : Act} {s x : Operand} {ats : Array TypeId} (ho : o.op = .call { callee := .builtin .append, args := #[s, x], argTypes := ats }) {w w' : World} {v : Value} (h : (Builtin.append_ ats o.type #[a.eval s, a.eval x]).run P w = .ok v w') :
    (execOp a.eval o).run P w = .ok (.value v) w' := by
  simp [execOp, ho, resolve, invoke, builtin, h]

theorem sem_append_nil {s x : Operand} {e : Ty} {bytes d : Nat} (hA : AppTy P o s x e bytes) (hd : lk st.hp d = none) (hs : opv st s = some (.one .nil)) {p : PV} (hx : opv st x = some (.one p)) {ys : List e.D}
    (hrd : ∀ (W B : Nat → Prop) (w : World) (μ : Nat → Option Nat) v, HOK W B w μ (lk st.hp) → RepPV B w μ (lk st.hp) p v → RdOK w (okS B w.heap.size μ (lk st.hp)) e ys v) (hb : ys.length ≤ 70368744177664 / bytes) :
    OpSem P o st (.one (.loc e d)) [(d, some ⟨e, ys, false⟩)] := by
  obtain ⟨t, t2, rest, te, te2, inf, zv, ho, hu, hu2, hinf, hsz, hby, hz, hzc, hpos, hes⟩ := hA
  intro W B w μ a hWB hH hT K Q hK
  have hsv : a.eval s = .slice none 0 0 := opv_sound hT hs
  have hrd := hrd W B w μ _ hH (opv_sound hT hx)
  obtain ⟨cs, hL, hfc⟩ := hrd.first
  obtain ⟨A, cap, hxe, hxc⟩ := hrd
  by_cases h0 : ys.length = 0
  · obtain rfl : ys = [] := List.eq_nil_of_length_eq_zero h0
    have hrun := run_app_none hu hu2 hinf hsz rest o.type A cap w
    rw [List.length_nil] at hxe
    rw [← hsv, ← hxe] at hrun
    obtain ⟨n1, n2, n3⟩ := new_none hH hd e
    exact wp_value (exec_append ho hrun) (hK _ _ _ (.refl _ _) n1 n2 (by rw [hsv]; exact n3))
  · rw [hxe] at hfc
    subst hby
    obtain ⟨newCap, hge, hrun⟩ := run_app_grow hu hu2 hinf hsz rest o.type hz hpos (sLen := 0) (sCap := 0) (sA := none) (olds := []) (cs := cs) (w := w) (m := ys.length) (xA := A) (xc := cap) (fun w' _ => by simp [Builtin.firstCells]) (fun w' hw => hfc P w' hw) (by omega) (by omega)
    rw [← hsv, ← hxe] at hrun
    simp only [Nat.zero_add, List.nil_append] at hrun hge
    obtain ⟨μ', g1, g2, g3, g4⟩ := grown_new (te := te) hH hd hWB hL (rest := (Builtin.zeroCells zv.cells (newCap - ys.length)).toList) newCap hge (by
      rw [List.length_append, hL.len, zeros_len hzc, ← Nat.add_mul]; congr 1; omega)
    exact wp_value (exec_append ho hrun) (hK _ _ _ g1 g2 g3 g4)

theorem sem_append_own {s x : Operand} {e : Ty} {bytes d : Nat} (hA : AppTy P o s x e bytes) (hd : lk st.hp d = none) {b : Nat} {l : List e.D} (hbk : lk st.hp b = some (some ⟨e, l, false⟩)) {n : Nat} (hn : n ≤ l.length) {q : PV} (hs : opv st s = some (.one q))
    (hq : ∀ B w μ v, RepPV B w μ (lk st.hp) q v → SliceOf w (μ b) e.size 0 n v) {p : PV} (hx : opv st x = some (.one p)) {ys : List e.D}
    (hrd : ∀ (W B : Nat → Prop) (w : World) (μ : Nat → Option Nat) v, HOK W B w μ (lk st.hp) → RepPV B w μ (lk st.hp) p v → RdOK w (okS B w.heap.size μ (lk st.hp)) e ys v) (hb : n + ys.length ≤ 70368744177664 / bytes) :
    OpSem P o st (.one (.loc e d)) [(d, some ⟨e, l.take n ++ ys, false⟩), (b, none)] := by
  obtain ⟨t, t2, rest, te, te2, inf, zv, ho, hu, hu2, hinf, hsz, hby, hz, hzc, hpos, hes⟩ := hA
  intro W B w μ a hWB hH hT K Q hK
  have hsl := hq B w μ _ (opv_sound hT hs)
  have hrd := hrd W B w μ _ hH (opv_sound hT hx)
  obtain ⟨cs, hL, hfc⟩ := hrd.first
  obtain ⟨A, cap, hxe, hxc⟩ := hrd
  have hro := rd_own hH hbk (off := 0) (len := n) (by simpa using hn) hsl
  dsimp only at hro
  rw [List.drop_zero] at hro
  obtain ⟨os, hLo, hfo⟩ := hro.first
  have htl : (l.take n).length = n := by simp; omega
  obtain ⟨sA, sCap, hse, hsle, hm⟩ := hsl
  have hdb : lk ((b, none) :: st.hp) d = none := by
    rw [lk_cons]; split
    · rename_i he; rw [he] at hbk; rw [hbk] at hd; cases hd
    · exact hd
  have hgrow : sCap < n + ys.length → o.wp P a w K Q := fun hlt => by
    rw [hxe] at hfc
    rw [hse] at hfo
    rw [htl] at hfo
    subst hby
    obtain ⟨newCap, hge, hrun⟩ := run_app_grow hu hu2 hinf hsz rest o.type hz hpos (sLen := n) (sCap := sCap) (sA := sA) (olds := os) (cs := cs) (w := w) (m := ys.length) (xA := A) (xc := cap) (fun w' hw => hfo P w' hw) (fun w' hw => hfc P w' hw) hlt hb
    rw [← hse, ← hxe] at hrun
    obtain ⟨k1, k2⟩ := kill_block hH b
    have hLL := hLo.append hL
    have hLL' : Lies w (okS B w.heap.size μ (lk ((b, none) :: st.hp))) e (l.take n ++ ys) (os ++ cs) := by
      refine ⟨hLL.len, fun i hi => ?_⟩
      obtain ⟨es, hr, hes⟩ := hLL.at_ i hi
      refine ⟨es, Rep.mono (fun _ _ _ => rfl) (fun g hg _ => ⟨hg.1, hg.2.1, fun b' blk hb' hf => ?_⟩) hr okS_lt, hes⟩
      rw [lk_cons] at hb'
      split at hb'
      · cases hb'
      · exact hg.2.2 b' blk hb' hf
    obtain ⟨μ', g1, g2, g3, g4⟩ := grown_new (te := te) k1 hdb hWB hLL' (rest := (Builtin.zeroCells zv.cells (newCap - (n + ys.length))).toList) newCap (by rw [List.length_append, htl]; exact hge) (by
      rw [List.length_append, hLL.len, zeros_len hzc, ← Nat.add_mul, List.length_append, htl]; congr 1; omega)
    rw [List.length_append, htl] at g4
    exact wp_value (exec_append ho hrun) (hK _ _ _ g1 g2 (k2.trans g3) g4)
  by_cases hfit : n + ys.length ≤ sCap
  · cases hmu : μ b with
    | none =>
      rw [hmu] at hm
      obtain ⟨rfl, h1, rfl⟩ := hm
      have hy : ys.length = 0 := by omega
      obtain rfl : ys = [] := List.eq_nil_of_length_eq_zero hy
      have hrun := run_app_none hu hu2 hinf hsz rest o.type A cap w
      rw [List.length_nil] at hxe
      rw [h1] at hse
      rw [← hse, ← hxe] at hrun
      obtain ⟨k1, k2⟩ := kill_block hH b
      obtain ⟨n1, n2, n3⟩ := new_none k1 hdb e
      have h2 : l.take n ++ ([] : List e.D) = [] := by rw [List.append_nil, h1]; rfl
      rw [h2] at hK
      rw [hse] at hrun
      exact wp_value (exec_append ho (by rw [hse]; exact hrun)) (hK _ _ _ (.refl _ _) n1 (k2.trans n2) n3)
    | some g =>
      rw [hmu] at hm
      obtain ⟨of, rfl, h0, _, hcap⟩ := hm
      have h0 := h0 rfl
      subst h0
      have hbr := hH.rep b _ hbk
      rw [hmu] at hbr
      obtain ⟨c, eT, hc, hcs, hel⟩ := hbr
      dsimp only at hcs hel
      have hcap := hcap c eT _ hc
      have hmul : (n + ys.length) * e.size ≤ sCap * e.size := Nat.mul_le_mul_right _ hfit
      have hmul' := hmul
      rw [Nat.add_mul] at hmul'
      have hclen := hL.len
      rw [hxe] at hfc
      have hrun := run_app_fit hu hu2 hinf hsz rest o.type (sLen := n) (sCap := sCap) (m := ys.length) (xA := A) (xc := cap) (cs := cs) hc hclen hL.cell (hfc P w rfl) hfit (by omega)
      rw [← hse, ← hxe] at hrun
      have hle : n * e.size + cs.length ≤ c.toList.length := by have := Array.length_toList (xs := c); omega
      obtain ⟨q1, q2, q3⟩ := grow_block hH (l' := l.take n ++ ys) (c' := (splice c.toList cs (n * e.size)).toArray) hd hbk hmu hc (by rw [List.size_toArray, splice_length hle, Array.length_toList]) (by
          rw [List.size_toArray, splice_length hle, List.length_append, htl, Array.length_toList (xs := c)]; omega) (fun i hi => by
        have hL2 : ∀ i (h : i < (l.take n).length), (l.take n)[i] = l[i]'(by simp at h; omega) := fun i h => by simp
        rw [List.getElem_append]
        split
        · rename_i hin
          rw [htl] at hin
          obtain ⟨es, hr, hes⟩ := hel i (by omega)
          refine ⟨es, by rw [hL2]; exact hr, fun j u hj => ?_⟩
          have := hes j u hj
          have hjl : j < e.size := by rw [← hr.size]; exact (List.getElem?_eq_some_iff.1 hj).1
          have hii : (i + 1) * e.size ≤ n * e.size := Nat.mul_le_mul_right _ hin
          rw [Nat.succ_mul] at hii
          rw [List.getElem?_toArray, splice_get hle, if_neg (by omega)]
          simpa using this
        · rename_i hin
          rw [htl] at hin
          have hiy : i - n < ys.length := by rw [List.length_append, htl] at hi; omega
          obtain ⟨es, hr, hes⟩ := hL.at_ (i - n) hiy
          refine ⟨es, by simpa [htl] using hr, fun j u hj => ?_⟩
          have := hes j u hj
          have hjl := (List.getElem?_eq_some_iff.1 this).1
          have hii : n * e.size ≤ i * e.size := Nat.mul_le_mul_right _ (by omega)
          have hsub : (i - n) * e.size = i * e.size - n * e.size := Nat.sub_mul _ _ _
          rw [List.getElem?_toArray, splice_get hle, if_pos (by omega), ← this]
          congr 1; omega)
      refine wp_value (exec_append ho hrun) (hK _ _ _ q3 q1 q2 ?_)
      refine ⟨_, by rw [List.cons_append, lk_cons, if_pos rfl], fun blk hb' => ?_⟩
      injection hb' with hb'; subst hb'
      show SliceOf _ (if d = d then some g else μ d) _ _ _ _
      rw [if_pos rfl]
      refine ⟨_, sCap, by rw [List.length_append, htl], by rw [List.length_append, htl]; exact hfit, 0, rfl, fun _ => rfl, fun _ => by simp, fun c' eT' fr hc' => ?_⟩
      rw [setRow_heap w g c _ eT (0, 0) hc] at hc'
      injection hc' with hc'; injection hc' with hc' _; subst hc'
      rw [List.size_toArray, splice_length hle, Array.length_toList]
      exact hcap
  · exact hgrow (by omega)
end
end Go.W

set_option linter.unusedVariables false
set_option linter.unusedSimpArgs false
namespace Go.W
section
variable {P : Program} {E : Env} (hE : EnvOK P E) {ρ : Type} {o : Oper} {st : St} {K : TV → Ups → Option ρ} {r : ρ}

theorem hlk_of {hp : Ups} {b : Nat} {blk : Blk} (h : lk hp b = some (some blk)) : hlk hp b = some blk := by simp [hlk, h]

include hE in
theorem op_append {args : Array Operand} {ats : Array TypeId} (ho : o.op = .call { callee := .builtin .append, args := args, argTypes := ats }) (h : opE E st o K = some r) : OpLaw E P o st K r := by
  simp only [opE, ho] at h
  split at h
  · rename_i d t t2 ts hd hts
    obtain ⟨i, hi, h⟩ := tyOf_inv h
    obtain ⟨i2, hi2, h⟩ := tyOf_inv h
    split at h
    · rename_i e e2 hty hty2
      split at h
      · rename_i hf
        obtain ⟨ps, h2, hl1, hlen, hps⟩ := opArgs_inv h
        clear h
        match ps, h2, hlen, hps, hl1 with
        | [], h2, _, _, _ => cases h2
        | [_], h2, _, _, _ => cases h2
        | _ :: _ :: _ :: _, h2, _, _, _ => cases h2
        | [s, x], h3, hlen, hps, hl1 =>
          have hlaw : ∀ (ρ' : Type) (K' : TV → Ups → Option ρ'), opE E st o K' = appE st e i.bytes d s x K' := fun ρ' K' => by
            simp only [opE, ho, hd, hts, tyOf, hi, hi2, hty, hty2, hf, hl1]
          obtain ⟨xs, xx, hx⟩ : ∃ xs xx, args.toList = [xs, xx] := by
            match args.toList, hlen with
            | [a, b], _ => exact ⟨a, b, rfl⟩
          have hax : args = #[xs, xx] := by apply Array.ext'; simpa using hx
          have hats : ats = (t :: t2 :: ts).toArray := by apply Array.ext'; simpa using hts
          subst hax
          subst hats
          have hs := hps 0 xs s rfl rfl
          have hx := hps 1 xx x rfl rfl
          dsimp only at h3
          obtain ⟨te, hu, _, inf, hinf, hby, hsz, hpos, hepos, zv, hz, hzc⟩ := und_slice hE hi hty
          obtain ⟨te2, hu2, _⟩ := und_slice hE hi2 hty2
          have hA : AppTy P o xs xx e i.bytes := ⟨t, t2, ts, te, te2, inf, zv, ho, hu, hu2, hinf, hsz, hby, hz, hzc, hpos, hepos⟩
          unfold appE at h3
          obtain ⟨ys, hyl, h4, hrd⟩ := rdL_sound h3
          have fin : ∀ {tv : TV} {ups : Ups}, (∀ (ρ' : Type) (K' : TV → Ups → Option ρ'), appE st e i.bytes d s x K' = K' tv ups) → K tv ups = some r → (∀ b, lk ups b ≠ none → lk st.hp b ≠ none ∨ d = b) → OpSem P o st tv ups → OpLaw E P o st K r := fun {tv ups} h1 h2 h3 h4 =>
            ⟨tv, ups, fun ρ' K' => by rw [hlaw, h1], h2, fun b hb => (h3 b hb).imp id (fun he => ⟨0, by rw [hd]; simpa using he⟩), h4⟩
          cases s with
          | nil =>
            dsimp only at h4
            split at h4
            · rename_i hb
              refine fin (fun ρ' K' => by simp only [appE, hyl]; rw [if_pos hb]) h4 (fun b hb => ?_) (sem_append_nil hA hf hs hx hrd hb)
              rw [lk_cons] at hb
              split at hb
              · rename_i he; exact .inr he
              · exact absurd rfl hb
            · cases h4
          | loc e' b =>
            dsimp only at h4
            split at h4
            · rename_i e0 l hbk
              cases hc : castL e0 e l with
              | none => rw [hc] at h4; cases h4
              | some l' =>
                rw [hc] at h4
                obtain ⟨e1, e2⟩ := castL_inv hc
                subst e1
                subst e2
                dsimp only at h4
                split at h4
                · rename_i hb
                  have hbk' := hlk_inv hbk
                  have hsem := sem_append_own hA hf hbk' (n := l'.length) (Nat.le_refl _) hs (fun B w μ v hv => by
                    obtain ⟨ob, hob, hsl⟩ := hv
                    rw [hbk'] at hob; injection hob with hob; subst hob
                    exact hsl _ rfl) hx hrd hb
                  rw [List.take_length] at hsem
                  refine fin (fun ρ' K' => by simp only [appE, hyl, hbk, hc]; rw [if_pos hb]) h4 (fun b' hb' => ?_) hsem
                  rw [lk_cons] at hb'
                  split at hb'
                  · rename_i he; exact .inr he
                  · rw [lk_cons] at hb'
                    split at hb'
                    · rename_i he; subst he; exact .inl (by rw [hbk']; simp)
                    · exact absurd rfl hb'
                · cases h4
            · cases h4
          | sub e' b off len =>
            dsimp only at h4
            split at h4
            · rename_i e0 l hbk
              cases hc : castL e0 e l with
              | none => rw [hc] at h4; cases h4
              | some l' =>
                rw [hc] at h4
                obtain ⟨e1, e2⟩ := castL_inv hc
                subst e1
                subst e2
                dsimp only at h4
                split at h4
                · rename_i hb
                  have hbk' := hlk_inv hbk
                  by_cases hn : len.toNat ≤ l'.length
                  · have hsem := sem_append_own hA hf hbk' (n := len.toNat) hn hs (fun B w μ v hv => by
                      obtain ⟨ob, hob, hsl⟩ := hv
                      rw [hbk'] at hob; injection hob with hob; subst hob
                      obtain ⟨a1, a2, a3, a4⟩ := hsl _ rfl
                      rw [hb.1] at a4
                      exact a4) hx hrd (by have := hb.2; rw [List.length_take] at this; omega)
                    refine fin (fun ρ' K' => by simp only [appE, hyl, hbk, hc]; rw [if_pos hb]) h4 (fun b' hb' => ?_) hsem
                    rw [lk_cons] at hb'
                    split at hb'
                    · rename_i he; exact .inr he
                    · rw [lk_cons] at hb'
                      split at hb'
                      · rename_i he; subst he; exact .inl (by rw [hbk']; simp)
                      · exact absurd rfl hb'
                  · -- the length is one of the block's
                    refine fin (fun ρ' K' => by simp only [appE, hyl, hbk, hc]; rw [if_pos hb]) h4 (fun b' hb' => ?_) ?_
                    · rw [lk_cons] at hb'
                      split at hb'
                      · rename_i he; exact .inr he
                      · rw [lk_cons] at hb'
                        split at hb'
                        · rename_i he; subst he; exact .inl (by rw [hbk']; simp)
                        · exact absurd rfl hb'
                    · intro W B w μ a hWB hH hT
                      obtain ⟨ob, hob, hsl⟩ := opv_sound hT hs
                      rw [hbk'] at hob; injection hob with hob; subst hob
                      obtain ⟨a1, a2, a3, a4⟩ := hsl _ rfl
                      dsimp only at a3
                      omega
                · cases h4
            · cases h4
          | _ => cases h4
      · cases h
    · cases h
  · cases h

/-- The elements of a row of zeros. -/
theorem zeros_at {e : Ty} {zv : Value} (hz : zv.cells.toList = zc e) (hpos : 0 < e.size) (n : Nat) (f : Nat → Value) (hf : ∀ k, f k = zv.cells[k % zv.cells.size]!) : ∀ i, i < n → ∀ (j : Nat) v, (zc e)[j]? = some v → ((Array.range (n * e.size)).map f)[i * e.size + j]? = some v := by
  intro i hi j v hj
  have hsz : zv.cells.size = e.size := by rw [← Array.length_toList, hz]; exact (Rep.zero default (fun _ => True) e).size
  have hjl : j < e.size := by
    have := (List.getElem?_eq_some_iff.1 hj).1
    rw [(Rep.zero default (fun _ => True) e).size] at this; exact this
  have hlt : i * e.size + j < n * e.size := by
    have := Nat.mul_le_mul_right e.size (show i + 1 ≤ n from hi)
    rw [Nat.succ_mul] at this; omega
  rw [Array.getElem?_map, Array.getElem?_range, if_pos hlt]
  simp only [Option.map_some, hf, hsz]
  have hmod : (i * e.size + j) % e.size = j := by rw [Nat.mul_comm, Nat.mul_add_mod, Nat.mod_eq_of_lt hjl]
  rw [hmod]
  rw [← hz] at hj
  have : zv.cells[j]? = some v := by simpa using hj
  simp [getElem!_def, this]

theorem same_sound {l c : Operand} (h : sameOperand l c = true) (a : Act) (k : IntKind) (n : Int) (hl : a.eval l = .int k n) : ∃ k', a.eval c = .int k' n := by
  cases l with
  | tmp x =>
    cases c with
    | tmp y => exact ⟨k, by rw [← Nat.eq_of_beq_eq_true h]; exact hl⟩
    | _ => cases h
  | const v =>
    cases v with
    | int k1 a1 =>
      cases c with
      | const u =>
        cases u with
        | int k2 a2 =>
          have h : a1 = a2 := by simpa [sameOperand] using h
          subst h
          simp only [Act.eval, Value.int.injEq] at hl
          exact ⟨k2, by simp only [Act.eval, hl.2]⟩
        | _ => cases h
      | _ => cases h
    | _ => cases c <;> cases h
  | _ => cases c <;> cases h

include hE in
theorem op_makeSlice {t : TypeId} {l c : Operand} (ho : o.op = .makeSlice t l c) (h : opE E st o K = some r) : OpLaw E P o st K r := by
  simp only [opE, ho] at h
  obtain ⟨i, hi, h⟩ := tyOf_inv h
  split at h
  · rename_i e d hty hd hsame
    split at h
    · rename_i hf
      obtain ⟨k, n, hn, h⟩ := opInt_inv h
      split at h
      · rename_i hb
        refine ⟨_, _, fun ρ' K' => by simp only [opE, ho, tyOf, hi, hty, hd, hsame, hf, opInt, hn]; rw [if_pos hb], h, fun b hb => ?_, ?_⟩
        · rcases dst_fresh hd hb with h | h
          · exact absurd rfl h
          · exact .inr h
        intro W B w μ a hWB hH hT K Q hK
        obtain ⟨te, hu, hsz, inf, hinf, hby, hisz, hpos, hepos, zv, hz, hzc⟩ := und_slice hE hi hty
        have hl := rep_int (opv_sound hT hn)
        obtain ⟨k', hc⟩ := same_sound hsame a k n hl
        have hq1 : 70368744177664 / i.bytes * i.bytes ≤ 70368744177664 := Nat.div_mul_le_self _ _
        have hq2 : 70368744177664 / i.bytes ≤ 70368744177664 := Nat.div_le_self _ _
        have hb0 : 0 ≤ n := hb.1
        obtain ⟨m, rfl⟩ := Int.eq_ofNat_of_zero_le hb0
        have hb1 : m ≤ 70368744177664 / i.bytes := by have := hb.2; exact Int.ofNat_le.1 this
        have hbnd0 : m * i.bytes ≤ 70368744177664 := Nat.le_trans (Nat.mul_le_mul_right _ hb1) hq1
        have hn64' : m ≤ 70368744177664 := Nat.le_trans hb1 hq2
        have hn64 : (m : Int) ≤ 70368744177664 := by omega
        have hbnd : (m : Int) * i.bytes ≤ 70368744177664 := by
          have := Int.ofNat_le.2 hbnd0
          rwa [Int.natCast_mul] at this
        clear hq1 hq2 hb1
        have hwrap : IntKind.i64.wrap (m : Int) = (m : Int) := by
          unfold IntKind.wrap
          have e1 : (m : Int) % 2 ^ IntKind.i64.bits = (m : Int) := Int.emod_eq_of_lt hb0 (by simp [IntKind.bits]; omega)
          have e2 : ¬ ((m : Int) ≥ 2 ^ (IntKind.i64.bits - 1)) := by simp [IntKind.bits]; omega
          simp only [e1]
          simp [e2]
        have hbig : ¬ ((inf.bytes : Int) * (m : Int) > 281474976710656) := by rw [hby, Int.mul_comm]; omega
        have hrun : ∃ cells : Array Value, cells.size = (m : Int).toNat * e.size ∧ (∀ i', i' < (m : Int).toNat → ∀ (j : Nat) v, (zc e)[j]? = some v → cells[i' * e.size + j]? = some v) ∧
            (Instr.makeSlice t (a.eval l) (a.eval c)).run P w = .ok (.slice (some ⟨w.heap.size, 0, none⟩) (m : Int).toNat (m : Int).toNat) (w.alloc (.cells cells te)) := by
          by_cases h0 : (m : Int).toNat = 0
          · refine ⟨#[], by simp [h0], fun i' hi' => by omega, ?_⟩
            have : m = 0 := by omega
            subst this
            have hw0 : IntKind.i64.wrap 0 = 0 := hwrap
            simp [Instr.makeSlice, underlying, hu, hl, hc, asInt, asIntOf, typeInfo, hinf, hw0, sizeOf, newRow]
            congr 2
            apply Array.ext'
            simp
          · refine ⟨(Array.range ((m : Int).toNat * e.size)).map fun k => zv.cells[k % zv.cells.size]!, by simp, zeros_at hzc hepos (m : Int).toNat _ (fun _ => rfl), ?_⟩
            have hne : (m : Int).toNat * e.size ≠ 0 := by
              have := Nat.mul_pos (show 0 < (m : Int).toNat by omega) hepos; omega
            have hne' : ¬ ((m : Int) < 0) := by omega
            simp [Instr.makeSlice, underlying, hu, hl, hc, asInt, asIntOf, typeInfo, hinf, hwrap, sizeOf, hisz, newRow, zeroValue, hz, hne', hbig]
            intro hz0; exact absurd hz0 hne
        obtain ⟨cells, hcsz, hcells, hrun⟩ := hrun
        have hnew := new_block hH hf hWB e (List.replicate (m : Int).toNat e.z) cells te (by rw [List.length_replicate, hcsz]; exact Nat.le_refl _) (fun i' hi' => by
          rw [List.length_replicate] at hi'
          exact ⟨zc e, by rw [List.getElem_replicate]; exact Rep.zero _ _ _, fun j v hj => hcells i' hi' j v hj⟩)
        have hloc := new_loc (B := B) (w := w) (μ := μ) (hp := st.hp) (d := d) e (List.replicate (m : Int).toNat e.z) cells te (m : Int).toNat (by simp) (by rw [hcsz]; exact Nat.le_refl _)
        rw [List.length_replicate] at hloc
        exact wp_value (by simp [execOp, ho, hrun]) (hK _ _ _ (Fr.alloc (.refl _ _) _) hnew.1 hnew.2 hloc)
      · cases h
    · cases h
  · cases h
end
end Go.W

set_option linter.unusedVariables false
set_option linter.unusedSimpArgs false
namespace Go.W

theorem foldl_set (off : Nat) : ∀ (ys : List Value) (k : Nat) (cells : Array Value), off + k + ys.length ≤ cells.size →
    ((ys.zipIdx k).foldl (fun (cs : Array Value) (p : Value × Nat) => cs.setIfInBounds (off + p.2) p.1) cells).toList = splice cells.toList ys (off + k)
  | [], k, cells, h => by simp [splice]
  | y :: ys, k, cells, h => by
    simp only [List.zipIdx_cons, List.foldl_cons]
    rw [foldl_set off ys (k + 1) _ (by simp at h ⊢; omega)]
    unfold splice
    have e := list_seg_step cells.toList (off + k) y ys (by simp at h ⊢; omega)
    simp only [Array.toList_setIfInBounds, List.length_cons]
    rw [← Nat.add_assoc, e]

theorem fill_step {place : Nat → Option (Nat × Nat)} {cells : Array Value} {i off size : Nat} {v : Value} {rest : List (Nat × Value)} (hp : place i = some (off, size)) (hs : v.cells.size = size) (hle : off + size ≤ cells.size) :
    ∃ cells' : Array Value, cells'.toList = splice cells.toList v.cells.toList off ∧ cells'.size = cells.size ∧ Instr.fill place cells ((i, v) :: rest) = Instr.fill place cells' rest := by
  have hl : off + 0 + v.cells.toList.length ≤ cells.size := by rw [Array.length_toList]; omega
  refine ⟨_, foldl_set off v.cells.toList 0 cells hl, ?_, ?_⟩
  · have := congrArg List.length (foldl_set off v.cells.toList 0 cells hl)
    rw [Array.length_toList (xs := List.foldl _ _ _), splice_length (by rw [Array.length_toList (xs := cells)]; omega), Array.length_toList (xs := cells)] at this
    exact this
  · simp only [Instr.fill, hp]
    rw [if_neg (by simp; omega)]
    congr 1
    rw [← Array.foldl_toList, Array.toList_zipIdx]

section
variable {ρ : Type} {st : St}

theorem fillS_sound {n : Nat} {t : Ty} {K : t.D → Ups → Option ρ} {r : ρ} : ∀ (ps : List (Nat × Operand)) (v : t.D) (ups : Ups), fillS st n t ps v ups K = some r → FzLe st.hp (ups ++ st.hp) →
    ∃ v' u, (∀ (ρ' : Type) (K' : t.D → Ups → Option ρ'), fillS st n t ps v ups K' = K' v' u) ∧ K v' u = some r ∧ FzLe (ups ++ st.hp) (u ++ st.hp) ∧ FzLe st.hp (u ++ st.hp) ∧
      ∀ (W B : Nat → Prop) (w : World) (μ : Nat → Option Nat) (a : Act) (place : Nat → Option (Nat × Nat)) (cells : Array Value), HOK W B w μ (lk st.hp) → TmOK B w μ st a →
        (∀ i s, i < n → subT (fpath n i) t = some s → ∃ off, offP (fpath n i) t = some off ∧ place i = some (off, s.size)) → Rep w (okS B w.heap.size μ (lk (ups ++ st.hp))) t v cells.toList →
        ∃ cells', Instr.fill place cells (ps.map fun p => (p.1, a.eval p.2)) = some cells' ∧ Rep w (okS B w.heap.size μ (lk (u ++ st.hp))) t v' cells'.toList
  | [], v, ups, h, hz => ⟨v, ups, fun _ _ => rfl, h, .refl _, hz, fun W B w μ a place cells _ _ _ hr => ⟨cells, rfl, hr⟩⟩
  | (i, x) :: ps, v, ups, h, hz => by
    simp only [fillS] at h
    obtain ⟨pv, hp, h⟩ := opOne_inv h
    split at h
    · rename_i s hs hi
      obtain ⟨y, u, hlaw, h, hz0, hz1, hrep⟩ := frz_sound h hz
      split at h
      · rename_i v1 hput
        rw [← List.append_assoc] at hz0 hz1 hrep
        obtain ⟨v', u', hlaw', hK, hz2, hz3, hsem⟩ := fillS_sound ps v1 (u ++ ups) h hz0
        refine ⟨v', u', fun ρ' K' => by simp only [fillS, opOne, hp, hs, hi, hlaw, hput]; exact hlaw' ρ' K', hK, hz1.trans hz2, hz3, fun W B w μ a place cells hH hT hpl hr => ?_⟩
        have hi' : i < n := Nat.le_of_ble_eq_true hi
        have hH' := HOK.fz hz hH
        have hxv := hrep W B w μ (a.eval x) hH' ((FzLe.tr hz).pv _ _ (opv_sound hT hp))
        obtain ⟨off, hoff, hplace⟩ := hpl i s hi' hs
        have hr1 : Rep w (okS B w.heap.size μ (lk (u ++ ups ++ st.hp))) t v cells.toList := Rep.mono (fun _ _ _ => rfl) (fun g hg _ => hz1.okS hg) hr okS_lt
        obtain ⟨_, hput'⟩ := putP_sound _ hput
        obtain ⟨hr2, hle⟩ := hput' w _ cells.toList _ off hr1 hxv.cells hoff
        have hsz := hxv.cells.size
        obtain ⟨cells1, hc1, _, hfill⟩ := fill_step (cells := cells) (rest := ps.map fun p => (p.1, a.eval p.2)) (v := a.eval x) hplace (by have := Array.length_toList (xs := (a.eval x).cells); omega) (by have := Array.length_toList (xs := cells); omega)
        rw [← hc1] at hr2
        obtain ⟨cells', hf, hr'⟩ := hsem W B w μ a place cells1 hH hT hpl hr2
        exact ⟨cells', by rw [List.map_cons, hfill]; exact hf, hr'⟩
      · cases h
    · cases h

theorem fillL_sound {n : Nat} {e : Ty} {K : List e.D → Ups → Option ρ} {r : ρ} : ∀ (ps : List (Nat × Operand)) (v : List e.D) (ups : Ups), fillL st e n ps v ups K = some r → FzLe st.hp (ups ++ st.hp) → v.length = n →
    ∃ v' u, (∀ (ρ' : Type) (K' : List e.D → Ups → Option ρ'), fillL st e n ps v ups K' = K' v' u) ∧ K v' u = some r ∧ FzLe (ups ++ st.hp) (u ++ st.hp) ∧ FzLe st.hp (u ++ st.hp) ∧ v'.length = n ∧
      ∀ (W B : Nat → Prop) (w : World) (μ : Nat → Option Nat) (a : Act) (cells : Array Value), HOK W B w μ (lk st.hp) → TmOK B w μ st a →
        Rep w (okS B w.heap.size μ (lk (ups ++ st.hp))) (.arr n e) v cells.toList →
        ∃ cells', Instr.fill (fun i => some (i * e.size, e.size)) cells (ps.map fun p => (p.1, a.eval p.2)) = some cells' ∧ Rep w (okS B w.heap.size μ (lk (u ++ st.hp))) (.arr n e) v' cells'.toList
  | [], v, ups, h, hz, hn => ⟨v, ups, fun _ _ => rfl, h, .refl _, hz, hn, fun W B w μ a cells _ _ hr => ⟨cells, rfl, hr⟩⟩
  | (i, x) :: ps, v, ups, h, hz, hn => by
    simp only [fillL] at h
    obtain ⟨pv, hp, h⟩ := opOne_inv h
    split at h
    · rename_i hi
      obtain ⟨y, u, hlaw, h, hz0, hz1, hrep⟩ := frz_sound h hz
      rw [← List.append_assoc] at hz0 hz1 hrep
      obtain ⟨v', u', hlaw', hK, hz2, hz3, hn', hsem⟩ := fillL_sound ps (v.set i y) (u ++ ups) h hz0 (by simpa using hn)
      refine ⟨v', u', fun ρ' K' => by simp only [fillL, opOne, hp, hi, hlaw]; exact hlaw' ρ' K', hK, hz1.trans hz2, hz3, hn', fun W B w μ a cells hH hT hr => ?_⟩
      have hi' : i < n := Nat.le_of_ble_eq_true hi
      have hH' := HOK.fz hz hH
      have hxv := hrep W B w μ (a.eval x) hH' ((FzLe.tr hz).pv _ _ (opv_sound hT hp))
      have hr1 : Rep w (okS B w.heap.size μ (lk (u ++ ups ++ st.hp))) (.arr n e) v cells.toList := Rep.mono (fun _ _ _ => rfl) (fun g hg _ => hz1.okS hg) hr okS_lt
      have hput : putP [.idx (i : Int)] e y (.arr n e) v = some (v.set i y) := by
        have hsame : ∀ t : Ty, ∃ q, Ty.same t t = some q := fun t => by
          induction t with
          | int k => exact ⟨_, dif_pos rfl⟩
          | bool => exact ⟨_, rfl⟩
          | str => exact ⟨_, rfl⟩
          | slice e ih => obtain ⟨⟨q⟩, hq⟩ := ih; exact ⟨⟨rfl⟩, by simp only [Ty.same, hq]⟩
          | pair a b ih1 ih2 => obtain ⟨⟨q⟩, hq⟩ := ih1; obtain ⟨⟨q'⟩, hq'⟩ := ih2; exact ⟨⟨rfl⟩, by simp only [Ty.same, hq, hq']⟩
          | arr n e ih => obtain ⟨⟨q⟩, hq⟩ := ih; exact ⟨⟨rfl⟩, by simp [Ty.same, hq]⟩
          | fn f => exact ⟨_, dif_pos rfl⟩
        obtain ⟨⟨q⟩, hq⟩ := hsame e
        simp [putP, castD, hq]
      obtain ⟨_, hput'⟩ := putP_sound _ hput
      have hoff : offP [.idx (i : Int)] (.arr n e) = some (i * e.size) := by
        simp only [offP]; rw [if_pos ⟨by omega, by omega⟩]; simp
      obtain ⟨hr2, hle⟩ := hput' w _ cells.toList _ _ hr1 hxv.cells hoff
      have hsz := hxv.cells.size
      obtain ⟨cells1, hc1, _, hfill⟩ := fill_step (cells := cells) (rest := ps.map fun p => (p.1, a.eval p.2)) (place := fun i => some (i * e.size, e.size)) (i := i) (v := a.eval x) rfl (by have := Array.length_toList (xs := (a.eval x).cells); omega) (by have := Array.length_toList (xs := cells); omega)
      rw [← hc1] at hr2
      obtain ⟨cells', hf, hr'⟩ := hsem W B w μ a cells1 hH hT hr2
      exact ⟨cells', by rw [List.map_cons, hfill]; exact hf, hr'⟩
    · cases h
end
end Go.W

set_option linter.unusedVariables false
set_option linter.unusedSimpArgs false
namespace Go.W
section
variable {P : Program} {E : Env} (hE : EnvOK P E) {ρ : Type} {o : Oper} {st : St} {K : TV → Ups → Option ρ} {r : ρ}

theorem ups_dom {hp u : Ups} (hz : FzLe hp (u ++ hp)) {b : Nat} (h : lk u b ≠ none) : lk hp b ≠ none := by
  intro hn
  rcases hz b with h1 | ⟨blk, h1, _⟩
  · rw [lk_append, hn] at h1
    cases hx : lk u b with
    | none => exact h hx
    | some y => rw [hx] at h1; cases h1
  · rw [hn] at h1; cases h1

/-- The places of a struct's fields. -/
theorem places_of {P : Program} {i : TI} {ty : Ty} : ∀ (fs : List Field) (k : Nat), (∀ (f : Nat) fd, fs[f]? = some fd → ∃ s inf, subT (fpath i.n (k + f)) ty = some s ∧ offP (fpath i.n (k + f)) ty = some fd.offset ∧ P.info? fd.type = some inf ∧ inf.size = s.size) →
    ∃ places, fs.mapM (fun f => (P.info? f.type).map fun i => (f.offset, i.size)) = some places ∧ places.length = fs.length ∧ ∀ (f : Nat), f < fs.length → ∃ s off, subT (fpath i.n (k + f)) ty = some s ∧ offP (fpath i.n (k + f)) ty = some off ∧ places[f]? = some (off, s.size)
  | [], k, _ => ⟨[], rfl, rfl, fun f hf => by simp at hf⟩
  | fd :: fs, k, h => by
    obtain ⟨s, inf, h1, h2, h3, h4⟩ := h 0 fd rfl
    obtain ⟨places, p1, p2, p3⟩ := places_of fs (k + 1) (fun f fd' hf => by
      have := h (f + 1) fd' (by simpa using hf)
      rwa [show k + (f + 1) = k + 1 + f by omega] at this)
    refine ⟨(fd.offset, inf.size) :: places, by simp [List.mapM_cons, h3, p1], by simp [p2], fun f hf => ?_⟩
    cases f with
    | zero => exact ⟨s, fd.offset, h1, h2, by simp [h4]⟩
    | succ f =>
      obtain ⟨s', off, q1, q2, q3⟩ := p3 f (by simpa using hf)
      exact ⟨s', off, by rw [show k + (f + 1) = k + 1 + f by omega]; exact q1, by rw [show k + (f + 1) = k + 1 + f by omega]; exact q2, by simpa using q3⟩

include hE in
theorem op_build {t : TypeId} {ps : Array (Nat × Operand)} (ho : o.op = .build t ps) (h : opE E st o K = some r) : OpLaw E P o st K r := by
  simp only [opE, ho] at h
  obtain ⟨i, hi, h1⟩ := tyOf_inv h
  clear h
  obtain ⟨⟨inf, zv, hinf, hisz, hz, hzc⟩, d, hd, hu⟩ := hE.ty t i hi
  have hps : ∀ a : Act, (ps.map fun (x : Nat × Operand) => (x.1, a.eval x.2)).toList = ps.toList.map fun p => (p.1, a.eval p.2) := fun a => by simp
  split at h1
  · rename_i ta tb hty
    obtain ⟨v, u, hlaw, h2, hz0, hz1, hsem⟩ := fillS_sound ps.toList _ [] h1 (.refl _)
    refine ⟨_, _, fun ρ' K' => by simp only [opE, ho, tyOf, hi, hty, hlaw], h2, fun b hb => .inl (ups_dom hz1 hb), ?_⟩
    intro W B w μ a hWB hH hT K Q hK
    unfold UndOK at hu
    rw [hty] at hu
    obtain ⟨fs, rfl, hn, hall⟩ := hu
    obtain ⟨places, p1, p2, p3⟩ := places_of (P := P) (i := i) (ty := .pair ta tb) fs.toList 0 (fun f fd hf => by
      obtain ⟨s, ie, a1, a2, a3, a4, a5⟩ := hall f fd (by simpa using hf)
      obtain ⟨⟨inf', zv', b1, b2, _, _⟩, _⟩ := hE.ty fd.type ie a3
      exact ⟨s, inf', by simpa using a1, by simpa using a2, b1, by rw [b2, a4]⟩)
    obtain ⟨cells', hf, hr⟩ := hsem W B w μ a (places.toArray[·]?) zv.cells hH hT (fun j s hj hs => by
      obtain ⟨s', off, q1, q2, q3⟩ := p3 j (by simpa [hn] using hj)
      rw [Nat.zero_add] at q1 q2
      rw [hs] at q1; injection q1 with q1; subst q1
      exact ⟨off, q2, by simpa using q3⟩) (by rw [hzc, hty]; exact Rep.zero _ _ _)
    have hb : P.built t (ps.map fun (x : Nat × Operand) => (x.1, a.eval x.2)).toList = some cells' := by
      unfold Program.built
      rw [hinf, hd]
      simp only [hz, p1, hps]
      exact hf
    exact wp_value (v := .agg cells') (by simp only [execOp, ho, Sem.run_bind, run_build w t _ cells' hb]; rfl) (hK _ w μ (.refl _ _) (HOK.fz hz1 hH) (FzLe.tr hz1) ⟨_, hr, .inl ⟨rfl, by simp⟩⟩)
  · rename_i n e hty
    obtain ⟨v, u, hlaw, h2, hz0, hz1, hn', hsem⟩ := fillL_sound ps.toList _ [] h1 (.refl _) (by simp [Ty.z])
    refine ⟨_, _, fun ρ' K' => by simp only [opE, ho, tyOf, hi, hty, hlaw], h2, fun b hb => .inl (ups_dom hz1 hb), ?_⟩
    intro W B w μ a hWB hH hT K Q hK
    unfold UndOK at hu
    rw [hty] at hu
    obtain ⟨te, ie, rfl, h3, h4⟩ := hu
    obtain ⟨⟨inf', zv', b1, b2, _, _⟩, _⟩ := hE.ty te ie h3
    obtain ⟨cells', hf, hr⟩ := hsem W B w μ a zv.cells hH hT (by rw [hzc, hty]; exact Rep.zero _ _ _)
    have hb : P.built t (ps.map fun (x : Nat × Operand) => (x.1, a.eval x.2)).toList = some cells' := by
      unfold Program.built
      rw [hinf, hd]
      simp only [hz, b1, hps, b2, h4]
      exact hf
    exact wp_value (v := .agg cells') (by simp only [execOp, ho, Sem.run_bind, run_build w t _ cells' hb]; rfl) (hK _ w μ (.refl _ _) (HOK.fz hz1 hH) (FzLe.tr hz1) ⟨_, hr, .inl ⟨rfl, by simp⟩⟩)
  · cases h1

include hE in
theorem op_buildSlice {t : TypeId} {len : Nat} {ps : Array (Nat × Operand)} (ho : o.op = .buildSlice t len ps) (h : opE E st o K = some r) : OpLaw E P o st K r := by
  simp only [opE, ho] at h
  obtain ⟨i, hi, h1⟩ := tyOf_inv h
  clear h
  split at h1
  · rename_i e d hty hd
    split at h1
    · rename_i hf
      split at h1
      · rename_i hlen
        obtain ⟨v, u, hlaw, h2, hz0, hz1, hn', hsem⟩ := fillL_sound ps.toList _ [] h1 (.refl _) (by simp)
        refine ⟨_, _, fun ρ' K' => by simp only [opE, ho, tyOf, hi, hty, hd, hf]; rw [if_pos hlen, hlaw], h2, fun b hb => ?_, ?_⟩
        · rcases dst_fresh hd hb with h | h
          · exact .inl (ups_dom hz1 h)
          · exact .inr h
        intro W B w μ a hWB hH hT K Q hK
        obtain ⟨te, hu, hsz, inf, hinf, hby, hisz, hpos, hepos, zv, hz, hzc⟩ := und_slice hE hi hty
        have hps : (ps.map fun (x : Nat × Operand) => (x.1, a.eval x.2)).toList = ps.toList.map fun p => (p.1, a.eval p.2) := by simp
        have hzsz : zv.cells.size = e.size := by rw [← Array.length_toList, hzc]; exact (Rep.zero default (fun _ => True) e).size
        -- the row of zeros
        obtain ⟨zero, hzero, hzr⟩ : ∃ zero : Array Value, (zero = if len * e.size = 0 then #[] else zv.cells) ∧ Rep w (okS B w.heap.size μ (lk st.hp)) (.arr len e) (List.replicate len e.z) ((Array.range (len * e.size)).map fun k => zero[k % zero.size]!).toList := by
          refine ⟨_, rfl, ?_⟩
          have hL : Lies w (okS B w.heap.size μ (lk st.hp)) e (List.replicate len e.z) (List.replicate len (zc e)).flatten := Lies.of_ess (by simp) (fun i hi hi' => by simp only [List.getElem_replicate]; exact Rep.zero _ _ _)
          have heq : ((Array.range (len * e.size)).map fun k => (if len * e.size = 0 then #[] else zv.cells)[k % (if len * e.size = 0 then #[] else zv.cells : Array Value).size]!).toList = (List.replicate len (zc e)).flatten := by
            apply List.ext_getElem?
            intro k
            by_cases hk : k < len * e.size
            · have hne : ¬ (len * e.size = 0) := by omega
              rw [if_neg hne]
              have hi : k / e.size < len := by rw [Nat.div_lt_iff_lt_mul hepos]; exact hk
              have hdm : k / e.size * e.size + k % e.size = k := by rw [Nat.mul_comm]; exact Nat.div_add_mod k e.size
              have hm : k % e.size < (zc e).length := by rw [(Rep.zero default (fun _ => True) e).size]; exact Nat.mod_lt _ hepos
              have h1 := zeros_at hzc hepos len (fun k => zv.cells[k % zv.cells.size]!) (fun _ => rfl) (k / e.size) hi (k % e.size) _ (List.getElem?_eq_getElem hm)
              rw [hdm] at h1
              have h2 : ((List.replicate len (zc e)).flatten)[k]? = some (zc e)[k % e.size] := by
                have hsz : ∀ es ∈ List.replicate len (zc e), es.length = e.size := fun es hes => by rw [List.eq_of_mem_replicate hes]; exact (Rep.zero default (fun _ => True) e).size
                have := Ty.size_flat (e := e) hsz (k / e.size) (by simpa using hi)
                have h3 := congrArg (fun l => l[k % e.size]?) this
                simp only [List.getElem?_take, Nat.mod_lt _ hepos, if_true, List.getElem?_drop, List.getElem_replicate] at h3
                rw [hdm] at h3
                rw [h3, List.getElem?_eq_getElem hm]
              rw [h2, ← h1, Array.getElem?_toList]
            · rw [List.getElem?_eq_none (by simp; omega), List.getElem?_eq_none (by rw [hL.len]; simp; omega)]
          rw [heq]
          exact ⟨by simp, _, rfl, by simp, fun i hi hi' => by simp only [List.getElem_replicate]; exact Rep.zero _ _ _⟩
        obtain ⟨cells', hfill, hr⟩ := hsem W B w μ a _ hH hT hzr
        have hrun : (Instr.buildSlice t len (ps.map fun (x : Nat × Operand) => (x.1, a.eval x.2))).run P w = .ok (.slice (some ⟨w.heap.size, 0, none⟩) len len) (w.alloc (.cells cells' te)) := by
          rw [← hps] at hfill
          have hnl : ¬ (16777216 < len * e.size) := by omega
          by_cases h0 : len * e.size = 0
          · rw [if_pos h0] at hzero
            subst hzero
            simp [Instr.buildSlice, underlying, hu, sizeOf, typeInfo, hinf, hisz, hnl, newRow]
            simp [h0] at hfill ⊢
            simp [hfill]
          · rw [if_neg h0] at hzero
            subst hzero
            simp [Instr.buildSlice, underlying, hu, sizeOf, typeInfo, hinf, hisz, hnl, newRow, h0, zeroValue, hz]
            simp at hfill
            simp [hfill]
        have hH' : HOK W B w μ (lk (u ++ st.hp)) := HOK.fz hz1 hH
        have hf' : lk (u ++ st.hp) d = none := by
          rcases hz1 d with h1 | ⟨blk, h1, _⟩
          · rw [h1]; exact hf
          · rw [hf] at h1; cases h1
        have hcs := hr.size
        obtain ⟨_, ess, hess, hel, her⟩ := hr
        have hL : Lies w (okS B w.heap.size μ (lk (u ++ st.hp))) e v cells'.toList := by rw [hess]; exact Lies.of_ess hel her
        have hnew := new_block hH' hf' hWB e v cells' te (by rw [← Array.length_toList, hL.len]; exact Nat.le_refl _) (fun i' hi' => by
          obtain ⟨es, h1, h2⟩ := hL.at_ i' hi'
          exact ⟨es, h1, fun j v hj => by simpa using h2 j v hj⟩)
        have hloc := new_loc (B := B) (w := w) (μ := μ) (hp := u ++ st.hp) (d := d) e v cells' te len (by omega) (by rw [← Array.length_toList, hL.len, hn']; exact Nat.le_refl _)
        rw [hn'] at hloc
        exact wp_value (by simp only [execOp, ho, Sem.run_bind, hrun]; rfl) (hK _ _ _ (Fr.alloc (.refl _ _) _) hnew.1 ((FzLe.tr hz1).trans hnew.2) hloc)
      · cases h1
    · cases h1
  · cases h1
end
end Go.W

set_option linter.unusedVariables false
set_option linter.unusedSimpArgs false
namespace Go.W

/-! ### A call's results become the caller's -/
section
variable {W B : Nat → Prop} {w w' : World} {μ : Nat → Option Nat} {hp ups : Ups} {mg : Option Nat}

/-- The state behind a call: its own row, if there is one, under the name id. -/
def μ2 (μ : Nat → Option Nat) (mg : Option Nat) (id : Nat) : Nat → Option Nat := fun b => if b = id then mg else μ b

/-- No own row among the results. -/
theorem call_plain (hH : HOK W B w μ (lk hp)) (hdom : ∀ b, lk ups b ≠ none → lk hp b ≠ none) (hfr : Fr W w w') (hS : CStep W B w μ hp w' ups mg) :
    HOK W B w' μ (lk (ups ++ hp)) ∧ Tr B w μ (lk hp) w' μ (lk (ups ++ hp)) := by
  refine ⟨⟨fun b blk g hb hg => ?_, fun b b' blk blk' g hb hb' hf hne hg => ?_, fun b blk hb => ?_⟩, Tr.mk' hS.hw (fun g hg => ⟨hg.1, Nat.lt_of_lt_of_le hg.2.1 hfr.size, fun b blk hb hf => hS.ho g hg b blk hb hf⟩) (fun b hb => ?_) (fun b blk' _ hb => ?_) (fun b blk' g c eT fr _ hb hg hc => hS.hs b blk' g c eT fr hb hg hc)⟩
  · obtain ⟨blk0, h0, _, _, h3⟩ := hS.hh b blk hb
    obtain ⟨a1, a2, a3⟩ := hH.lt b blk0 g h0 hg
    exact ⟨a1, Nat.lt_of_lt_of_le a2 hfr.size, fun hf => a3 (h3 hf)⟩
  · obtain ⟨blk0, h0, _, _, h3⟩ := hS.hh b blk hb
    obtain ⟨blk0', h0', _, _, _⟩ := hS.hh b' blk' hb'
    exact hH.apart b b' blk0 blk0' g h0 h0' (h3 hf) hne hg
  · exact BRep.mono_ok (fun g hg => hg.1) (fun g hg => hg.1.2.1) (hS.rep b blk hb)
  · rw [lk_append]
    cases h : lk hp b with
    | none => exact absurd h hb
    | some x => cases lk ups b <;> simp
  · obtain ⟨blk0, h0, h1, h2, _⟩ := hS.hh b blk' hb
    exact ⟨blk0, h0, h1, h2, rfl⟩

theorem call_own (hH : HOK W B w μ (lk hp)) (hdom : ∀ b, lk ups b ≠ none → lk hp b ≠ none) (hfr : Fr W w w') (hS : CStep W B w μ hp w' ups mg) {id : Nat} (hid : lk hp id = none) (hWB : ∀ g, w.heap.size ≤ g → W g ∧ B g)
    {e : Ty} {l : List e.D} {x : Value} (hsl : SliceOf w' mg e.size 0 l.length x) (hb : BRep w' (fun g => okS B w'.heap.size μ (lk (ups ++ hp)) g ∧ mg ≠ some g) mg ⟨e, l, false⟩) (hg : ∀ g, mg = some g → w.heap.size ≤ g ∧ g < w'.heap.size) :
    HOK W B w' (μ2 μ mg id) (lk ((id, some ⟨e, l, false⟩) :: (ups ++ hp))) ∧ Tr B w μ (lk hp) w' (μ2 μ mg id) (lk ((id, some ⟨e, l, false⟩) :: (ups ++ hp))) ∧
    RepPV B w' (μ2 μ mg id) (lk ((id, some ⟨e, l, false⟩) :: (ups ++ hp))) (.loc e id) x ∧
    (∀ g, okS B w'.heap.size μ (lk (ups ++ hp)) g ∧ mg ≠ some g → okS B w'.heap.size (μ2 μ mg id) (lk ((id, some ⟨e, l, false⟩) :: (ups ++ hp))) g) := by
  have hidu : lk (ups ++ hp) id = none := by
    rw [lk_append, hid]
    cases h : lk ups id with
    | none => rfl
    | some y => exact absurd hid (hdom id (by rw [h]; simp))
  have look : ∀ b blk, lk ((id, some ⟨e, l, false⟩) :: (ups ++ hp)) b = some (some blk) → (b = id ∧ blk = ⟨e, l, false⟩) ∨ (b ≠ id ∧ lk (ups ++ hp) b = some (some blk)) := fun b blk hb => by
    rw [lk_cons] at hb
    split at hb
    · rename_i h; injection hb with hb; injection hb with hb; exact .inl ⟨h.symm, hb.symm⟩
    · rename_i h; exact .inr ⟨Ne.symm h, hb⟩
  have hok : ∀ g, okS B w'.heap.size μ (lk (ups ++ hp)) g ∧ mg ≠ some g → okS B w'.heap.size (μ2 μ mg id) (lk ((id, some ⟨e, l, false⟩) :: (ups ++ hp))) g := fun g ⟨hg1, hg2⟩ => by
    refine ⟨hg1.1, hg1.2.1, fun b blk hb hf => ?_⟩
    unfold μ2
    rcases look b blk hb with ⟨rfl, rfl⟩ | ⟨h1, h2⟩
    · rw [if_pos rfl]; exact hg2
    · rw [if_neg h1]; exact hg1.2.2 b blk h2 hf
  have hold : ∀ b blk g, lk (ups ++ hp) b = some (some blk) → μ b = some g → g < w.heap.size := fun b blk g hb hg => by
    obtain ⟨blk0, h0, _⟩ := hS.hh b blk hb
    exact (hH.lt b blk0 g h0 hg).2.1
  refine ⟨⟨fun b blk g hb' hg' => ?_, fun b b' blk blk' g hb1 hb2 hf hne hg' => ?_, fun b blk hb' => ?_⟩, Tr.mk' hS.hw (fun g hg' => ?_) (fun b hb' => ?_) (fun b blk' hb0 hb' => ?_) (fun b blk' g c eT fr hb0 hb' hg' hc => ?_), ?_, hok⟩
  · unfold μ2 at hg'
    rcases look b blk hb' with ⟨rfl, rfl⟩ | ⟨h1, h2⟩
    · rw [if_pos rfl] at hg'
      obtain ⟨a1, a2⟩ := hg g hg'
      exact ⟨(hWB g a1).2, a2, fun _ => (hWB g a1).1⟩
    · rw [if_neg h1] at hg'
      obtain ⟨blk0, h0, _, _, h3⟩ := hS.hh b blk h2
      obtain ⟨a1, a2, a3⟩ := hH.lt b blk0 g h0 hg'
      exact ⟨a1, Nat.lt_of_lt_of_le a2 hfr.size, fun hf => a3 (h3 hf)⟩
  · unfold μ2 at hg' ⊢
    rcases look b blk hb1 with ⟨rfl, rfl⟩ | ⟨h1, h2⟩
    · rw [if_pos rfl] at hg'
      rw [if_neg (Ne.symm hne)]
      rcases look b' blk' hb2 with ⟨rfl, _⟩ | ⟨k1, k2⟩
      · exact absurd rfl hne
      · intro he
        have := hold b' blk' g k2 he
        have := (hg g hg').1
        omega
    · rw [if_neg h1] at hg'
      rcases look b' blk' hb2 with ⟨rfl, _⟩ | ⟨k1, k2⟩
      · rw [if_pos rfl]
        intro he
        have := hold b blk g h2 hg'
        have := (hg g he).1
        omega
      · rw [if_neg k1]
        obtain ⟨blk0, h0, _, _, h3⟩ := hS.hh b blk h2
        obtain ⟨blk0', h0', _, _, _⟩ := hS.hh b' blk' k2
        exact hH.apart b b' blk0 blk0' g h0 h0' (h3 hf) hne hg'
  · unfold μ2
    rcases look b blk hb' with ⟨rfl, rfl⟩ | ⟨h1, h2⟩
    · rw [if_pos rfl]
      exact BRep.mono_ok hok (fun g hg => hg.1.2.1) hb
    · rw [if_neg h1]
      exact BRep.mono_ok hok (fun g hg => hg.1.2.1) (hS.rep b blk h2)
  · exact hok g ⟨⟨hg'.1, Nat.lt_of_lt_of_le hg'.2.1 hfr.size, fun b blk hb hf => hS.ho g hg' b blk hb hf⟩, fun he => by have := (hg g he).1; have := hg'.2.1; omega⟩
  · rw [lk_cons]; split
    · simp
    · rw [lk_append]
      cases h : lk hp b with
      | none => exact absurd h hb'
      | some x => cases lk ups b <;> simp
  · unfold μ2
    rcases look b blk' hb' with ⟨rfl, rfl⟩ | ⟨h1, h2⟩
    · exact absurd hid hb0
    · obtain ⟨blk0, h0, q1, q2, _⟩ := hS.hh b blk' h2
      exact ⟨blk0, h0, q1, q2, by rw [if_neg h1]⟩
  · rcases look b blk' hb' with ⟨rfl, rfl⟩ | ⟨h1, h2⟩
    · exact absurd hid hb0
    · exact hS.hs b blk' g c eT fr h2 hg' hc
  · refine ⟨_, by rw [lk_cons, if_pos rfl], fun blk hb' => ?_⟩
    injection hb' with hb'; subst hb'
    show SliceOf _ (μ2 μ mg id id) _ _ _ _
    unfold μ2
    rw [if_pos rfl]; exact hsl

/-- The values of results none of which is an own row. -/
theorem res_imm {d : Nat} : ∀ (rs : List RV) (xs : List Value) (j : Nat) {ok : Nat → Prop} {lo : Nat}, ownN rs = 0 → ResRep w' ok mg lo rs xs → (rvPV d rs j).2 = [] ∧ xs.length = (rvPV d rs j).1.length ∧
    ∀ (k : Nat) p u, (rvPV d rs j).1[k]? = some p → xs[k]? = some u → ∃ t v, p = .val t v ∧ RepV w' (fun g => ok g ∧ mg ≠ some g) t v u
  | [], xs, j, _, _, _, h => by subst h; exact ⟨rfl, rfl, fun k p u hk => by simp [rvPV] at hk⟩
  | .imm t v :: rs, xs, j, ok, lo, hn, h => by
    obtain ⟨x, xs', rfl, hx, h⟩ := h
    obtain ⟨h1, h2, h3⟩ := res_imm rs xs' (j + 1) hn h
    refine ⟨h1, by simp [rvPV, h2], fun k p u hk hu => ?_⟩
    cases k with
    | zero => simp [rvPV] at hk hu; subst hk; subst hu; exact ⟨t, v, rfl, hx⟩
    | succ k => exact h3 k p u (by simpa [rvPV] using hk) (by simpa using hu)
  | .own e l :: rs, xs, j, _, _, hn, h => by simp [ownN] at hn

/-- .. of results with one own row. -/
theorem res_own {d : Nat} : ∀ (rs : List RV) (xs : List Value) (j : Nat) {ok : Nat → Prop} {lo : Nat}, ownN rs = 1 → ResRep w' ok mg lo rs xs → ∃ id e l x, (rvPV d rs j).2 = [(id, some ⟨e, l, false⟩)] ∧ (∃ j', id = d + 100000 * j') ∧ xs.length = (rvPV d rs j).1.length ∧
    SliceOf w' mg e.size 0 l.length x ∧ BRep w' (fun g => ok g ∧ mg ≠ some g) mg ⟨e, l, false⟩ ∧ (∀ g, mg = some g → lo ≤ g ∧ g < w'.heap.size) ∧
    ∀ (k : Nat) p u, (rvPV d rs j).1[k]? = some p → xs[k]? = some u → (p = .loc e id ∧ u = x) ∨ ∃ t v, p = .val t v ∧ RepV w' (fun g => ok g ∧ mg ≠ some g) t v u
  | [], xs, j, _, _, hn, h => by simp [ownN] at hn
  | .imm t v :: rs, xs, j, ok, lo, hn, h => by
    obtain ⟨x, xs', rfl, hx, h⟩ := h
    obtain ⟨id, e, l, y, h1, h2, h3, h4, h5, h6, h7⟩ := res_own rs xs' (j + 1) hn h
    refine ⟨id, e, l, y, h1, h2, by simp [rvPV, h3], h4, h5, h6, fun k p u hk hu => ?_⟩
    cases k with
    | zero => simp [rvPV] at hk hu; subst hk; subst hu; exact .inr ⟨t, v, rfl, hx⟩
    | succ k => exact h7 k p u (by simpa [rvPV] using hk) (by simpa using hu)
  | .own e l :: rs, xs, j, ok, lo, hn, h => by
    obtain ⟨x, xs', rfl, h1, h2, h3, h⟩ := h
    obtain ⟨q1, q2, q3⟩ := res_imm (d := d) rs xs' (j + 1) (by simpa [ownN] using hn) h
    refine ⟨d + 100000 * j, e, l, x, by simp [rvPV, q1], ⟨j, rfl⟩, by simp [rvPV, q2], h1, h2, h3, fun k p u hk hu => ?_⟩
    cases k with
    | zero => simp [rvPV] at hk hu; subst hk; subst hu; exact .inl ⟨rfl, rfl⟩
    | succ k => exact .inr (q3 k p u (by simpa [rvPV] using hk) (by simpa using hu))

theorem ret_rep {μ' : Nat → Option Nat} {h' : Hp} {ps : List PV} {xs : List Value} (hl : xs.length = ps.length) (h : ∀ (k : Nat) p u, ps[k]? = some p → xs[k]? = some u → RepPV B w' μ' h' p u) : RepTV B w' μ' h' (rvTV ps) (retV xs) := by
  match ps, xs, hl with
  | [], [], _ => exact ⟨[], rfl, rfl, fun j p u hj => by simp at hj⟩
  | [p], [x], _ => exact h 0 p x rfl rfl
  | p :: q :: ps, x :: y :: xs, hl => exact ⟨_, rfl, hl, h⟩
end

section
variable {P : Program} {E : Env} (hE : EnvOK P E) {ρ : Type} {o : Oper} {st : St} {K : TV → Ups → Option ρ} {r : ρ}

include hE in
theorem fnCall_sound {d f : Nat} {ps : List PV} (h : fnCall E st d f ps K = some r) :
    ∃ tv ups, (∀ (ρ' : Type) (K' : TV → Ups → Option ρ'), fnCall E st d f ps K' = K' tv ups) ∧ K tv ups = some r ∧ (∀ b, lk ups b ≠ none → lk st.hp b ≠ none ∨ ∃ j, d + 100000 * j = b) ∧
      (∃ fn, P.funcs[f]? = some fn ∧ (fn.name == "runtime.NumGoroutine") = false ∧ fn.body.isNone = false) ∧
      ∀ (W B : Nat → Prop) (w : World) (μ : Nat → Option Nat) (vs : List Value), (∀ g, w.heap.size ≤ g → W g ∧ B g) → HOK W B w μ (lk st.hp) → vs.length = ps.length →
        (∀ (j : Nat) p v, ps[j]? = some p → vs[j]? = some v → RepPV B w μ (lk st.hp) p v) →
        Calls P f vs.toArray w fun e w' => ∃ x μ', e = .returned x ∧ Fr W w w' ∧ HOK W B w' μ' (lk (ups ++ st.hp)) ∧ Tr B w μ (lk st.hp) w' μ' (lk (ups ++ st.hp)) ∧ RepTV B w' μ' (lk (ups ++ st.hp)) tv x := by
  unfold fnCall at h
  split at h
  · rename_i C hC
    obtain ⟨hsound, hfn⟩ := hE.fn f C hC
    obtain ⟨rs, ups, hlaw, hk, hdom, hsem⟩ := hsound ps st.hp _ r h
    split at hk
    · rename_i hchk
      obtain ⟨hfresh, hone⟩ : freshE st.hp (rvPV d rs 0).2 = true ∧ Nat.ble (ownN rs) 1 = true := by
        revert hchk
        cases freshE st.hp (rvPV d rs 0).2 <;> cases Nat.ble (ownN rs) 1 <;> simp
      have hone := Nat.le_of_ble_eq_true hone
      have hids : ∀ (rs : List RV) (j : Nat) b, lk (rvPV d rs j).2 b ≠ none → ∃ j, d + 100000 * j = b := by
        intro rs
        induction rs with
        | nil => intro j b hb; exact absurd rfl hb
        | cons x rs ih =>
          intro j b hb
          cases x with
          | imm t v => exact ih (j + 1) b hb
          | own e l =>
            simp only [rvPV] at hb
            rw [lk_cons] at hb
            split at hb
            · rename_i he; exact ⟨j, he⟩
            · exact ih (j + 1) b hb
      refine ⟨_, _, fun ρ' K' => by simp only [fnCall, hC, hlaw, hchk], hk, fun b hb => ?_, hfn, fun W B w μ vs hWB hH hl hv => ?_⟩
      · rw [lk_append] at hb
        cases hx : lk (rvPV d rs 0).2 b with
        | none => rw [hx] at hb; exact .inl (hdom b hb)
        | some y => exact .inr (hids rs 0 b (by rw [hx]; simp))
      refine (hsem.run W B w μ vs hWB hH hl hv).mono ?_
      rintro e w' ⟨xs, mg, he, hfr, hS, hres⟩
      rcases Nat.eq_zero_or_pos (ownN rs) with h0 | h0
      · obtain ⟨q1, q2, q3⟩ := res_imm (d := d) rs xs 0 h0 hres
        obtain ⟨c1, c2⟩ := call_plain hH hdom hfr hS
        rw [q1, List.nil_append]
        exact ⟨_, μ, he, hfr, c1, c2, ret_rep q2 fun k p u hk hu => by
          obtain ⟨t, v, rfl, hr⟩ := q3 k p u hk hu
          exact hr.mono (fun _ _ _ => rfl) (fun g hg _ => hg.1) (fun g hg => hg.1.2.1)⟩
      · obtain ⟨id, e', l, x, q1, _, q3, q4, q5, q6, q7⟩ := res_own (d := d) rs xs 0 (by omega) hres
        have hid : lk st.hp id = none := by
          rw [q1] at hfresh
          simp only [freshE] at hfresh
          cases hx : lk st.hp id with
          | none => rfl
          | some y => rw [hx] at hfresh; cases hfresh
        obtain ⟨c1, c2, c3, c4⟩ := call_own hH hdom hfr hS hid hWB q4 q5 q6
        rw [q1]
        exact ⟨_, μ2 μ mg id, he, hfr, c1, c2, ret_rep q3 fun k p u hk hu => by
          rcases q7 k p u hk hu with ⟨rfl, rfl⟩ | ⟨t, v, rfl, hr⟩
          · exact c3
          · exact hr.mono (fun _ _ _ => rfl) (fun g hg _ => c4 g hg) (fun g hg => hg.1.2.1)⟩
    · cases hk
  · rename_i hC0
    split at h
    · rename_i C hC
      obtain ⟨hsound, hfn⟩ := hE.ow f C hC
      obtain ⟨qs, ups, hlaw, hk, hdom, hsem⟩ := hsound ps st.hp _ r h
      refine ⟨_, ups, fun ρ' K' => by simp only [fnCall, hC0, hC, hlaw], hk, fun b hb => .inl (hdom b hb), hfn, fun W B w μ vs hWB hH hl hv => ?_⟩
      refine (hsem W B w μ vs hWB hH hl hv).mono ?_
      rintro e w' ⟨xs, he, hfr, hH', hT', hlen, hres⟩
      exact ⟨_, μ, he, hfr, hH', hT', ret_rep hlen hres⟩
    · cases h

theorem callFunc_enter {f : FuncId} {fn : Func} {args : Array Value} (hf : P.funcs[f]? = some fn) (hn : (fn.name == "runtime.NumGoroutine") = false) (hb : fn.body.isNone = false) (w : World) : (callFunc f args).run P w = .ok (.enter f args) w := by
  have hn' : ¬ (fn.name = "runtime.NumGoroutine") := by simpa using hn
  have hb' : fn.body ≠ none := fun he => by rw [he] at hb; cases hb
  simp [callFunc, hf, hn', hb']

/-- What an operation that enters a function owes. -/
theorem wp_enter {a : Act} {w : World} {f : FuncId} {args : Array Value} {K : Act → World → Prop} {Q : Exit → Act → World → Prop} {R : Ending → World → Prop} (hex : (execOp a.eval o).run P w = .ok (.enter f args) w) (hc : Calls P f args w R)
    (h : ∀ e w', R e w' → ∃ x, e = .returned x ∧ K (a.put o.dst x) w') : o.wp P a w K Q := by
  unfold Oper.wp
  rw [hex, Oper.upon_enter]
  refine hc.mono fun e w' hr => ?_
  obtain ⟨x, rfl, hk⟩ := h e w' hr
  exact hk

include hE in
theorem op_call {f : FuncId} {args : Array Operand} {ats : Array TypeId} (ho : o.op = .call { callee := .value (.func f), args := args, argTypes := ats }) (h : opE E st o K = some r) : OpLaw E P o st K r := by
  simp only [opE, ho] at h
  obtain ⟨ps, h1, hl1, hlen, hps⟩ := opArgs_inv h
  obtain ⟨tv, ups, hlaw, hk, hdom, ⟨fn, hf, hn, hb⟩, hsem⟩ := fnCall_sound hE h1
  refine ⟨tv, ups, fun ρ' K' => by simp only [opE, ho, hl1, hlaw], hk, hdom, ?_⟩
  intro W B w μ a hWB hH hT K' Q hK
  have hex : (execOp a.eval o).run P w = .ok (.enter f (args.map a.eval)) w := by
    simp only [execOp, ho, resolve, Act.eval, Deferred.ofValue]
    simp [invoke, callFunc_enter hf hn hb]
  have harr : (args.toList.map a.eval).toArray = args.map a.eval := by apply Array.ext'; simp
  have hc := hsem W B w μ (args.toList.map a.eval) hWB hH (by simp [hlen]) (fun j p v hp hv => by
    rw [List.getElem?_map] at hv
    cases hx : args.toList[j]? with
    | none => rw [hx] at hv; cases hv
    | some x =>
      rw [hx] at hv; injection hv with hv; subst hv
      exact opv_sound hT (hps j x p hx hp))
  rw [harr] at hc
  exact wp_enter hex hc fun e w' ⟨x, μ', he, h1, h2, h3, h4⟩ => ⟨x, he, hK x w' μ' h1 h2 h3 h4⟩

include hE in
theorem op_callTmp {t : Tmp} {args : Array Operand} {ats : Array TypeId} (ho : o.op = .call { callee := .value (.tmp t), args := args, argTypes := ats }) (h : opE E st o K = some r) : OpLaw E P o st K r := by
  simp only [opE, ho] at h
  split at h
  · rename_i f caps ht
    obtain ⟨ps, h1, hl1, hlen, hps⟩ := opArgs_inv h
    obtain ⟨tv, ups, hlaw, hk, hdom, ⟨fn, hf, hn, hb⟩, hsem⟩ := fnCall_sound hE h1
    refine ⟨tv, ups, fun ρ' K' => by simp only [opE, ho, ht, hl1, hlaw], hk, hdom, ?_⟩
    intro W B w μ a hWB hH hT K' Q hK
    obtain ⟨cv, hcv, hcl, hcc⟩ := hT t _ ht
    have hex : (execOp a.eval o).run P w = .ok (.enter f (args.map a.eval ++ cv.toArray)) w := by
      have : a.eval (.tmp t) = .func (.func f) #[] cv.toArray := hcv
      simp only [execOp, ho, resolve, this, Deferred.ofValue]
      simp [invoke, callFunc_enter hf hn hb]
    have harr : (args.toList.map a.eval ++ cv).toArray = args.map a.eval ++ cv.toArray := by apply Array.ext'; simp
    have hc := hsem W B w μ (args.toList.map a.eval ++ cv) hWB hH (by simp [hlen, hcl]) (fun j p v hp hv => by
      have hal := Array.length_toList (xs := args)
      by_cases hj : j < ps.length
      · rw [List.getElem?_append_left hj] at hp
        rw [List.getElem?_append_left (by simp; omega), List.getElem?_map] at hv
        cases hx : args.toList[j]? with
        | none => rw [hx] at hv; cases hv
        | some x =>
          rw [hx] at hv; injection hv with hv; subst hv
          exact opv_sound hT (hps j x p hx hp)
      · rw [List.getElem?_append_right (by omega), List.getElem?_map] at hp
        rw [List.getElem?_append_right (by simp; omega)] at hv
        cases hx : caps[j - ps.length]? with
        | none => rw [hx] at hp; cases hp
        | some b =>
          rw [hx] at hp; injection hp with hp; subst hp
          exact hcc (j - ps.length) b v hx (by simpa [hlen] using hv))
    rw [harr] at hc
    exact wp_enter hex hc fun e w' ⟨x, μ', he, h1, h2, h3, h4⟩ => ⟨x, he, hK x w' μ' h1 h2 h3 h4⟩
  · rename_i f v ht
    obtain ⟨ps, h1, hl1, hlen, hps⟩ := opArgs_inv h
    obtain ⟨tv, ups, hlaw, hk, hdom, ⟨fn, hf, hn, hb⟩, hsem⟩ := fnCall_sound hE h1
    refine ⟨tv, ups, fun ρ' K' => by simp only [opE, ho, ht, hl1, hlaw], hk, hdom, ?_⟩
    intro W B w μ a hWB hH hT K' Q hK
    have hcv : a.eval (.tmp t) = .func (.func f) #[] #[] := by
      obtain ⟨cs, hcs, hx⟩ := hT t _ ht
      have hcs : cs = [.func (.func f) #[] #[]] := hcs
      rcases hx with ⟨hx, _⟩ | ⟨_, hx⟩
      · cases hx
      · rw [hcs] at hx; injection hx with hx _; exact hx.symm
    have hex : (execOp a.eval o).run P w = .ok (.enter f (args.map a.eval)) w := by
      simp only [execOp, ho, resolve, hcv, Deferred.ofValue]
      simp [invoke, callFunc_enter hf hn hb]
    have harr : (args.toList.map a.eval).toArray = args.map a.eval := by apply Array.ext'; simp
    have hc := hsem W B w μ (args.toList.map a.eval) hWB hH (by simp [hlen]) (fun j p v hp hv => by
      rw [List.getElem?_map] at hv
      cases hx : args.toList[j]? with
      | none => rw [hx] at hv; cases hv
      | some x =>
        rw [hx] at hv; injection hv with hv; subst hv
        exact opv_sound hT (hps j x p hx hp))
    rw [harr] at hc
    exact wp_enter hex hc fun e w' ⟨x, μ', he, h1, h2, h3, h4⟩ => ⟨x, he, hK x w' μ' h1 h2 h3 h4⟩
  · cases h

theorem op_makeFunc {f : Nat} {first caps : Array Operand} (ho : o.op = .makeFunc (.func f) first caps) (h : opE E st o K = some r) : OpLaw E P o st K r := by
  simp only [opE, ho] at h
  split at h
  · rename_i hfirst
    obtain ⟨ps, h1, hl1, hlen, hps⟩ := opArgs_inv h
    split at h1
    · rename_i bs hbs
      have hf0 : first = #[] := by apply Array.ext'; simpa using hfirst
      subst hf0
      have hcap : ∀ (ps : List PV) (bs : List Nat), capsOf ps = some bs → ps = bs.map fun b => .ptr b 0 [] := by
        intro ps
        induction ps with
        | nil => intro bs h; injection h with h; subst h; rfl
        | cons p ps ih =>
          intro bs h
          simp only [capsOf] at h
          split at h
          · rename_i b hb
            split at h
            · rename_i bs' hbs'
              injection h with h; subst h
              rw [List.map_cons, ← ih bs' hbs']
              congr 1
              unfold isCap at hb
              split at hb
              · injection hb with hb; subst hb; rfl
              · cases hb
            · cases h
          · cases h
      refine ⟨_, [], fun ρ' K' => by simp only [opE, ho, hfirst, hl1, hbs], h1, fun b hb => absurd rfl hb, OpSem.pure fun B w μ a W hH hT => ?_⟩
      have hp := hcap ps bs hbs
      refine ⟨.func (.func f) #[] (caps.map a.eval), by simp [execOp, ho, Instr.makeFunc], caps.toList.map a.eval, by congr 1; apply Array.ext'; simp, by rw [List.length_map, ← hlen, hp, List.length_map], fun j b u hb hu => ?_⟩
      rw [List.getElem?_map] at hu
      cases hx : caps.toList[j]? with
      | none => rw [hx] at hu; cases hu
      | some x =>
        rw [hx] at hu; injection hu with hu; subst hu
        have hpj : ps[j]? = some (.ptr b 0 []) := by rw [hp, List.getElem?_map, hb]; rfl
        exact opv_sound hT (hps j x _ hx hpj)
    · cases h1
  · cases h

theorem op_minmax {mx : Bool} {args : Array Operand} {ats : Array TypeId} (ho : o.op = .call { callee := .builtin (if mx then .max else .min), args := args, argTypes := ats }) (h : opE E st o K = some r) : OpLaw E P o st K r := by
  have hr : ∀ (ρ' : Type) (K' : TV → Ups → Option ρ'), opE E st o K' = opArgs st args.toList fun ps => minE mx ps fun n => K' (.one (.val (.int .i64) n)) [] := fun ρ' K' => by
    cases mx
    · simp only [Bool.false_eq_true, if_false] at ho
      simp only [opE, ho]
    · simp only [if_true] at ho
      simp only [opE, ho]
  rw [hr] at h
  obtain ⟨ps, h1, hl1, hlen, hps⟩ := opArgs_inv h
  unfold minE at h1
  split at h1
  · rename_i x y
    obtain ⟨a1, a2, hax⟩ : ∃ a1 a2, args.toList = [a1, a2] := by
      match args.toList, hlen with
      | [a, b], _ => exact ⟨a, b, rfl⟩
    have hargs : args = #[a1, a2] := by apply Array.ext'; simpa using hax
    subst hargs
    have e1 := hps 0 a1 _ rfl rfl
    have e2 := hps 1 a2 _ rfl rfl
    cases mx with
    | true =>
      refine ⟨_, [], fun ρ' K' => by rw [hr, hl1]; rfl, h1, fun b hb => absurd rfl hb, OpSem.pure fun B w μ a W hH hT => ⟨_, ?_, int_rep _ _ _ _ _ _⟩⟩
      have v1 := rep_int (opv_sound hT e1)
      have v2 := rep_int (opv_sound hT e2)
      simp only [if_true] at ho
      simp [execOp, ho, resolve, invoke, builtin, Builtin.max_, Builtin.max2, v1, v2]
    | false =>
      refine ⟨_, [], fun ρ' K' => by rw [hr, hl1]; rfl, h1, fun b hb => absurd rfl hb, OpSem.pure fun B w μ a W hH hT => ⟨_, ?_, int_rep _ _ _ _ _ _⟩⟩
      have v1 := rep_int (opv_sound hT e1)
      have v2 := rep_int (opv_sound hT e2)
      simp only [Bool.false_eq_true, if_false] at ho
      simp [execOp, ho, resolve, invoke, builtin, Builtin.min_, Builtin.min2, v1, v2]
  · cases h1
end
end Go.W

set_option linter.unusedVariables false
set_option linter.unusedSimpArgs false
namespace Go.W
section
variable {P : Program} {E : Env} (hE : EnvOK P E) {ρ : Type} {o : Oper} {st : St} {K : TV → Ups → Option ρ} {r : ρ}

/-- the same row told again -/
theorem same_block {W B : Nat → Prop} {w : World} {μ : Nat → Option Nat} {hp : Ups} (hH : HOK W B w μ (lk hp)) {b : Nat} {blk : Blk} (hb : lk hp b = some (some blk)) :
    HOK W B w μ (lk ((b, some blk) :: hp)) ∧ Tr B w μ (lk hp) w μ (lk ((b, some blk) :: hp)) := by
  have e : lk ((b, some blk) :: hp) = lk hp := by
    funext x
    rw [lk_cons]
    split
    · rename_i h; subst h; exact hb.symm
    · rfl
  rw [e]
  exact ⟨hH, .refl _ _ _ _⟩

include hE in
theorem op_copy {args : Array Operand} {ats : Array TypeId} (ho : o.op = .call { callee := .builtin .copy, args := args, argTypes := ats }) (h : opE E st o K = some r) : OpLaw E P o st K r := by
  simp only [opE, ho] at h
  split at h
  · rename_i t ts hts
    obtain ⟨i, hi, h⟩ := tyOf_inv h
    split at h
    · rename_i e hie
      obtain ⟨ps, h, hl1, hlen, hps⟩ := opArgs_inv h
      split at h
      · rename_i x y
        unfold copyE at h
        obtain ⟨ys, hylaw, h, hyr⟩ := rdL_sound h
        split at h
        · rename_i e0 b off len _
          split at h
          · rename_i e' l hb
            split at h
            · rename_i l' hl'
              obtain ⟨e1, e2⟩ := castL_inv hl'
              subst e1
              dsimp only at e2
              subst l'
              split at h
              · rename_i hle
                refine ⟨_, _, fun ρ' K' => by simp only [opE, ho, hts, tyOf, hi, hie, hl1, copyE]; rw [hylaw]; simp only [hb, hl', if_pos hle], h, fun b' hb' => ?_, ?_⟩
                · rw [lk_cons] at hb'
                  split at hb'
                  · rename_i he; subst he; rw [hlk_inv hb]; simp
                  · exact absurd rfl hb'
                · intro W B w μ a hWB hH hT K' Q hK
                  have hb := hlk_inv hb
                  obtain ⟨inf0, te, ie, hu, hte, hinf, hsz, hes⟩ : ∃ (inf0 : Unit) (te : Nat) (ie : TypeInfo), P.underlying t = some (.slice te) ∧ True ∧ P.info? te = some ie ∧ ie.size = e'.size ∧ 0 < e'.size := by
                    obtain ⟨_, d, h1, h2⟩ := hE.ty t i hi
                    unfold UndOK at h2
                    rw [hie] at h2
                    obtain ⟨te, ie, inf, rfl, h3, h4, h5, h6, h7, h8⟩ := h2
                    obtain ⟨⟨inf', zv, k1, k2, _⟩, _⟩ := hE.ty te ie h3
                    exact ⟨(), te, inf', h1, trivial, k1, by rw [k2, h4], h8⟩
                  obtain ⟨a1, a2, hax⟩ : ∃ a1 a2, args.toList = [a1, a2] := by
                    match args.toList, hlen with
                    | [a, b], _ => exact ⟨a, b, rfl⟩
                  have hargs : args = #[a1, a2] := by apply Array.ext'; simpa using hax
                  have hats : ∃ rest, ats = (t :: rest).toArray := ⟨ts, by apply Array.ext'; simpa using hts⟩
                  obtain ⟨rest, hats⟩ := hats
                  subst hargs
                  have hx := opv_sound hT (hps 0 a1 _ rfl rfl)
                  have hy := hyr W B w μ (a.eval a2) hH (opv_sound hT (hps 1 a2 _ rfl rfl))
                  obtain ⟨cs, hL, hfirst⟩ := hy.first
                  obtain ⟨A2, cap2, hY, _⟩ := hy
                  obtain ⟨ob, k1, k2⟩ := hx
                  rw [hb] at k1; injection k1 with k1
                  obtain ⟨z1, z2, z3, A, cap, hX, hcap, hm⟩ := k2 _ k1.symm
                  dsimp only at z3 hm
                  have hmin : Nat.min ys.length len.toNat = ys.length := Nat.min_eq_left hle
                  have hsize : (sizeOf te).run P w = .ok e'.size w := by simp [sizeOf, typeInfo, hinf, hsz]
                  have hf := hfirst P w rfl
                  have run0 : ∀ (w' : World), (match A with | some a => storeCells a cs | none => pure ()).run P w = .ok () w' → (execOp a.eval o).run P w = .ok (.value (goInt ys.length)) w' := fun w' hst => by
                    have hf' : (Builtin.firstCells e'.size ys.length (Value.slice A2 ys.length cap2)).run P w = .ok cs.toArray w := by rw [← hY]; exact hf
                    have hlenOf : (Builtin.lenOf (Value.slice A2 ys.length cap2)).run P w = .ok ys.length w := by simp [Builtin.lenOf]
                    subst hats
                    cases A with
                    | none => simp [execOp, ho, resolve, invoke, builtin, Builtin.copy_, hX, hY, run_underlying hu, Builtin.lenOf, hsize, hmin, hf'] at hst ⊢; exact hst
                    | some ad => simp [execOp, ho, resolve, invoke, builtin, Builtin.copy_, hX, hY, run_underlying hu, Builtin.lenOf, hsize, hmin, hf', hst]
                  have hint : ∀ (w' : World) (μ' : Nat → Option Nat) (h' : Hp), RepTV B w' μ' h' (.one (.val (.int .i64) ((ys.length : Nat) : Int))) (goInt ys.length) := fun w' μ' h' => int_rep _ _ _ _ _ _
                  have zero : ys = [] → l.take off.toNat ++ ys ++ l.drop (off.toNat + ys.length) = l := fun h0 => by subst h0; simp
                  have triv : ys = [] → (execOp a.eval o).run P w = .ok (.value (goInt ys.length)) w → o.wp P a w K' Q := fun h0 hrun => by
                    have hs := same_block hH hb
                    rw [zero h0] at hK
                    exact wp_value hrun (hK _ w μ (.refl _ _) hs.1 hs.2 (hint _ _ _))
                  cases hmu : μ b with
                  | none =>
                    rw [hmu] at hm
                    obtain ⟨hA, h0, _⟩ := hm
                    subst hA
                    have hy0 : ys = [] := List.eq_nil_of_length_eq_zero (by omega)
                    exact triv hy0 (run0 w rfl)
                  | some g =>
                    rw [hmu] at hm
                    obtain ⟨off', hA, _, hoff, hfit⟩ := hm
                    subst hA
                    by_cases h0 : len.toNat = 0
                    · have hy0 : ys = [] := List.eq_nil_of_length_eq_zero (by omega)
                      have hcs : cs = [] := List.eq_nil_of_length_eq_zero (by rw [hL.len, hy0]; simp)
                      exact triv hy0 (run0 w (by rw [hcs]; rfl))
                    · have ho' := hoff (by omega)
                      subst ho'
                      have hbr := hH.rep b _ hb
                      rw [hmu] at hbr
                      obtain ⟨c, eT, hc, hcsz, hcells⟩ := hbr
                      dsimp only at hcsz hcells
                      have hcl := hL.len
                      have hroom : (off.toNat + ys.length) * e'.size ≤ c.size := Nat.le_trans (Nat.mul_le_mul_right _ (by omega)) hcsz
                      rw [Nat.add_mul] at hroom
                      have hst := run_storeCells_at P g (off.toNat * e'.size) eT cs 0 c w hc (by rw [hcl]; omega) hL.cell
                      rw [Nat.add_zero] at hst
                      have hlen' : (l.take off.toNat ++ ys ++ l.drop (off.toNat + ys.length)).length = l.length := by simp; omega
                      have hcs' : (c.toList.take (off.toNat * e'.size) ++ cs ++ c.toList.drop (off.toNat * e'.size + cs.length)).toArray.size = c.size := by simp; omega
                      have hset := set_block hH hb hmu hc hlen' hcs' (fun i hi => by
                        have hi' : i < l.length := by rw [← hlen']; exact hi
                        have hbase : ∀ j, (c.toList.take (off.toNat * e'.size) ++ cs ++ c.toList.drop (off.toNat * e'.size + cs.length)).toArray[j]? = if j < off.toNat * e'.size then c[j]? else if j < off.toNat * e'.size + cs.length then cs[j - off.toNat * e'.size]? else c[j]? := fun j => by
                          simp only [List.getElem?_toArray, List.getElem?_append, List.length_append, List.length_take, Array.length_toList]
                          have hmn : min (off.toNat * e'.size) c.size = off.toNat * e'.size := by omega
                          rw [hmn]
                          by_cases q1 : j < off.toNat * e'.size
                          · rw [if_pos (by omega), if_pos q1, if_pos q1, List.getElem?_take, if_pos q1]; simp
                          · rw [if_neg q1, if_neg q1]
                            by_cases q2 : j < off.toNat * e'.size + cs.length
                            · rw [if_pos q2, if_pos q2]
                            · rw [if_neg q2, if_neg q2, List.getElem?_drop]
                              rw [show off.toNat * e'.size + cs.length + (j - (off.toNat * e'.size + cs.length)) = j by omega]; simp
                        have hval : (l.take off.toNat ++ ys ++ l.drop (off.toNat + ys.length))[i]? = if i < off.toNat then l[i]? else if i < off.toNat + ys.length then ys[i - off.toNat]? else l[i]? := by
                          simp only [List.getElem?_append, List.length_append, List.length_take]
                          have hmn : min off.toNat l.length = off.toNat := by omega
                          rw [hmn]
                          by_cases q1 : i < off.toNat
                          · rw [if_pos (by omega), if_pos q1, if_pos q1, List.getElem?_take, if_pos q1]
                          · rw [if_neg q1, if_neg q1]
                            by_cases q2 : i < off.toNat + ys.length
                            · rw [if_pos q2, if_pos q2]
                            · rw [if_neg q2, if_neg q2, List.getElem?_drop]
                              rw [show off.toNat + ys.length + (i - (off.toNat + ys.length)) = i by omega]
                        rw [List.getElem?_eq_getElem hi] at hval
                        by_cases q1 : i < off.toNat
                        · rw [if_pos q1, List.getElem?_eq_getElem hi'] at hval
                          injection hval with hval
                          obtain ⟨es, hr, hes⟩ := hcells i hi'
                          refine ⟨es, by rw [hval]; exact hr, fun j u hj => ?_⟩
                          have hjl : j < e'.size := by rw [← hr.size]; exact (List.getElem?_eq_some_iff.1 hj).1
                          have : (i + 1) * e'.size ≤ off.toNat * e'.size := Nat.mul_le_mul_right _ q1
                          rw [Nat.add_mul, Nat.one_mul] at this
                          rw [hbase, if_pos (by omega)]; exact hes j u hj
                        · rw [if_neg q1] at hval
                          have hge : off.toNat * e'.size ≤ i * e'.size := Nat.mul_le_mul_right _ (by omega)
                          by_cases q2 : i < off.toNat + ys.length
                          · rw [if_pos q2, List.getElem?_eq_getElem (by omega)] at hval
                            injection hval with hval
                            obtain ⟨es, hr, hes'⟩ := hL.at_ (i - off.toNat) (by omega)
                            refine ⟨es, by rw [hval]; exact hr, fun j u hj => ?_⟩
                            have := hes' j u hj
                            have hcl2 := (List.getElem?_eq_some_iff.1 this).1
                            rw [Nat.sub_mul] at this hcl2
                            rw [hbase, if_neg (by omega), if_pos (by omega), show i * e'.size + j - off.toNat * e'.size = i * e'.size - off.toNat * e'.size + j by omega]
                            exact this
                          · rw [if_neg q2, List.getElem?_eq_getElem hi'] at hval
                            injection hval with hval
                            obtain ⟨es, hr, hes'⟩ := hcells i hi'
                            refine ⟨es, by rw [hval]; exact hr, fun j u hj => ?_⟩
                            have : (off.toNat + ys.length) * e'.size ≤ i * e'.size := Nat.mul_le_mul_right _ (by omega)
                            rw [Nat.add_mul] at this
                            rw [hbase, if_neg (by omega), if_neg (by rw [hcl]; omega)]
                            exact hes' j u hj)
                      exact wp_value (run0 _ hst) (hK _ _ μ hset.2.2 hset.1 hset.2.1 (hint _ _ _))
              · cases h
            · cases h
          · cases h
        · cases h
      · cases h
    · cases h
  · cases h
end
end Go.W

set_option linter.unusedVariables false
set_option linter.unusedSimpArgs false
namespace Go.W

theorem foldl_pushB : ∀ (l : List Int) (s : ByteArray), l.foldl (fun r n => r.push (UInt8.ofNat n.toNat)) s = ⟨s.data ++ (l.map fun n => UInt8.ofNat n.toNat).toArray⟩
  | [], s => by simp
  | n :: l, s => by
    rw [List.foldl_cons, foldl_pushB l]
    simp [ByteArray.push]
theorem lies_bytes {w : World} {ok : Nat → Prop} : ∀ {l : List Int} {cs : List Value}, Lies w ok (.int .u8) l cs → cs = l.map (Value.int .u8) := fun {l cs} h => by
  apply List.ext_getElem?
  intro i
  have hlen := h.len
  simp only [Ty.size, Nat.mul_one] at hlen
  by_cases hi : i < l.length
  · obtain ⟨es, hr, hes⟩ := h.at_ i hi
    have hr : es = [.int .u8 l[i]] := hr
    have := hes 0 (.int .u8 l[i]) (by rw [hr]; rfl)
    simp only [Ty.size, Nat.mul_one, Nat.add_zero] at this
    rw [this, List.getElem?_map, List.getElem?_eq_getElem hi]; rfl
  · rw [List.getElem?_eq_none (by omega), List.getElem?_eq_none (by simp; omega)]

section
variable {P : Program} {E : Env} (hE : EnvOK P E) {ρ : Type} {o : Oper} {st : St} {K : TV → Ups → Option ρ} {r : ρ}
include hE
theorem und_bytes {t : Nat} {i : TI} (hi : E.ty t = some i) (h : i.ty = .slice (.int .u8)) : ∃ te, P.underlying t = some (.slice te) ∧ P.underlying te = some (.int .u8) := by
  obtain ⟨_, d, h1, h2⟩ := hE.ty t i hi
  unfold UndOK at h2
  rw [h] at h2
  obtain ⟨te, ie, inf, rfl, h3, h4, h5, h6, h7, h8⟩ := h2
  obtain ⟨_, d', k1, k2⟩ := hE.ty te ie h3
  unfold UndOK at k2
  rw [h4] at k2
  dsimp only at k2
  subst k2
  exact ⟨te, h1, k1⟩
theorem op_convert {s t : TypeId} {x : Operand} (ho : o.op = .convert s t x) (h : opE E st o K = some r) : OpLaw E P o st K r := by
  simp only [opE, ho] at h
  obtain ⟨i0, hi0, h⟩ := tyOf_inv h
  obtain ⟨i, hi, h⟩ := tyOf_inv h
  obtain ⟨p, hp, h⟩ := opOne_inv h
  have hs : ∃ d, P.underlying s = some d := by obtain ⟨_, d, hd, _⟩ := hE.ty s i0 hi0; exact ⟨d, hd⟩
  unfold convE at h
  split at h
  · rename_i pv k k' n hk
    refine ⟨_, [], fun ρ' K' => by simp only [opE, ho, tyOf, hi0, hi, opOne, hp, convE, hk], h, fun b hb => absurd rfl hb, OpSem.pure fun B w μ a W hH hT => ?_⟩
    have hx := rep_int (opv_sound hT hp)
    obtain ⟨_, d, hd, hu⟩ := hE.ty t i hi
    unfold UndOK at hu
    rw [hk] at hu
    dsimp only at hu
    subst hu
    obtain ⟨d', hd'⟩ := hs
    refine ⟨_, ?_, int_rep _ _ _ _ _ _⟩
    simp [execOp, ho, convert, underlying, hd, hd', hx, Conv.intToInt]
  · rename_i pv v hk
    obtain ⟨te, hu, he⟩ := und_bytes hE hi hk
    obtain ⟨d', hd'⟩ := hs
    refine ⟨_, [], fun ρ' K' => by simp only [opE, ho, tyOf, hi0, hi, opOne, hp, convE, hk], h, fun b hb => absurd rfl hb, ?_⟩
    intro W B w μ a hWB hH hT K' Q hK
    have hx : a.eval x = .string v := by
      obtain ⟨cs, hr, ⟨hc, _⟩ | ⟨_, hc⟩⟩ := opv_sound hT hp
      · cases hc
      · have hr : cs = [.string v] := hr
        rw [hr] at hc; injection hc with hc; exact hc.symm
    have hrun := Lib.run_convert_string_bytes (P := P) w s t te v hd' hu he
    have hold := Lib.bytesWorld_at_old w te v
    have hsize := Lib.bytesWorld_size w te v
    have hcell := Lib.bytesWorld_cell w te v
    have hroom : ∀ (g : Nat) (c : Array Value) eT fr, g < w.heap.size → (Lib.bytesWorld w te v).heap[g]? = some (.cells c eT fr) → ∃ (c' : Array Value) (eT' : _) (fr' : _), w.heap[g]? = some (.cells c' eT' fr') ∧ c'.size ≤ c.size := fun g c eT fr hg hc => ⟨c, eT, fr, by rw [← hold g hg]; exact hc, Nat.le_refl _⟩
    have hok : ∀ g, okS B w.heap.size μ (lk st.hp) g → okS B (Lib.bytesWorld w te v).heap.size μ (lk st.hp) g := fun g hg => ⟨hg.1, by rw [hsize]; have := hg.2.1; omega, hg.2.2⟩
    have hT' : Tr B w μ (lk st.hp) (Lib.bytesWorld w te v) μ (lk st.hp) := Tr.mk' (fun g hg => hold g hg.2.1) hok (fun _ h => h) (fun b blk _ hb => ⟨blk, hb, rfl, rfl, rfl⟩) (fun b blk g c eT fr _ hb hg hc => hroom g c eT fr (hH.lt b blk g hb hg).2.1 hc)
    have hH' : HOK W B (Lib.bytesWorld w te v) μ (lk st.hp) := ⟨fun b blk g hb hg => by
        obtain ⟨q1, q2, q3⟩ := hH.lt b blk g hb hg
        exact ⟨q1, by rw [hsize]; omega, q3⟩, hH.apart, fun b blk hb => BRep.mono (fun g hg => hold g hg.2.1) (fun g hg => hold g (hH.lt b blk g hb hg).2.1) hok okS_lt (hH.rep b blk hb)⟩
    have hfr : Fr W w (Lib.bytesWorld w te v) := ⟨rfl, rfl, rfl, by rw [hsize]; omega, fun g hg _ => hold g hg, hroom⟩
    have hcap : v.size ≤ grownCap w v.size 0 te := grownCap_ge _ _ _ _
    refine wp_value (v := .slice (some ⟨w.heap.size, 0, none⟩) v.size (grownCap w v.size 0 te)) (by simp [execOp, ho, hx, hrun]) (hK _ _ μ hfr hH' hT' ?_)
    refine ⟨_, ⟨some ⟨w.heap.size, 0, none⟩, grownCap w v.size 0 te, rfl, ?_, fun j hj => ?_⟩, .inr ⟨rfl, ?_⟩⟩
    · simpa [toB] using hcap
    · have hj' : j < v.size := by simpa [toB] using hj
      refine ⟨w.heap.size, 0, _, rfl, ⟨(hWB _ (Nat.le_refl _)).2, by rw [hsize]; omega, fun b blk hb hf hm => ?_⟩, rfl, fun q u hq => ?_⟩
      · have := (hH.lt b blk _ hb hm).2.1; omega
      · cases q with
        | succ q => simp at hq
        | zero =>
          have hq : some (Value.int .u8 (toB v)[j]) = some u := hq
          injection hq with hq
          subst hq
          have := hcell j hj'
          simp only [Ty.size, Nat.mul_one, Nat.zero_add, Nat.add_zero]
          rw [this]
          simp [toB, List.getD, hj']
    · simp [toB]
  · rename_i pv _ hk
    split at h
    · rename_i hk0
      obtain ⟨l, hlaw, h, hrd⟩ := rdL_sound h
      obtain ⟨te, hu, he⟩ := und_bytes hE hi0 hk0
      have hd := und_str hE hi hk
      refine ⟨_, [], fun ρ' K' => by simp only [opE, ho, tyOf, hi0, hi, opOne, hp, convE, hk, hk0]; exact hlaw _ _, h, fun b hb => absurd rfl hb, OpSem.pure fun B w μ a W hH hT => ?_⟩
      have hx := hrd W B w μ _ hH (opv_sound hT hp)
      obtain ⟨cs, hL, hfirst⟩ := hx.first
      obtain ⟨A, cap, hX, _⟩ := hx
      have hf := hfirst P w rfl
      rw [hX] at hf
      refine ⟨.string (ofB l), ?_, ⟨_, rfl, .inr ⟨rfl, rfl⟩⟩⟩
      have hbs := run_convert_bytes_string (P := P) w s t te A l.length cap hu he hd
      have : (Conv.bytesToString (.slice A l.length cap)).run P w = .ok (.string (ofB l)) w := by
        rw [lies_bytes hL] at hf
        cases A with
        | none =>
          simp [Builtin.firstCells, Sem.run_pure] at hf
          have : l = [] := by simpa using hf.symm
          subst this
          simp [Conv.bytesToString, Sem.run_pure, ofB]; rfl
        | some ad =>
          simp only [Builtin.firstCells, Ty.size, Nat.mul_one] at hf
          rw [run_bytesToString w ad l.length cap l (by simpa using hf), foldl_pushB]
          simp [ofB]
      simp [execOp, ho, hX, hbs, this]
    · cases h
  · cases h
end
end Go.W

