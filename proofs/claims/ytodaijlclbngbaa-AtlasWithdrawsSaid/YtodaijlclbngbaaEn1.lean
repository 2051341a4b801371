/- A symbolic executor over Go's code: the values of slots, variables of the call's own in boxes. Definitions. -/
import Derived.Test.YtodaijlclbngbaaCm
set_option linter.all false
namespace Go.Proofs.Ytodaijlclbngbaa.En
open Go.RowKit

/-- a value: known outright, or an address in a box of the call's own -/
inductive SV where
  | v (x : Value)
  | p (k off : Nat)
  | a (l : List SV)
  | t (l : List SV)
  | fn (f : FuncId) (cap : List SV)

/-- what the executor knows of a type -/
structure TI where
  id : Nat
  agg : Bool
  zero : List Value
  flds : List (Nat × Nat × Bool)
  eqk : List Nat
  el : Nat
  byt : Nat
  kd : Nat

inductive OB where
  | box (ty : TypeId) (cells : List SV)
  | row (e sz : Nat) (A : Option Addr) (n c : Nat) (els : List (List Value))
  | res (R : World → (Nat → Prop) → Prop)

structure Ctx where
  P : Program
  T : List TI
  n : Nat
  w0 : World
  M : Nat → Prop
  m : Nat
  π : Nat → Nat
  d : Bool

def look : List (Nat × SV) → Nat → Option SV
  | [], _ => none
  | (i, x) :: r, t => match Nat.beq i t with
    | true => some x
    | false => look r t

def ev (tm : List (Nat × SV)) : Operand → Option SV
  | .tmp t => look tm t
  | .const v => some (.v v)
  | .global g => some (.v (.pointer (some ⟨g, 0, none⟩)))
  | .func f => some (.v (.func (.func f) #[] #[]))

def evs (tm : List (Nat × SV)) : List Operand → Option (List SV)
  | [] => some []
  | x :: r => match ev tm x with
    | none => none
    | some a => match evs tm r with
      | none => none
      | some l => some (a :: l)

def lookT : List TI → Nat → Option TI
  | [], _ => none
  | i :: r, t => match Nat.beq i.id t with
    | true => some i
    | false => lookT r t

def nth {α : Type} : List α → Nat → Option α
  | [], _ => none
  | x :: _, 0 => some x
  | _ :: r, n + 1 => nth r n
/-- the list with its spine worked out -/
def force {α : Type} {β : Sort _} : List α → (List α → β) → β
  | [], k => k []
  | x :: r, k => force r fun r' => k (x :: r')
def setN {α : Type} : List α → Nat → α → List α
  | [], _, _ => []
  | _ :: r, 0, y => y :: r
  | x :: r, n + 1, y => x :: setN r n y
def cut {α : Type} : List α → Nat → Nat → List α
  | l, 0, n => l.take n
  | [], _ + 1, _ => []
  | _ :: r, o + 1, n => cut r o n
/-- the cells from off on replaced -/
def splice : List SV → Nat → List SV → List SV
  | l, _, [] => l
  | l, o, x :: r => splice (setN l o x) (o + 1) r

/-- the cells of a value -/
def SV.cells : SV → List SV
  | .a l => l
  | .v (.agg cs) => cs.toList.map .v
  | x => [x]

/-- both ways -/
def xif (b : Bool) (t e : Unit → Prop) : Prop := Bool.rec (motive := fun _ => Prop) (e ()) (t ()) b
@[irreducible] def need (p : Prop) (k : Unit → Prop) : Prop := p ∧ k ()

def sameK : IntKind → IntKind → Bool
  | .i64, .i64 => true
  | .u8, .u8 => true
  | .i32, .i32 => true
  | .u32, .u32 => true
  | .u64, .u64 => true
  | .i8, .i8 => true
  | .i16, .i16 => true
  | .u16, .u16 => true
  | _, _ => false
theorem sameK_eq {a b : IntKind} (h : sameK a b = true) : a = b := by cases a <;> cases b <;> first | rfl | cases h

/-- a sum in the type's range: it is asked whether it stays there -/
structure xwr64 (e : Int) (k : Int → Prop) : Prop where
  out : k (IntKind.i64.wrap e)
structure xquo64 (a b : Int) (k : Int → Prop) : Prop where
  out : b ≠ 0 ∧ k (IntKind.i64.wrap (a.tdiv b))
structure xrem64 (a b : Int) (k : Int → Prop) : Prop where
  out : b ≠ 0 ∧ k (a.tmod b)
/-- shifts, and a conversion between kinds of integers -/
structure xshr (kd : IntKind) (a b : Int) (k : Int → Prop) : Prop where
  out : 0 ≤ b ∧ k (a.fdiv (2 ^ min b.toNat kd.bits))
structure xshl (kd : IntKind) (a b : Int) (k : Int → Prop) : Prop where
  out : 0 ≤ b ∧ k (kd.wrap (a * 2 ^ min b.toNat kd.bits))
structure xcv (kd : IntKind) (n : Int) (k : Int → Prop) : Prop where
  out : k (kd.wrap n)
def ikOf : Nat → Option IntKind
  | 10 => some .i64
  | 11 => some .u8
  | 12 => some .i32
  | 13 => some .u32
  | 14 => some .u64
  | 15 => some .i8
  | 16 => some .i16
  | 17 => some .u16
  | _ => none
def xwr (kd : IntKind) (e : Int) (k : Int → Prop) : Prop :=
  match kd with
  | .i64 => xwr64 e k
  | kd => k (kd.wrap e)
def xquo (kd : IntKind) (a b : Int) (k : Int → Prop) : Prop :=
  match kd with
  | .i64 => xquo64 a b k
  | kd => need (b ≠ 0) fun _ => k (kd.wrap (a.tdiv b))
def xrem (kd : IntKind) (a b : Int) (k : Int → Prop) : Prop :=
  match kd with
  | .i64 => xrem64 a b k
  | _ => need (b ≠ 0) fun _ => k (a.tmod b)

def binI (op : BinOp) (kd : IntKind) (a b : Int) (k : SV → Prop) : Prop :=
  match op with
  | .add => xwr kd (a + b) fun e => k (.v (.int kd e))
  | .sub => xwr kd (a - b) fun e => k (.v (.int kd e))
  | .mul => xwr kd (a * b) fun e => k (.v (.int kd e))
  | .quo => xquo kd a b fun e => k (.v (.int kd e))
  | .rem => xrem kd a b fun e => k (.v (.int kd e))
  | .and => k (.v (.int kd (bits .and kd a b)))
  | .or => k (.v (.int kd (bits .or kd a b)))
  | .xor => k (.v (.int kd (bits .xor kd a b)))
  | .eql => k (.v (.bool (a == b)))
  | .neq => k (.v (.bool (a != b)))
  | .lss => k (.v (.bool (decide (a < b))))
  | .leq => k (.v (.bool (decide (a ≤ b))))
  | .gtr => k (.v (.bool (decide (a > b))))
  | .geq => k (.v (.bool (decide (a ≥ b))))
  | .shr => xshr kd a b fun e => k (.v (.int kd e))
  | .shl => xshl kd a b fun e => k (.v (.int kd e))
  | _ => False

/-- two structs of integers and bools are equal; the kinds of their cells: 0 an int, 1 a bool -/
def eqL : List Nat → List SV → List SV → Option Bool
  | [], [], [] => some true
  | 0 :: ks, .v (.int .i64 a) :: l, .v (.int .i64 b) :: m => match eqL ks l m with
    | some r => some ((a == b) && r)
    | none => none
  | 1 :: ks, .v (.bool a) :: l, .v (.bool b) :: m => match eqL ks l m with
    | some r => some ((a == b) && r)
    | none => none
  | _, _, _ => none

def eqT (ks : List Nat) (l m : List SV) : Option Bool :=
  match ks with
  | [] => none
  | k :: ks => eqL (k :: ks) l m

/-- each is the value of one cell -/
def ones : List SV → Bool
  | [] => true
  | x :: r => match x with
    | .v (.agg _) => false
    | .v (.tuple _) => false
    | .a _ => false
    | .t _ => false
    | _ => ones r

def fill (fl : List (Nat × Nat × Bool)) : List SV → List (Nat × SV) → Option (List SV)
  | cs, [] => some cs
  | cs, (i, x) :: r => match nth fl i with
    | some (o, n, _) => match Nat.beq x.cells.length n, Nat.ble (o + n) cs.length with
      | true, true => fill fl (splice cs o x.cells) r
      | _, _ => none
    | none => none

end Go.Proofs.Ytodaijlclbngbaa.En
