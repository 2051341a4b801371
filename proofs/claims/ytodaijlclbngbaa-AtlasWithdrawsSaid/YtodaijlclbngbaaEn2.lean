/- The symbolic executor: what a state means, and its steps. -/
import Derived.Test.YtodaijlclbngbaaEn1
set_option linter.all false
namespace Go.Proofs.Ytodaijlclbngbaa.En
open Go.RowKit

mutual
def SV.val (σ : Nat → Nat) : SV → Value
  | .v x => x
  | .p k off => .pointer (some ⟨σ k, off, none⟩)
  | .a l => .agg (SV.vals σ l).toArray
  | .t l => .tuple (SV.vals σ l).toArray
  | .fn f cap => .func (.func f) #[] (SV.vals σ cap).toArray
def SV.vals (σ : Nat → Nat) : List SV → List Value
  | [] => []
  | x :: r => x.val σ :: SV.vals σ r
end
mutual
def SV.wf (n : Nat) : SV → Prop
  | .v _ => True
  | .p k _ => k < n
  | .a l => SV.wfs n l
  | .t l => SV.wfs n l
  | .fn _ cap => SV.wfs n cap
def SV.wfs (n : Nat) : List SV → Prop
  | [] => True
  | x :: r => x.wf n ∧ SV.wfs n r
end

def OB.at (σ : Nat → Nat) (n : Nat) (w : World) (b : Nat) (F : Nat → Prop) : OB → Prop
  | .box ty cells => w.heap[b]? = some (.cells (SV.vals σ cells).toArray ty (0, 0)) ∧ (∀ i, F i ↔ i = b) ∧ SV.wfs n cells
  | .row e sz A n c els => w.ownsRow 0 e sz (.slice A n c) n els.flatten ∧ els.length = n ∧ (∀ x ∈ els, x.length = sz) ∧ (∀ x ∈ els.flatten, Value.oneCell' x = true) ∧ ∀ i, F i ↔ (Value.slice A n c).ownBlock = some i
  | .res R => R w F ∧ ∀ w' : World, (∀ i, F i → w'.heap[i]? = w.heap[i]?) → R w' F

/-- what was there is as it was, but for the blocks of M -/
structure Kept (M : Nat → Prop) (w0 w : World) : Prop where
  os : w.os = w0.os
  tape : w.tape = w0.tape
  output : w.output = w0.output
  size : w0.heap.size ≤ w.heap.size
  block : ∀ i, i < w0.heap.size → ¬ M i → w.heap[i]? = w0.heap[i]?

structure Mem (C : Ctx) (σ : Nat → Nat) (fp : Nat → Nat → Prop) (ob : List OB) (w : World) : Prop where
  at_ : ∀ (k : Nat) (o : OB), ob[k]? = some o → o.at σ ob.length w (σ k) (fp k)
  disj : ∀ j k, j < ob.length → k < ob.length → j ≠ k → ∀ i, fp j i → ¬ fp k i
  lo : ∀ k, k < ob.length → ∀ i, fp k i → C.M i ∨ C.w0.heap.size ≤ i
  hi : ∀ k, k < ob.length → ∀ i, fp k i → i < w.heap.size
  kept : Kept C.M C.w0 w
  pin : C.m ≤ ob.length ∧ ∀ j, j < C.m → σ j = C.π j
  drw : C.d = true → C.w0.drawn ≤ w.drawn

structure Tm (C : Ctx) (σ : Nat → Nat) (n : Nat) (tm : List (Nat × SV)) (a : Act) : Prop where
  size : a.tmps.size = C.n
  defers : a.defers = []
  val : ∀ t x, look tm t = some x → a.tmps.getD t undef = x.val σ ∧ x.wf n

structure Rel (C : Ctx) (tm : List (Nat × SV)) (ob : List OB) (σ : Nat → Nat) (fp : Nat → Nat → Prop) (a : Act) (w : World) : Prop where
  tm : Tm C σ ob.length tm a
  mem : Mem C σ fp ob w

/-- from w to w': of what is newer than w0, nothing changes but the objects; and they take in nothing that was there and was no object -/
structure Frm (C : Ctx) (n : Nat) (fp : Nat → Nat → Prop) (w : World) (n' : Nat) (fp' : Nat → Nat → Prop) (w' : World) : Prop where
  old : ∀ i, C.w0.heap.size ≤ i → i < w.heap.size → (∀ j, j < n → ¬ fp j i) → w'.heap[i]? = w.heap[i]?
  new : ∀ j, j < n' → ∀ i, fp' j i → C.w0.heap.size ≤ i → i < w.heap.size → ∃ j', j' < n ∧ fp j' i
  size : w.heap.size ≤ w'.heap.size

/-- a state reached: what is known of it -/
def Goes (C : Ctx) (n : Nat) (σ : Nat → Nat) (fp : Nat → Nat → Prop) (w : World) (k : SV → List OB → Prop) (v : Value) (w' : World) : Prop :=
  ∃ x ob σ' fp', k x ob ∧ (∀ j, j < n → σ' j = σ j) ∧ n ≤ ob.length ∧ v = x.val σ' ∧ x.wf ob.length ∧ Mem C σ' fp' ob w' ∧ Frm C n fp w ob.length fp' w'

def Entr (P : Program) (f : FuncId) : Prop := ∀ args w, (callFunc f args).run P w = .ok (.enter f args) w

/-- a call of a Go function -/
@[irreducible] def CallX (C : Ctx) (f : FuncId) (args : List SV) (ob : List OB) (k : SV → List OB → Prop) : Prop :=
  Entr C.P f ∧ ∀ σ fp w, Mem C σ fp ob w → Calls C.P f (SV.vals σ args).toArray w fun e w' => ∃ v, e = .returned v ∧ Goes C ob.length σ fp w k v w'

/-- an operation that computes or reads: its operands' values, and its run -/
@[irreducible] def ValX (C : Ctx) (o : Oper) (xs : List SV) (ob : List OB) (k : SV → Prop) : Prop :=
  ∀ σ fp w (ρ : Operand → Value), Mem C σ fp ob w → o.op.operands.toList.map ρ = SV.vals σ xs → ∃ x, k x ∧ (execOp ρ o).run C.P w = .ok (.value (x.val σ)) w ∧ x.wf ob.length

/-- another operation: its operands' values, and its run -/
@[irreducible] def OpX (C : Ctx) (o : Oper) (xs : List SV) (ob : List OB) (k : SV → List OB → Prop) : Prop :=
  ∀ σ fp w (ρ : Operand → Value), Mem C σ fp ob w → o.op.operands.toList.map ρ = SV.vals σ xs →
    match (execOp ρ o).run C.P w with
    | .ok (.value v) w' => Goes C ob.length σ fp w k v w'
    | .ok .skip w' => Goes C ob.length σ fp w k undef w'
    | .ok (.enter f args) w' => Calls C.P f args w' fun e w'' => ∃ v, e = .returned v ∧ Goes C ob.length σ fp w k v w''
    | _ => False

def post (C : Ctx) (K : Exit → List (Nat × SV) → List OB → Prop) (e : Exit) (a : Act) (w : World) : Prop := ∃ tm ob σ fp, K e tm ob ∧ Rel C tm ob σ fp a w

@[irreducible] def LoopX (C : Ctx) (c : Code) (tm : List (Nat × SV)) (ob : List OB) (K : Exit → List (Nat × SV) → List OB → Prop) : Prop :=
  ∀ σ fp a w, Rel C tm ob σ fp a w → (Code.loop c).wp C.P (post C K) a w

/-- a region that draws its order -/
@[irreducible] def DrawX (C : Ctx) (ops : Array Oper) (tm : List (Nat × SV)) (ob : List OB) (K : Exit → List (Nat × SV) → List OB → Prop) : Prop :=
  ∀ id σ fp a w, Rel C tm ob σ fp a w → (Code.region id ops true).wp C.P (post C K) a w

def lits : List Nat := [0, 1, 2, 3, 4, 5, 6, 7, 8, 9, 10, 11, 12, 13, 14, 15, 16, 17, 18, 19, 20, 21, 22, 23, 24, 25, 26, 27, 28, 29, 30, 31, 32, 33, 34, 35, 36, 37, 38, 39, 40, 41, 42, 43, 44, 45, 46, 47, 48, 49, 50, 51, 52, 53, 54, 55, 56, 57, 58, 59, 60, 61, 62, 63, 64, 65, 66, 67, 68, 69, 70, 71, 72, 73, 74, 75, 76, 77, 78, 79, 80, 81, 82, 83, 84, 85, 86, 87, 88, 89, 90, 91, 92, 93, 94, 95, 96, 97, 98, 99, 100, 101, 102, 103, 104, 105, 106, 107, 108, 109, 110, 111, 112, 113, 114, 115, 116, 117, 118, 119, 120, 121, 122, 123, 124, 125, 126, 127, 128, 129, 130, 131, 132, 133, 134, 135, 136, 137, 138, 139, 140, 141, 142, 143, 144, 145, 146, 147, 148, 149, 150, 151, 152, 153, 154, 155, 156, 157, 158, 159, 160, 161, 162, 163, 164, 165, 166, 167, 168, 169, 170, 171, 172, 173, 174, 175, 176, 177, 178, 179, 180, 181, 182, 183, 184, 185, 186, 187, 188, 189, 190, 191, 192, 193, 194, 195, 196, 197, 198, 199, 200, 201, 202, 203, 204, 205, 206, 207, 208, 209, 210, 211, 212, 213, 214, 215, 216, 217, 218, 219, 220, 221, 222, 223, 224, 225, 226, 227, 228, 229, 230, 231, 232, 233, 234, 235, 236, 237, 238, 239, 240, 241, 242, 243, 244, 245, 246, 247, 248, 249, 250, 251, 252, 253, 254, 255, 256, 257, 258, 259, 260, 261, 262, 263, 264, 265, 266, 267, 268, 269, 270, 271, 272, 273, 274, 275, 276, 277, 278, 279, 280, 281, 282, 283, 284, 285, 286, 287, 288, 289, 290, 291, 292, 293, 294, 295, 296, 297, 298, 299]
def litK {β : Sort _} : List Nat → Nat → (Nat → β) → β → β
  | [], _, _, e => e
  | m :: _, 0, k, _ => k m
  | _ :: r, n + 1, k, e => litK r n k e
def lenK {α : Type} {β : Sort _} : List Nat → List α → (Nat → β) → β → β
  | [], _, _, e => e
  | m :: _, [], k, _ => k m
  | _ :: r, _ :: l, k, e => lenK r l k e

def newBox (t : TypeId) (cs : List SV) (ob : List OB) (k : SV → List OB → Prop) : Prop :=
  lenK lits ob (fun n => force cs fun cs => force (ob ++ [.box t cs]) fun ob => k (.p n 0) ob) False

/-- operations that compute or read -/
def isVal : Op → Bool
  | .makeFunc .. | .move _ | .assign _ | .pick .. | .build .. | .load .. | .nilCheck _ | .binOp .. | .unOp .. | .convert .. | .slice .. | .fieldAddr .. | .field .. | .indexAddr .. | .index .. | .lookup .. | .extract .. | .makeInterface .. => true
  | .call ⟨.builtin b, _, _⟩ => match b with
    | .len | .cap | .min | .max => true
    | _ => false
  | _ => false

def xval (C : Ctx) (o : Oper) (tm : List (Nat × SV)) (ob : List OB) (k : SV → Prop) : Prop :=
  match o.op with
  | .move x | .assign x => match ev tm x with
    | some r => k r
    | none => False
  | .pick c a b => match ev tm c, ev tm a, ev tm b with
    | some (.v (.bool b')), some x, some y => xif b' (fun _ => k x) (fun _ => k y)
    | _, _, _ => False
  | .load t x => match ev tm x with
    | some (.p j off) => match lookT C.T t, nth ob j with
      | some ti, some (.box _ cs) => match ti.agg with
        | true => match Nat.ble (off + ti.zero.length) cs.length with
          | true => force (cut cs off ti.zero.length) fun l => k (.a l)
          | false => False
        | false => match nth cs off with
          | some r => k r
          | none => False
      | _, _ => False
    | some x => ValX C o [x] ob k
    | none => False
  | .fieldAddr t x i => match ev tm x with
    | some (.p j off) => match lookT C.T t with
      | some ti => match nth ti.flds i with
        | some (fo, fs, _) => match fs with
          | 0 => False
          | _ + 1 => litK lits (off + fo) (fun n => k (.p j n)) False
        | none => False
      | none => False
    | some (.v (.pointer (some ad))) => match lookT C.T t with
      | some ti => match nth ti.flds i with
        | some (fo, fs, _) => match fs with
          | 0 => False
          | _ + 1 => k (.v (.pointer (some (ad.add fo))))
        | none => False
      | none => False
    | some x => ValX C o [x] ob k
    | none => False
  | .makeFunc (.func f) first cap => match first.toList, evs tm cap.toList with
    | [], some l => force l fun l => k (.fn f l)
    | _, _ => False
  | .nilCheck x => match ev tm x with
    | some (.p j off) => k (.p j off)
    | some (.v (.pointer (some ad))) => k (.v (.pointer (some ad)))
    | some x => ValX C o [x] ob k
    | none => False
  | .build t parts => match lookT C.T t, evs tm (parts.toList.map (·.2)) with
    | some ti, some l => match ti.agg, fill ti.flds (ti.zero.map .v) ((parts.toList.map (·.1)).zip l) with
      | true, some cs => force cs fun cs => k (.a cs)
      | _, _ => force l fun l => ValX C o l ob k
    | _, _ => False
  | .convert s u x => match ev tm x with
    | some (.v (.int kd n)) => match lookT C.T s, lookT C.T u with
      | some _, some ti => match ikOf ti.kd with
        | some kd' => xcv kd' n fun e => k (.v (.int kd' e))
        | none => ValX C o [.v (.int kd n)] ob k
      | _, _ => ValX C o [.v (.int kd n)] ob k
    | some x => force [x] fun l => ValX C o l ob k
    | none => False
  | .extract x i => match ev tm x with
    | some (.t l) => match nth l i with
      | some r => k r
      | none => False
    | _ => False
  | .unOp op _ x => match op, ev tm x with
    | .not, some (.v (.bool b)) => k (.v (.bool !b))
    | .neg, some (.v (.int kd n)) => xwr kd (0 - n) fun e => k (.v (.int kd e))
    | _, some x => ValX C o [x] ob k
    | _, none => False
  | .binOp op t x y _ => match ev tm x, ev tm y with
    | some (.v (.int kd a)), some (.v (.int kd' b)) => match sameK kd kd' with
      | true => binI op kd a b fun r => k r
      | false => match op with
        | .shr => xshr kd a b fun e => k (.v (.int kd e))
        | .shl => xshl kd a b fun e => k (.v (.int kd e))
        | _ => False
    | some (.a l), some (.a m) => match lookT C.T t with
      | some ti => match op, eqT ti.eqk l m with
        | .eql, some r => k (.v (.bool r))
        | .neq, some r => k (.v (.bool !r))
        | _, _ => False
      | none => False
    | some (.v (.bool a)), some (.v (.bool b)) => match lookT C.T t with
      | some ti => match ti.kd, op with
        | 1, .eql => k (.v (.bool (a == b)))
        | 1, .neq => k (.v (.bool !(a == b)))
        | _, _ => False
      | none => False
    | some (.v (.pointer a)), some (.v (.pointer none)) => match lookT C.T t with
      | some ti => match ti.kd, op with
        | 2, .eql => k (.v (.bool a.isNone))
        | 2, .neq => k (.v (.bool !a.isNone))
        | _, _ => False
      | none => False
    | some (.v (.slice a _ _)), some (.v (.slice none _ _)) => match lookT C.T t with
      | some ti => match ti.el, op with
        | _ + 1, .eql => k (.v (.bool a.isNone))
        | _ + 1, .neq => k (.v (.bool !a.isNone))
        | _, _ => False
      | none => False
    | some (.p j off), some (.v (.pointer none)) => match lookT C.T t with
      | some ti => match ti.kd, op with
        | 2, .eql => k (.v (.bool false))
        | 2, .neq => k (.v (.bool true))
        | _, _ => False
      | none => False
    | some x, some y => ValX C o [x, y] ob k
    | _, _ => False
  | .call ⟨.builtin .len, args, ats⟩ => match evs tm args.toList, ats.toList with
    | some [.v (.slice q n c)], [t] => match lookT C.T t with
      | some ti => match ti.el with
        | 0 => False
        | _ + 1 => k (.v (.int .i64 n))
      | none => False
    | some l, _ => force l fun l => ValX C o l ob k
    | none, _ => False
  | .call ⟨.builtin .min, args, _⟩ => match evs tm args.toList with
    | some [.v (.int kd a), .v (.int _ b)] => k (.v (.int kd (min a b)))
    | some l => force l fun l => ValX C o l ob k
    | none => False
  | .call ⟨.builtin .max, args, _⟩ => match evs tm args.toList with
    | some [.v (.int kd a), .v (.int _ b)] => k (.v (.int kd (max a b)))
    | some l => force l fun l => ValX C o l ob k
    | none => False
  | op => match evs tm op.operands.toList with
    | some l => force l fun l => ValX C o l ob k
    | none => False

def xop (C : Ctx) (o : Oper) (tm : List (Nat × SV)) (ob : List OB) (k : SV → List OB → Prop) : Prop :=
  match o.op with
  | .alloc t => match lookT C.T t with
    | some ti => newBox t (ti.zero.map .v) ob k
    | none => False
  | .box t x => match ev tm x with
    | some r => newBox t r.cells ob k
    | none => False
  | .store t x y => match ev tm x, ev tm y with
    | some (.p j off), some r => match lookT C.T t, nth ob j with
      | some ti, some (.box bt cs) => match Nat.beq r.cells.length ti.zero.length, Nat.ble (off + ti.zero.length) cs.length, ones r.cells with
        | true, true, true => force (splice cs off r.cells) fun l => force (setN ob j (.box bt l)) fun ob => k (.v undef) ob
        | _, _, _ => False
      | _, _ => False
    | some x, some y => OpX C o [x, y] ob k
    | _, _ => False
  | .call ⟨.value (.func f), args, _⟩ => match evs tm args.toList with
    | some l => force l fun l => CallX C f l ob k
    | none => False
  | .call ⟨.value (.tmp t), args, _⟩ => match look tm t, evs tm args.toList with
    | some (.fn f cap), some l => force (l ++ cap) fun l => CallX C f l ob k
    | some (.v (.func (.func f) first cap)), some l => match first.toList with
      | [] => force (l ++ cap.toList.map .v) fun l => CallX C f l ob k
      | _ => False
    | some x, some l => force (x :: l) fun l => OpX C o l ob k
    | _, _ => False
  | op => match isVal op with
    | true => xval C o tm ob fun x => k x ob
    | false => match evs tm op.operands.toList with
      | some l => force l fun l => OpX C o l ob k
      | none => False

def putT (C : Ctx) (d : Option Nat) (x : SV) (tm : List (Nat × SV)) (k : List (Nat × SV) → Prop) : Prop :=
  match d with
  | some d => match Nat.ble (d + 1) C.n with
    | true => k ((d, x) :: tm)
    | false => False
  | none => k tm

def xops (C : Ctx) (full : List Oper) : List Oper → List (Nat × SV) → List OB → (List (Nat × SV) → List OB → Prop) → Prop
  | [], tm, ob, k => k tm ob
  | o :: r, tm, ob, k => match o.guard with
    | none => xop C o tm ob fun x ob => putT C o.dst x tm fun tm => xops C full r tm ob k
    | some (j, want) => match nth full j with
      | some g => match g.dst with
        | some d => match look tm d with
          | some (.v (.bool b)) => match want with
            | true => xif b (fun _ => xop C o ((d, .v (.bool true)) :: tm) ob fun x ob => putT C o.dst x ((d, .v (.bool true)) :: tm) fun tm => xops C full r tm ob k) (fun _ => putT C o.dst (.v undef) ((d, .v (.bool false)) :: tm) fun tm => xops C full r tm ob k)
            | false => xif b (fun _ => putT C o.dst (.v undef) ((d, .v (.bool true)) :: tm) fun tm => xops C full r tm ob k) (fun _ => xop C o ((d, .v (.bool false)) :: tm) ob fun x ob => putT C o.dst x ((d, .v (.bool false)) :: tm) fun tm => xops C full r tm ob k)
          | some (.v (.tuple _)) => putT C o.dst (.v undef) tm fun tm => xops C full r tm ob k
          | _ => False
        | none => False
      | none => False

abbrev Kx := Exit → List (Nat × SV) → List OB → Prop

/-! by the recursor itself: what the kernel and the elaborator make of it are then the same terms -/
abbrev Cx := List (Nat × SV) → List OB → Kx → Prop
def regX (C : Ctx) (ops : Array Oper) (draw : Bool) : Cx := fun tm ob K =>
  match draw with
  | false => xops C ops.toList ops.toList tm ob fun tm ob => K .normal tm ob
  | true => DrawX C ops tm ob K
def seqX (xa xb : Cx) : Cx := fun tm ob K => xa tm ob fun e tm ob => match e with
  | .normal => xb tm ob K
  | .exit i => K (.exit i) tm ob
  | .ret => K .ret tm ob
  | _ => False
def condX (c : Operand) (xa xb : Cx) : Cx := fun tm ob K => match ev tm c with
  | some (.v (.bool t)) => xif t (fun _ => xa tm ob K) (fun _ => xb tm ob K)
  | _ => False
def blockX (id : Nat) (xc : Cx) : Cx := fun tm ob K => xc tm ob fun e tm ob => match e with
  | .normal => K .normal tm ob
  | .exit i => match Nat.beq i id with
    | true => K .normal tm ob
    | false => K (.exit i) tm ob
  | .ret => K .ret tm ob
  | _ => False
def xcode (C : Ctx) (c : Code) : Cx :=
  Code.rec (motive := fun _ => Cx) (fun tm ob K => K .normal tm ob) (fun _ ops draw => regX C ops draw) (fun _ _ xa xb => seqX xa xb) (fun c _ _ xa xb => condX c xa xb)
    (fun id _ xc => blockX id xc) (fun c _ tm ob K => LoopX C c tm ob K) (fun _ _ _ _ _ _ _ _ _ => False) (fun i tm ob K => K (.exit i) tm ob) (fun _ _ _ _ _ => False) (fun _ tm ob K => K .normal tm ob)
    (fun _ _ _ _ => False) (fun tm ob K => K .ret tm ob) (fun _ _ _ _ => False) c

end Go.Proofs.Ytodaijlclbngbaa.En
