import Derived.WalkKit
import Derived.WalkLawsBesides
import Derived.ArgAppend
import Derived.Deep.LoopGhost
import Derived.Deep.MidRow
import Derived.Laws.CopyRow
set_option linter.all false
section
namespace Go.Proofs.YtkflmidichikjaaGreatDoor.V
open Go.RowKit
inductive DV where
 | v (x : Value)
 | fz (sz : Nat) (els : List (List DV))
inductive SV where
 | v (x : Value)
 | p (k off : Nat)
 | a (l : List SV)
 | t (l : List SV)
 | fn (f : FuncId) (cap : List SV)
 | sl (k b i n sz : Nat)
 | sq (k i off sz : Nat)
 | fz (A : Option Addr) (c sz : Nat) (els : List (List DV))
 | fa (ad : Addr) (cs : List DV)
structure TI where
 id : Nat
 agg : Bool
 zero : List Value
 flds : List (Nat × Nat × Bool)
 eqk : List Nat
 el : Nat
 byt : Nat
 kd : Nat
abbrev Fz := Nat → Option Obj
structure Ev where
 G : Fz
 n : Nat
def Fz.le (G G' : Fz) : Prop := ∀ b o, G b = some o → G' b = some o
structure Ev.le (E E' : Ev) : Prop where
 g : E.G.le E'.G
 n : E.n≤E'.n
theorem Fz.refl (G : Fz) : G.le G := fun _ _ h => h
theorem Fz.le.trans {G G' G'' : Fz} (h : G.le G') (h' : G'.le G'') : G.le G'' := fun b o hb => h' b o (h b o hb)
inductive OB where
 | box (ty : TypeId) (cells : List SV)
 /-- a row: of the call's own, or (ro) one that stays as it is -/
 | row (ro : Bool) (e sz : Nat) (els : List (List DV))
 | res (R : Fz→World→Nat→(Nat→Prop)→Prop)
structure Ctx where
 P : Program
 T : List TI
 n : Nat
 w0 : World
 M : Nat→Prop
 m : Nat
 π : Nat→Nat
 d : Bool
 z : Fz
def look : List (Nat × SV) → Nat → Option SV
 | [],_=>none
 | (i,x) :: r,t=>match Nat.beq i t with
   | true=>some x
   | false=>look r t
def ev (tm : List (Nat × SV)) : Operand → Option SV
 | .tmp t=>look tm t
 | .const v=>some (.v v)
 | .global g=>some (.v (.pointer (some ⟨g,0,none⟩)))
 | .func f=>some (.fn f [])
def evs (tm : List (Nat × SV)) : List Operand → Option (List SV)
 | []=>some []
 | x :: r=>match ev tm x with
   | none=>none
   | some a=>match evs tm r with
     | none=>none
     | some l=>some (a :: l)
def lookT : List TI → Nat → Option TI
 | [],_=>none
 | i :: r,t=>match Nat.beq i.id t with
   | true=>some i
   | false=>lookT r t
def nth {α : Type} : List α → Nat → Option α
 | [],_=>none
 | x :: _,0=>some x
 | _ :: r,n + 1=>nth r n
def force {α : Type} {β : Sort _} : List α → (List α → β) → β
 | [],k=>k []
 | x :: r,k=>force r fun r'=>k (x :: r')
def forceC {α : Type} {β : Sort _} : List α → List α → (List α → β) → β
 | [],cap,k=>k cap
 | x :: r,cap,k=>forceC r cap fun r'=>k (x :: r')
def setN {α : Type} : List α → Nat → α → List α
 | [],_,_=>[]
 | _ :: r,0,y=>y :: r
 | x :: r,n + 1,y=>x :: setN r n y
def cut {α : Type} : List α → Nat → Nat → List α
 | l,0,n=>l.take n
 | [],_ + 1,_=>[]
 | _ :: r,o + 1,n=>cut r o n
def splice : List SV → Nat → List SV → List SV
 | l,_,[]=>l
 | l,o,x :: r=>splice (setN l o x) (o + 1) r
def SV.cells : SV → List SV
 | .a l=>l
 | .v (.agg cs)=>cs.toList.map .v
 | x=>[x]
def xif (b : Bool) (t e : Unit → Prop) : Prop := Bool.rec (motive := fun _ => Prop) (e ()) (t ()) b
@[irreducible] def need (p : Prop) (k : Unit → Prop) : Prop := p ∧ k ()
def sameK : IntKind → IntKind → Bool
 | .i64,.i64=>true
 | .u8,.u8=>true
 | .i32,.i32=>true
 | .u32,.u32=>true
 | .u64,.u64=>true
 | .i8,.i8=>true
 | .i16,.i16=>true
 | .u16,.u16=>true
 | _,_=>false
theorem sameK_eq {a b : IntKind} (h : sameK a b = true) : a = b := by cases a <;> cases b <;> first | rfl | cases h
structure xwr64 (e : Int) (k : Int → Prop) : Prop where
 out : k (IntKind.i64.wrap e)
structure xquo64 (a b : Int) (k : Int → Prop) : Prop where
 out : b ≠ 0∧k (IntKind.i64.wrap (a.tdiv b))
structure xrem64 (a b : Int) (k : Int → Prop) : Prop where
 out : b ≠ 0∧k (a.tmod b)
structure xshr (kd : IntKind) (a b : Int) (k : Int → Prop) : Prop where
 out : 0≤b∧k (a.fdiv (2 ^ min b.toNat kd.bits))
structure xshl (kd : IntKind) (a b : Int) (k : Int → Prop) : Prop where
 out : 0≤b∧k (kd.wrap (a * 2 ^ min b.toNat kd.bits))
structure xcv (kd : IntKind) (n : Int) (k : Int → Prop) : Prop where
 out : k (kd.wrap n)
def ikOf : Nat → Option IntKind
 | 10=>some .i64
 | 11=>some .u8
 | 12=>some .i32
 | 13=>some .u32
 | 14=>some .u64
 | 15=>some .i8
 | 16=>some .i16
 | 17=>some .u16
 | _=>none
structure xwru (kd : IntKind) (e : Int) (k : Int → Prop) : Prop where
 out : k (kd.wrap e)
structure xquou (kd : IntKind) (a b : Int) (k : Int → Prop) : Prop where
 out : b ≠ 0∧k (kd.wrap (a.tdiv b))
structure xremu (a b : Int) (k : Int → Prop) : Prop where
 out : b ≠ 0∧k (a.tmod b)
def xwr (kd : IntKind) (e : Int) (k : Int → Prop) : Prop :=
 match kd with
 | .i64=>xwr64 e k
 | .u64=>xwru .u64 e k
 | .u32=>xwru .u32 e k
 | kd=>k (kd.wrap e)
def xquo (kd : IntKind) (a b : Int) (k : Int → Prop) : Prop :=
 match kd with
 | .i64=>xquo64 a b k
 | .u64=>xquou .u64 a b k
 | .u32=>xquou .u32 a b k
 | kd=>need (b ≠ 0) fun _=>k (kd.wrap (a.tdiv b))
def xrem (kd : IntKind) (a b : Int) (k : Int → Prop) : Prop :=
 match kd with
 | .i64=>xrem64 a b k
 | .u64=>xremu a b k
 | .u32=>xremu a b k
 | _=>need (b ≠ 0) fun _=>k (a.tmod b)
def binI (op : BinOp) (kd : IntKind) (a b : Int) (k : SV → Prop) : Prop :=
 match op with
 | .add=>xwr kd (a + b) fun e=>k (.v (.int kd e))
 | .sub=>xwr kd (a - b) fun e=>k (.v (.int kd e))
 | .mul=>xwr kd (a * b) fun e=>k (.v (.int kd e))
 | .quo=>xquo kd a b fun e=>k (.v (.int kd e))
 | .rem=>xrem kd a b fun e=>k (.v (.int kd e))
 | .and=>k (.v (.int kd (bits .and kd a b)))
 | .or=>k (.v (.int kd (bits .or kd a b)))
 | .xor=>k (.v (.int kd (bits .xor kd a b)))
 | .andNot=>k (.v (.int kd (bits .andNot kd a b)))
 | .eql=>k (.v (.bool (a == b)))
 | .neq=>k (.v (.bool (a != b)))
 | .lss=>k (.v (.bool (decide (a < b))))
 | .leq=>k (.v (.bool (decide (a≤b))))
 | .gtr=>k (.v (.bool (decide (a > b))))
 | .geq=>k (.v (.bool (decide (a ≥ b))))
 | .shr=>xshr kd a b fun e=>k (.v (.int kd e))
 | .shl=>xshl kd a b fun e=>k (.v (.int kd e))
def eqL : List Nat → List SV → List SV → Option Bool
 | [],[],[]=>some true
 | 0 :: ks,.v (.int .i64 a) :: l,.v (.int .i64 b) :: m=>match eqL ks l m with
   | some r=>some ((a == b) && r)
   | none=>none
 | 1 :: ks,.v (.bool a) :: l,.v (.bool b) :: m=>match eqL ks l m with
   | some r=>some ((a == b) && r)
   | none=>none
 | _,_,_=>none
def eqT (ks : List Nat) (l m : List SV) : Option Bool :=
 match ks with
 | []=>none
 | k :: ks=>eqL (k :: ks) l m
def ones : List SV → Bool
 | []=>true
 | x :: r=>match x with
   | .v (.agg _)=>false
   | .v (.tuple _)=>false
   | .a _=>false
   | .t _=>false
   | _=>ones r
def fill (fl : List (Nat × Nat × Bool)) : List SV → List (Nat × SV) → Option (List SV)
 | cs,[]=>some cs
 | cs,(i,x) :: r=>match nth fl i with
   | some (o,n,_)=>match Nat.beq x.cells.length n,Nat.ble (o + n) cs.length with
     | true,true=>fill fl (splice cs o x.cells) r
     | _,_=>none
   | none=>none
end Go.Proofs.YtkflmidichikjaaGreatDoor.V
namespace Go.Proofs.YtkflmidichikjaaGreatDoor.V
open Go.RowKit
def pr (a b : Nat) : Nat := (a + b) * (a + b) + a
theorem pr_lt {a b a' b' : Nat} (h : a + b < a' + b') : pr a b < pr a' b' := by
 unfold pr
 have h1 : (a + b + 1) * (a + b + 1)≤(a' + b') * (a' + b'):=Nat.mul_le_mul (by omega) (by omega)
 have h2 : (a + b + 1) * (a + b + 1)=(a + b) * (a + b) + (a + b) + (a + b) + 1:=by
  rw [Nat.add_mul,Nat.mul_add]
  omega
 omega
theorem pr_inj {a b a' b' : Nat} (h : pr a b = pr a' b') : a = a' ∧ b = b' := by
 rcases Nat.lt_trichotomy (a + b) (a' + b') with h1|h1|h1
 ·have:=pr_lt h1
  omega
 ·unfold pr at h
  rw [h1] at h
  omega
 ·have:=pr_lt h1
  omega
theorem unP_ex (n : Nat) : ∃ p : Nat × Nat, ∀ a b, pr a b = n → p = (a, b) := by
 by_cases h : ∃ p : Nat × Nat,pr p.1 p.2=n
 ·obtain ⟨⟨a,b⟩,h⟩:=h
  exact ⟨(a,b),fun a' b' h'=>by
   obtain ⟨rfl,rfl⟩:=pr_inj (h.trans h'.symm)
   rfl⟩
 ·exact ⟨(0,0),fun a b h'=>absurd ⟨(a,b),h'⟩ h⟩
noncomputable def unP (n : Nat) : Nat × Nat := Classical.choose (unP_ex n)
theorem unP_pr (a b : Nat) : unP (pr a b) = (a, b) := Classical.choose_spec (unP_ex (pr a b)) a b rfl
def adOf : Nat → Nat → Option Addr
 | 0,_=>none
 | b + 1,o=>some ⟨b,o,none⟩
noncomputable def dA (n : Nat) : Option Addr := adOf (unP n).1 (unP (unP n).2).1
noncomputable def dC (n : Nat) : Nat := (unP (unP n).2).2
noncomputable def qB (n : Nat) : Nat := (unP n).1 - 1
noncomputable def qO (n : Nat) : Nat := (unP (unP n).2).1
theorem dA_q {n : Nat} {a : Addr} (h : dA n = some a) : a = ⟨qB n, qO n, none⟩ := by
 unfold dA at h
 unfold qB qO
 cases hb : (unP n).1 with
 | zero=>rw [hb] at h;simp [adOf] at h
 | succ b=>rw [hb] at h;simp [adOf] at h;subst h;simp
def rowN : Option Addr → Nat → Nat
 | none,c=>pr 0 (pr 0 c)
 | some a,c=>pr (a.block + 1) (pr a.off c)
theorem dA_rowN {A : Option Addr} (c : Nat) (h : ∀ a, A = some a → a.spot = none) : dA (rowN A c) = A := by
 cases A with
 | none=>simp [dA,rowN,unP_pr,adOf]
 | some a =>
   have:=h a rfl
   obtain ⟨b,o,s⟩:=a
   simp only at this
   subst this
   simp [dA,rowN,unP_pr,adOf]
theorem dC_rowN (A : Option Addr) (c : Nat) : dC (rowN A c) = c := by
 cases A<;>simp [dC,rowN,unP_pr]
theorem dA_spot (n : Nat) : ∀ a, dA n = some a → a.spot = none := by
 intro a h
 unfold dA adOf at h
 split at h
 ·cases h
 ·cases h
  rfl
def cutP (A : Option Addr) (c p i sz : Nat) : Option Addr := A.map fun a => ⟨a.block, a.off + (bif Nat.beq c i then p else i) * sz, none⟩
noncomputable section
mutual
def SV.val (σ : Nat → Nat) : SV → Value
 | .v x=>x
 | .p k off=>.pointer (some ⟨σ k,off,none⟩)
 | .a l=>.agg (SV.vals σ l).toArray
 | .t l=>.tuple (SV.vals σ l).toArray
 | .fn f cap=>.func (.func f) #[] (SV.vals σ cap).toArray
 | .sl k b i n sz=>.slice (cutP (dA (σ k)) (dC (σ k)) b i sz) n (dC (σ k) - i)
 | .sq k i off sz=>.pointer (some ⟨qB (σ k),qO (σ k) + (i * sz + off),none⟩)
 | .fz A c _ els=>.slice A els.length c
 | .fa ad _=>.pointer (some ad)
def SV.vals (σ : Nat → Nat) : List SV → List Value
 | []=>[]
 | x :: r=>x.val σ :: SV.vals σ r
end
end
mutual
/-- a value reads as this -/
def DV.rd (G : Fz) : DV → Value → Prop
 | .v x,y=>y=x
 | .fz sz els,y=>∃ A c,y = .slice A els.length c∧els.length≤c∧(els ≠ []→∃ b o cs ty fz,A=some ⟨b,o,none⟩∧G b=some (.cells cs ty fz)∧DV.rdE G sz els cs o)
def DV.rdE (G : Fz) (sz : Nat) : List (List DV) → Array Value → Nat → Prop
 | [],_,_=>True
 | x :: r,cs,o=>x.length=sz∧DV.rdC G x cs o∧DV.rdE G sz r cs (o + sz)
def DV.rdC (G : Fz) : List DV → Array Value → Nat → Prop
 | [],_,_=>True
 | x :: r,cs,o=>(∃ y,cs[o]? = some y∧y.oneCell' = true∧DV.rd G x y)∧DV.rdC G r cs (o + 1)
end
mutual
theorem DV.rd_mono {G G' : Fz} (h : G.le G') : ∀ (d : DV) (y : Value), d.rd G y → d.rd G' y
 | .v x,y,hr=>hr
 | .fz sz els,y,hr=>by
   obtain ⟨A,c,h1,h2,h4⟩:=hr
   refine ⟨A,c,h1,h2,fun hne=>?_⟩
   obtain ⟨b,o,cs,ty,fz,h5,h6,h7⟩:=h4 hne
   exact ⟨b,o,cs,ty,fz,h5,h _ _ h6,DV.rdE_mono h els cs o h7⟩
theorem DV.rdE_mono {G G' : Fz} (h : G.le G') {sz : Nat} : ∀ (els : List (List DV)) (cs : Array Value) (o : Nat), DV.rdE G sz els cs o → DV.rdE G' sz els cs o
 | [],_,_,_=>trivial
 | x :: r,cs,o,hr=>⟨hr.1,DV.rdC_mono h x cs o hr.2.1,DV.rdE_mono h r cs (o + sz) hr.2.2⟩
theorem DV.rdC_mono {G G' : Fz} (h : G.le G') : ∀ (x : List DV) (cs : Array Value) (o : Nat), DV.rdC G x cs o → DV.rdC G' x cs o
 | [],_,_,_=>trivial
 | x :: r,cs,o,hr=>by
   obtain ⟨⟨y,h1,h2,h3⟩,h4⟩:=hr
   exact ⟨⟨y,h1,h2,DV.rd_mono h x y h3⟩,DV.rdC_mono h r cs (o + 1) h4⟩
end
def rdL (G : Fz) : List DV → List Value → Prop
 | [],[]=>True
 | x :: r,y :: l=>(y.oneCell' = true∧x.rd G y)∧rdL G r l
 | _,_=>False
def rdLL (G : Fz) : List (List DV) → List (List Value) → Prop
 | [],[]=>True
 | x :: r,y :: l=>rdL G x y∧rdLL G r l
 | _,_=>False
theorem rdL_mono {G G' : Fz} (h : G.le G') : ∀ {x : List DV} {y : List Value}, rdL G x y → rdL G' x y
 | [],[],_=>trivial
 | [],_ :: _,hr=>hr.elim
 | _ :: _,[],hr=>hr.elim
 | x :: r,y :: l,hr=>⟨⟨hr.1.1,DV.rd_mono h x y hr.1.2⟩,rdL_mono h hr.2⟩
theorem rdLL_mono {G G' : Fz} (h : G.le G') : ∀ {x : List (List DV)} {y : List (List Value)}, rdLL G x y → rdLL G' x y
 | [],[],_=>trivial
 | [],_ :: _,hr=>hr.elim
 | _ :: _,[],hr=>hr.elim
 | x :: r,y :: l,hr=>⟨rdL_mono h hr.1,rdLL_mono h hr.2⟩
def rdAt (G : Fz) (ad : Addr) (x : List DV) : Prop := ∃ b o cs ty fz, ad = ⟨b, o, none⟩ ∧ G b = some (.cells cs ty fz) ∧ DV.rdC G x cs o
mutual
def SV.wf (E : Ev) : SV → Prop
 | .v _=>True
 | .p k _=>k < E.n
 | .a l=>SV.wfs E l
 | .t l=>SV.wfs E l
 | .fn _ cap=>SV.wfs E cap
 | .sl k _ _ _ _=>k < E.n
 | .sq k _ _ _=>k < E.n
 | .fz A c sz els=>(DV.fz sz els).rd E.G (.slice A els.length c)
 | .fa ad x=>rdAt E.G ad x
def SV.wfs (E : Ev) : List SV → Prop
 | []=>True
 | x :: r=>x.wf E∧SV.wfs E r
end
def okM (n : Nat) (fz : Nat × Nat) : Prop := fz = (0, 0) ∨ n ≤ fz.1
theorem okM.use {n a b : Nat} {fz : Nat × Nat} (h : okM n fz) (ha : a ≤ n) : a ≤ fz.1 ∨ fz.2 ≤ b := by
 rcases h with h|h
 ·rw [h];exact .inr (Nat.zero_le _)
 ·exact .inl (Nat.le_trans ha h)
theorem okM.le {n m : Nat} {fz : Nat × Nat} (h : okM n fz) (ha : m ≤ n) : okM m fz := h.imp id fun h => Nat.le_trans ha h
structure RowAt (G : Fz) (w : World) (e sz : Nat) (A : Option Addr) (c : Nat) (els : List (List DV)) (F : Nat → Prop) : Prop where
 cap : els.length≤c∧c≤maxLen
 size : ∀ x∈els,x.length=sz
 spot : ∀ a,A=some a→a.spot=none
 at_ : (c=0∧∀ i,¬ F i)∨∃ g o cs xs,A=some ⟨g,o,none⟩∧(∃ fz,w.heap[g]? = some (.cells cs e fz)∧okM cs.size fz)∧o + c * sz≤cs.size∧rdLL G els xs∧(cs.toList.drop o).take (els.length * sz)=xs.flatten∧∀ i,F i↔i=g
theorem RowAt.ext {G G' : Fz} {w w' : World} {e sz c : Nat} {A : Option Addr} {els : List (List DV)} {F : Nat → Prop} (h : RowAt G w e sz A c els F) (hG : G.le G') (hw : ∀ i, F i → w'.heap[i]? = w.heap[i]?) : RowAt G' w' e sz A c els F := by
 refine ⟨h.cap,h.size,h.spot,?_⟩
 rcases h.at_ with h1|⟨g,o,cs,xs,h1,h2,h3,h4,h5,h6⟩
 ·exact .inl h1
 ·exact .inr ⟨g,o,cs,xs,h1,by rw [hw g ((h6 g).2 rfl)];exact h2,h3,rdLL_mono hG h4,h5,h6⟩
def OB.at (σ : Nat → Nat) (E : Ev) (w : World) (b : Nat) (F : Nat → Prop) : OB → Prop
 | .box ty cells=>w.heap[b]? = some (.cells (SV.vals σ cells).toArray ty (0,0))∧(∀ i,F i↔i=b)∧SV.wfs E cells
 | .row ro e sz els=>match ro with
   | true=>(DV.fz sz els).rd E.G (.slice (dA b) els.length (dC b))∧∀ i,¬ F i
   | false=>RowAt E.G w e sz (dA b) (dC b) els F
 | .res R=>R E.G w b F∧∀ (G' : Fz) (w' : World),E.G.le G'→(∀ i,F i→w'.heap[i]? = w.heap[i]?)→R G' w' b F
structure Kept (M : Nat → Prop) (w0 w : World) : Prop where
 os : w.os=w0.os
 tape : w.tape=w0.tape
 output : w.output=w0.output
 size : w0.heap.size≤w.heap.size
 block : ∀ i,i < w0.heap.size→¬ M i→w.heap[i]? = w0.heap[i]?
structure Mem (C : Ctx) (σ : Nat → Nat) (G : Fz) (fp : Nat → Nat → Prop) (ob : List OB) (w : World) : Prop where
 at_ : ∀ (k : Nat) (o : OB),ob[k]? = some o→o.at σ ⟨G,ob.length⟩ w (σ k) (fp k)
 disj : ∀ j k,j < ob.length→k < ob.length→j ≠ k→∀ i,fp j i→¬ fp k i
 lo : ∀ k,k < ob.length→∀ i,fp k i→C.M i∨C.w0.heap.size≤i
 hi : ∀ k,k < ob.length→∀ i,fp k i→i < w.heap.size
 kept : Kept C.M C.w0 w
 fz : ∀ b o,G b=some o→w.heap[b]? = some o∧∀ k,k < ob.length→¬ fp k b
 src : ∀ b o,G b=some o→C.M b∨C.w0.heap.size≤b∨C.z b=some o
 pin : C.m≤ob.length∧∀ j,j < C.m→σ j=C.π j
 drw : C.d=true→C.w0.drawn≤w.drawn
structure Tm (C : Ctx) (σ : Nat → Nat) (E : Ev) (tm : List (Nat × SV)) (a : Act) : Prop where
 size : a.tmps.size=C.n
 defers : a.defers=[]
 val : ∀ t x,look tm t=some x→a.tmps.getD t undef=x.val σ∧x.wf E
structure Rel (C : Ctx) (tm : List (Nat × SV)) (ob : List OB) (σ : Nat → Nat) (G : Fz) (fp : Nat → Nat → Prop) (a : Act) (w : World) : Prop where
 tm : Tm C σ ⟨G,ob.length⟩ tm a
 mem : Mem C σ G fp ob w
structure Frm (C : Ctx) (n : Nat) (G : Fz) (fp : Nat → Nat → Prop) (w : World) (n' : Nat) (G' : Fz) (fp' : Nat → Nat → Prop) (w' : World) : Prop where
 old : ∀ i,C.w0.heap.size≤i→i < w.heap.size→(∀ j,j < n→¬ fp j i)→w'.heap[i]? = w.heap[i]?
 new : ∀ j,j < n'→∀ i,fp' j i→C.w0.heap.size≤i→i < w.heap.size→∃ j',j' < n∧fp j' i
 fz : ∀ i o,G' i=some o→i < w.heap.size→G i=some o∨∃ j,j < n∧fp j i
 size : w.heap.size≤w'.heap.size
def Goes (C : Ctx) (n : Nat) (σ : Nat → Nat) (G : Fz) (fp : Nat → Nat → Prop) (w : World) (k : SV → List OB → Prop) (v : Value) (w' : World) : Prop :=
 ∃ x ob σ' G' fp',k x ob∧(∀ j,j < n→σ' j=σ j)∧G.le G'∧n≤ob.length∧v=x.val σ'∧x.wf ⟨G',ob.length⟩∧Mem C σ' G' fp' ob w'∧Frm C n G fp w ob.length G' fp' w'
def Entr (P : Program) (f : FuncId) : Prop := ∀ args w, (callFunc f args).run P w = .ok (.enter f args) w
def CallsE (P : Program) (f : FuncId) (args : Array Value) (w : World) (Q : Ending → World → Prop) : Prop :=
 match (callFunc f args).run P w with
 | .ok (.value v) w'=>Q (.returned v) w'
 | .ok (.enter f args) w'=>Calls P f args w' Q
 | _=>False
theorem CallsE.of {P : Program} {f : FuncId} {args : Array Value} {w : World} {Q : Ending → World → Prop} (he : Entr P f) (h : Calls P f args w Q) : CallsE P f args w Q := by
 unfold CallsE
 rw [he args w]
 exact h
theorem CallsE.mono {P : Program} {f : FuncId} {args : Array Value} {w : World} {Q Q' : Ending → World → Prop} (h : CallsE P f args w Q) (hq : ∀ e w', Q e w' → Q' e w') : CallsE P f args w Q' := by
 unfold CallsE at h ⊢
 split at h
 ·exact hq _ _ h
 ·exact Calls.mono h fun e w' h=>hq e w' h
 ·exact h.elim
@[irreducible] def CallX (C : Ctx) (f : FuncId) (args : List SV) (ob : List OB) (k : SV → List OB → Prop) : Prop :=
 ∀ σ G fp w,Mem C σ G fp ob w→SV.wfs ⟨G,ob.length⟩ args→CallsE C.P f (SV.vals σ args).toArray w fun e w'=>∃ v,e = .returned v∧Goes C ob.length σ G fp w k v w'
@[irreducible] def ValX (C : Ctx) (o : Oper) (xs : List SV) (ob : List OB) (k : SV → Prop) : Prop :=
 ∀ σ G fp w (ρ : Operand→Value),Mem C σ G fp ob w→SV.wfs ⟨G,ob.length⟩ xs→o.op.operands.toList.map ρ=SV.vals σ xs→∃ x,k x∧(execOp ρ o).run C.P w = .ok (.value (x.val σ)) w∧x.wf ⟨G,ob.length⟩
@[irreducible] def OpX (C : Ctx) (o : Oper) (xs : List SV) (ob : List OB) (k : SV → List OB → Prop) : Prop :=
 ∀ σ G fp w (ρ : Operand→Value),Mem C σ G fp ob w→SV.wfs ⟨G,ob.length⟩ xs→o.op.operands.toList.map ρ=SV.vals σ xs →
  match (execOp ρ o).run C.P w with
  | .ok (.value v) w'=>Goes C ob.length σ G fp w k v w'
  | .ok .skip w'=>Goes C ob.length σ G fp w k undef w'
  | .ok (.enter f args) w'=>Calls C.P f args w' fun e w''=>∃ v,e = .returned v∧Goes C ob.length σ G fp w k v w''
  | _=>False
def post (C : Ctx) (K : Exit → List (Nat × SV) → List OB → Prop) (e : Exit) (a : Act) (w : World) : Prop := ∃ tm ob σ G fp, K e tm ob ∧ Rel C tm ob σ G fp a w
@[irreducible] def LoopX (C : Ctx) (c : Code) (tm : List (Nat × SV)) (ob : List OB) (K : Exit → List (Nat × SV) → List OB → Prop) : Prop :=
 ∀ σ G fp a w,Rel C tm ob σ G fp a w→(Code.loop c).wp C.P (post C K) a w
@[irreducible] def DrawX (C : Ctx) (ops : Array Oper) (tm : List (Nat × SV)) (ob : List OB) (K : Exit → List (Nat × SV) → List OB → Prop) : Prop :=
 ∀ id σ G fp a w,Rel C tm ob σ G fp a w→(Code.region id ops true).wp C.P (post C K) a w
def lits : List Nat := [0, 1, 2, 3, 4, 5, 6, 7, 8, 9, 10, 11, 12, 13, 14, 15, 16, 17, 18, 19, 20, 21, 22, 23, 24, 25, 26, 27, 28, 29, 30, 31, 32, 33, 34, 35, 36, 37, 38, 39, 40, 41, 42, 43, 44, 45, 46, 47, 48, 49, 50, 51, 52, 53, 54, 55, 56, 57, 58, 59, 60, 61, 62, 63, 64, 65, 66, 67, 68, 69, 70, 71, 72, 73, 74, 75, 76, 77, 78, 79, 80, 81, 82, 83, 84, 85, 86, 87, 88, 89, 90, 91, 92, 93, 94, 95, 96, 97, 98, 99, 100, 101, 102, 103, 104, 105, 106, 107, 108, 109, 110, 111, 112, 113, 114, 115, 116, 117, 118, 119, 120, 121, 122, 123, 124, 125, 126, 127, 128, 129, 130, 131, 132, 133, 134, 135, 136, 137, 138, 139, 140, 141, 142, 143, 144, 145, 146, 147, 148, 149, 150, 151, 152, 153, 154, 155, 156, 157, 158, 159, 160, 161, 162, 163, 164, 165, 166, 167, 168, 169, 170, 171, 172, 173, 174, 175, 176, 177, 178, 179, 180, 181, 182, 183, 184, 185, 186, 187, 188, 189, 190, 191, 192, 193, 194, 195, 196, 197, 198, 199, 200, 201, 202, 203, 204, 205, 206, 207, 208, 209, 210, 211, 212, 213, 214, 215, 216, 217, 218, 219, 220, 221, 222, 223, 224, 225, 226, 227, 228, 229, 230, 231, 232, 233, 234, 235, 236, 237, 238, 239, 240, 241, 242, 243, 244, 245, 246, 247, 248, 249, 250, 251, 252, 253, 254, 255, 256, 257, 258, 259, 260, 261, 262, 263, 264, 265, 266, 267, 268, 269, 270, 271, 272, 273, 274, 275, 276, 277, 278, 279, 280, 281, 282, 283, 284, 285, 286, 287, 288, 289, 290, 291, 292, 293, 294, 295, 296, 297, 298, 299]
def litK {β : Sort _} : List Nat → Nat → (Nat → β) → β → β
 | [],_,_,e=>e
 | m :: _,0,k,_=>k m
 | _ :: r,n + 1,k,e=>litK r n k e
def lenK {α : Type} {β : Sort _} : List Nat → List α → (Nat → β) → β → β
 | [],_,_,e=>e
 | m :: _,[],k,_=>k m
 | _ :: r,_ :: l,k,e=>lenK r l k e
def newBox (t : TypeId) (cs : List SV) (ob : List OB) (k : SV → List OB → Prop) : Prop :=
 lenK lits ob (fun n=>force cs fun cs=>force (ob ++ [.box t cs]) fun ob=>k (.p n 0) ob) False
def outr : List DV → Option (List SV)
 | []=>some []
 | .v x :: r=>match outr r with
   | some l=>some (.v x :: l)
   | none=>none
 | .fz _ _ :: _=>none
def dropN {α : Type} : List α → Nat → List α
 | l,0=>l
 | [],_ + 1=>[]
 | _ :: r,n + 1=>dropN r n
def appK {α : Type} {β : Sort _} : List α → List α → (List α → β) → β
 | [],rest,k=>force rest k
 | x :: r,rest,k=>appK r rest fun l=>k (x :: l)
def splK {α : Type} {β : Sort _} : List α → Nat → List α → (List α → β) → β
 | cs,0,xs,k=>appK xs (dropN cs xs.length) k
 | [],_ + 1,xs,k=>k xs
 | c :: r,o + 1,xs,k=>splK r o xs fun l=>k (c :: l)
def fillK (fl : List (Nat × Nat × Bool)) : List SV → List (Nat × SV) → (List SV → Prop) → Prop
 | cs,[],k=>k cs
 | cs,(i,x) :: r,k=>match nth fl i with
   | some (o,n,_)=>match Nat.beq x.cells.length n,Nat.ble (o + n) cs.length with
     | true,true=>splK cs o x.cells fun cs=>fillK fl cs r k
     | _,_=>False
   | none=>False
def isVal : Op → Bool
 | .makeFunc ..|.move _|.assign _|.pick ..|.build ..|.load ..|.nilCheck _|.binOp ..|.unOp ..|.convert ..|.slice ..|.fieldAddr ..|.field ..|.indexAddr ..|.index ..|.lookup ..|.extract ..|.makeInterface ..=>true
 | .call ⟨.builtin b,_,_⟩=>match b with
   | .len|.cap|.min|.max=>true
   | _=>false
 | _=>false
def xval (C : Ctx) (o : Oper) (tm : List (Nat × SV)) (ob : List OB) (k : SV → Prop) : Prop :=
 match o.op with
 | .move x|.assign x=>match ev tm x with
   | some r=>k r
   | none=>False
 | .pick c a b=>match ev tm c,ev tm a,ev tm b with
   | some (.v (.bool b')),some x,some y=>xif b' (fun _=>k x) (fun _=>k y)
   | _,_,_=>False
 | .load t x=>match ev tm x with
   | some (.p j off)=>match lookT C.T t,nth ob j with
     | some ti,some (.box _ cs)=>match ti.agg with
       | true=>match Nat.ble (off + ti.zero.length) cs.length with
         | true=>force (cut cs off ti.zero.length) fun l=>k (.a l)
         | false=>False
       | false=>match nth cs off with
         | some r=>k r
         | none=>False
     | _,_=>False
   | some (.fa ad cs)=>match lookT C.T t with
     | some ti=>match ti.agg with
       | true=>match Nat.ble ti.zero.length cs.length,Nat.ble 1 ti.zero.length,outr (cut cs 0 ti.zero.length) with
         | true,true,some l=>force l fun l=>k (.a l)
         | _,_,_=>ValX C o [.fa ad cs] ob k
       | false=>match nth cs 0 with
         | some (.v r)=>k (.v r)
         | _=>ValX C o [.fa ad cs] ob k
     | none=>False
   | some x=>ValX C o [x] ob k
   | none=>False
 | .fieldAddr t x i=>match ev tm x with
   | some (.p j off)=>match lookT C.T t with
     | some ti=>match nth ti.flds i with
       | some (fo,fs,_)=>match fs with
         | 0=>False
         | _ + 1=>litK lits (off + fo) (fun n=>k (.p j n)) False
       | none=>False
     | none=>False
   | some (.v (.pointer (some ad)))=>match lookT C.T t with
     | some ti=>match nth ti.flds i with
       | some (fo,fs,_)=>match fs with
         | 0=>False
         | _ + 1=>k (.v (.pointer (some (ad.add fo))))
       | none=>False
     | none=>False
   | some (.sq j e off sz)=>match lookT C.T t with
     | some ti=>match nth ti.flds i with
       | some (fo,fs,_)=>match fs with
         | 0=>False
         | _ + 1=>litK lits (off + fo) (fun n=>k (.sq j e n sz)) False
       | none=>False
     | none=>False
   | some (.fa ad cs)=>match lookT C.T t with
     | some ti=>match nth ti.flds i with
       | some (fo,fs,_)=>match fs with
         | 0=>False
         | _ + 1=>force (dropN cs fo) fun cs=>k (.fa (ad.add fo) cs)
       | none=>False
     | none=>False
   | some x=>ValX C o [x] ob k
   | none=>False
 | .makeFunc (.func f) first cap=>match first.toList,evs tm cap.toList with
   | [],some l=>force l fun l=>k (.fn f l)
   | _,_=>False
 | .nilCheck x=>match ev tm x with
   | some (.p j off)=>k (.p j off)
   | some (.v (.pointer (some ad)))=>k (.v (.pointer (some ad)))
   | some (.sq j e off sz)=>k (.sq j e off sz)
   | some (.fa ad cs)=>k (.fa ad cs)
   | some x=>ValX C o [x] ob k
   | none=>False
 | .build t parts=>match lookT C.T t,evs tm (parts.toList.map (·.2)) with
   | some ti,some l=>match ti.agg,ti.flds with
     | true,_ :: _=>force (ti.zero.map .v) fun z=>fillK ti.flds z ((parts.toList.map (·.1)).zip l) fun cs=>k (.a cs)
     | _,_=>force l fun l=>ValX C o l ob k
   | _,_=>False
 | .convert s u x=>match ev tm x with
   | some (.v (.int kd n))=>match lookT C.T s,lookT C.T u with
     | some _,some ti=>match ikOf ti.kd with
       | some kd'=>xcv kd' n fun e=>k (.v (.int kd' e))
       | none=>ValX C o [.v (.int kd n)] ob k
     | _,_=>ValX C o [.v (.int kd n)] ob k
   | some x=>force [x] fun l=>ValX C o l ob k
   | none=>False
 | .extract x i=>match ev tm x with
   | some (.t l)=>match nth l i with
     | some r=>k r
     | none=>False
   | _=>False
 | .unOp op _ x=>match op,ev tm x with
   | .not,some (.v (.bool b))=>k (.v (.bool !b))
   | .neg,some (.v (.int kd n))=>xwr kd (0 - n) fun e=>k (.v (.int kd e))
   | _,some x=>ValX C o [x] ob k
   | _,none=>False
 | .binOp op t x y _=>match ev tm x,ev tm y with
   | some (.v (.int kd a)),some (.v (.int kd' b))=>match sameK kd kd' with
     | true=>binI op kd a b fun r=>k r
     | false=>match op with
       | .shr=>xshr kd a b fun e=>k (.v (.int kd e))
       | .shl=>xshl kd a b fun e=>k (.v (.int kd e))
       | _=>False
   | some (.a l),some (.a m)=>match lookT C.T t with
     | some ti=>match op,eqT ti.eqk l m with
       | .eql,some r=>k (.v (.bool r))
       | .neq,some r=>k (.v (.bool !r))
       | _,_=>False
     | none=>False
   | some (.v (.bool a)),some (.v (.bool b))=>match lookT C.T t with
     | some ti=>match ti.kd,op with
       | 1,.eql=>k (.v (.bool (a == b)))
       | 1,.neq=>k (.v (.bool !(a == b)))
       | _,_=>False
     | none=>False
   | some (.v (.pointer a)),some (.v (.pointer none))=>match lookT C.T t with
     | some ti=>match ti.kd,op with
       | 2,.eql=>k (.v (.bool a.isNone))
       | 2,.neq=>k (.v (.bool !a.isNone))
       | _,_=>False
     | none=>False
   | some (.v (.slice a _ _)),some (.v (.slice none _ _))=>match lookT C.T t with
     | some ti=>match ti.el,op with
       | _ + 1,.eql=>k (.v (.bool a.isNone))
       | _ + 1,.neq=>k (.v (.bool !a.isNone))
       | _,_=>False
     | none=>False
   | some (.p j off),some (.v (.pointer none))=>match lookT C.T t with
     | some ti=>match ti.kd,op with
       | 2,.eql=>k (.v (.bool false))
       | 2,.neq=>k (.v (.bool true))
       | _,_=>False
     | none=>False
   | some x,some y=>ValX C o [x,y] ob k
   | _,_=>False
 | .call ⟨.builtin .len,args,ats⟩=>match evs tm args.toList,ats.toList with
   | some [.v (.slice q n c)],[t]=>match lookT C.T t with
     | some ti=>match ti.el with
       | 0=>False
       | _ + 1=>k (.v (.int .i64 n))
     | none=>False
   | some [.sl _ _ _ n _],[t]=>match lookT C.T t with
     | some ti=>match ti.el with
       | 0=>False
       | _ + 1=>k (.v (.int .i64 n))
     | none=>False
   | some [.fz _ _ _ els],[t]=>match lookT C.T t with
     | some ti=>match ti.el with
       | 0=>False
       | _ + 1=>k (.v (.int .i64 els.length))
     | none=>False
   | some l,_=>force l fun l=>ValX C o l ob k
   | none,_=>False
 | .call ⟨.builtin .min,args,_⟩=>match evs tm args.toList with
   | some [.v (.int kd a),.v (.int _ b)]=>k (.v (.int kd (min a b)))
   | some l=>force l fun l=>ValX C o l ob k
   | none=>False
 | .call ⟨.builtin .max,args,_⟩=>match evs tm args.toList with
   | some [.v (.int kd a),.v (.int _ b)]=>k (.v (.int kd (max a b)))
   | some l=>force l fun l=>ValX C o l ob k
   | none=>False
 | op=>match evs tm op.operands.toList with
   | some l=>force l fun l=>ValX C o l ob k
   | none=>False
def xop (C : Ctx) (o : Oper) (tm : List (Nat × SV)) (ob : List OB) (k : SV → List OB → Prop) : Prop :=
 match o.op with
 | .alloc t=>match lookT C.T t with
   | some ti=>newBox t (ti.zero.map .v) ob k
   | none=>False
 | .box t x=>match ev tm x with
   | some r=>newBox t r.cells ob k
   | none=>False
 | .store t x y=>match ev tm x,ev tm y with
   | some (.p j off),some r=>match lookT C.T t,nth ob j with
     | some ti,some (.box bt cs)=>match Nat.beq r.cells.length ti.zero.length,Nat.ble (off + ti.zero.length) cs.length,ones r.cells with
       | true,true,true=>splK cs off r.cells fun l=>force (setN ob j (.box bt l)) fun ob=>k (.v undef) ob
       | _,_,_=>False
     | _,_=>False
   | some x,some y=>OpX C o [x,y] ob k
   | _,_=>False
 | .call ⟨.value (.func f),args,_⟩=>match evs tm args.toList with
   | some l=>force l fun l=>CallX C f l ob k
   | none=>False
 | .call ⟨.value (.tmp t),args,_⟩=>match look tm t,evs tm args.toList with
   | some (.fn f cap),some l=>forceC l cap fun l=>CallX C f l ob k
   | some (.v (.func (.func f) first cap)),some l=>match first.toList with
     | []=>force (l ++ cap.toList.map .v) fun l=>CallX C f l ob k
     | _=>False
   | some x,some l=>force (x :: l) fun l=>OpX C o l ob k
   | _,_=>False
 | .convert _ _ x=>match ev tm x with
   | some (.v (.string b))=>OpX C o [.v (.string b)] ob k
   | some (.sl j b i n sz)=>OpX C o [.sl j b i n sz] ob k
   | _=>xval C o tm ob fun x=>k x ob
 | op=>match isVal op with
   | true=>xval C o tm ob fun x=>k x ob
   | false=>match evs tm op.operands.toList with
     | some l=>force l fun l=>OpX C o l ob k
     | none=>False
def putT (C : Ctx) (d : Option Nat) (x : SV) (tm : List (Nat × SV)) (k : List (Nat × SV) → Prop) : Prop :=
 match d with
 | some d=>match Nat.ble (d + 1) C.n with
   | true=>k ((d,x) :: tm)
   | false=>False
 | none=>k tm
def xops (C : Ctx) (full : List Oper) : List Oper → List (Nat × SV) → List OB → (List (Nat × SV) → List OB → Prop) → Prop
 | [],tm,ob,k=>k tm ob
 | o :: r,tm,ob,k=>match o.guard with
   | none=>xop C o tm ob fun x ob=>putT C o.dst x tm fun tm=>xops C full r tm ob k
   | some (j,want)=>match nth full j with
     | some g=>match g.dst with
       | some d=>match look tm d with
         | some (.v (.bool b))=>match want with
           | true=>xif b (fun _=>xop C o ((d,.v (.bool true)) :: tm) ob fun x ob=>putT C o.dst x ((d,.v (.bool true)) :: tm) fun tm=>xops C full r tm ob k) (fun _=>putT C o.dst (.v undef) ((d,.v (.bool false)) :: tm) fun tm=>xops C full r tm ob k)
           | false=>xif b (fun _=>putT C o.dst (.v undef) ((d,.v (.bool true)) :: tm) fun tm=>xops C full r tm ob k) (fun _=>xop C o ((d,.v (.bool false)) :: tm) ob fun x ob=>putT C o.dst x ((d,.v (.bool false)) :: tm) fun tm=>xops C full r tm ob k)
         | some (.v (.tuple _))=>putT C o.dst (.v undef) tm fun tm=>xops C full r tm ob k
         | _=>False
       | none=>False
     | none=>False
abbrev Kx := Exit → List (Nat × SV) → List OB → Prop
abbrev Cx := List (Nat × SV) → List OB → Kx → Prop
def regX (C : Ctx) (ops : Array Oper) (draw : Bool) : Cx := fun tm ob K =>
 match draw with
 | false=>xops C ops.toList ops.toList tm ob fun tm ob=>K .normal tm ob
 | true=>DrawX C ops tm ob K
def seqX (xa xb : Cx) : Cx := fun tm ob K => xa tm ob fun e tm ob => match e with
 | .normal=>xb tm ob K
 | .exit i=>K (.exit i) tm ob
 | .ret=>K .ret tm ob
 | _=>False
def condX (c : Operand) (xa xb : Cx) : Cx := fun tm ob K => match ev tm c with
 | some (.v (.bool t))=>xif t (fun _=>xa tm ob K) (fun _=>xb tm ob K)
 | _=>False
def blockX (id : Nat) (xc : Cx) : Cx := fun tm ob K => xc tm ob fun e tm ob => match e with
 | .normal=>K .normal tm ob
 | .exit i=>match Nat.beq i id with
   | true=>K .normal tm ob
   | false=>K (.exit i) tm ob
 | .ret=>K .ret tm ob
 | _=>False
def xcode (C : Ctx) (c : Code) : Cx :=
 Code.rec (motive:=fun _=>Cx) (fun tm ob K=>K .normal tm ob) (fun _ ops draw=>regX C ops draw) (fun _ _ xa xb=>seqX xa xb) (fun c _ _ xa xb=>condX c xa xb)
  (fun id _ xc=>blockX id xc) (fun c _ tm ob K=>LoopX C c tm ob K) (fun _ _ _ _ _ _ _ _ _=>False) (fun i tm ob K=>K (.exit i) tm ob) (fun _ _ _ _ _=>False) (fun _ tm ob K=>K .normal tm ob)
  (fun _ _ _ _=>False) (fun tm ob K=>K .ret tm ob) (fun _ _ _ _=>False) c
end Go.Proofs.YtkflmidichikjaaGreatDoor.V
namespace Go.Proofs.YtkflmidichikjaaGreatDoor.V
open Go.RowKit
mutual
theorem SV.val_ext {E : Ev} {σ σ' : Nat → Nat} (h : ∀ j, j < E.n → σ' j = σ j) : ∀ x : SV, x.wf E → x.val σ' = x.val σ
 | .v _,_=>rfl
 | .p k off,hw=>by simp only [SV.val,h k hw]
 | .a l,hw=>by simp only [SV.val,SV.vals_ext h l hw]
 | .t l,hw=>by simp only [SV.val,SV.vals_ext h l hw]
 | .fn f l,hw=>by simp only [SV.val,SV.vals_ext h l hw]
 | .sl k _ _ _ _,hw=>by simp only [SV.val,h k hw]
 | .sq k _ _ _,hw=>by simp only [SV.val,h k hw]
 | .fz _ _ _ _,_=>rfl
 | .fa _ _,_=>rfl
theorem SV.vals_ext {E : Ev} {σ σ' : Nat → Nat} (h : ∀ j, j < E.n → σ' j = σ j) : ∀ l : List SV, SV.wfs E l → SV.vals σ' l = SV.vals σ l
 | [],_=>rfl
 | x :: r,hw=>by simp only [SV.vals,SV.val_ext h x hw.1,SV.vals_ext h r hw.2]
end
theorem rdAt_mono {G G' : Fz} (h : G.le G') {ad : Addr} {x : List DV} : rdAt G ad x → rdAt G' ad x := by
 rintro ⟨b,o,cs,ty,fz,h1,h2,h3⟩
 exact ⟨b,o,cs,ty,fz,h1,h _ _ h2,DV.rdC_mono h x cs o h3⟩
mutual
theorem SV.wf_mono {E E' : Ev} (h : E.le E') : ∀ x : SV, x.wf E → x.wf E'
 | .v _,_=>trivial
 | .p k off,hw=>Nat.lt_of_lt_of_le hw h.n
 | .a l,hw=>SV.wfs_mono h l hw
 | .t l,hw=>SV.wfs_mono h l hw
 | .fn f l,hw=>SV.wfs_mono h l hw
 | .sl k _ _ _ _,hw=>Nat.lt_of_lt_of_le hw h.n
 | .sq k _ _ _,hw=>Nat.lt_of_lt_of_le hw h.n
 | .fz A c sz els,hw=>DV.rd_mono h.g (.fz sz els) _ hw
 | .fa ad x,hw=>rdAt_mono h.g hw
theorem SV.wfs_mono {E E' : Ev} (h : E.le E') : ∀ l : List SV, SV.wfs E l → SV.wfs E' l
 | [],_=>trivial
 | x :: r,hw=>⟨SV.wf_mono h x hw.1,SV.wfs_mono h r hw.2⟩
end
theorem Ev.grow {G G' : Fz} {n m : Nat} (h : G.le G') (hn : n ≤ m) : Ev.le ⟨G, n⟩ ⟨G', m⟩ := ⟨h, hn⟩
theorem Ev.same {G : Fz} {n m : Nat} (hn : n ≤ m) : Ev.le ⟨G, n⟩ ⟨G, m⟩ := ⟨Fz.refl _, hn⟩
theorem vals_length (σ : Nat → Nat) : ∀ l : List SV, (SV.vals σ l).length = l.length
 | []=>rfl
 | x :: r=>by simp [SV.vals,vals_length σ r]
theorem vals_append (σ : Nat → Nat) : ∀ l m : List SV, SV.vals σ (l ++ m) = SV.vals σ l ++ SV.vals σ m
 | [],_=>rfl
 | x :: r,m=>by simp [SV.vals,vals_append σ r m]
theorem vals_v (σ : Nat → Nat) : ∀ l : List Value, SV.vals σ (l.map .v) = l
 | []=>rfl
 | x :: r=>by simp [SV.vals,SV.val,vals_v σ r]
theorem dropN_eq {α : Type} : ∀ (l : List α) (n : Nat), dropN l n = l.drop n
 | l,0=>by cases l<;>simp [dropN]
 | [],n + 1=>by simp [dropN]
 | _ :: r,n + 1=>by simp [dropN,dropN_eq r n]
theorem DV.rdC.take {G : Fz} : ∀ {x : List DV} {cs : Array Value} {o : Nat}, DV.rdC G x cs o → ∀ n, DV.rdC G (x.take n) cs o
 | [],_,_,_,n=>by simp [DV.rdC]
 | _ :: _,_,_,_,0=>trivial
 | _ :: r,cs,o,h,n + 1=>⟨h.1,DV.rdC.take h.2 n⟩
theorem DV.rdC.drop {G : Fz} : ∀ {x : List DV} {cs : Array Value} {o : Nat}, DV.rdC G x cs o → ∀ n, DV.rdC G (x.drop n) cs (o + n)
 | [],_,_,_,n=>by simp [DV.rdC]
 | _ :: _,_,_,h,0=>h
 | _ :: r,cs,o,h,n + 1=>by
   have:=DV.rdC.drop h.2 n
   rwa [show o + 1 + n=o + (n + 1) by omega] at this
theorem outr_rd {G : Fz} : ∀ {x : List DV} {cs : Array Value} {o : Nat} {l : List SV}, DV.rdC G x cs o → outr x = some l → l.length = x.length ∧ ∀ (σ : Nat → Nat) (i : Nat) (v : Value), (SV.vals σ l)[i]? = some v → cs[o + i]? = some v
 | [],_,_,l,_,h=>by simp [outr] at h;subst h;simp [SV.vals]
 | .fz _ _ :: _,_,_,_,_,h=>by simp [outr] at h
 | .v x :: r,cs,o,l,hr,h=>by
   unfold outr at h
   split at h
   ·rename_i m hm
    simp at h
    subst h
    obtain ⟨⟨y,h1,_,h2⟩,h3⟩:=hr
    cases h2
    obtain ⟨h4,h5⟩:=outr_rd h3 hm
    refine ⟨by simp [h4],fun σ i v hv=>?_⟩
    cases i with
    | zero=>simp [SV.vals,SV.val] at hv;subst hv;exact h1
    | succ i =>
      have:=h5 σ i v (by simpa [SV.vals] using hv)
      rwa [show o + 1 + i=o + (i + 1) by omega] at this
   ·cases h
theorem outr_wf {E : Ev} : ∀ {x : List DV} {l : List SV}, outr x = some l → SV.wfs E l
 | [],l,h=>by simp [outr] at h;subst h;trivial
 | .fz _ _ :: _,_,h=>by simp [outr] at h
 | .v x :: r,l,h=>by
   unfold outr at h
   split at h
   ·rename_i m hm
    simp at h
    subst h
    exact ⟨trivial,outr_wf hm⟩
   ·cases h
theorem rdAt.drop {G : Fz} {ad : Addr} {x : List DV} (h : rdAt G ad x) (n : Nat) : rdAt G (ad.add n) (x.drop n) := by
 obtain ⟨b,o,cs,ty,fz,rfl,h1,h2⟩:=h
 exact ⟨b,o + n,cs,ty,fz,Addr.add_mid _ _ _,h1,h2.drop n⟩
theorem wfs_v (n : Ev) : ∀ l : List Value, SV.wfs n (l.map .v)
 | []=>trivial
 | _ :: r=>⟨trivial,wfs_v n r⟩
theorem wfs_append {n : Ev} : ∀ {l m : List SV}, SV.wfs n l → SV.wfs n m → SV.wfs n (l ++ m)
 | [],_,_,h=>h
 | _ :: _,_,h,h'=>⟨h.1,wfs_append h.2 h'⟩
theorem nth_eq {α : Type} : ∀ (l : List α) (i : Nat), nth l i = l[i]?
 | [],_=>by simp [nth]
 | _ :: _,0=>by simp [nth]
 | _ :: r,n + 1=>by simp [nth,nth_eq r n]
theorem vals_get (σ : Nat → Nat) : ∀ (l : List SV) (i : Nat), (SV.vals σ l)[i]? = (l[i]?).map (·.val σ)
 | [],_=>by simp [SV.vals]
 | _ :: _,0=>by simp [SV.vals]
 | _ :: r,n + 1=>by simp [SV.vals,vals_get σ r n]
theorem wfs_get {n : Ev} : ∀ {l : List SV} {i : Nat} {x : SV}, SV.wfs n l → l[i]? = some x → x.wf n
 | [],_,_,_,h=>by simp at h
 | _ :: _,0,_,hw,h=>by simp at h;subst h;exact hw.1
 | _ :: r,i + 1,_,hw,h=>by simp at h;exact wfs_get hw.2 h
theorem forceC_eq {α : Type} {β : Sort _} : ∀ (l c : List α) (k : List α → β), forceC l c k = k (l ++ c)
 | [],_,_=>rfl
 | x :: r,c,k=>by simp [forceC,forceC_eq r]
theorem force_eq {α : Type} {β : Sort _} : ∀ (l : List α) (k : List α → β), force l k = k l
 | [],_=>rfl
 | x :: r,k=>by simp [force,force_eq r]
theorem setN_eq {α : Type} : ∀ (l : List α) (i : Nat) (x : α), setN l i x = l.set i x
 | [],_,_=>by simp [setN]
 | _ :: _,0,_=>by simp [setN]
 | _ :: r,n + 1,x=>by simp [setN,setN_eq r n]
theorem cut_eq {α : Type} : ∀ (l : List α) (o n : Nat), cut l o n = (l.drop o).take n
 | l,0,n=>by cases l<;>simp [cut]
 | [],_ + 1,_=>by simp [cut]
 | _ :: r,o + 1,n=>by simp [cut,cut_eq r o n]
theorem vals_cut (σ : Nat → Nat) (l : List SV) (o n : Nat) : SV.vals σ ((l.drop o).take n) = ((SV.vals σ l).drop o).take n := by
 apply List.ext_getElem?
 intro i
 simp only [vals_get,List.getElem?_take,List.getElem?_drop]
 split<;>simp
theorem wfs_of {n : Ev} : ∀ {l : List SV}, (∀ (i : Nat) (x : SV), l[i]? = some x → x.wf n) → SV.wfs n l
 | [],_=>trivial
 | x :: _,h=>⟨h 0 x (by simp),wfs_of fun i y hy=>h (i + 1) y (by simpa using hy)⟩
theorem wfs_cut {n : Ev} {l : List SV} (h : SV.wfs n l) (o m : Nat) : SV.wfs n ((l.drop o).take m) := by
 refine wfs_of fun i x hx=>?_
 rw [List.getElem?_take,List.getElem?_drop] at hx
 split at hx
 ·exact wfs_get h hx
 ·cases hx
theorem splice_eq : ∀ (l : List SV) (o : Nat) (m : List SV), o + m.length ≤ l.length → splice l o m = l.take o ++ m ++ l.drop (o + m.length)
 | l,o,[],_=>by simp [splice]
 | l,o,x :: r,h=>by
   have h' : o + (r.length + 1)≤l.length:=by simpa using h
   have hs : (setN l o x).length=l.length:=by simp [setN_eq]
   rw [splice,splice_eq _ _ r (by rw [hs];omega),setN_eq]
   apply List.ext_getElem?
   intro i
   simp only [List.getElem?_append,List.length_append,List.length_take,List.length_set,List.getElem?_take,List.getElem?_drop,List.length_cons,List.getElem?_set]
   by_cases h1 : i < o
   ·simp only [show i < min (o + 1) l.length by omega,show i < min o l.length by omega,if_true,show i < o + 1 by omega,show ¬ o=i by omega,if_false]
    simp [show i < min (o + 1) l.length + r.length by omega,show i < min o l.length + (r.length + 1) by omega,h1]
   ·by_cases h2 : i=o
    ·subst h2
     simp [show i < min (i + 1) l.length + r.length by omega,show i < min (i + 1) l.length by omega,show i < min i l.length + (r.length + 1) by omega,show ¬ i < min i l.length by omega,show i < l.length by omega,show i - min i l.length=0 by omega]
    ·by_cases h3 : i < o + (r.length + 1)
     ·simp [show i < min (o + 1) l.length + r.length by omega,show ¬ i < min (o + 1) l.length by omega,show i < min o l.length + (r.length + 1) by omega,show ¬ i < min o l.length by omega]
      rw [show i - min o l.length=(i - min (o + 1) l.length) + 1 by omega]
      simp
     ·simp [show ¬ i < min (o + 1) l.length + r.length by omega,show ¬ i < min o l.length + (r.length + 1) by omega,show ¬ o=o + 1 + r.length + (i - (min (o + 1) l.length + r.length)) by omega]
      congr 1
      omega
theorem vals_splice (σ : Nat → Nat) (l m : List SV) (o : Nat) : SV.vals σ (l.take o ++ m ++ l.drop (o + m.length)) = (SV.vals σ l).take o ++ SV.vals σ m ++ (SV.vals σ l).drop (o + (SV.vals σ m).length) := by
 have h1:=vals_cut σ l 0 o
 have h2:=vals_cut σ l (o + m.length) l.length
 simp only [List.drop_zero] at h1
 rw [List.take_of_length_le (by simp),List.take_of_length_le (by simp [vals_length])] at h2
 rw [vals_append,vals_append,h1,h2,vals_length]
theorem wfs_splice {n : Ev} {l m : List SV} (hl : SV.wfs n l) (hm : SV.wfs n m) (o : Nat) : SV.wfs n (l.take o ++ m ++ l.drop (o + m.length)) := by
 have h1:=wfs_cut hl 0 o
 have h2:=wfs_cut hl (o + m.length) l.length
 simp only [List.drop_zero] at h1
 rw [List.take_of_length_le (by simp)] at h2
 exact wfs_append (wfs_append h1 hm) h2
theorem ones_spec (σ : Nat → Nat) : ∀ {l : List SV}, ones l = true → ∀ v ∈ SV.vals σ l, v.oneCell' = true
 | [],_,v,hv=>by simp [SV.vals] at hv
 | x :: r,h,v,hv=>by
   have hr : ones r=true:=by
    unfold ones at h
    split at h<;>first|exact h|cases h
   rcases List.mem_cons.1 hv with rfl|hv
   ·unfold ones at h
    cases x with
    | v y=>cases y<;>first|rfl|cases h
    | p _ _=>rfl
    | a _=>cases h
    | t _=>cases h
    | _=>rfl
   ·exact ones_spec σ hr v hv
theorem cells_val (σ : Nat → Nat) (x : SV) : (x.val σ).cells = (SV.vals σ x.cells).toArray := by
 cases x with
 | v y=>cases y<;>simp [SV.val,SV.cells,Value.cells,SV.vals,vals_v]
 | a l=>simp [SV.val,SV.cells,Value.cells]
 | _=>simp [SV.val,SV.cells,Value.cells,SV.vals]
theorem cells_wf {n : Ev} {x : SV} (h : x.wf n) : SV.wfs n x.cells := by
 cases x with
 | v y=>cases y<;>simp [SV.cells,SV.wfs,SV.wf,wfs_v]
 | a l=>exact h
 | _=>exact ⟨h,trivial⟩
theorem litK_range : ∀ (m s n : Nat) (k : Nat → Prop), litK (List.range' s m) n k False → k (s + n)
 | 0,_,_,_,h=>by simp [litK] at h
 | m + 1,s,0,k,h=>by simpa [List.range'_succ,litK] using h
 | m + 1,s,n + 1,k,h=>by
   rw [List.range'_succ] at h
   have:=litK_range m (s + 1) n k h
   rwa [show s + 1 + n=s + (n + 1) by omega] at this
theorem lenK_range {α : Type} : ∀ (m s : Nat) (l : List α) (k : Nat → Prop), lenK (List.range' s m) l k False → k (s + l.length)
 | 0,_,_,_,h=>by simp [lenK] at h
 | m + 1,s,[],k,h=>by simpa [List.range'_succ,lenK] using h
 | m + 1,s,_ :: l,k,h=>by
   rw [List.range'_succ] at h
   have:=lenK_range m (s + 1) l k h
   rwa [show s + 1 + l.length=s + (l.length + 1) by omega] at this
theorem lits_eq : lits = List.range' 0 300 := by decide +kernel
theorem litK_spec {n : Nat} {k : Nat → Prop} (h : litK lits n k False) : k n := by
 rw [lits_eq] at h
 simpa using litK_range _ _ _ _ h
theorem lenK_spec {α : Type} {l : List α} {k : Nat → Prop} (h : lenK lits l k False) : k l.length := by
 rw [lits_eq] at h
 simpa using lenK_range _ _ _ _ h
theorem OB.at_ext {σ σ' : Nat → Nat} {E E' : Ev} {w w' : World} {b : Nat} {F : Nat → Prop} {o : OB} (h : o.at σ E w b F) (hσ : ∀ j, j < E.n → σ' j = σ j) (hE : E.le E') (hw : ∀ i, F i → w'.heap[i]? = w.heap[i]?) : o.at σ' E' w' b F := by
 cases o with
 | box ty cells =>
   obtain ⟨h1,h2,h3⟩:=h
   exact ⟨by rw [hw b ((h2 b).2 rfl),h1,SV.vals_ext hσ cells h3],h2,SV.wfs_mono hE _ h3⟩
 | row ro e sz els =>
   cases ro with
   | true=>exact ⟨DV.rd_mono hE.g _ _ h.1,h.2⟩
   | false=>exact RowAt.ext h hE.g hw
 | res R=>exact ⟨h.2 _ w' hE.g hw,fun G'' w'' hG hw''=>h.2 G'' w'' (hE.g.trans hG) fun i hi=>(hw'' i hi).trans (hw i hi)⟩
theorem Kept.alloc {M : Nat → Prop} {w0 w : World} (h : Kept M w0 w) (o : Obj) : Kept M w0 (w.alloc o) :=
 ⟨h.os,h.tape,h.output,by rw [World.size_alloc];have:=h.size;omega,fun i hi hm=>by rw [Below.heap_alloc _ _ _ (by have:=h.size;omega)];exact h.block i hi hm⟩
theorem Mem.pushO {C : Ctx} {σ : Nat → Nat} {G G' : Fz} {fp : Nat → Nat → Prop} {ob : List OB} {w w' : World} (h : Mem C σ G fp ob w) (hb : Below w.heap.size w w') (o : OB) (b : Nat) (F : Nat → Prop) (hG : G.le G')
 (hz : ∀ i o,G' i=some o→w'.heap[i]? = some o∧¬ F i∧(G i=some o∨w.heap.size≤i)) (ho : o.at (fun j=>if j=ob.length then b else σ j) ⟨G',ob.length + 1⟩ w' b F) (hF : ∀ i,F i→w.heap.size≤i∧i < w'.heap.size) (hdr : C.d=true→w.drawn≤w'.drawn) :
 Mem C (fun j=>if j=ob.length then b else σ j) G' (fun j=>if j=ob.length then F else fp j) (ob ++ [o]) w':=by
 have hσ : ∀ j,j < ob.length→(fun j=>if j=ob.length then b else σ j) j=σ j:=fun j hj=>by simp [show j ≠ ob.length by omega]
 have hk:=h.kept
 refine ⟨?_,?_,?_,?_,⟨hb.os.trans hk.os,hb.tape.trans hk.tape,hb.output.trans hk.output,Nat.le_trans hk.size hb.size,fun i hi hm=>(hb.block i (Nat.lt_of_lt_of_le hi hk.size)).trans (hk.block i hi hm)⟩,?_,fun i o hi=>by
  rcases (hz i o hi).2.2 with h1|h1
  ·exact h.src i o h1
  ·exact .inr (.inl (Nat.le_trans hk.size h1)),⟨by have:=h.pin.1;simp;omega,fun j hj=>(hσ j (Nat.lt_of_lt_of_le hj h.pin.1)).trans (h.pin.2 j hj)⟩,fun hd=>Nat.le_trans (h.drw hd) (hdr hd)⟩
 ·intro k o' hk
  by_cases hlt : k < ob.length
  ·rw [List.getElem?_append_left hlt] at hk
   simp only [show k ≠ ob.length by omega,if_false]
   exact OB.at_ext (h.at_ k o' hk) hσ ⟨hG,by simp⟩ fun i hi=>hb.block i (h.hi k hlt i hi)
  ·have hlen:=(List.getElem?_eq_some_iff.1 hk).1
   simp at hlen
   obtain rfl : k=ob.length:=by omega
   simp at hk
   subst hk
   simpa using ho
 ·intro j k hj hk hne i hi hi'
  simp at hj hk
  by_cases ej : j=ob.length
  ·simp only [ej,if_true] at hi
   simp only [show k ≠ ob.length by omega,if_false] at hi'
   have:=h.hi k (by omega) i hi'
   have:=(hF i hi).1
   omega
  ·simp only [ej,if_false] at hi
   by_cases ek : k=ob.length
   ·simp only [ek,if_true] at hi'
    have:=h.hi j (by omega) i hi
    have:=(hF i hi').1
    omega
   ·simp only [ek,if_false] at hi'
    exact h.disj j k (by omega) (by omega) hne i hi hi'
 ·intro k hk i hi
  simp at hk
  by_cases ek : k=ob.length
  ·simp only [ek,if_true] at hi
   have:=h.kept.size
   have:=(hF i hi).1
   right;omega
  ·simp only [ek,if_false] at hi
   exact h.lo k (by omega) i hi
 ·intro k hk i hi
  simp at hk
  by_cases ek : k=ob.length
  ·simp only [ek,if_true] at hi;exact (hF i hi).2
  ·simp only [ek,if_false] at hi
   exact Nat.lt_of_lt_of_le (h.hi k (by omega) i hi) hb.size
 ·intro i o' hi
  obtain ⟨h1,h2,h3⟩:=hz i o' hi
  refine ⟨h1,fun k hk hf=>?_⟩
  simp at hk
  by_cases ek : k=ob.length
  ·simp only [ek,if_true] at hf;exact h2 hf
  ·simp only [ek,if_false] at hf
   rcases h3 with h3|h3
   ·exact (h.fz i o' h3).2 k (by omega) hf
   ·have:=h.hi k (by omega) i hf
    omega
theorem Mem.fz_lt {C : Ctx} {σ : Nat → Nat} {G : Fz} {fp : Nat → Nat → Prop} {ob : List OB} {w : World} (h : Mem C σ G fp ob w) {i : Nat} {o : Obj} (hi : G i = some o) : i < w.heap.size := (Array.getElem?_eq_some_iff.1 (h.fz i o hi).1).1
theorem Mem.push {C : Ctx} {σ : Nat → Nat} {G : Fz} {fp : Nat → Nat → Prop} {ob : List OB} {w : World} (h : Mem C σ G fp ob w) (t : TypeId) (cs : List SV) (hw : SV.wfs ⟨G, ob.length⟩ cs) :
 Mem C (fun j=>if j=ob.length then w.heap.size else σ j) G (fun j=>if j=ob.length then (· = w.heap.size) else fp j) (ob ++ [.box t cs]) (w.alloc (.cells (SV.vals σ cs).toArray t)):=by
 have hσ : ∀ j,j < ob.length→(fun j=>if j=ob.length then w.heap.size else σ j) j=σ j:=fun j hj=>by simp [show j ≠ ob.length by omega]
 refine h.pushO ((Below.refl _ _).alloc (Nat.le_refl _) _) (.box t cs) w.heap.size _ (Fz.refl _) (fun i o hi=>⟨?_,?_,.inl hi⟩) ⟨?_,fun i=>Iff.rfl,SV.wfs_mono (Ev.same (by simp)) _ hw⟩ (fun i hi=>?_) (fun _=>Nat.le_refl _)
 ·rw [Below.heap_alloc _ _ _ (h.fz_lt hi)]
  exact (h.fz i o hi).1
 ·have:=h.fz_lt hi
  omega
 ·rw [SV.vals_ext (E:=⟨G,ob.length⟩) hσ _ hw]
  exact heap_alloc_new w _
 ·rw [World.size_alloc]
  omega
theorem Mem.change {C : Ctx} {σ : Nat → Nat} {G : Fz} {fp : Nat → Nat → Prop} {ob : List OB} {w w' : World} (h : Mem C σ G fp ob w) {j : Nat} (hj : j < ob.length) (o : OB) (F : Nat → Prop)
 (ho : o.at σ ⟨G,ob.length⟩ w' (σ j) F) (hF : ∀ i,F i→fp j i∨w.heap.size≤i) (hF' : ∀ i,F i→i < w'.heap.size) (hos : w'.os=w.os) (htape : w'.tape=w.tape) (hout : w'.output=w.output) (hsz : w.heap.size≤w'.heap.size)
 (hsame : ∀ i,i < w.heap.size→¬ fp j i→w'.heap[i]? = w.heap[i]?) (hdr : C.d=true→w.drawn≤w'.drawn) : Mem C σ G (fun k=>if k=j then F else fp k) (ob.set j o) w':=by
 refine ⟨?_,?_,?_,?_,?_,?_,h.src,⟨by simpa using h.pin.1,h.pin.2⟩,fun hd=>Nat.le_trans (h.drw hd) (hdr hd)⟩
 ·intro k o' hk
  simp only [List.length_set]
  by_cases e : k=j
  ·subst e
   simp [List.getElem?_set,hj] at hk
   subst hk
   simpa using ho
  ·rw [List.getElem?_set_ne (by omega)] at hk
   simp only [e,if_false]
   have hlt:=(List.getElem?_eq_some_iff.1 hk).1
   exact OB.at_ext (h.at_ k o' hk) (fun _ _=>rfl) (Ev.same (Nat.le_refl _)) fun i hi=>hsame i (h.hi k hlt i hi) (h.disj k j hlt hj e i hi)
 ·intro a b ha hb hne i hi hi'
  simp at ha hb
  by_cases ea : a=j
  ·subst ea
   simp only [if_true] at hi
   simp only [show b ≠ a by omega,if_false] at hi'
   rcases hF i hi with h1|h1
   ·exact h.disj a b ha hb hne i h1 hi'
   ·have:=h.hi b hb i hi';omega
  ·simp only [ea,if_false] at hi
   by_cases eb : b=j
   ·subst eb
    simp only [if_true] at hi'
    rcases hF i hi' with h1|h1
    ·exact h.disj a b ha hb hne i hi h1
    ·have:=h.hi a ha i hi;omega
   ·simp only [eb,if_false] at hi'
    exact h.disj a b ha hb hne i hi hi'
 ·intro k hk i hi
  simp at hk
  by_cases e : k=j
  ·subst e
   simp only [if_true] at hi
   rcases hF i hi with h1|h1
   ·exact h.lo k hk i h1
   ·have:=h.kept.size;right;omega
  ·simp only [e,if_false] at hi
   exact h.lo k hk i hi
 ·intro k hk i hi
  simp at hk
  by_cases e : k=j
  ·subst e
   simp only [if_true] at hi
   exact hF' i hi
  ·simp only [e,if_false] at hi
   have:=h.hi k hk i hi
   omega
 ·have hk:=h.kept
  refine ⟨hos.trans hk.os,htape.trans hk.tape,hout.trans hk.output,by have:=hk.size;omega,fun i hi hm=>?_⟩
  rw [hsame i (by have:=hk.size;omega) (fun hf=>?_),hk.block i hi hm]
  rcases h.lo j hj i hf with h1|h1
  ·exact hm h1
  ·omega
 ·intro i o' hi
  obtain ⟨h1,h2⟩:=h.fz i o' hi
  have hlt:=h.fz_lt hi
  refine ⟨by rw [hsame i hlt (h2 j hj)];exact h1,fun k hk hf=>?_⟩
  simp at hk
  by_cases e : k=j
  ·subst e
   simp only [if_true] at hf
   rcases hF i hf with h3|h3
   ·exact h2 k hk h3
   ·omega
  ·simp only [e,if_false] at hf
   exact h2 k hk hf
end Go.Proofs.YtkflmidichikjaaGreatDoor.V
namespace Go.Proofs.YtkflmidichikjaaGreatDoor.V
open Go.RowKit
structure TIok (P : Program) (ti : TI) : Prop where
 info : (P.info? ti.id).map (·.size)=some ti.zero.length
 under : ∃ d,P.underlying ti.id=some d∧d.isRow=ti.agg
 zero : ∃ z,(∀ w,(zeroValue ti.id).run P w = .ok z w)∧z.cells=ti.zero.toArray
 inf : ∃ i z,P.info? ti.id=some i∧i.zero=some z∧z.cells=ti.zero.toArray∧i.size=ti.zero.length∧i.bytes=ti.byt
 one : ti.agg=false→ti.zero.length=1
 fld : ∀ i fo fs fa,nth ti.flds i=some (fo,fs,fa)→fs ≠ 0→∀ a w,(Instr.fieldAt ti.id (.pointer (some a)) i).run P w = .ok (.pointer (some (a.add fo))) w
 build : ti.agg=true→∀ parts cells w,Instr.fill (fun i=>(nth ti.flds i).map fun f=>(f.1,f.2.1)) ti.zero.toArray parts.toList=some cells→(Instr.build ti.id parts).run P w = .ok (.agg cells) w
 sl : ∀ e,ti.el=e + 1→P.underlying ti.id=some (.slice e)
 kd1 : ti.kd=1→P.underlying ti.id=some .bool
 kd2 : ti.kd=2→∃ e,P.underlying ti.id=some (.pointer e)
 kd3 : ∀ k,ikOf ti.kd=some k→P.underlying ti.id=some (.int k)
 guard : P.eqGuardType P.depth ti.id=false
 eq : ∀ σ l m r,eqT ti.eqk l m=some r→∀ w,(Op.equal ti.id (.agg (SV.vals σ l).toArray) (.agg (SV.vals σ m).toArray)).run P w = .ok r w
def TabOk (P : Program) (T : List TI) : Prop := ∀ t ti, lookT T t = some ti → ti.id = t ∧ TIok P ti
theorem wp_value {P : Program} {o : Oper} {a : Act} {w w' : World} {next : Act → World → Prop} {Q : Exit → Act → World → Prop} {v : Value} (h : (execOp a.eval o).run P w = .ok (.value v) w') (hn : next (a.put o.dst v) w') : o.wp P a w next Q := by
 unfold Oper.wp;rw [h];exact hn
theorem wp_skip' {P : Program} {o : Oper} {a : Act} {w w' : World} {next : Act → World → Prop} {Q : Exit → Act → World → Prop} (h : (execOp a.eval o).run P w = .ok .skip w') (hn : next (a.put o.dst undef) w') : o.wp P a w next Q := by
 unfold Oper.wp;rw [h];exact hn
theorem xif_iff {b : Bool} {t e : Unit → Prop} : xif b t e ↔ (b = true → t ()) ∧ (b = false → e ()) := by cases b <;> simp [xif]
theorem need_iff {p : Prop} {k : Unit → Prop} : need p k ↔ p ∧ k () := by unfold need; exact Iff.rfl
theorem xwr64_iff {e : Int} {k : Int → Prop} : xwr64 e k ↔ k (IntKind.i64.wrap e) := ⟨fun h => h.out, fun h => ⟨h⟩⟩
theorem xquo64_iff {a b : Int} {k : Int → Prop} : xquo64 a b k ↔ b ≠ 0 ∧ k (IntKind.i64.wrap (a.tdiv b)) := ⟨fun h => h.out, fun h => ⟨h⟩⟩
theorem xrem64_iff {a b : Int} {k : Int → Prop} : xrem64 a b k ↔ b ≠ 0 ∧ k (a.tmod b) := ⟨fun h => h.out, fun h => ⟨h⟩⟩
theorem xshr_iff {kd : IntKind} {a b : Int} {k : Int → Prop} : xshr kd a b k ↔ 0 ≤ b ∧ k (a.fdiv (2 ^ min b.toNat kd.bits)) := ⟨fun h => h.out, fun h => ⟨h⟩⟩
theorem xshl_iff {kd : IntKind} {a b : Int} {k : Int → Prop} : xshl kd a b k ↔ 0 ≤ b ∧ k (kd.wrap (a * 2 ^ min b.toNat kd.bits)) := ⟨fun h => h.out, fun h => ⟨h⟩⟩
theorem xcv_iff {kd : IntKind} {n : Int} {k : Int → Prop} : xcv kd n k ↔ k (kd.wrap n) := ⟨fun h => h.out, fun h => ⟨h⟩⟩
theorem xwru_iff {kd : IntKind} {e : Int} {k : Int → Prop} : xwru kd e k ↔ k (kd.wrap e) := ⟨fun h => h.out, fun h => ⟨h⟩⟩
theorem xquou_iff {kd : IntKind} {a b : Int} {k : Int → Prop} : xquou kd a b k ↔ b ≠ 0 ∧ k (kd.wrap (a.tdiv b)) := ⟨fun h => h.out, fun h => ⟨h⟩⟩
theorem xremu_iff {a b : Int} {k : Int → Prop} : xremu a b k ↔ b ≠ 0 ∧ k (a.tmod b) := ⟨fun h => h.out, fun h => ⟨h⟩⟩
theorem xwr_iff {kd : IntKind} {e : Int} {k : Int → Prop} : xwr kd e k ↔ k (kd.wrap e) := by cases kd <;> simp [xwr, xwr64_iff, xwru_iff]
theorem xquo_iff {kd : IntKind} {a b : Int} {k : Int → Prop} : xquo kd a b k ↔ b ≠ 0 ∧ k (kd.wrap (a.tdiv b)) := by cases kd <;> simp [xquo, xquo64_iff, xquou_iff, need]
theorem xrem_iff {kd : IntKind} {a b : Int} {k : Int → Prop} : xrem kd a b k ↔ b ≠ 0 ∧ k (a.tmod b) := by cases kd <;> simp [xrem, xrem64_iff, xremu_iff, need]
theorem foldl_zip (f : Array Value → Value × Nat → Array Value) (o : Nat) (hf : ∀ cs c j, f cs (c, j) = cs.setIfInBounds (o + j) c) : ∀ (l : List Value) (s : Nat) (cs : Array Value), o + s + l.length ≤ cs.size →
 (l.zipIdx s).foldl f cs=(cs.toList.take (o + s) ++ l ++ cs.toList.drop (o + s + l.length)).toArray
 | [],s,cs,_=>by simp
 | x :: r,s,cs,h=>by
   have h' : o + s + (r.length + 1)≤cs.size:=by simpa using h
   simp only [List.zipIdx_cons,List.foldl_cons,hf]
   rw [foldl_zip f o hf r (s + 1) _ (by simp;omega)]
   congr 1
   apply List.ext_getElem?
   intro i
   simp only [Array.toList_setIfInBounds,List.getElem?_append,List.length_append,List.length_take,List.length_set,List.getElem?_take,List.getElem?_drop,List.length_cons,List.getElem?_set,Array.length_toList]
   by_cases h1 : i < o + s
   ·simp [show i < o + (s + 1) by omega,show i < cs.size by omega,show ¬ o + s=i by omega,h1,show i < min (o + (s + 1)) cs.size + r.length by omega,show i < min (o + s) cs.size + (r.length + 1) by omega]
    rw [if_pos (by omega),if_pos (by omega)]
   ·by_cases h2 : i=o + s
    ·subst h2
     simp [show o + s < min (o + (s + 1)) cs.size + r.length by omega,show o + s < o + (s + 1) by omega,show o + s < cs.size by omega,show o + s < min (o + s) cs.size + (r.length + 1) by omega,show o + s - min (o + s) cs.size=0 by omega]
     rw [if_pos (by omega),if_neg (by omega)]
    ·by_cases h3 : i < o + s + (r.length + 1)
     ·simp [show i < min (o + (s + 1)) cs.size + r.length by omega,show ¬ i < o + (s + 1) by omega,show i < min (o + s) cs.size + (r.length + 1) by omega,show ¬ i < o + s by omega]
      rw [show i - min (o + s) cs.size=(i - min (o + (s + 1)) cs.size) + 1 by omega]
      simp
      rw [if_neg (by omega),if_neg (by omega)]
     ·simp [show ¬ i < min (o + (s + 1)) cs.size + r.length by omega,show ¬ i < min (o + s) cs.size + (r.length + 1) by omega,show ¬ o + s=o + (s + 1) + r.length + (i - (min (o + (s + 1)) cs.size + r.length)) by omega]
      congr 1
      omega
theorem fold_splice (cs : Array Value) (l : List Value) (o : Nat) (h : o + l.length ≤ cs.size) :
 l.toArray.zipIdx.foldl (fun cs (c,j)=>cs.setIfInBounds (o + j) c) cs=(cs.toList.take o ++ l ++ cs.toList.drop (o + l.length)).toArray:=by
 have:=foldl_zip (fun cs (p : Value × Nat)=>cs.setIfInBounds (o + p.2) p.1) o (fun _ _ _=>rfl) l 0 cs (by omega)
 simp only [Nat.add_zero] at this
 rw [← this]
 simp
section
variable {C : Ctx} {tm : List (Nat × SV)} {ob : List OB} {σ : Nat → Nat} {G : Fz} {fp : Nat → Nat → Prop} {a : Act} {w : World} {k : SV → List OB → Prop}
theorem ev_spec {E : Ev} (h : Tm C σ E tm a) {x : Operand} {r : SV} (he : ev tm x = some r) : a.eval x = r.val σ ∧ r.wf E := by
 cases x with
 | tmp t=>exact h.val t r he
 | const v=>simp [ev] at he;subst he;exact ⟨rfl,trivial⟩
 | global g=>simp [ev] at he;subst he;exact ⟨rfl,trivial⟩
 | func f=>simp [ev] at he;subst he;exact ⟨by simp [SV.val,SV.vals,Act.eval],trivial⟩
theorem evs_spec {E : Ev} (h : Tm C σ E tm a) : ∀ {xs : List Operand} {l : List SV}, evs tm xs = some l → xs.map a.eval = SV.vals σ l ∧ SV.wfs E l
 | [],l,he=>by simp [evs] at he;subst he;exact ⟨rfl,trivial⟩
 | x :: r,l,he=>by
   unfold evs at he
   cases hx : ev tm x with
   | none=>simp [hx] at he
   | some s =>
     cases hr : evs tm r with
     | none=>simp [hx,hr] at he
     | some m =>
       simp [hx,hr] at he
       subst he
       obtain ⟨h1,h2⟩:=ev_spec h hx
       obtain ⟨h3,h4⟩:=evs_spec h hr
       exact ⟨by simp [SV.vals,h1,h3],h2,h4⟩
theorem Frm.below {n : Nat} {w' : World} (hb : Below w.heap.size w w') : Frm C n G fp w n G fp w' :=
 ⟨fun i _ hi _=>hb.block i hi,fun j hj i hi _ _=>⟨j,hj,hi⟩,fun i o h _=>.inl h,hb.size⟩
theorem Frm.pushed {n m : Nat} {G' : Fz} {F : Nat → Prop} {w' : World} (hb : Below w.heap.size w w') (hm : m ≤ n + 1) (hF : ∀ i, F i → w.heap.size ≤ i) (hG : ∀ i o, G' i = some o → i < w.heap.size → G i = some o) : Frm C n G fp w m G' (fun j => if j = n then F else fp j) w' := by
 refine ⟨fun i _ hi _=>hb.block i hi,fun j hj i hi _ hlt=>?_,fun i o h hlt=>.inl (hG i o h hlt),hb.size⟩
 by_cases e : j=n
 ·simp only [e,if_true] at hi
  have:=hF i hi
  omega
 ·simp only [e,if_false] at hi
  exact ⟨j,by omega,hi⟩
theorem Frm.changed {n m j : Nat} {F : Nat → Prop} {w' : World} (hj : j < n) (hm : m ≤ n) (hF : ∀ i, F i → fp j i ∨ w.heap.size ≤ i) (hsz : w.heap.size ≤ w'.heap.size) (hsame : ∀ i, i < w.heap.size → ¬ fp j i → w'.heap[i]? = w.heap[i]?) :
 Frm C n G fp w m G (fun k=>if k=j then F else fp k) w':=by
 refine ⟨fun i _ hi hno=>hsame i hi (hno j hj),fun k hk i hi _ hlt=>?_,fun i o h _=>.inl h,hsz⟩
 by_cases e : k=j
 ·simp only [e,if_true] at hi
  rcases hF i hi with h|h
  ·exact ⟨j,hj,h⟩
  ·omega
 ·simp only [e,if_false] at hi
  exact ⟨k,by omega,hi⟩
theorem Goes.same {x : SV} (hk : k x ob) (hw : x.wf ⟨G, ob.length⟩) (hm : Mem C σ G fp ob w) : Goes C ob.length σ G fp w k (x.val σ) w :=
 ⟨x,ob,σ,G,fp,hk,fun _ _=>rfl,Fz.refl _,Nat.le_refl _,rfl,hw,hm,Frm.below (Below.refl _ _)⟩
theorem Goes.newBox {t : TypeId} {cs : List SV} (h : newBox t cs ob k) (hw : SV.wfs ⟨G, ob.length⟩ cs) (hm : Mem C σ G fp ob w) : Goes C ob.length σ G fp w k (.pointer (some ⟨w.heap.size, 0, none⟩)) (w.alloc (.cells (SV.vals σ cs).toArray t)) := by
 unfold V.newBox at h
 have h1:=lenK_spec h
 simp only [force_eq] at h1
 exact ⟨_,_,_,_,_,h1,fun j hj=>by simp [show j ≠ ob.length by omega],Fz.refl _,by simp,by simp [SV.val],by simp [SV.wf],hm.push t cs hw,Frm.pushed ((Below.refl _ _).alloc (Nat.le_refl _) _) (by simp) (fun i hi=>by rw [hi];exact Nat.le_refl _) fun _ _ h _=>h⟩
theorem nth_box {j : Nat} {t : TypeId} {cs : List SV} (hm : Mem C σ G fp ob w) (h : nth ob j = some (.box t cs)) : w.heap[σ j]? = some (.cells (SV.vals σ cs).toArray t (0, 0)) ∧ (∀ i, fp j i ↔ i = σ j) ∧ SV.wfs ⟨G, ob.length⟩ cs ∧ j < ob.length := by
 rw [nth_eq] at h
 have:=hm.at_ j _ h
 exact ⟨this.1,this.2.1,this.2.2,(List.getElem?_eq_some_iff.1 h).1⟩
theorem load_one {P : Program} {ti : TI} (hT : TIok P ti) (hagg : ti.agg = false) {b off : Nat} {v : Value} (hc : w.cell? ⟨b, off, none⟩ = some v) : (loadVar ti.id ⟨b, off, none⟩).run P w = .ok v w := by
 obtain ⟨d,hd,hrow⟩:=hT.under
 have hagg' : (isAgg ti.id).run P w = .ok false w:=by
  unfold isAgg
  simp only [Sem.run_bind,run_underlying hd,Result.andThen_ok]
  rw [hagg] at hrow
  cases d<;>first|rfl|cases hrow
 unfold loadVar
 simp only [Sem.run_bind,hagg',Result.andThen_ok]
 simp [run_load,hc]
theorem appK_eq {α : Type} {β : Sort _} : ∀ (x y : List α) (k : List α → β), appK x y k = k (x ++ y)
 | [],y,k=>force_eq y k
 | a :: r,y,k=>by
   unfold appK
   rw [appK_eq r y]
   rfl
theorem splK_eq {α : Type} {β : Sort _} : ∀ (l : List α) (o : Nat) (m : List α) (k : List α → β), o + m.length ≤ l.length → splK l o m k = k (l.take o ++ m ++ l.drop (o + m.length))
 | l,0,m,k,_=>by
   unfold splK
   rw [appK_eq,dropN_eq]
   simp
 | [],o + 1,m,k,h=>by simp at h
 | c :: r,o + 1,m,k,h=>by
   unfold splK
   rw [splK_eq r o m _ (by simp at h;omega)]
   simp [show o + 1 + m.length=o + m.length + 1 by omega]
theorem fillK_spec {fl : List (Nat × Nat × Bool)} : ∀ {ps : List (Nat × SV)} {cs : List SV} {k : List SV → Prop}, fillK fl cs ps k → ∃ r, V.fill fl cs ps = some r ∧ k r
 | [],cs,k,h=>⟨cs,rfl,h⟩
 | (i,x) :: ps,cs,k,h=>by
   unfold fillK at h
   unfold V.fill
   cases hi : nth fl i with
   | none=>simp [hi] at h
   | some f =>
     obtain ⟨o,m,fa⟩:=f
     simp only [hi] at h ⊢
     split at h
     ·rename_i h1 h2
      have e1 : x.cells.length=m:=Nat.eq_of_beq_eq_true h1
      have e2 : o + m≤cs.length:=Nat.le_of_ble_eq_true h2
      rw [splK_eq _ _ _ _ (by omega),← splice_eq _ _ _ (by omega)] at h
      exact fillK_spec h
     ·exact h.elim
theorem fill_spec (σ : Nat → Nat) (n : Ev) (fl : List (Nat × Nat × Bool)) : ∀ (ps : List (Nat × SV)) (cs r : List SV), V.fill fl cs ps = some r → SV.wfs n cs → (∀ p ∈ ps, p.2.wf n) →
 Instr.fill (fun i=>(nth fl i).map fun f=>(f.1,f.2.1)) (SV.vals σ cs).toArray (ps.map fun p=>(p.1,p.2.val σ))=some (SV.vals σ r).toArray∧SV.wfs n r
 | [],cs,r,h,hw,_=>by simp [V.fill] at h;subst h;exact ⟨rfl,hw⟩
 | (i,x) :: ps,cs,r,h,hw,hp=>by
   unfold V.fill at h
   cases hi : nth fl i with
   | none=>simp [hi] at h
   | some f =>
     obtain ⟨o,m,fa⟩:=f
     simp only [hi] at h
     split at h
     ·rename_i h1 h2
      have e1 : x.cells.length=m:=Nat.eq_of_beq_eq_true h1
      have e2 : o + m≤cs.length:=Nat.le_of_ble_eq_true h2
      have hx:=cells_wf (hp (i,x) (by simp))
      rw [splice_eq _ _ _ (by omega)] at h
      have ih:=fill_spec σ n fl ps _ r h (wfs_splice hw hx o) (fun p hpm=>hp p (by simp [hpm]))
      refine ⟨?_,ih.2⟩
      simp only [List.map_cons,Instr.fill,hi,Option.map_some]
      rw [cells_val]
      simp only [List.size_toArray,vals_length,e1]
      rw [if_neg (by simp;omega)]
      rw [vals_splice] at ih
      rw [← ih.1]
      congr 1
      rw [fold_splice _ _ _ (by simp [vals_length];omega)]
     ·cases h
end
end Go.Proofs.YtkflmidichikjaaGreatDoor.V
end
