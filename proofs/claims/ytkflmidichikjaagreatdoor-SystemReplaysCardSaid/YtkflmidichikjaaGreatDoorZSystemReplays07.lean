import Derived.Test.YtkflmidichikjaaGreatDoorZSystemReplays06
set_option linter.all false
section
namespace Go.Proofs.YtkflmidichikjaaGreatDoor.V
open Go.RowKit
section
variable {G G' : Fz}
theorem rdL_len : ∀ {x : List DV} {y : List Value}, rdL G x y → y.length = x.length
 | [],[],_=>rfl
 | [],_ :: _,h=>h.elim
 | _ :: _,[],h=>h.elim
 | _ :: r,_ :: l,h=>by simp [rdL_len h.2]
theorem rdLL_len : ∀ {x : List (List DV)} {y : List (List Value)}, rdLL G x y → y.length = x.length
 | [],[],_=>rfl
 | [],_ :: _,h=>h.elim
 | _ :: _,[],h=>h.elim
 | _ :: r,_ :: l,h=>by simp [rdLL_len h.2]
theorem rdL_one : ∀ {x : List DV} {y : List Value}, rdL G x y → ∀ v ∈ y, v.oneCell' = true
 | [],[],_,v,hv=>by simp at hv
 | [],_ :: _,h,_,_=>h.elim
 | _ :: _,[],h,_,_=>h.elim
 | _ :: r,u :: l,h,v,hv=>by
   rcases List.mem_cons.1 hv with rfl|hv
   ·exact h.1.1
   ·exact rdL_one h.2 v hv
theorem rdLL_one : ∀ {x : List (List DV)} {y : List (List Value)}, rdLL G x y → ∀ v ∈ y.flatten, v.oneCell' = true
 | [],[],_,v,hv=>by simp at hv
 | [],_ :: _,h,_,_=>h.elim
 | _ :: _,[],h,_,_=>h.elim
 | _ :: r,u :: l,h,v,hv=>by
   simp only [List.flatten_cons,List.mem_append] at hv
   rcases hv with hv|hv
   ·exact rdL_one h.1 v hv
   ·exact rdLL_one h.2 v hv
theorem rdLL_size {sz : Nat} : ∀ {x : List (List DV)} {y : List (List Value)}, rdLL G x y → (∀ e ∈ x, e.length = sz) → ∀ e ∈ y, e.length = sz
 | [],[],_,_,e,he=>by simp at he
 | [],_ :: _,h,_,_,_=>h.elim
 | _ :: _,[],h,_,_,_=>h.elim
 | x :: r,u :: l,h,hs,e,he=>by
   rcases List.mem_cons.1 he with rfl|he
   ·rw [rdL_len h.1];exact hs x (by simp)
   ·exact rdLL_size h.2 (fun e he=>hs e (by simp [he])) e he
theorem rdL_app : ∀ {x x' : List DV} {y y' : List Value}, rdL G x y → rdL G x' y' → rdL G (x ++ x') (y ++ y')
 | [],_,[],_,_,h'=>h'
 | [],_,_ :: _,_,h,_=>h.elim
 | _ :: _,_,[],_,h,_=>h.elim
 | _ :: _,_,_ :: _,_,h,h'=>⟨h.1,rdL_app h.2 h'⟩
theorem rdLL_app : ∀ {x x' : List (List DV)} {y y' : List (List Value)}, rdLL G x y → rdLL G x' y' → rdLL G (x ++ x') (y ++ y')
 | [],_,[],_,_,h'=>h'
 | [],_,_ :: _,_,h,_=>h.elim
 | _ :: _,_,[],_,h,_=>h.elim
 | _ :: _,_,_ :: _,_,h,h'=>⟨h.1,rdLL_app h.2 h'⟩
theorem rdL_cut : ∀ {x : List DV} {y : List Value} (o n : Nat), rdL G x y → rdL G ((x.drop o).take n) ((y.drop o).take n)
 | [],[],o,n,_=>by simp [rdL]
 | [],_ :: _,_,_,h=>h.elim
 | _ :: _,[],_,_,h=>h.elim
 | _ :: _,_ :: _,0,0,_=>trivial
 | _ :: r,_ :: l,0,n + 1,h=>⟨h.1,by simpa using rdL_cut (x:=r) (y:=l) 0 n h.2⟩
 | _ :: r,_ :: l,o + 1,n,h=>by simpa using rdL_cut (x:=r) (y:=l) o n h.2
theorem rdLL_cut : ∀ {x : List (List DV)} {y : List (List Value)} (o n : Nat), rdLL G x y → rdLL G ((x.drop o).take n) ((y.drop o).take n)
 | [],[],o,n,_=>by simp [rdLL]
 | [],_ :: _,_,_,h=>h.elim
 | _ :: _,[],_,_,h=>h.elim
 | _ :: _,_ :: _,0,0,_=>trivial
 | _ :: r,_ :: l,0,n + 1,h=>⟨h.1,by simpa using rdLL_cut (x:=r) (y:=l) 0 n h.2⟩
 | _ :: r,_ :: l,o + 1,n,h=>by simpa using rdLL_cut (x:=r) (y:=l) o n h.2
theorem rdLL_get : ∀ {x : List (List DV)} {y : List (List Value)} {i : Nat} {e : List DV}, rdLL G x y → x[i]? = some e → ∃ u, y[i]? = some u ∧ rdL G e u
 | [],_,i,e,_,h=>by simp at h
 | _ :: _,[],_,_,h,_=>h.elim
 | x :: r,u :: l,0,e,h,he=>by simp at he;subst he;exact ⟨u,by simp,h.1⟩
 | x :: r,u :: l,i + 1,e,h,he=>by simpa using rdLL_get h.2 (by simpa using he)
theorem rdLL_set : ∀ {x : List (List DV)} {y : List (List Value)} (i : Nat) {e : List DV} {u : List Value}, rdLL G x y → rdL G e u → rdLL G (x.set i e) (y.set i u)
 | [],[],i,_,_,_,_=>by simp [rdLL]
 | [],_ :: _,_,_,_,h,_=>h.elim
 | _ :: _,[],_,_,_,h,_=>h.elim
 | _ :: _,_ :: _,0,_,_,h,h'=>⟨h',h.2⟩
 | x :: r,u :: l,i + 1,_,_,h,h'=>⟨h.1,rdLL_set i h.2 h'⟩
theorem rdL_v : ∀ (l : List Value), (∀ v ∈ l, v.oneCell' = true) → rdL G (l.map .v) l
 | [],_=>trivial
 | x :: r,h=>⟨⟨h x (by simp),rfl⟩,rdL_v r fun v hv=>h v (by simp [hv])⟩
theorem rdL_vs : ∀ {l y : List Value}, rdL G (l.map .v) y → y = l
 | [],[],_=>rfl
 | [],_ :: _,h=>h.elim
 | _ :: _,[],h=>h.elim
 | x :: r,u :: l,h=>by rw [h.1.2,rdL_vs h.2]
theorem rdC_list : ∀ {x : List DV} {cs : Array Value} {o : Nat}, DV.rdC G x cs o → ∃ ys, rdL G x ys ∧ ∀ j v, ys[j]? = some v → cs[o + j]? = some v
 | [],_,_,_=>⟨[],trivial,by simp⟩
 | x :: r,cs,o,h=>by
   obtain ⟨⟨y,h1,h2,h3⟩,h4⟩:=h
   obtain ⟨ys,h5,h6⟩:=rdC_list h4
   refine ⟨y :: ys,⟨⟨h2,h3⟩,h5⟩,fun j v hj=>?_⟩
   cases j with
   | zero=>simp at hj;subst hj;exact h1
   | succ j=>rw [show o + (j + 1)=o + 1 + j by omega];exact h6 j v (by simpa using hj)
theorem rdE_list {sz : Nat} : ∀ {els : List (List DV)} {cs : Array Value} {o : Nat}, DV.rdE G sz els cs o → (∀ x ∈ els, x.length = sz) ∧ ∃ xs, rdLL G els xs ∧ ∀ j v, xs.flatten[j]? = some v → cs[o + j]? = some v
 | [],_,_,_=>⟨by simp,[],trivial,by simp⟩
 | x :: r,cs,o,h=>by
   obtain ⟨h1,h2,h3⟩:=h
   obtain ⟨ys,h4,h5⟩:=rdC_list h2
   obtain ⟨h6,xs,h7,h8⟩:=rdE_list h3
   refine ⟨fun e he=>?_,ys :: xs,⟨h4,h7⟩,fun j v hj=>?_⟩
   ·rcases List.mem_cons.1 he with rfl|he
    ·exact h1
    ·exact h6 e he
   ·have hl : ys.length=sz:=by rw [rdL_len h4,h1]
    simp only [List.flatten_cons,List.getElem?_append] at hj
    split at hj
    ·exact h5 j v hj
    ·have:=h8 _ v hj
     rwa [show o + sz + (j - ys.length)=o + j by omega] at this
theorem rdC_of : ∀ {x : List DV} {ys : List Value} {cs : Array Value} {o : Nat}, rdL G x ys → (∀ j v, ys[j]? = some v → cs[o + j]? = some v) → DV.rdC G x cs o
 | [],_,_,_,_,_=>trivial
 | _ :: _,[],_,_,h,_=>h.elim
 | x :: r,y :: l,cs,o,h,hc=>⟨⟨y,hc 0 y (by simp),h.1.1,h.1.2⟩,rdC_of h.2 fun j v hj=>by rw [show o + 1 + j=o + (j + 1) by omega];exact hc (j + 1) v (by simpa using hj)⟩
theorem rdE_of {sz : Nat} : ∀ {els : List (List DV)} {xs : List (List Value)} {cs : Array Value} {o : Nat}, rdLL G els xs → (∀ x ∈ els, x.length = sz) → (∀ j v, xs.flatten[j]? = some v → cs[o + j]? = some v) → DV.rdE G sz els cs o
 | [],_,_,_,_,_,_=>trivial
 | _ :: _,[],_,_,h,_,_=>h.elim
 | x :: r,y :: l,cs,o,h,hs,hc=>by
   have hl : y.length=sz:=by rw [rdL_len h.1];exact hs x (by simp)
   refine ⟨hs x (by simp),rdC_of h.1 fun j v hj=>hc j v ?_,rdE_of h.2 (fun e he=>hs e (by simp [he])) fun j v hj=>?_⟩
   ·rw [List.flatten_cons,List.getElem?_append_left (List.getElem?_eq_some_iff.1 hj).1]
    exact hj
   ·have:=hc (sz + j) v (by rw [List.flatten_cons,List.getElem?_append_right (by omega),hl,Nat.add_sub_cancel_left];exact hj)
    rwa [show o + sz + j=o + (sz + j) by omega]
theorem flat_len {sz : Nat} : ∀ {els : List (List Value)}, (∀ e ∈ els, e.length = sz) → els.flatten.length = els.length * sz
 | [],_=>by simp
 | x :: r,h=>by
   rw [List.flatten_cons,List.length_append,flat_len fun e he=>h e (by simp [he]),h x (by simp),List.length_cons,Nat.add_mul]
   omega
theorem flat_cut {sz : Nat} : ∀ {els : List (List Value)} (i n : Nat), (∀ e ∈ els, e.length = sz) → ((els.drop i).take n).flatten = (els.flatten.drop (i * sz)).take (n * sz)
 | [],i,n,_=>by simp
 | x :: r,0,0,_=>by simp
 | x :: r,0,n + 1,h=>by
   have hx:=h x (by simp)
   have ih:=flat_cut (els:=r) 0 n fun e he=>h e (by simp [he])
   simp only [List.drop_zero,Nat.zero_mul] at ih
   simp only [List.drop_zero,List.take_succ_cons,List.flatten_cons,Nat.zero_mul,ih]
   rw [show (n + 1) * sz=x.length + n * sz by rw [Nat.add_mul];omega,List.take_length_add_append]
 | x :: r,i + 1,n,h=>by
   have hx:=h x (by simp)
   have ih:=flat_cut (els:=r) i n fun e he=>h e (by simp [he])
   simp only [List.drop_succ_cons,List.flatten_cons,ih]
   rw [show (i + 1) * sz=x.length + i * sz by rw [Nat.add_mul];omega,List.drop_length_add_append]
end
structure Rds (G : Fz) (w : World) (A : Option Addr) (n sz : Nat) (els : List (List DV)) : Prop where
 len : els.length=n
 size : ∀ x∈els,x.length=sz
 at_ : n ≠ 0→∃ b o xs,A=some ⟨b,o,none⟩∧rdLL G els xs∧w.rangeAt b o xs.flatten
section
variable {C : Ctx} {tm : List (Nat × SV)} {ob : List OB} {σ : Nat → Nat} {G : Fz} {fp : Nat → Nat → Prop} {w : World} {e sz n c : Nat} {A : Option Addr} {els : List (List DV)}
theorem rd_rds {w : World} (h : (DV.fz sz els).rd G (.slice A n c)) (hz : ∀ b o, G b = some o → w.heap[b]? = some o) : Rds G w A n sz els ∧ n ≤ c := by
 obtain ⟨A',c',h1,h2,h4⟩:=h
 cases h1
 refine ⟨⟨rfl,?_,fun hn=>?_⟩,h2⟩
 ·by_cases hne : els=[]
  ·simp [hne]
  ·obtain ⟨b,o,cs,ty,fz,h5,h6,h7⟩:=h4 hne
   exact (rdE_list h7).1
 ·obtain ⟨b,o,cs,ty,fz,h5,h6,h7⟩:=h4 (by intro he;simp [he] at hn)
  obtain ⟨_,xs,h8,h9⟩:=rdE_list h7
  exact ⟨b,o,xs,h5,h8,fun j v hj=>by simp [World.cell?,hz b _ h6,h9 j v hj]⟩
theorem RowAt.rds {F : Nat → Prop} (h : RowAt G w e sz A c els F) : Rds G w A els.length sz els := by
 refine ⟨rfl,h.size,fun hn=>?_⟩
 rcases h.at_ with ⟨h1,_⟩|⟨g,o,cs,xs,h1,⟨fz,h2,_⟩,h3,h4,h5,h6⟩
 ·have:=h.cap.1
  omega
 ·refine ⟨g,o,xs,h1,h4,fun j v hj=>?_⟩
  rw [← h5,List.getElem?_take] at hj
  split at hj
  ·rw [List.getElem?_drop] at hj
   simpa [World.cell?,h2] using hj
  ·cases hj
theorem Rds.part {N p i m b : Nat} (h : Rds G w (dA b) N sz els) (hc : N ≤ dC b) (hi : i + m ≤ N) : Rds G w (cutP (dA b) (dC b) p i sz) m sz ((els.drop i).take m) := by
 have hl:=h.len
 refine ⟨by simp;omega,fun x hx=>h.size x (List.mem_of_mem_drop (List.mem_of_mem_take hx)),fun hm=>?_⟩
 obtain ⟨bb,oo,xs,hA,hr,hcs⟩:=h.at_ (by omega)
 have hb : Nat.beq (dC b) i=false:=by
  cases hq : Nat.beq (dC b) i with
  | false=>rfl
  | true=>have:=Nat.eq_of_beq_eq_true hq;omega
 refine ⟨bb,oo + i * sz,_,by simp only [cutP,hA,hb,cond_false,Option.map_some],rdLL_cut i m hr,?_⟩
 rw [flat_cut i m (rdLL_size hr h.size)]
 intro j v hj
 rw [List.getElem?_take] at hj
 split at hj
 ·rw [List.getElem?_drop] at hj
  rw [Nat.add_assoc]
  exact hcs _ v hj
 ·cases hj
theorem Mem.row (hm : Mem C σ G fp ob w) {j : Nat} {ro : Bool} (h : nth ob j = some (.row ro e sz els)) : Rds G w (dA (σ j)) els.length sz els ∧ els.length ≤ dC (σ j) ∧ j < ob.length := by
 rw [nth_eq] at h
 have hj:=(List.getElem?_eq_some_iff.1 h).1
 have ha:=hm.at_ j _ h
 cases ro with
 | true =>
   obtain ⟨h1,h2⟩:=rd_rds ha.1 fun b o hb=>(hm.fz b o hb).1
   exact ⟨h1,h2,hj⟩
 | false=>exact ⟨RowAt.rds ha,ha.cap.1,hj⟩
inductive Sees (ob : List OB) (sz : Nat) : SV → Nat → List (List DV) → Prop
 | nil : Sees ob sz (.v (.slice none 0 0)) 0 []
 | row {j p i m e : Nat} {ro : Bool} {X : List (List DV)} (hj : nth ob j=some (.row ro e sz X)) (h : i + m≤X.length) : Sees ob sz (.sl j p i m sz) m ((X.drop i).take m)
 | all {j p m e : Nat} {ro : Bool} {X : List (List DV)} (hj : nth ob j=some (.row ro e sz X)) (h : m=X.length) : Sees ob sz (.sl j p 0 m sz) m X
 | l {A : Option Addr} {c : Nat} {X : List (List DV)} : Sees ob sz (.fz A c sz X) X.length X
theorem Sees.rds {y : SV} {m : Nat} {X : List (List DV)} (h : Sees ob sz y m X) (hm : Mem C σ G fp ob w) (hw : y.wf ⟨G, ob.length⟩) : ∃ A2 c2, y.val σ = .slice A2 m c2 ∧ Rds G w A2 m sz X := by
 cases h with
 | nil=>exact ⟨none,0,rfl,⟨rfl,by simp,fun h=>absurd rfl h⟩⟩
 | row hj hi =>
   obtain ⟨hS,hc,_⟩:=hm.row hj
   exact ⟨_,_,rfl,hS.part hc hi⟩
 | all hj hi =>
   obtain ⟨hS,hc,_⟩:=hm.row hj
   have h3:=fun p=>hS.part (p:=p) (i:=0) (m:=m) hc (by omega)
   simp only [List.drop_zero] at h3
   rw [List.take_of_length_le (by omega)] at h3
   exact ⟨_,_,rfl,h3 _⟩
 | l =>
   obtain ⟨h1,_⟩:=rd_rds (n:=X.length) hw fun b o hb=>(hm.fz b o hb).1
   exact ⟨_,_,rfl,h1⟩
def slInfo (C : Ctx) (t : TypeId) : Option (Nat × Nat) :=
 match lookT C.T t with
 | some ti=>match ti.el with
   | 0=>none
   | e + 1=>match lookT C.T e with
     | some te=>lenK lits te.zero (fun n=>some (e,n)) none
     | none=>none
 | none=>none
theorem lenK_opt {α : Type} {l : List α} {e : Nat} {r : Nat × Nat} (h : lenK lits l (fun n => some (e, n)) none = some r) : r = (e, l.length) := by
 have key : ∀ (m s : Nat) (l : List α),lenK (List.range' s m) l (fun n=>some (e,n)) none=some r→r=(e,s + l.length):=by
  intro m
  induction m with
  | zero=>intro s l h;simp [lenK] at h
  | succ m ih =>
    intro s l h
    rw [List.range'_succ] at h
    cases l with
    | nil=>simp [lenK] at h;exact h.symm
    | cons x l =>
      have:=ih (s + 1) l (by simpa [lenK] using h)
      rw [this,List.length_cons]
      congr 1
      omega
 rw [lits_eq] at h
 simpa using key 300 0 l h
theorem slInfo_spec (hT : TabOk C.P C.T) {t : TypeId} (h : slInfo C t = some (e, sz)) : C.P.underlying t = some (.slice e) ∧ ∃ te, lookT C.T e = some te ∧ te.zero.length = sz ∧ TIok C.P te ∧ te.id = e := by
 unfold slInfo at h
 split at h
 ·rename_i ti ht
  obtain ⟨hid,hti⟩:=hT t ti ht
  split at h
  ·cases h
  ·rename_i e' hel
   split at h
   ·rename_i te hte
    have:=lenK_opt h
    cases this
    obtain ⟨hid',hti'⟩:=hT _ te hte
    have hu:=hti.sl _ hel
    rw [hid] at hu
    exact ⟨hu,te,hte,rfl,hti',hid'⟩
   ·cases h
 ·cases h
theorem TIok.run_size {P : Program} {te : TI} (h : TIok P te) (w : World) : (sizeOf te.id).run P w = .ok te.zero.length w := by
 have:=h.info
 unfold sizeOf
 cases hq : P.info? te.id with
 | none=>simp [hq] at this
 | some i=>simp [hq] at this;simp [typeInfo,hq,this]
def fl {α : Type} (enc : α → List Value) (X : List α) : List (List DV) := X.map fun a => (enc a).map .v
def gt {α : Type} [Inhabited α] (X : List α) (i : Nat) : α := X.getD i default
theorem fl_len {α : Type} (enc : α → List Value) (X : List α) : (fl enc X).length = X.length := by simp [fl]
theorem fl_get {α : Type} [Inhabited α] {enc : α → List Value} {X : List α} {i : Nat} (h : i < X.length) : (fl enc X)[i]? = some ((enc (gt X i)).map .v) := by
 simp [fl,gt,h]
theorem ValX_idxS {o : Oper} {t : TypeId} {x ix : Operand} {m : Int} {k : SV → Prop} (hT : TabOk C.P C.T) (ho : o.op = .indexAddr t x ix) {j p i N : Nat} {ro : Bool} (hs : slInfo C t = some (e, sz)) (hj : nth ob j = some (.row ro e sz els)) (hN : els.length = N)
 (h0 : 0≤m) (h1 : m < n) (h2 : i + n≤N) (hk : k (.sq j (m.toNat + i) 0 sz)) : ValX C o [.sl j p i n sz,.v (.int .i64 m)] ob k:=by
 rw [Nat.add_comm] at hk
 unfold ValX
 intro σ G fp w ρ hm _ hx
 obtain ⟨hu,te,hl,hz,hti,hid⟩:=slInfo_spec hT hs
 obtain ⟨hS,hc,hjl⟩:=hm.row hj
 obtain ⟨b,oo,xs,hA,_⟩:=hS.at_ (by omega)
 have hq:=dA_q hA
 simp at hq
 refine ⟨_,hk,?_,hjl⟩
 rw [ho] at hx
 simp [Op.operands,SV.vals,SV.val] at hx
 have hsz:=hti.run_size w
 rw [hid,hz] at hsz
 have hb : Nat.beq (dC (σ j)) i=false:=by
  cases h : Nat.beq (dC (σ j)) i with
  | false=>rfl
  | true=>have:=Nat.eq_of_beq_eq_true h;omega
 obtain ⟨dst,op,ty,pos,after,guard⟩:=o
 simp only at ho
 subst ho
 simp only [execOp,hx,Instr.indexAt,asIntOf,Sem.run_bind,Sem.run_pure,Result.andThen_ok,run_underlying hu,cutP,hA,hb,cond_false,Option.map_some]
 have hc' : (0≤m∧m < (n : Int)):=⟨h0,h1⟩
 simp only [hc',and_self,if_true,Sem.run_bind,hsz,Result.andThen_ok,Sem.run_pure,SV.val,Addr.add_mid]
 have e1 : oo + i * sz + m.toNat * sz=qO (σ j) + ((i + m.toNat) * sz + 0):=by
  rw [Nat.add_mul,← hq.2]
  omega
 rw [e1,hq.1]
def elA (A : Option Addr) (i sz : Nat) : Addr :=
 match A with
 | some ⟨b,o,_⟩=>⟨b,o + i * sz,none⟩
 | none=>⟨0,0,none⟩
theorem rdE_at {sz : Nat} : ∀ {els : List (List DV)} {cs : Array Value} {o i : Nat} {x : List DV}, DV.rdE G sz els cs o → els[i]? = some x → DV.rdC G x cs (o + i * sz)
 | [],_,_,_,_,_,h=>by simp at h
 | y :: r,cs,o,0,x,h,hx=>by simp at hx;subst hx;simpa using h.2.1
 | y :: r,cs,o,i + 1,x,h,hx=>by
   have:=rdE_at h.2.2 (i:=i) (by simpa using hx)
   rwa [show o + sz + i * sz=o + (i + 1) * sz by rw [Nat.add_mul];omega] at this
theorem ValX_idxL {o : Oper} {t : TypeId} {x ix : Operand} {m : Int} {k : SV → Prop} {q : List DV} (hT : TabOk C.P C.T) (ho : o.op = .indexAddr t x ix) (hs : slInfo C t = some (e, sz))
 (h0 : 0≤m) (h1 : m < els.length) (hq : els[m.toNat]? = some q) (hk : k (.fa (elA A m.toNat sz) q)) : ValX C o [.fz A c sz els,.v (.int .i64 m)] ob k:=by
 unfold ValX
 intro σ G fp w ρ hm hw hx
 obtain ⟨hu,te,hl,hz,hti,hid⟩:=slInfo_spec hT hs
 obtain ⟨A',c',h2,h3,h5⟩:=hw.1
 cases h2
 obtain ⟨b,oo,cs,ty,fz,rfl,h6,h7⟩:=h5 (by intro he;simp [he] at h1;omega)
 refine ⟨_,hk,?_,⟨b,_,cs,ty,fz,rfl,h6,rdE_at h7 hq⟩⟩
 rw [ho] at hx
 simp [Op.operands,SV.vals,SV.val] at hx
 have hsz:=hti.run_size w
 rw [hid,hz] at hsz
 obtain ⟨dst,op,ty,pos,after,guard⟩:=o
 simp only at ho
 subst ho
 have hc' : (0≤m∧m < (els.length : Int)):=⟨h0,h1⟩
 simp only [execOp,hx,Instr.indexAt,asIntOf,Sem.run_bind,Sem.run_pure,Result.andThen_ok,run_underlying hu]
 simp only [hc',and_self,if_true,Sem.run_bind,hsz,Result.andThen_ok,Sem.run_pure,SV.val,Addr.add_mid,elA]
theorem ValX_idxF {α : Type} [Inhabited α] {enc : α → List Value} {X : List α} {o : Oper} {t : TypeId} {x ix : Operand} {m : Int} {k : SV → Prop} (hT : TabOk C.P C.T) (ho : o.op = .indexAddr t x ix) (hs : slInfo C t = some (e, sz))
 (h0 : 0≤m) (h1 : m < X.length) (hk : force ((enc (gt X m.toNat)).map .v) fun q=>k (.fa (elA A m.toNat sz) q)) : ValX C o [.fz A c sz (fl enc X),.v (.int .i64 m)] ob k:=by
 rw [force_eq] at hk
 exact ValX_idxL hT ho hs h0 (by rw [fl_len];exact h1) (fl_get (by omega)) hk
theorem run_load {P : Program} {te : TI} (hti : TIok P te) {b i off : Nat} {els : List (List DV)} {x : List DV} {l : List SV} (hS : Rds G w (dA b) els.length sz els) (hx : els[i]? = some x) (ho : off + te.zero.length ≤ sz) (h1 : te.zero.length ≠ 0) (hl : outr (cut x off te.zero.length) = some l) :
 (loadVar te.id ⟨qB b,qO b + (i * sz + off),none⟩).run P w = .ok (if te.agg then .agg (SV.vals σ l).toArray else (SV.vals σ l).getD 0 undef) w:=by
 have hil:=(List.getElem?_eq_some_iff.1 hx).1
 obtain ⟨bb,oo,xs,hA,hr,hc⟩:=hS.at_ (by omega)
 have hq:=dA_q hA
 simp at hq
 obtain ⟨hq1,hq2⟩:=hq
 obtain ⟨u,hu,hru⟩:=rdLL_get hr hx
 have hxs:=rdLL_size hr hS.size
 have hul:=hxs u (List.mem_of_getElem? hu)
 have hxl : x.length=sz:=by rw [← rdL_len hru,hul]
 obtain ⟨d,hd,hrow⟩:=hti.under
 rw [cut_eq] at hl
 have hrc:=rdL_cut off te.zero.length hru
 have hlv : SV.vals σ l=(u.drop off).take te.zero.length:=by
  generalize (x.drop off).take te.zero.length=x' at hl hrc
  generalize (u.drop off).take te.zero.length=u' at hrc
  clear hru hu hx hxl
  induction x' generalizing u' l with
  | nil=>cases u' with
    | nil=>simp [outr] at hl;subst hl;rfl
    | cons _ _=>exact hrc.elim
  | cons y r ih=>cases u' with
    | nil=>exact hrc.elim
    | cons v r' =>
      cases y with
      | fz _ _=>simp [outr] at hl
      | v y =>
        unfold outr at hl
        split at hl
        ·rename_i m hm
         simp at hl
         subst hl
         simp only [SV.vals,SV.val]
         rw [hrc.1.2]
         exact congrArg _ (ih hm _ hrc.2)
        ·cases hl
 have hcs : w.rangeAt (qB b) (qO b + (i * sz + off)) (SV.vals σ l):=by
  intro j v hj
  rw [hlv,List.getElem?_take] at hj
  split at hj
  ·rename_i hlt
   rw [List.getElem?_drop] at hj
   have h3 : xs.flatten[i * sz + (off + j)]? = some v:=by
    have h4:=flat_cut i 1 hxs
    have h5 : (xs.drop i).take 1=[u]:=by
     have hlt':=(List.getElem?_eq_some_iff.1 hu).1
     rw [List.drop_eq_getElem_cons hlt']
     simp [(List.getElem?_eq_some_iff.1 hu).2]
    rw [h5] at h4
    simp only [List.flatten_cons,List.flatten_nil,List.append_nil,Nat.one_mul] at h4
    rw [h4,List.getElem?_take,if_pos (by omega),List.getElem?_drop] at hj
    exact hj
   have:=hc _ v h3
   rw [← hq1,← hq2]
   rw [show oo + (i * sz + off) + j=oo + (i * sz + (off + j)) by omega]
   exact this
  ·cases hj
 have hlen : (SV.vals σ l).length=te.zero.length:=by
  rw [hlv,List.length_take,List.length_drop]
  omega
 cases hagg : te.agg with
 | true =>
   rw [hagg] at hrow
   have hl:=run_loadVar_mid (P:=P) w (qB b) (qO b + (i * sz + off)) te.id (SV.vals σ l) d hcs hd hrow (by rw [hti.info,hlen])
   simpa using hl
 | false =>
   have h1':=hti.one hagg
   have hlt : 0 < (SV.vals σ l).length:=by omega
   have hc0:=hcs 0 _ (List.getElem?_eq_getElem hlt)
   have hl:=load_one hti hagg (by simpa using hc0)
   simpa [hlt] using hl
def loadK (te : TI) (q : List DV) (off : Nat) (k : SV → Prop) : Prop :=
 match outr (cut q off te.zero.length) with
 | some l=>match te.agg with
   | true=>force l fun l=>k (.a l)
   | false=>match l with
     | [x]=>k x
     | _=>False
 | none=>False
theorem ValX_loadQ {o : Oper} {t : TypeId} {x : Operand} {j i off : Nat} {ro : Bool} {q : List DV} {k : SV → Prop} {te : TI} (hT : TabOk C.P C.T) (ho : o.op = .load t x) (hj : nth ob j = some (.row ro e sz els)) (ht : lookT C.T t = some te)
 (hq : els[i]? = some q) (hoff : Nat.ble (off + te.zero.length) sz=true) (h1 : Nat.ble 1 te.zero.length=true) (hk : loadK te q off k) : ValX C o [.sq j i off sz] ob k:=by
 unfold ValX
 intro σ G fp w ρ hm _ hx
 obtain ⟨hid,hti⟩:=hT t te ht
 obtain ⟨hS,_,_⟩:=hm.row hj
 have hoff:=Nat.le_of_ble_eq_true hoff
 have h1:=Nat.le_of_ble_eq_true h1
 unfold loadK at hk
 split at hk
 ·rename_i l hl
  have hr:=run_load (σ:=σ) hti hS hq hoff (by omega) hl
  rw [hid] at hr
  rw [ho] at hx
  simp [Op.operands,SV.vals,SV.val] at hx
  obtain ⟨dst,op,ty,pos,after,guard⟩:=o
  simp only at ho
  subst ho
  split at hk
  ·rename_i hagg
   rw [force_eq] at hk
   rw [hagg] at hr
   refine ⟨_,hk,?_,outr_wf hl⟩
   simp only [execOp,hx,Instr.loadAt,Instr.sureAddr,Sem.run_bind,Sem.run_pure,Result.andThen_ok,hr,SV.val,if_true]
  ·rename_i hagg
   rw [hagg] at hr
   split at hk
   ·refine ⟨_,hk,?_,(outr_wf hl).1⟩
    simp only [execOp,hx,Instr.loadAt,Instr.sureAddr,Sem.run_bind,Sem.run_pure,Result.andThen_ok,hr,SV.vals]
    rfl
   ·exact hk.elim
 ·exact hk.elim
theorem ValX_loadF {α : Type} [Inhabited α] {enc : α → List Value} {X : List α} {o : Oper} {t : TypeId} {x : Operand} {j i off : Nat} {ro : Bool} {k : SV → Prop} {te : TI} (hT : TabOk C.P C.T) (ho : o.op = .load t x) (hj : nth ob j = some (.row ro e sz (fl enc X))) (ht : lookT C.T t = some te)
 (hoff : Nat.ble (off + te.zero.length) sz=true) (h1 : Nat.ble 1 te.zero.length=true) (hi : i < X.length) (hk : force ((enc (gt X i)).map DV.v) fun q=>loadK te q off k) : ValX C o [.sq j i off sz] ob k:=by
 rw [force_eq] at hk
 exact ValX_loadQ hT ho hj ht (fl_get hi) hoff h1 hk
def dead : OB := .res fun _ _ _ _ => True
def toD : List SV → Option (List DV)
 | []=>some []
 | .v x :: r=>match toD r with
   | some l=>some (.v x :: l)
   | none=>none
 | .fz _ _ sz els :: r=>match toD r with
   | some l=>some (.fz sz els :: l)
   | none=>none
 | _ :: _=>none
theorem toD_spec {E : Ev} : ∀ {l : List SV} {ds : List DV}, toD l = some ds → ones l = true → SV.wfs E l → rdL E.G ds (SV.vals σ l)
 | [],ds,h,_,_=>by simp [toD] at h;subst h;trivial
 | x :: r,ds,h,ho,hw=>by
   have hr : ones r=true:=by
    unfold ones at ho
    split at ho<;>first|exact ho|cases ho
   have h1:=ones_spec σ ho (x.val σ) (by simp [SV.vals])
   unfold toD at h
   split at h
   ·rename_i heq
    cases heq
   ·rename_i y r' heq
    cases heq
    split at h
    ·rename_i l hl
     simp at h
     subst h
     exact ⟨⟨h1,rfl⟩,toD_spec hl hr hw.2⟩
    ·cases h
   ·rename_i A c sz els r' heq
    cases heq
    split at h
    ·rename_i l hl
     simp at h
     subst h
     exact ⟨⟨h1,hw.1⟩,toD_spec hl hr hw.2⟩
    ·cases h
   ·cases h
theorem flat_splice {α : Type} {sz off : Nat} {vs x : List α} (ho : off + vs.length ≤ sz) : ∀ {els : List (List α)} {i : Nat}, (∀ e ∈ els, e.length = sz) → els[i]? = some x →
 (els.set i (x.take off ++ vs ++ x.drop (off + vs.length))).flatten=els.flatten.take (i * sz + off) ++ vs ++ els.flatten.drop (i * sz + off + vs.length)
 | [],i,_,h=>by simp at h
 | y :: r,0,hs,h=>by
   simp at h
   subst h
   have hy:=hs y (by simp)
   simp only [List.set_cons_zero,List.flatten_cons,Nat.zero_mul,Nat.zero_add]
   rw [List.take_append_of_le_length (by omega),List.drop_append_of_le_length (by omega)]
   simp
 | y :: r,i + 1,hs,h=>by
   have hy:=hs y (by simp)
   have ih:=flat_splice ho (els:=r) (i:=i) (fun e he=>hs e (by simp [he])) (by simpa using h)
   have e1 : (i + 1) * sz + off=y.length + (i * sz + off):=by rw [Nat.add_mul,Nat.one_mul,hy];omega
   have e2 : (i + 1) * sz + off + vs.length=y.length + (i * sz + off + vs.length):=by omega
   simp only [List.set_cons_succ,List.flatten_cons,ih,e2]
   rw [e1,List.take_length_add_append,List.drop_length_add_append]
   simp [List.append_assoc]
theorem splice_take (L vs : List Value) (a N : Nat) (h1 : a + vs.length ≤ N) (h2 : N ≤ L.length) : (L.take a ++ vs ++ L.drop (a + vs.length)).take N = (L.take N).take a ++ vs ++ (L.take N).drop (a + vs.length) := by
 have hl : (L.take a ++ vs).length=a + vs.length:=by simp;omega
 rw [List.take_append,hl,List.take_of_length_le (by rw [hl];omega),List.take_take,Nat.min_eq_left (by omega),List.drop_take]
theorem splice_drop (L vs : List Value) (o a : Nat) (h : o + a + vs.length ≤ L.length) : (L.take (o + a) ++ vs ++ L.drop (o + a + vs.length)).drop o = (L.drop o).take a ++ vs ++ (L.drop o).drop (a + vs.length) := by
 have e1 : o + a - o=a:=by omega
 have e2 : o + a + vs.length=o + (a + vs.length):=by omega
 rw [List.append_assoc,List.drop_append_of_le_length (by simp;omega),List.drop_take,e1,e2,List.append_assoc]
 simp only [List.drop_drop]
theorem setRow_same (g : Nat) (cur : Array Value) {F : Nat → Prop} (hF : F g) : w.heap.size ≤ (w.setRow g cur).heap.size ∧ ∀ q, q < w.heap.size → ¬ F q → (w.setRow g cur).heap[q]? = w.heap[q]? := by
 refine ⟨by simp [World.setRow],fun q hq hnq=>?_⟩
 have : q ≠ g:=fun e'=>hnq (e' ▸ hF)
 simp [World.setRow,Array.getElem?_modify,this.symm]
theorem run_storeCells_atB (P : Program) (g o : Nat) (t : TypeId) (fz : Nat × Nat) : ∀ (vs : List Value) (i : Nat) (cur : Array Value) (w : World), w.heap[g]? = some (.cells cur t fz) → (o + i + vs.length ≤ fz.1 ∨ fz.2 ≤ o + i) → o + i + vs.length ≤ cur.size → (∀ v ∈ vs, v.oneCell' = true) →
 (storeCells ⟨g,o,none⟩ vs i).run P w = .ok () (w.setRow g (cur.toList.take (o + i) ++ vs ++ cur.toList.drop (o + i + vs.length)).toArray)
 | [],i,cur,w,hg,_,_,_=>by
   simp only [storeCells,List.append_nil,List.length_nil,Nat.add_zero,List.take_append_drop,Array.toArray_toList]
   rw [setRow_self w g cur t fz hg]
   rfl
 | v :: rest,i,cur,w,hg,hfz,hl,h1=>by
   have hi : o + i < cur.size:=by simp at hl;omega
   have hadd : (⟨g,o,none⟩ : Addr).add i = ⟨g,o + i,none⟩:=by unfold Addr.add;split<;>simp_all
   have hcell : w.cell? ⟨g,o + i,none⟩ = some cur[o + i]:=by simp [World.cell?,hg,hi]
   have hfro : w.frozen? ⟨g,o + i,none⟩ = false:=by
    obtain ⟨lo,hi'⟩:=fz
    simp only [World.frozen?,hg,Bool.and_eq_false_iff,decide_eq_false_iff_not]
    simp only [List.length_cons] at hfz
    omega
   have hst : (store ((⟨g,o,none⟩ : Addr).add i) v).run P w = .ok () (w.setRow g (cur.setIfInBounds (o + i) v)):=by
    rw [hadd,run_store P w _ v _ (h1 v (by simp)),hcell]
    simp [hfro,setCell_eq_setRow w g (o + i) cur t fz v hg]
   have ih:=run_storeCells_atB P g o t fz rest (i + 1) (cur.setIfInBounds (o + i) v) (w.setRow g (cur.setIfInBounds (o + i) v)) (setRow_heap w g cur _ t _ hg) (by simp only [List.length_cons] at hfz;omega) (by simp at hl ⊢;omega) (fun x hx=>h1 x (by simp [hx]))
   simp only [storeCells,Sem.run_bind,hst,Result.andThen_ok,ih,setRow_setRow]
   congr 3
   have e:=list_seg_step cur.toList (o + i) v rest (by simp at hl ⊢;omega)
   simpa [Array.toList_setIfInBounds,Nat.add_assoc] using e
theorem RowAt.store {P : Program} {F : Nat → Prop} {b i off : Nat} {q ds : List DV} {vs : List Value} (h : RowAt G w e sz (dA b) c els F) (hq : els[i]? = some q) (ho : off + vs.length ≤ sz) (hd : rdL G ds vs) :
 ∃ g cur',F g∧(storeCells ⟨qB b,qO b + (i * sz + off),none⟩ vs).run P w = .ok () (w.setRow g cur')∧RowAt G (w.setRow g cur') e sz (dA b) c (els.set i (q.take off ++ ds ++ q.drop (off + ds.length))) F:=by
 have hil:=(List.getElem?_eq_some_iff.1 hq).1
 have hcap:=h.cap
 rcases h.at_ with ⟨h0,_⟩|⟨g,o,cur,xs,hA,⟨fz,hg,hfz⟩,hle,hr,hfl,hF⟩
 ·omega
 have hqq:=dA_q hA
 simp at hqq
 obtain ⟨hq1,hq2⟩:=hqq
 obtain ⟨u,hu,hru⟩:=rdLL_get hr hq
 have hxs:=rdLL_size hr h.size
 have hul:=hxs u (List.mem_of_getElem? hu)
 have hdl:=rdL_len hd
 have hxl:=rdLL_len hr
 have hfl2:=flat_len hxs
 have hle1 : i * sz + off + vs.length≤els.length * sz:=by
  have : (i + 1) * sz≤els.length * sz:=Nat.mul_le_mul_right _ (by omega)
  rw [Nat.add_mul,Nat.one_mul] at this
  omega
 have hle2 : els.length * sz≤c * sz:=Nat.mul_le_mul_right _ hcap.1
 have hst:=run_storeCells_atB P g (o + (i * sz + off)) e fz vs 0 cur w hg (hfz.use (by omega)) (by omega) (rdL_one hd)
 simp only [Nat.add_zero] at hst
 have hrow:=setRow_heap w g cur (cur.toList.take (o + (i * sz + off)) ++ vs ++ cur.toList.drop (o + (i * sz + off) + vs.length)).toArray e fz hg
 refine ⟨g,_,(hF g).2 rfl,by rw [← hq1,← hq2];exact hst,⟨by simpa using hcap,fun x hx=>?_,h.spot,.inr ⟨g,o,_,xs.set i (u.take off ++ vs ++ u.drop (off + vs.length)),hA,⟨fz,hrow,hfz.le (by simp only [List.size_toArray,List.length_append,List.length_take,List.length_drop,Array.length_toList];omega)⟩,?_,?_,?_,hF⟩⟩⟩
 ·rcases List.mem_or_eq_of_mem_set hx with hx|hx
  ·exact h.size x hx
  ·have:=h.size q (List.mem_of_getElem? hq)
   rw [hx]
   simp
   omega
 ·simp only [List.size_toArray,List.length_append,List.length_take,List.length_drop,Array.length_toList]
  omega
 ·refine rdLL_set i hr (rdL_app (rdL_app ?_ hd) ?_)
  ·have:=rdL_cut 0 off hru
   simpa using this
  ·have:=rdL_cut (off + vs.length) q.length hru
   rw [List.take_of_length_le (by simp),List.take_of_length_le (by rw [List.length_drop];have:=rdL_len hru;omega)] at this
   rwa [← hdl]
 ·rw [flat_splice ho hxs hu,← hfl]
  have hdr:=splice_drop cur.toList vs o (i * sz + off) (by have:=cur.length_toList;omega)
  simp only [List.length_set]
  rw [hdr]
  exact splice_take _ vs (i * sz + off) (els.length * sz) hle1 (by have:=cur.length_toList;rw [List.length_drop];omega)
theorem run_storeVar {P : Program} {te : TI} (hti : TIok P te) {v : Value} {vs : List Value} (hv : v.cells = vs.toArray) (hl : vs.length = te.zero.length) (a : Addr) {w' : World} (h : (storeCells a vs).run P w = .ok () w') : (storeVar te.id a v).run P w = .ok () w' := by
 have hsz:=hti.run_size w
 simp only [storeVar,Sem.run_bind,hsz,Result.andThen_ok,hv,List.size_toArray,hl,ne_eq,not_true,if_false,h]
def spliceD (q : List DV) (off : Nat) (ds : List DV) : List DV := q.take off ++ ds ++ q.drop (off + ds.length)
theorem OpX_storeQ {o : Oper} {t : TypeId} {x y : Operand} {j i off : Nat} {q ds : List DV} {r : SV} {k : SV → List OB → Prop} {te : TI} (hT : TabOk C.P C.T) (ho : o.op = .store t x y) (hj : nth ob j = some (.row false e sz els)) (ht : lookT C.T t = some te)
 (hv : toD r.cells=some ds) (hchk : (Nat.beq r.cells.length te.zero.length && Nat.ble (off + te.zero.length) sz && ones r.cells)=true) (hq : els[i]? = some q)
 (hk : force (setN ob j (.row false e sz (els.set i (spliceD q off ds)))) fun ob=>k (.v undef) ob) : OpX C o [.sq j i off sz,r] ob k:=by
 unfold OpX
 intro σ G fp w ρ hm hw hx
 obtain ⟨hid,hti⟩:=hT t te ht
 simp only [Bool.and_eq_true] at hchk
 have hl:=Nat.eq_of_beq_eq_true hchk.1.1
 have hoff:=Nat.le_of_ble_eq_true hchk.1.2
 have hj':=hj
 rw [nth_eq] at hj'
 have hat : RowAt G w e sz (dA (σ j)) (dC (σ j)) els (fp j):=hm.at_ j _ hj'
 have hjl:=(List.getElem?_eq_some_iff.1 hj').1
 have hrd:=toD_spec (σ:=σ) hv hchk.2 (cells_wf hw.2.1)
 have hvl:=vals_length σ r.cells
 obtain ⟨g,cur',hg,hst,hrow⟩:=hat.store (P:=C.P) (i:=i) (off:=off) hq (by omega) hrd
 have hsv:=run_storeVar hti (cells_val σ r) (by omega) _ hst
 rw [hid] at hsv
 rw [ho] at hx
 simp [Op.operands,SV.vals,SV.val] at hx
 obtain ⟨dst,op,ty,pos,after,guard⟩:=o
 simp only at ho
 subst ho
 have hex : (execOp ρ ⟨dst,.store t x y,ty,pos,after,guard⟩).run C.P w = .ok .skip (w.setRow g cur'):=by
  simp only [execOp,Instr.storeAt,hx.1,hx.2,Instr.sureAddr,Sem.run_bind,Sem.run_pure,Result.andThen_ok,hsv]
 rw [hex]
 obtain ⟨hsz2,hsame⟩:=setRow_same (w:=w) g cur' (F:=fp j) hg
 have hM:=hm.change (w':=w.setRow g cur') hjl (.row false e sz (els.set i (spliceD q off ds))) (fp j) hrow (fun i hi=>.inl hi) (by
  intro u hu
  have:=hm.hi j hjl u hu
  simpa [World.setRow] using this) rfl rfl rfl hsz2 hsame (fun _=>Nat.le_refl _)
 rw [force_eq,setN_eq] at hk
 exact ⟨.v undef,_,σ,G,_,hk,fun _ _=>rfl,Fz.refl _,by simp,rfl,trivial,hM,Frm.changed hjl (by simp) (fun i hi=>.inl hi) hsz2 hsame⟩
class Dec {α : Type} (enc : α → List Value) (r : SV) (a : outParam α) : Prop where
 out : r.cells=(enc a).map .v
theorem fl_set {α : Type} {enc : α → List Value} {X : List α} {i : Nat} {a : α} : (fl enc X).set i ((enc a).map .v) = fl enc (X.set i a) := by simp [fl, List.map_set]
theorem toD_v : ∀ l : List Value, toD (l.map .v) = some (l.map .v)
 | []=>rfl
 | x :: r=>by simp [toD,toD_v r]
theorem OpX_storeF {α : Type} [Inhabited α] {enc : α → List Value} {X : List α} {a : α} {o : Oper} {t : TypeId} {x y : Operand} {j i : Nat} {r : SV} {k : SV → List OB → Prop} {te : TI} (hT : TabOk C.P C.T) (ho : o.op = .store t x y) (hj : nth ob j = some (.row false e sz (fl enc X))) (ht : lookT C.T t = some te)
 [hv : Dec enc r a] (hchk : (Nat.beq r.cells.length te.zero.length && Nat.beq te.zero.length sz && ones r.cells)=true) (hl : (enc (gt X i)).length=(enc a).length) (hq : i < X.length)
 (hk : force (setN ob j (.row false e sz (fl enc (X.set i a)))) fun ob=>k (.v undef) ob) : OpX C o [.sq j i 0 sz,r] ob k:=by
 have h1:=hv.out
 simp only [Bool.and_eq_true] at hchk
 have h2:=Nat.eq_of_beq_eq_true hchk.1.1
 have h3:=Nat.eq_of_beq_eq_true hchk.1.2
 refine OpX_storeQ hT ho hj ht (ds:=(enc a).map .v) (by rw [h1,toD_v]) (by simp [h2,h3,hchk.2]) (fl_get hq) ?_
 have h4 : spliceD ((enc (gt X i)).map DV.v) 0 ((enc a).map .v)=(enc a).map .v:=by
  simp [spliceD,hl]
 rw [h4,fl_set]
 exact hk
theorem Mem.hand (h : Mem C σ G fp ob w) {j : Nat} (hj : ob[j]? = some dead) (o : OB) (b : Nat) (F : Nat → Prop) (hF : ∀ i, F i → fp j i) (ho : o.at (fun k => if k = ob.length then b else σ k) ⟨G, ob.length + 1⟩ w b F) :
 Mem C (fun k=>if k=ob.length then b else σ k) G (fun k=>if k=ob.length then F else if k=j then fun _=>False else fp k) (ob ++ [o]) w:=by
 have hσ : ∀ j,j < ob.length→(fun k=>if k=ob.length then b else σ k) j=σ j:=fun j hj=>by simp [show j ≠ ob.length by omega]
 have hjl:=(List.getElem?_eq_some_iff.1 hj).1
 refine ⟨?_,?_,?_,?_,h.kept,?_,h.src,⟨by have:=h.pin.1;simp;omega,fun j hj=>(hσ j (Nat.lt_of_lt_of_le hj h.pin.1)).trans (h.pin.2 j hj)⟩,h.drw⟩
 ·intro k o' hk
  by_cases hlt : k < ob.length
  ·rw [List.getElem?_append_left hlt] at hk
   by_cases e : k=j
   ·subst e
    rw [hj] at hk
    cases hk
    exact ⟨trivial,fun _ _ _ _=>trivial⟩
   ·simp only [show k ≠ ob.length by omega,e,if_false]
    exact OB.at_ext (h.at_ k o' hk) hσ (Ev.same (by simp)) fun i hi=>rfl
  ·have hlen:=(List.getElem?_eq_some_iff.1 hk).1
   simp at hlen
   obtain rfl : k=ob.length:=by omega
   simp at hk
   subst hk
   simp only [if_true]
   simpa using ho
 ·intro p k hp hk hne i hi hi'
  simp at hp hk
  by_cases e1 : p=ob.length<;>by_cases e2 : k=ob.length
  ·omega
  ·simp only [e1,e2,if_true,if_false] at hi hi'
   split at hi'
   ·exact hi'
   ·rename_i e3
    exact h.disj j k hjl (by omega) (fun e=>e3 e.symm) i (hF i hi) hi'
  ·simp only [e1,e2,if_true,if_false] at hi hi'
   split at hi
   ·exact hi
   ·rename_i e3
    exact h.disj j p hjl (by omega) (fun e=>e3 e.symm) i (hF i hi') hi
  ·simp only [e1,e2,if_false] at hi hi'
   split at hi
   ·exact hi
   ·split at hi'
    ·exact hi'
    ·exact h.disj p k (by omega) (by omega) hne i hi hi'
 ·intro k hk i hi
  simp at hk
  by_cases e : k=ob.length
  ·simp only [e,if_true] at hi
   exact h.lo j hjl i (hF i hi)
  ·simp only [e,if_false] at hi
   split at hi
   ·exact hi.elim
   ·exact h.lo k (by omega) i hi
 ·intro k hk i hi
  simp at hk
  by_cases e : k=ob.length
  ·simp only [e,if_true] at hi
   exact h.hi j hjl i (hF i hi)
  ·simp only [e,if_false] at hi
   split at hi
   ·exact hi.elim
   ·exact h.hi k (by omega) i hi
 ·intro i o' hi
  obtain ⟨h1,h2⟩:=h.fz i o' hi
  refine ⟨h1,fun k hk hf=>?_⟩
  simp at hk
  by_cases e : k=ob.length
  ·simp only [e,if_true] at hf
   exact h2 j hjl (hF i hf)
  ·simp only [e,if_false] at hf
   split at hf
   ·exact hf
   ·exact h2 k (by omega) hf
theorem val_new {σ : Nat → Nat} {j : Nat} (hs : ∀ a, A = some a → a.spot = none) (hb : σ j = rowN A c) : (SV.sl j 0 0 n sz).val σ = .slice A n c := by
 simp only [SV.val,hb,dA_rowN c hs,dC_rowN,cutP]
 congr 1
 ·cases A with
  | none=>rfl
  | some a =>
    have:=hs a rfl
    obtain ⟨b,o,s⟩:=a
    simp only at this
    subst this
    simp
theorem val_whole {j : Nat} : (SV.sl j 0 0 n sz).val σ = .slice (dA (σ j)) n (dC (σ j)) := by
 simp only [SV.val,cutP,Bool.cond_self,Nat.zero_mul,Nat.add_zero,Nat.sub_zero]
 congr 1
 cases hA : dA (σ j) with
 | none=>rfl
 | some a =>
   have:=dA_spot _ a hA
   obtain ⟨b',o',s'⟩:=a
   simp only at this
   subst this
   rfl
theorem Goes.pushN {k : SV → List OB → Prop} {w' : World} {F : Nat → Prop} (hm : Mem C σ G fp ob w) (hb : Below w.heap.size w w') (ho : RowAt G w' e sz A c els F) (hn : els.length = n) (hF : ∀ i, F i → w.heap.size ≤ i ∧ i < w'.heap.size)
 (hk : k (.sl ob.length 0 0 n sz) (ob ++ [.row false e sz els])) (hdr : C.d=true→w.drawn≤w'.drawn) : Goes C ob.length σ G fp w k (.slice A n c) w':=by
 have hz : ∀ i o,G i=some o→w'.heap[i]? = some o∧¬ F i∧(G i=some o∨w.heap.size≤i):=by
  intro i o hi
  have hlt:=hm.fz_lt hi
  exact ⟨by rw [hb.block i hlt];exact (hm.fz i o hi).1,fun h=>by have:=(hF i h).1;omega,.inl hi⟩
 refine ⟨_,_,_,_,_,hk,fun j hj=>by simp [show j ≠ ob.length by omega],Fz.refl _,by simp,(val_new ho.spot (by simp)).symm,by simp [SV.wf],hm.pushO hb (.row false e sz els) (rowN A c) F (Fz.refl _) hz ?_ hF hdr,Frm.pushed hb (by simp) (fun i hi=>(hF i hi).1) fun _ _ h _=>h⟩
 show RowAt G w' e sz (dA (rowN A c)) (dC (rowN A c)) els F
 rw [dA_rowN c ho.spot,dC_rowN]
 exact ho
theorem Goes.handN {k : SV → List OB → Prop} {w' : World} {F : Nat → Prop} {j : Nat} (hm : Mem C σ G fp ob w) (hj : j < ob.length) (ho : RowAt G w' e sz A c els F) (hn : els.length = n) (hF : ∀ i, F i → (fp j i ∨ w.heap.size ≤ i) ∧ i < w'.heap.size) (hos : w'.os = w.os) (htape : w'.tape = w.tape) (hout : w'.output = w.output) (hsz : w.heap.size ≤ w'.heap.size)
 (hsame : ∀ i,i < w.heap.size→¬ fp j i→w'.heap[i]? = w.heap[i]?) (hk : k (.sl ob.length 0 0 n sz) (setN ob j dead ++ [.row false e sz els])) (hdr : C.d=true→w.drawn≤w'.drawn) : Goes C ob.length σ G fp w k (.slice A n c) w':=by
 have hM:=hm.change (w':=w') hj dead F ⟨trivial,fun _ _ _ _=>trivial⟩ (fun i hi=>(hF i hi).1) (fun i hi=>(hF i hi).2) hos htape hout hsz hsame hdr
 have hH:=hM.hand (j:=j) (by simp [hj]) (.row false e sz els) (rowN A c) F (fun i hi=>by simpa using hi) (by
  simp only [List.length_set]
  show RowAt G w' e sz (dA (rowN A c)) (dC (rowN A c)) els F
  rw [dA_rowN c ho.spot,dC_rowN]
  exact ho)
 simp only [List.length_set] at hH
 rw [setN_eq] at hk
 refine ⟨_,_,_,_,_,hk,fun j hj=>by simp [show j ≠ ob.length by omega],Fz.refl _,by simp,(val_new ho.spot (by simp)).symm,by simp [SV.wf],hH,⟨fun i _ hi hno=>hsame i hi (hno j hj),fun q hq i hi _ hlt=>?_,fun i o h _=>.inl h,hsz⟩⟩
 split at hi
 ·rcases (hF i hi).1 with h|h
  ·exact ⟨j,hj,h⟩
  ·omega
 ·split at hi
  ·exact hi.elim
  ·simp only [List.length_append,List.length_set,List.length_cons,List.length_nil] at hq
   exact ⟨q,by omega,hi⟩
theorem RowAt.part {F : Nat → Prop} {p i b : Nat} (h : RowAt G w e sz (dA b) (dC b) els F) (hi : i + n ≤ els.length) : ∃ F', RowAt G w e sz (cutP (dA b) (dC b) p i sz) (dC b - i) ((els.drop i).take n) F' ∧ ∀ q, F' q → F q := by
 have hcap:=h.cap
 have hsz : ∀ x∈(els.drop i).take n,x.length=sz:=fun x hx=>h.size x (List.mem_of_mem_drop (List.mem_of_mem_take hx))
 have hsp : ∀ a,cutP (dA b) (dC b) p i sz=some a→a.spot=none:=by
  intro a ha
  unfold cutP at ha
  cases hA : dA b with
  | none=>simp [hA] at ha
  | some a'=>simp [hA] at ha;subst ha;rfl
 by_cases hz : dC b - i=0
 ·exact ⟨fun _=>False,⟨⟨by simp;omega,by omega⟩,hsz,hsp,.inl ⟨hz,fun _ h=>h⟩⟩,fun _ h=>h.elim⟩
 ·rcases h.at_ with ⟨h0,_⟩|⟨g,o,cs,xs,hA,hg,hle,hr,hfl,hF⟩
  ·omega
  have hb : Nat.beq (dC b) i=false:=by
   cases hq : Nat.beq (dC b) i with
   | false=>rfl
   | true=>have:=Nat.eq_of_beq_eq_true hq;omega
  refine ⟨F,⟨⟨by simp;omega,by omega⟩,hsz,hsp,.inr ⟨g,o + i * sz,cs,(xs.drop i).take n,by simp only [cutP,hA,hb,cond_false,Option.map_some],hg,?_,rdLL_cut i n hr,?_,hF⟩⟩,fun _ h=>h⟩
  ·have : i * sz + (dC b - i) * sz=dC b * sz:=by rw [← Nat.add_mul];congr 1;omega
   omega
  ·rw [flat_cut i n (rdLL_size hr h.size),← hfl]
   have hn : ((els.drop i).take n).length=n:=by simp;omega
   rw [hn,List.drop_take,List.take_take,List.drop_drop]
   congr 1
   have : (i + n) * sz≤els.length * sz:=Nat.mul_le_mul_right _ hi
   rw [Nat.add_mul] at this
   omega
theorem Goes.less {k : SV → List OB → Prop} {v : Value} {w' : World} {σ' : Nat → Nat} {fp' : Nat → Nat → Prop} {m : Nat} (h : Goes C m σ' G fp' w k v w') (hn : n ≤ m) (hσ : ∀ j, j < n → σ' j = σ j) (hf : ∀ j, j < m → ∀ i, fp' j i → ∃ j', j' < n ∧ fp j' i) : Goes C n σ G fp w k v w' := by
 obtain ⟨x,ob,σ2,G2,fp2,h1,h2,h3,h4,h5,h6,h7,h8⟩:=h
 refine ⟨x,ob,σ2,G2,fp2,h1,fun j hj=>(h2 j (by omega)).trans (hσ j hj),h3,by omega,h5,h6,h7,fun i h9 h10 h11=>h8.old i h9 h10 fun j hj hi=>?_,fun j hj i hi h9 h10=>?_,fun i o h9 h10=>?_,h8.size⟩
 ·obtain ⟨j',h12,h13⟩:=hf j hj i hi
  exact h11 j' h12 h13
 ·obtain ⟨j',h11,h12⟩:=h8.new j hj i hi h9 h10
  exact hf j' h11 i h12
 ·rcases h8.fz i o h9 h10 with h11|⟨j,h11,h12⟩
  ·exact .inl h11
  ·exact .inr (hf j h11 i h12)
theorem OpX.less {o : Oper} {xs xs' : List SV} {ob' : List OB} {k : SV → List OB → Prop} (hl : ob.length ≤ ob'.length) (hm : ∀ σ G fp w, Mem C σ G fp ob w → SV.wfs ⟨G, ob.length⟩ xs → ∃ σ' fp', Mem C σ' G fp' ob' w ∧ SV.wfs ⟨G, ob'.length⟩ xs' ∧ SV.vals σ' xs' = SV.vals σ xs ∧ (∀ j, j < ob.length → σ' j = σ j) ∧ ∀ j, j < ob'.length → ∀ i, fp' j i → ∃ j', j' < ob.length ∧ fp j' i)
 (h : OpX C o xs' ob' k) : OpX C o xs ob k:=by
 unfold OpX at *
 intro σ G fp w ρ hM hw hx
 obtain ⟨σ',fp',h1,h2,h3,h4,h5⟩:=hm σ G fp w hM hw
 have h6:=h σ' G fp' w ρ h1 h2 (by rw [hx,h3])
 generalize (execOp ρ o).run C.P w=r at h6 ⊢
 cases r with
 | halt _ _=>exact h6
 | ok q w' =>
   cases q with
   | value v=>exact h6.less hl h4 h5
   | skip=>exact h6.less hl h4 h5
   | enter f args=>exact h6.mono fun e w'' ⟨v,he,hg⟩=>⟨v,he,hg.less hl h4 h5⟩
   | _=>exact h6
theorem OpX_nil {o : Oper} {xs : List SV} {k : SV → List OB → Prop} (e sz : Nat)
 (hk : force (ob ++ [.row false e sz []]) fun ob'=>lenK lits ob (fun m=>OpX C o (.sl m 0 0 0 sz :: xs) ob' k) False) : OpX C o (.v (.slice none 0 0) :: xs) ob k:=by
 rw [force_eq] at hk
 have hk:=lenK_spec hk
 refine OpX.less (by simp) (fun σ G fp w hm hw=>?_) hk
 have hrow : RowAt G w e sz none 0 [] (fun _=>False):=⟨⟨Nat.le_refl _,Nat.zero_le _⟩,by simp,by simp,.inl ⟨rfl,fun _ h=>h⟩⟩
 have hM:=hm.pushO (Below.refl _ _) (.row false e sz []) (rowN none 0) (fun _=>False) (Fz.refl _) (fun i o hi=>⟨(hm.fz i o hi).1,fun h=>h,.inl hi⟩) (by
  show RowAt G w e sz (dA (rowN none 0)) (dC (rowN none 0)) [] _
  rw [dA_rowN 0 (by simp),dC_rowN]
  exact hrow) (fun i h=>h.elim) (fun _=>Nat.le_refl _)
 have hσ : ∀ q,q < ob.length→(fun k=>if k=ob.length then rowN none 0 else σ k) q=σ q:=fun q hq=>by simp [show q ≠ ob.length by omega]
 refine ⟨_,_,hM,⟨by simp [SV.wf],SV.wfs_mono (Ev.same (by simp)) _ hw.2⟩,?_,hσ,fun q hq b hb=>?_⟩
 ·simp only [SV.vals]
  rw [SV.vals_ext (E:=⟨G,ob.length⟩) hσ xs hw.2,val_new (A:=none) (c:=0) (by simp) (by simp)]
  rfl
 ·skip
  split at hb
  ·exact hb.elim
  ·simp only [List.length_append,List.length_cons,List.length_nil] at hq
   exact ⟨q,by omega,hb⟩
theorem RowAt.of_owns {base : Nat} {v : Value} {w' : World} {xs : List (List Value)} (h : w'.ownsRow base e sz v n xs.flatten) (hr : rdLL G els xs) (hs : ∀ x ∈ els, x.length = sz) (hn : els.length = n) : ∃ A c F, v = .slice A n c ∧ RowAt G w' e sz A c els F ∧ ∀ i, F i → base ≤ i ∧ i < w'.heap.size := by
 subst hn
 rcases h.2 with ⟨rfl,h0⟩|⟨g,cap,cur,rfl,h1,h2,h3,h4,h5,h6⟩
 ·exact ⟨none,0,fun _=>False,by rw [h0],⟨⟨by omega,Nat.zero_le _⟩,hs,by simp,.inl ⟨rfl,fun _ h=>h⟩⟩,fun _ h=>h.elim⟩
 ·refine ⟨some ⟨g,0,none⟩,cap,fun i=>i=g,rfl,⟨⟨h3,h4⟩,hs,fun a h=>by cases h;rfl,.inr ⟨g,0,cur,xs,rfl,⟨_,h2,.inl rfl⟩,by omega,hr,by simpa using h6,fun _=>Iff.rfl⟩⟩,fun i hi=>?_⟩
  subst hi
  exact ⟨h1,(Array.getElem?_eq_some_iff.1 h2).1⟩
theorem append_run {P : Program} {t ty : TypeId} {te : TI} {F : Nat → Prop} (hu : P.underlying t = some (.slice e)) (hti : TIok P te) (hid : te.id = e) (hz : te.zero.length = sz) (hsz : 0 < sz) (h : RowAt G w e sz A c els F) {A2 : Option Addr} {m c2 : Nat} {els2 : List (List DV)} (hS : Rds G w A2 m sz els2)
 (hn : (els.length + m) * te.byt≤140737488355328) (hn' : els.length + m≤1000000000000) :
 ∃ A' c' F' w',(Builtin.append_ #[t,t] ty #[.slice A els.length c,.slice A2 m c2]).run P w = .ok (.slice A' (els.length + m) c') w'∧RowAt G w' e sz A' c' (els ++ els2) F'∧(∀ i,F' i→(F i∨w.heap.size≤i)∧i < w'.heap.size)∧w'.os=w.os∧w'.tape=w.tape∧w'.output=w.output∧w.heap.size≤w'.heap.size∧(∀ i,i < w.heap.size→¬ F i→w'.heap[i]? = w.heap[i]?):=by
 obtain ⟨i,z,hi,hz',hzc,his,hib⟩:=hti.inf
 rw [hid] at hi
 have hlen2:=hS.len
 have hcap:=h.cap
 have hF : ∀ q,F q→q < w.heap.size:=by
  intro q hq
  rcases h.at_ with ⟨_,h1⟩|⟨g,o,cs,xs,_,⟨_,h1,_⟩,_,_,_,h2⟩
  ·exact (h1 q hq).elim
  ·rw [(h2 q).1 hq]
   exact (Array.getElem?_eq_some_iff.1 h1).1
 by_cases hm1 : m=0
 ·subst hm1
  have he2 : els2=[]:=List.eq_nil_of_length_eq_zero hlen2
  subst he2
  have hrun : (Builtin.append_ #[t,t] ty #[.slice A els.length c,.slice A2 0 c2]).run P w = .ok (.slice A els.length c) w:=by
   have hfc : (Builtin.firstCells i.size 0 (.slice A2 0 c2)).run P w = .ok #[] w:=by
    cases A2 with
    | none=>simp [Builtin.firstCells]
    | some ad=>simpa using run_firstCells_some (P:=P) w i.size 0 ad 0 c2 [] (by simp) (by simp)
   cases A with
   | none=>simp [Builtin.append_,run_underlying hu,sizeOf,typeInfo,hi,Builtin.lenOf,hcap.1,hfc]
   | some a=>simp [Builtin.append_,run_underlying hu,sizeOf,typeInfo,hi,Builtin.lenOf,hcap.1,hfc,storeCells]
  refine ⟨A,c,F,w,by simpa using hrun,by simpa using h,fun i hi=>⟨.inl hi,hF i hi⟩,rfl,rfl,rfl,Nat.le_refl _,fun _ _ _=>rfl⟩
 ·obtain ⟨b,oo,xs2,rfl,hr2,hc2⟩:=hS.at_ hm1
  have hx2:=rdLL_size hr2 hS.size
  have hl2 : xs2.flatten.length=m * sz:=by rw [flat_len hx2,rdLL_len hr2,hlen2]
  have hcells : ∀ j u,xs2.flatten[j]? = some u→w.cell? ((⟨b,oo,none⟩ : Addr).add j)=some u:=fun j u hj=>by rw [Addr.add_mid];exact hc2 j u hj
  have hone:=rdLL_one hr2
  have hsize : ∀ x∈els ++ els2,x.length=sz:=fun x hx=>(List.mem_append.1 hx).elim (h.size x) (hS.size x)
  have hmax : els.length + m≤maxLen:=by simp [maxLen];omega
  have grow : ∀ {base : Nat} {v : Value} {w' : World} {xs : List (List Value)},w.heap.size≤base→(Builtin.append_ #[t,t] ty #[.slice A els.length c,.slice (some ⟨b,oo,none⟩) m c2]).run P w = .ok v w'→w'.ownsRow base e sz v (els.length + m) (xs.flatten ++ xs2.flatten)→rdLL G els xs→w.grownBy w' none →
   ∃ A' c' F' w',(Builtin.append_ #[t,t] ty #[.slice A els.length c,.slice (some ⟨b,oo,none⟩) m c2]).run P w = .ok (.slice A' (els.length + m) c') w'∧RowAt G w' e sz A' c' (els ++ els2) F'∧(∀ i,F' i→(F i∨w.heap.size≤i)∧i < w'.heap.size)∧w'.os=w.os∧w'.tape=w.tape∧w'.output=w.output∧w.heap.size≤w'.heap.size∧(∀ i,i < w.heap.size→¬ F i→w'.heap[i]? = w.heap[i]?):=by
   intro base v w' xs hb hr ho hx hg
   obtain ⟨A',c',F',rfl,h1,h2⟩:=RowAt.of_owns (n:=els.length + m) (xs:=xs ++ xs2) (by simpa using ho) (rdLL_app hx hr2) hsize (by simp [hlen2])
   exact ⟨A',c',F',w',hr,h1,fun i hi=>⟨.inr (Nat.le_trans hb (h2 i hi).1),(h2 i hi).2⟩,hg.os,hg.tape,hg.output,hg.size,fun k hk _=>hg.block k hk (by simp)⟩
  rcases h.at_ with ⟨h0,_⟩|⟨g,o,cs,xs,hA,⟨fz,hg,hfz⟩,hle,hr,hfl,hFg⟩
  ·have he : els=[]:=List.eq_nil_of_length_eq_zero (by omega)
   subst he
   cases A with
   | none =>
     obtain ⟨v',w',h1,h2,h3,_⟩:=run_append_own w w.heap.size t ty e i z sz te.byt hu hi hz' (by rw [his,hz]) hib (by rw [hzc];simpa using hz) hsz (.slice none 0 0) 0 [] (World.ownsRow_nil w _ e sz) ⟨b,oo,none⟩ m c2 xs2.flatten hl2 hcells hone (by simpa using hmax) (by simpa using hn) (Nat.le_refl _)
     subst h0
     exact grow (xs:=[]) (Nat.le_refl _) h1 (by simpa using h2) trivial h3
   | some a =>
     obtain ⟨v',w',h1,h2,h3⟩:=run_append_arg_grows (P:=P) w t ty e i z sz te.byt hu hi hz' (by rw [his,hz]) hib (by rw [hzc];simpa using hz) hsz a 0 c [] (by simp) (by simp) ⟨b,oo,none⟩ m c2 xs2.flatten hl2 hcells (by omega) (by simpa using hmax) (by simpa using hn)
     exact grow (xs:=[]) (Nat.le_refl _) h1 (by simpa using h2) trivial h3
  ·subst hA
   have hxs:=rdLL_size hr h.size
   have hl1 : xs.flatten.length=els.length * sz:=by rw [flat_len hxs,rdLL_len hr]
   have hcl : els.length * sz≤c * sz:=Nat.mul_le_mul_right _ hcap.1
   by_cases hroom : els.length + m≤c
   ·have hcr : els.length * sz + m * sz≤c * sz:=by rw [← Nat.add_mul];exact Nat.mul_le_mul_right _ hroom
    have hfc:=run_firstCells_some (P:=P) w i.size m ⟨b,oo,none⟩ m c2 xs2.flatten (by rw [hl2,his,hz]) hcells
    have hst:=run_storeCells_atB P g (o + els.length * i.size) e fz xs2.flatten 0 cs w hg (hfz.use (by rw [his,hz];omega)) (by rw [his,hz];omega) hone
    simp only [Nat.add_zero] at hst
    have hrow:=setRow_heap w g cs (cs.toList.take (o + els.length * i.size) ++ xs2.flatten ++ cs.toList.drop (o + els.length * i.size + xs2.flatten.length)).toArray e fz hg
    refine ⟨some ⟨g,o,none⟩,c,F,_,by simp [Builtin.append_,run_underlying hu,sizeOf,typeInfo,hi,Builtin.lenOf,hroom,hfc,Addr.add_lit,hst],⟨⟨by simpa [hlen2] using hroom,hcap.2⟩,hsize,h.spot,.inr ⟨g,o,_,xs ++ xs2,rfl,⟨fz,hrow,hfz.le (by simp only [List.size_toArray,List.length_append,List.length_take,List.length_drop,Array.length_toList];rw [his,hz];omega)⟩,?_,rdLL_app hr hr2,?_,hFg⟩⟩,fun q hq=>⟨.inl hq,by simpa [World.setRow] using hF q hq⟩,rfl,rfl,rfl,by simp [World.setRow],fun q hq hnq=>(setRow_same (w:=w) g _ ((hFg g).2 rfl)).2 q hq hnq⟩
    ·simp only [List.size_toArray,List.length_append,List.length_take,List.length_drop,Array.length_toList]
     omega
    ·rw [his,hz] at *
     have hdr:=splice_drop cs.toList xs2.flatten o (els.length * sz) (by have:=cs.length_toList;omega)
     simp only [List.length_append,hlen2]
     rw [hdr,hfl,List.flatten_append,List.take_append_of_le_length (by rw [List.length_append,hl1,hl2,Nat.add_mul];exact Nat.le_refl _),List.take_of_length_le (by rw [List.length_append,hl1,hl2,Nat.add_mul];exact Nat.le_refl _)]
   ·obtain ⟨v',w',h1,h2,h3⟩:=run_append_arg_grows (P:=P) w t ty e i z sz te.byt hu hi hz' (by rw [his,hz]) hib (by rw [hzc];simpa using hz) hsz ⟨g,o,none⟩ els.length c xs.flatten hl1 (fun j u hj=>by
     rw [← hfl,List.getElem?_take] at hj
     split at hj
     ·rw [List.getElem?_drop] at hj
      simpa [Addr.add_mid,World.cell?,hg] using hj
     ·cases hj) ⟨b,oo,none⟩ m c2 xs2.flatten hl2 hcells (by omega) hmax hn
    exact grow (Nat.le_refl _) h1 h2 hr h3
theorem OpX_append {o : Oper} {t : TypeId} {x y : Operand} {j N m : Nat} {y' : SV} {X : List (List DV)} {k : SV → List OB → Prop} {te : TI} (hT : TabOk C.P C.T) (ho : o.op = .call ⟨.builtin .append, #[x, y], #[t, t]⟩) (hj : nth ob j = some (.row false e sz els)) (hN : N = els.length)
 (hs : slInfo C t=some (e,sz)) (hte : lookT C.T e=some te) (hy : Sees ob sz y' m X) (hsz : Nat.ble 1 sz=true) (hn : (N + m) * te.byt≤140737488355328) (hn' : N + m≤1000000000000)
 (hk : force (setN ob j dead ++ [.row false e sz (els ++ X)]) fun ob'=>lenK lits ob (fun q=>k (.sl q 0 0 (N + m) sz) ob') False) (hd : C.d=false:=by rfl) : OpX C o [.sl j 0 0 N sz,y'] ob k:=by
 subst hN
 rw [force_eq] at hk
 have hk:=lenK_spec hk
 unfold OpX
 intro σ G fp w ρ hm hw hx
 have hsz:=Nat.le_of_ble_eq_true hsz
 obtain ⟨hu,te',hl,hz,hti,hid⟩:=slInfo_spec hT hs
 rw [hte] at hl
 cases hl
 obtain ⟨A2,c2,hyv,hS⟩:=hy.rds hm hw.2.1
 have hj':=hj
 rw [nth_eq] at hj'
 have hat : RowAt G w e sz (dA (σ j)) (dC (σ j)) els (fp j):=hm.at_ j _ hj'
 have hjl:=(List.getElem?_eq_some_iff.1 hj').1
 obtain ⟨A',c',F',w',hr,ho',hF,h1,h2,h3,h4,h5⟩:=append_run (ty:=o.type) hu hti hid hz hsz hat (c2:=c2) hS hn hn'
 rw [ho] at hx
 simp only [Op.operands,Call.operands,SV.vals,hyv,val_whole] at hx
 simp at hx
 obtain ⟨dst,op,ty,pos,after,guard⟩:=o
 simp only at ho hr
 subst ho
 have hexec : (execOp ρ ⟨dst,.call ⟨.builtin .append,#[x,y],#[t,t]⟩,ty,pos,after,guard⟩).run C.P w = .ok (.value (.slice A' (els.length + m) c')) w':=by
  simp [execOp,resolve,invoke,builtin,hx.1,hx.2,hr]
 rw [hexec]
 exact Goes.handN hm hjl ho' (by simp [hS.len]) hF h1 h2 h3 h4 h5 hk (fun h=>by rw [hd] at h;cases h)
end
end Go.Proofs.YtkflmidichikjaaGreatDoor.V
end
