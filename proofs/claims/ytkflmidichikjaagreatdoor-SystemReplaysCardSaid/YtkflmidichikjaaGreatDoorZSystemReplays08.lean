import Derived.Test.YtkflmidichikjaaGreatDoorZSystemReplays07
set_option linter.all false
section
namespace Go.Proofs.YtkflmidichikjaaGreatDoor.V
open Go.RowKit
mutual
def SV.ren (r : List Nat) : SV → SV
 | .v x=>.v x
 | .p k off=>.p (r.getD k 0) off
 | .a l=>.a (SV.rens r l)
 | .t l=>.t (SV.rens r l)
 | .fn f l=>.fn f (SV.rens r l)
 | .sl k b i n sz=>.sl (r.getD k 0) b i n sz
 | .sq k i off sz=>.sq (r.getD k 0) i off sz
 | .fz A c sz els=>.fz A c sz els
 | .fa ad x=>.fa ad x
def SV.rens (r : List Nat) : List SV → List SV
 | []=>[]
 | x :: l=>x.ren r :: SV.rens r l
end
mutual
theorem val_ren (σ : Nat → Nat) (r : List Nat) : ∀ x : SV, (x.ren r).val σ = x.val (fun j => σ (r.getD j 0))
 | .v _=>rfl
 | .p _ _=>rfl
 | .a l=>by simp only [SV.ren,SV.val,vals_ren σ r l]
 | .t l=>by simp only [SV.ren,SV.val,vals_ren σ r l]
 | .fn _ l=>by simp only [SV.ren,SV.val,vals_ren σ r l]
 | .sl _ _ _ _ _=>rfl
 | .sq _ _ _ _=>rfl
 | .fz _ _ _ _=>rfl
 | .fa _ _=>rfl
theorem vals_ren (σ : Nat → Nat) (r : List Nat) : ∀ l : List SV, SV.vals σ (SV.rens r l) = SV.vals (fun j => σ (r.getD j 0)) l
 | []=>rfl
 | x :: l=>by simp only [SV.rens,SV.vals,val_ren σ r x,vals_ren σ r l]
end
mutual
/-- names known, whatever stays as it is -/
def SV.nm (n : Nat) : SV → Prop
 | .p k _=>k < n
 | .a l=>SV.nms n l
 | .t l=>SV.nms n l
 | .fn _ l=>SV.nms n l
 | .sl k _ _ _ _=>k < n
 | .sq k _ _ _=>k < n
 | _=>True
def SV.nms (n : Nat) : List SV → Prop
 | []=>True
 | x :: r=>x.nm n∧SV.nms n r
end
mutual
theorem wf_nm {G : Fz} {n m : Nat} {r : List Nat} : ∀ x : SV, (x.ren r).wf ⟨G, n⟩ → x.nm m → x.wf ⟨G, m⟩
 | .v _,_,_=>trivial
 | .p _ _,_,h=>h
 | .a l,h,h'=>wfs_nm l h h'
 | .t l,h,h'=>wfs_nm l h h'
 | .fn _ l,h,h'=>wfs_nm l h h'
 | .sl _ _ _ _ _,_,h=>h
 | .sq _ _ _ _,_,h=>h
 | .fz _ _ _ _,h,_=>h
 | .fa _ _,h,_=>h
theorem wfs_nm {G : Fz} {n m : Nat} {r : List Nat} : ∀ l : List SV, SV.wfs ⟨G, n⟩ (SV.rens r l) → SV.nms m l → SV.wfs ⟨G, m⟩ l
 | [],_,_=>trivial
 | x :: l,h,h'=>⟨wf_nm x h.1 h'.1,wfs_nm l h.2 h'.2⟩
end
def entT (r : List Nat) (n : Nat) (tm : List (Nat × SV)) : List (Nat × SV) → Prop
 | []=>True
 | (t,x) :: l=>(match look tm t with|some y=>y=x.ren r∧x.nm n|none=>False)∧entT r n tm l
def OB.is (r : List Nat) (n : Nat) (o o' : OB) : Prop :=
 match o,o' with
 | .box t cs,.box t' cs'=>t=t'∧cs=SV.rens r cs'∧SV.nms n cs'
 | .row ro e sz els,.row ro' e' sz' els'=>ro=ro'∧e=e'∧sz=sz'∧els=els'
 | .res R,.res R'=>∀ G w b F,R G w b F→R' G w b F
 | _,.res R'=>∀ G w b F,R' G w b F
 | _,_=>False
def entO (r : List Nat) (n : Nat) (ob : List OB) : List Nat → List OB → Prop
 | [],[]=>True
 | j :: js,o' :: l=>(match nth ob j with|some o=>o.is r n o'|none=>False)∧entO r n ob js l
 | _,_=>False
def pinB : Nat → Nat → List Nat → Bool
 | 0,_,_=>true
 | m + 1,j,i :: r=>Nat.beq i j && pinB m (j + 1) r
 | _ + 1,_,[]=>false
theorem pinB_spec : ∀ {m s : Nat} {r : List Nat}, pinB m s r = true → ∀ j, j < m → r[j]? = some (s + j)
 | 0,_,_,_,j,hj=>by omega
 | m + 1,s,[],h,_,_=>by simp [pinB] at h
 | m + 1,s,i :: r,h,j,hj=>by
   simp only [pinB,Bool.and_eq_true] at h
   have e:=Nat.eq_of_beq_eq_true h.1
   cases j with
   | zero=>simp [e]
   | succ j =>
     have:=pinB_spec h.2 j (by omega)
     simp only [List.getElem?_cons_succ,this]
     congr 1
     omega
def Ent (m : Nat) (r : List Nat) (tm : List (Nat × SV)) (ob : List OB) (tm' : List (Nat × SV)) (ob' : List OB) : Prop :=
 entT r ob'.length tm tm'∧entO r ob'.length ob r ob'∧r.Nodup∧pinB m 0 r=true
theorem entT_spec {r : List Nat} {n : Nat} {tm : List (Nat × SV)} : ∀ {tm' : List (Nat × SV)}, entT r n tm tm' → ∀ t x, look tm' t = some x → look tm t = some (x.ren r) ∧ x.nm n
 | [],_,t,x,h=>by simp [look] at h
 | (s,y) :: l,he,t,x,h=>by
   obtain ⟨h1,h2⟩:=he
   unfold look at h
   split at h
   ·rename_i e
    have e:=Nat.eq_of_beq_eq_true e
    simp at h
    subst e h
    split at h1
    ·rename_i z hz
     exact ⟨by rw [hz,h1.1],h1.2⟩
    ·exact h1.elim
   ·exact entT_spec h2 t x h
theorem entO_spec {r : List Nat} {n : Nat} {ob : List OB} : ∀ {js : List Nat} {l : List OB}, entO r n ob js l → js.length = l.length ∧ ∀ (i : Nat) (o' : OB), l[i]? = some o' → ∃ (j : Nat) (o : OB), js[i]? = some j ∧ ob[j]? = some o ∧ o.is r n o'
 | [],[],_=>⟨rfl,fun i o' h=>by simp at h⟩
 | [],_ :: _,h=>h.elim
 | _ :: _,[],h=>h.elim
 | j :: js,o' :: l,h=>by
   obtain ⟨h1,h2⟩:=h
   obtain ⟨h3,h4⟩:=entO_spec h2
   refine ⟨by simp [h3],fun i o hi=>?_⟩
   cases i with
   | zero =>
     simp at hi
     subst hi
     split at h1
     ·rename_i o hn
      rw [nth_eq] at hn
      exact ⟨j,o,by simp,hn,h1⟩
     ·exact h1.elim
   | succ i=>simpa using h4 i o (by simpa using hi)
theorem Ent.rel {C : Ctx} {r : List Nat} {tm tm' : List (Nat × SV)} {ob ob' : List OB} (h : Ent C.m r tm ob tm' ob') {σ : Nat → Nat} {G : Fz} {fp : Nat → Nat → Prop} {a : Act} {w : World} (hr : Rel C tm ob σ G fp a w) :
 Rel C tm' ob' (fun j=>σ (r.getD j 0)) G (fun j=>fp (r.getD j 0)) a w:=by
 obtain ⟨h1,h2,h3,hpb⟩:=h
 obtain ⟨h4,h5⟩:=entO_spec h2
 have idx : ∀ i,i < ob'.length→∃ j,r[i]? = some j∧r.getD i 0=j∧j < ob.length:=by
  intro i hi
  obtain ⟨j,o,hj,ho,_⟩:=h5 i ob'[i] (by simp [hi])
  exact ⟨j,hj,by simp [hj],(List.getElem?_eq_some_iff.1 ho).1⟩
 refine ⟨⟨hr.tm.size,hr.tm.defers,fun t x hx=>?_⟩,⟨fun i o' hi=>?_,fun i j hi hj hne b hb hb'=>?_,fun i hi b hb=>?_,fun i hi b hb=>?_,hr.mem.kept,fun b o hb=>⟨(hr.mem.fz b o hb).1,fun k hk=>?_⟩,hr.mem.src,?_,hr.mem.drw⟩⟩
 ·obtain ⟨h6,h7⟩:=entT_spec h1 t x hx
  exact ⟨by rw [(hr.tm.val t _ h6).1,val_ren],wf_nm x (hr.tm.val t _ h6).2 h7⟩
 ·obtain ⟨j,o,hj,ho,his⟩:=h5 i o' hi
  have hat:=hr.mem.at_ j o ho
  have hg : r.getD i 0=j:=by simp [hj]
  simp only [hg]
  cases o with
  | box t cs =>
    cases o' with
    | box t' cs' =>
      obtain ⟨rfl,rfl,hw⟩:=his
      exact ⟨by rw [hat.1,vals_ren],hat.2.1,wfs_nm _ hat.2.2 hw⟩
    | row _ _ _ _=>exact his.elim
    | res _=>exact ⟨his _ _ _ _,fun _ _ _ _=>his _ _ _ _⟩
  | row ro e sz els =>
    cases o' with
    | box _ _=>exact his.elim
    | row ro' e' sz' els' =>
      obtain ⟨rfl,rfl,rfl,rfl⟩:=his
      exact hat
    | res _=>exact ⟨his _ _ _ _,fun _ _ _ _=>his _ _ _ _⟩
  | res R =>
    cases o' with
    | box _ _=>exact his.elim
    | row _ _ _ _=>exact his.elim
    | res R'=>exact ⟨his _ _ _ _ hat.1,fun G' w' hG hw'=>his _ _ _ _ (hat.2 G' w' hG hw')⟩
 ·obtain ⟨i',hi1,hi2,hi3⟩:=idx i hi
  obtain ⟨j',hj1,hj2,hj3⟩:=idx j hj
  simp only [hi2,hj2] at hb hb'
  refine hr.mem.disj i' j' hi3 hj3 (fun e=>hne ?_) b hb hb'
  subst e
  exact (List.getElem?_inj (List.getElem?_eq_some_iff.1 hi1).1 h3).1 (hi1.trans hj1.symm)
 ·obtain ⟨i',hi1,hi2,hi3⟩:=idx i hi
  simp only [hi2] at hb
  exact hr.mem.lo i' hi3 b hb
 ·obtain ⟨i',hi1,hi2,hi3⟩:=idx i hi
  simp only [hi2] at hb
  exact hr.mem.hi i' hi3 b hb
 ·obtain ⟨i',hi1,hi2,hi3⟩:=idx k hk
  simp only [hi2]
  exact (hr.mem.fz b o hb).2 i' hi3
 ·have hp:=hr.mem.pin
  refine ⟨?_,fun j hj=>?_⟩
  ·cases hm : C.m with
   | zero=>exact Nat.zero_le _
   | succ m =>
     have:=pinB_spec hpb m (by omega)
     have:=(List.getElem?_eq_some_iff.1 this).1
     omega
  ·have:=pinB_spec hpb j hj
   simp only [Nat.zero_add] at this
   simp [this,hp.2 j hj]
theorem Mem.ctx {C C' : Ctx} {σ : Nat → Nat} {G : Fz} {fp : Nat → Nat → Prop} {ob : List OB} {w : World} (h : Mem C σ G fp ob w) (h1 : C'.M = C.M) (h2 : C'.w0 = C.w0) (h3 : C'.m = C.m) (h4 : C'.π = C.π) (h5 : C'.d = C.d) (h6 : C'.z = C.z) : Mem C' σ G fp ob w :=
 ⟨h.at_,h.disj,by rw [h1,h2];exact h.lo,h.hi,by rw [h1,h2];exact h.kept,h.fz,by rw [h1,h2,h6];exact h.src,by rw [h3,h4];exact h.pin,by rw [h2,h5];exact h.drw⟩
theorem Mem.ren {C : Ctx} {σ : Nat → Nat} {G : Fz} {fp : Nat → Nat → Prop} {ob ob' : List OB} {w : World} {r : List Nat} (h : entO r ob'.length ob r ob') (hnd : r.Nodup) (hp : pinB C.m 0 r = true) (hm : Mem C σ G fp ob w) :
 Mem C (fun j=>σ (r.getD j 0)) G (fun j=>fp (r.getD j 0)) ob' w :=
 (Ent.rel (C:=C) (r:=r) (tm:=[]) (tm':=[]) (a:={ tmps:=Array.replicate C.n undef,defers:=[] }) ⟨trivial,h,hnd,hp⟩ ⟨⟨by simp,rfl,fun t x hx=>by simp [look] at hx⟩,hm⟩).mem
def MOf (n : Nat) (fp : Nat → Nat → Prop) : Nat → Prop := fun b => ∃ j, j < n ∧ fp j b
def CM (P : Program) (f : FuncId) (al : Bool) (args : List SV) (os0 : List OB) {ι : Type} (x : ι → SV) (os1 : ι → List OB) : Prop :=
 SV.nms os0.length args∧∀ σ G fp w,Mem ⟨P,[],0,w,MOf os0.length fp,os0.length,σ,false,G⟩ σ G fp os0 w→SV.wfs ⟨G,os0.length⟩ args →
  CallsE P f (SV.vals σ args).toArray w fun e w'=>∃ i σ' G' fp',e = .returned ((x i).val σ')∧(x i).wf ⟨G',(os1 i).length⟩∧Mem ⟨P,[],0,w,MOf os0.length fp,os0.length,σ,false,G⟩ σ' G' fp' (os1 i) w'∧(al=false→∀ b o,G' b=some o→MOf os0.length fp b∨w.heap.size≤b)
def RetM (P : Program) (w : World) (M : Nat → Prop) (m : Nat) (π : Nat → Nat) (al : Bool) (G0 : Fz) {ι : Type} (x : ι → SV) (os1 : ι → List OB) (e : Ending) (w' : World) : Prop :=
 ∃ i σ' G' fp',e = .returned ((x i).val σ')∧(x i).wf ⟨G',(os1 i).length⟩∧Mem ⟨P,[],0,w,M,m,π,false,G0⟩ σ' G' fp' (os1 i) w'∧(al=false→∀ b o,G' b=some o→M b∨w.heap.size≤b)
def drK {α β : Type} : List α → List β → List β
 | [],l=>l
 | _ :: _,[]=>[]
 | _ :: r,_ :: l=>drK r l
def tkK {α : Type} : List α → List Nat → (List Nat → Prop) → Prop
 | [],_,k=>k []
 | _ :: _,[],_=>False
 | _ :: r,m :: l,k=>tkK r l fun x=>k (m :: x)
mutual
def renK0 (ρ : List Nat) : SV → (SV → Prop) → Prop
 | .v x,k=>k (.v x)
 | .p j off,k=>match nth ρ j with
   | some n=>k (.p n off)
   | none=>False
 | .a l,k=>renKs0 ρ l fun l=>k (.a l)
 | .t l,k=>renKs0 ρ l fun l=>k (.t l)
 | .fn f l,k=>renKs0 ρ l fun l=>k (.fn f l)
 | .sl j b i n sz,k=>match nth ρ j with
   | some m=>k (.sl m b i n sz)
   | none=>False
 | .sq j i off sz,k=>match nth ρ j with
   | some m=>k (.sq m i off sz)
   | none=>False
 | .fz A c sz els,k=>k (.fz A c sz els)
 | .fa ad x,k=>k (.fa ad x)
def renKs0 (ρ : List Nat) : List SV → (List SV → Prop) → Prop
 | [],k=>k []
 | x :: l,k=>renK0 ρ x fun x=>renKs0 ρ l fun l=>k (x :: l)
end
noncomputable def renK (ρ : List Nat) (x : SV) : (SV → Prop) → Prop :=
 SV.rec (motive_1:=fun _=>(SV→Prop)→Prop) (motive_2:=fun _=>(List SV→Prop)→Prop)
  (fun x k=>k (.v x))
  (fun j off k=>match nth ρ j with
   | some n=>k (.p n off)
   | none=>False)
  (fun _ ih k=>ih fun l=>k (.a l))
  (fun _ ih k=>ih fun l=>k (.t l))
  (fun f _ ih k=>ih fun l=>k (.fn f l))
  (fun j b i n sz k=>match nth ρ j with
   | some m=>k (.sl m b i n sz)
   | none=>False)
  (fun j i off sz k=>match nth ρ j with
   | some m=>k (.sq m i off sz)
   | none=>False)
  (fun A c sz els k=>k (.fz A c sz els))
  (fun ad x k=>k (.fa ad x))
  (fun k=>k [])
  (fun _ _ ix il k=>ix fun x=>il fun l=>k (x :: l)) x
noncomputable def renKs (ρ : List Nat) (x : List SV) : (List SV → Prop) → Prop :=
 SV.rec_1 (motive_1:=fun _=>(SV→Prop)→Prop) (motive_2:=fun _=>(List SV→Prop)→Prop)
  (fun x k=>k (.v x))
  (fun j off k=>match nth ρ j with
   | some n=>k (.p n off)
   | none=>False)
  (fun _ ih k=>ih fun l=>k (.a l))
  (fun _ ih k=>ih fun l=>k (.t l))
  (fun f _ ih k=>ih fun l=>k (.fn f l))
  (fun j b i n sz k=>match nth ρ j with
   | some m=>k (.sl m b i n sz)
   | none=>False)
  (fun j i off sz k=>match nth ρ j with
   | some m=>k (.sq m i off sz)
   | none=>False)
  (fun A c sz els k=>k (.fz A c sz els))
  (fun ad x k=>k (.fa ad x))
  (fun k=>k [])
  (fun _ _ ix il k=>ix fun x=>il fun l=>k (x :: l)) x
mutual
theorem renK_eq {ρ : List Nat} : ∀ (x : SV) (k : SV → Prop), renK ρ x k = renK0 ρ x k
 | .v _,k=>rfl
 | .p _ _,k=>rfl
 | .a l,k=>renKs_eq l _
 | .t l,k=>renKs_eq l _
 | .fn _ l,k=>renKs_eq l _
 | .sl _ _ _ _ _,k=>rfl
 | .sq _ _ _ _,k=>rfl
 | .fz _ _ _ _,k=>rfl
 | .fa _ _,k=>rfl
theorem renKs_eq {ρ : List Nat} : ∀ (x : List SV) (k : List SV → Prop), renKs ρ x k = renKs0 ρ x k
 | [],k=>rfl
 | x :: l,k=>by
   show renK ρ x (fun x=>renKs ρ l fun l=>k (x :: l))=_
   rw [renK_eq x]
   unfold renKs0
   congr 1
   funext y
   exact renKs_eq l _
end
def OB.ren (ρ : List Nat) : OB → OB
 | .box t cs=>.box t (SV.rens ρ cs)
 | o=>o
noncomputable def renOs (ρ : List Nat) : List OB → (List OB → Prop) → Prop
 | [],k=>k []
 | .box t cs :: l,k=>renKs ρ cs fun cs=>renOs ρ l fun l=>k (.box t cs :: l)
 | .row ro e sz els :: l,k=>renOs ρ l fun l=>k (.row ro e sz els :: l)
 | .res R :: l,k=>renOs ρ l fun l=>k (.res R :: l)
def putO : List Nat → List OB → List OB → List OB
 | [],os,ob=>ob ++ os
 | _ :: _,[],ob=>ob
 | j :: r,o :: os,ob=>putO r os (setN ob j o)
noncomputable def retM (ob : List OB) (r : List Nat) (x : SV) (os : List OB) (k : SV → List OB → Prop) : Prop :=
 tkK (drK r os) (drK ob lits) fun ex=>force (r ++ ex) fun ρ=>renK ρ x fun x=>renOs ρ os fun os=>force (putO r os ob) fun ob=>k x ob
mutual
theorem renK0_spec {ρ : List Nat} : ∀ {x : SV} {k : SV → Prop}, renK0 ρ x k → k (x.ren ρ)
 | .v x,k,h=>by unfold renK0 at h;exact h
 | .p j off,k,h=>by
   unfold renK0 at h
   split at h
   ·rename_i n hn
    rw [nth_eq] at hn
    simp only [SV.ren,List.getD_eq_getElem?_getD,hn,Option.getD_some]
    exact h
   ·exact h.elim
 | .a l,k,h=>by unfold renK0 at h;exact renKs0_spec h
 | .t l,k,h=>by unfold renK0 at h;exact renKs0_spec h
 | .fn f l,k,h=>by unfold renK0 at h;exact renKs0_spec h
 | .sl j p i n sz,k,h=>by
   unfold renK0 at h
   split at h
   ·rename_i m hn
    rw [nth_eq] at hn
    simp only [SV.ren,List.getD_eq_getElem?_getD,hn,Option.getD_some]
    exact h
   ·exact h.elim
 | .sq j i off sz,k,h=>by
   unfold renK0 at h
   split at h
   ·rename_i m hn
    rw [nth_eq] at hn
    simp only [SV.ren,List.getD_eq_getElem?_getD,hn,Option.getD_some]
    exact h
   ·exact h.elim
 | .fz _ _ _ _,k,h=>by unfold renK0 at h;exact h
 | .fa _ _,k,h=>by unfold renK0 at h;exact h
theorem renKs0_spec {ρ : List Nat} : ∀ {l : List SV} {k : List SV → Prop}, renKs0 ρ l k → k (SV.rens ρ l)
 | [],k,h=>by unfold renKs0 at h;exact h
 | x :: l,k,h=>by
   unfold renKs0 at h
   exact renKs0_spec (k:=fun l=>k (x.ren ρ :: l)) (renK0_spec (k:=fun x=>renKs0 ρ l fun l=>k (x :: l)) h)
end
theorem renK_spec {ρ : List Nat} {x : SV} {k : SV → Prop} (h : renK ρ x k) : k (x.ren ρ) := renK0_spec (by rwa [renK_eq] at h)
theorem renKs_spec {ρ : List Nat} {x : List SV} {k : List SV → Prop} (h : renKs ρ x k) : k (SV.rens ρ x) := renKs0_spec (by rwa [renKs_eq] at h)
theorem renOs_spec {ρ : List Nat} : ∀ {l : List OB} {k : List OB → Prop}, renOs ρ l k → k (l.map (OB.ren ρ))
 | [],k,h=>h
 | .box t cs :: l,k,h=>by
   unfold renOs at h
   exact renOs_spec (k:=fun l=>k (.box t (SV.rens ρ cs) :: l)) (renKs_spec (k:=fun cs=>renOs ρ l fun l=>k (.box t cs :: l)) h)
 | .row ro e sz els :: l,k,h=>by
   unfold renOs at h
   exact renOs_spec (l:=l) (k:=fun l=>k (.row ro e sz els :: l)) h
 | .res R :: l,k,h=>by
   unfold renOs at h
   exact renOs_spec (l:=l) (k:=fun l=>k (.res R :: l)) h
theorem drK_eq {α β : Type} : ∀ (r : List α) (l : List β), drK r l = l.drop r.length
 | [],l=>rfl
 | _ :: _,[]=>by simp [drK]
 | _ :: r,_ :: l=>by simp [drK,drK_eq r l]
theorem tkK_spec {α : Type} : ∀ {l : List α} {s n : Nat} {k : List Nat → Prop}, tkK l (List.range' s n) k → k (List.range' s l.length)
 | [],s,n,k,h=>h
 | _ :: r,s,0,k,h=>by simp [tkK] at h
 | _ :: r,s,n + 1,k,h=>by
   rw [List.range'_succ] at h
   unfold tkK at h
   simpa [List.range'_succ] using tkK_spec h
theorem putO_eq : ∀ (r : List Nat) (os ob : List OB), r.length ≤ os.length → putO r os ob = ((r.zip os).foldl (fun ob p => ob.set p.1 p.2) ob) ++ os.drop r.length
 | [],os,ob,_=>by simp [putO]
 | _ :: _,[],ob,h=>by simp at h
 | j :: r,o :: os,ob,h=>by
   rw [putO,putO_eq r os _ (by simpa using h),setN_eq]
   simp
theorem sets_len : ∀ (l : List (Nat × OB)) (ob : List OB), (l.foldl (fun ob p => ob.set p.1 p.2) ob).length = ob.length
 | [],_=>rfl
 | p :: l,ob=>by simp [sets_len l]
theorem sets_miss : ∀ (l : List (Nat × OB)) (ob : List OB) (k : Nat), k ∉ l.map (·.1) → (l.foldl (fun ob p => ob.set p.1 p.2) ob)[k]? = ob[k]?
 | [],_,_,_=>rfl
 | p :: l,ob,k,h=>by
   simp only [List.map_cons,List.mem_cons,not_or] at h
   rw [List.foldl_cons,sets_miss l _ k h.2,List.getElem?_set_ne (Ne.symm h.1)]
theorem sets_hit : ∀ (r : List Nat) (os ob : List OB) (i k : Nat) (o : OB), r.Nodup → r[i]? = some k → os[i]? = some o → k < ob.length → ((r.zip os).foldl (fun ob p => ob.set p.1 p.2) ob)[k]? = some o
 | [],_,_,i,k,o,_,h,_,_=>by simp at h
 | j :: r,[],_,i,k,o,_,_,h,_=>by simp at h
 | j :: r,o' :: os,ob,0,k,o,hnd,h,h',hk=>by
   simp at h h'
   subst h h'
   have hn : j ∉ (r.zip os).map (·.1):=fun hm=>by
    obtain ⟨p,hp,e⟩:=List.mem_map.1 hm
    have:=(List.of_mem_zip (a:=p.1) (b:=p.2) hp).1
    exact (List.nodup_cons.1 hnd).1 (e ▸ this)
   rw [List.zip_cons_cons,List.foldl_cons,sets_miss _ _ _ hn]
   simp [hk]
 | j :: r,o' :: os,ob,i + 1,k,o,hnd,h,h',hk=>by
   rw [List.zip_cons_cons,List.foldl_cons]
   exact sets_hit r os _ i k o (List.nodup_cons.1 hnd).2 (by simpa using h) (by simpa using h') (by simpa using hk)
mutual
theorem wf_ren {ρ : List Nat} {G : Fz} {n m : Nat} (h : ∀ j, j < n → ρ.getD j 0 < m) : ∀ x : SV, x.wf ⟨G, n⟩ → (x.ren ρ).wf ⟨G, m⟩
 | .v _,_=>trivial
 | .p k off,hw=>h k hw
 | .a l,hw=>wfs_ren h l hw
 | .t l,hw=>wfs_ren h l hw
 | .fn f l,hw=>wfs_ren h l hw
 | .sl k _ _ _ _,hw=>h k hw
 | .sq k _ _ _,hw=>h k hw
 | .fz _ _ _ _,hw=>hw
 | .fa _ _,hw=>hw
theorem wfs_ren {ρ : List Nat} {G : Fz} {n m : Nat} (h : ∀ j, j < n → ρ.getD j 0 < m) : ∀ l : List SV, SV.wfs ⟨G, n⟩ l → SV.wfs ⟨G, m⟩ (SV.rens ρ l)
 | [],_=>trivial
 | x :: l,hw=>⟨wf_ren h x hw.1,wfs_ren h l hw.2⟩
end
theorem OB.at_ren {σ σ' : Nat → Nat} {G : Fz} {n m b : Nat} {w : World} {F : Nat → Prop} {ρ : List Nat} (hρ : ∀ j, j < n → ρ.getD j 0 < m ∧ σ' (ρ.getD j 0) = σ j) {o : OB} (h : o.at σ ⟨G, n⟩ w b F) : (o.ren ρ).at σ' ⟨G, m⟩ w b F := by
 cases o with
 | box t cs =>
   obtain ⟨h1,h2,h3⟩:=h
   refine ⟨?_,h2,wfs_ren (fun j hj=>(hρ j hj).1) cs h3⟩
   rw [h1,vals_ren]
   congr 2
   exact congrArg List.toArray (SV.vals_ext (E:=⟨G,n⟩) (fun j hj=>((hρ j hj).2).symm) cs h3)
 | row ro e sz els=>exact h
 | res R=>exact h
theorem CM.run {C : Ctx} {f : FuncId} {ob : List OB} {k : SV → List OB → Prop} {al : Bool} {args0 : List SV} {os0 : List OB} {ι : Type} {x : ι → SV} {os1 : ι → List OB} (h : CM C.P f al args0 os0 x os1) (r : List Nat)
 (hent : entO r os0.length ob r os0) (hnd : r.Nodup) (hk : ∀ i,retM ob r (x i) (os1 i) k) (hd : C.d=false) {σ : Nat→Nat} {G : Fz} {fp : Nat→Nat→Prop} {w : World} (hm : Mem C σ G fp ob w) (G0 : Fz)
 (hz0 : ∀ b o,G0 b=some o→w.heap[b]? = some o∧∀ j,j < os0.length→¬ fp (r.getD j 0) b) (hG0 : G.le G0) (hal : al=true→∀ b o,G0 b=some o→G b=some o) (hw0 : SV.wfs ⟨G0,os0.length⟩ args0) :
 CallsE C.P f (SV.vals (fun j=>σ (r.getD j 0)) args0).toArray w fun e w'=>∃ v,e = .returned v∧Goes C ob.length σ G fp w k v w':=by
 obtain ⟨h2,h3⟩:=h
 obtain ⟨hlen,hidx⟩:=entO_spec hent
 have ridx : ∀ j,j < os0.length→∃ q,r[j]? = some q∧r.getD j 0=q∧q < ob.length:=by
  intro j hj
  obtain ⟨q,o,h4,h5,_⟩:=hidx j os0[j] (by simp [hj])
  exact ⟨q,h4,by simp [h4],(List.getElem?_eq_some_iff.1 h5).1⟩
 have hm0 : Mem ⟨C.P,[],0,w,MOf os0.length fun j=>fp (r.getD j 0),os0.length,fun j=>σ (r.getD j 0),false,G0⟩ (fun j=>σ (r.getD j 0)) G0 (fun j=>fp (r.getD j 0)) os0 w:=by
  have:=Mem.ren (C:=⟨C.P,[],0,C.w0,C.M,0,id,false,C.z⟩) (r:=r) hent hnd rfl ⟨hm.at_,hm.disj,hm.lo,hm.hi,hm.kept,hm.fz,hm.src,⟨Nat.zero_le _,fun j hj=>by cases hj⟩,fun h=>by cases h⟩
  refine ⟨fun q o hq=>?_,this.disj,fun q hq i hi=>.inl ⟨q,hq,hi⟩,this.hi,⟨rfl,rfl,rfl,Nat.le_refl _,fun _ _ _=>rfl⟩,hz0,fun _ _ h=>.inr (.inr h),⟨Nat.le_refl _,fun _ _=>rfl⟩,fun h=>by cases h⟩
  exact OB.at_ext (this.at_ q o hq) (fun _ _=>rfl) (Ev.grow hG0 (Nat.le_refl _)) fun _ _=>rfl
 have hc:=h3 _ _ _ w hm0 hw0
 refine hc.mono ?_
 rintro e w' ⟨i,σ',G',fp',rfl,hwf,hm',hGn⟩
 refine ⟨_,rfl,?_⟩
 have hki:=hk i
 unfold retM at hki
 rw [drK_eq,drK_eq,lits_eq,show (List.range' 0 300).drop ob.length=List.range' ob.length (300 - ob.length) by rw [List.drop_range'];simp] at hki
 have hk1:=tkK_spec hki
 rw [force_eq] at hk1
 have hk2:=renOs_spec (renK_spec hk1)
 rw [force_eq] at hk2
 have hpin:=hm'.pin
 simp only at hpin
 have hrl : r.length=os0.length:=hlen
 rw [putO_eq _ _ _ (by simp;omega)] at hk2
 generalize hρ : r ++ List.range' ob.length ((os1 i).drop r.length).length=ρ at hk2
 have hos1 : os0.length≤(os1 i).length:=hpin.1
 have ρlo : ∀ j,j < os0.length→ρ.getD j 0=r.getD j 0:=by
  intro j hj
  rw [← hρ]
  simp [List.getElem?_append_left (show j < r.length by omega)]
 have ρhi : ∀ j,os0.length≤j→j < (os1 i).length→ρ.getD j 0=ob.length + (j - os0.length):=by
  intro j hj hj'
  rw [← hρ,List.getD_eq_getElem?_getD,List.getElem?_append_right (by omega),List.getElem?_range' (by simp;omega)]
  simp
  omega
 -- the caller's view
 let σ2 : Nat→Nat:=fun j=>if j < ob.length then σ j else σ' (os0.length + (j - ob.length))
 let fp2 : Nat→Nat→Prop:=fun j=>if j < ob.length then (if j∈r then fp' (r.idxOf j) else fp j) else fp' (os0.length + (j - ob.length))
 have hσ2 : ∀ j,j < (os1 i).length→ρ.getD j 0 < ob.length + ((os1 i).length - os0.length)∧σ2 (ρ.getD j 0)=σ' j:=by
  intro j hj
  by_cases e : j < os0.length
  ·obtain ⟨q,h4,h5,h6⟩:=ridx j e
   rw [ρlo j e,h5]
   refine ⟨by omega,?_⟩
   simp only [σ2,h6,if_true]
   rw [hpin.2 j e,h5]
  ·rw [ρhi j (by omega) hj]
   refine ⟨by omega,?_⟩
   simp only [σ2,show ¬ ob.length + (j - os0.length) < ob.length by omega,if_false]
   congr 1
   omega
 have notM : ∀ q,q < ob.length→q ∉ r→∀ b,fp q b→¬ MOf os0.length (fun j=>fp (r.getD j 0)) b:=by
  rintro q hq hqr b hb ⟨j,hj,hbj⟩
  obtain ⟨q',h4,h5,h6⟩:=ridx j hj
  simp only [h5] at hbj
  refine hm.disj q q' hq h6 (fun e=>hqr ?_) b hb hbj
  rw [e]
  exact List.mem_of_getElem? h4
 have same : ∀ b,b < w.heap.size→¬ MOf os0.length (fun j=>fp (r.getD j 0)) b→w'.heap[b]? = w.heap[b]?:=fun b hb hn=>hm'.kept.block b hb hn
 have idx : ∀ q,q∈r→r.idxOf q < os0.length∧r[r.idxOf q]? = some q:=by
  intro q hq
  have:=List.idxOf_lt_length_iff.2 hq
  exact ⟨by omega,by rw [List.getElem?_eq_getElem this,List.getElem_idxOf]⟩
 have lo' : ∀ j,j < (os1 i).length→∀ b,fp' j b→(∃ q,q < ob.length∧q∈r∧fp q b)∨w.heap.size≤b:=by
  intro j hj b hb
  rcases hm'.lo j hj b hb with ⟨q,hq,hqb⟩|h4
  ·obtain ⟨q',h5,h6,h7⟩:=ridx q hq
   simp only [h6] at hqb
   exact .inl ⟨q',h7,List.mem_of_getElem? h5,hqb⟩
  ·exact .inr h4
 have hmlen : ((os1 i).map (OB.ren ρ)).length=(os1 i).length:=by simp
 have hoblen : (List.foldl (fun ob p=>ob.set p.1 p.2) ob (r.zip ((os1 i).map (OB.ren ρ))) ++ ((os1 i).map (OB.ren ρ)).drop r.length).length=ob.length + ((os1 i).length - os0.length):=by
  rw [List.length_append,sets_len,List.length_drop,hmlen,hrl]
 let G2 : Fz:=fun b=>match G b with|some o=>some o|none=>G' b
 have notMG : ∀ b o,G b=some o→¬ MOf os0.length (fun j=>fp (r.getD j 0)) b:=by
  rintro b o hb ⟨j,hj,hbj⟩
  obtain ⟨q',h4,h5,h6⟩:=ridx j hj
  simp only [h5] at hbj
  exact (hm.fz b o hb).2 q' h6 hbj
 have keepG : ∀ b o,G b=some o→w'.heap[b]? = some o:=fun b o hb=>by
  rw [same b (hm.fz_lt hb) (notMG b o hb)]
  exact (hm.fz b o hb).1
 have gG2 : G.le G2:=fun b o hb=>by simp only [G2,hb]
 have gG2' : G'.le G2:=fun b o hb=>by
  cases hg : G b with
  | none=>simp only [G2,hg,hb]
  | some o' =>
    have h4:=keepG b o' hg
    have h5:=(hm'.fz b o hb).1
    rw [h4] at h5
    cases h5
    simp only [G2,hg]
 have srcG2 : ∀ b o,G2 b=some o→G b=some o∨(G' b=some o∧(w.heap.size≤b∨MOf os0.length (fun j=>fp (r.getD j 0)) b)):=by
  intro b o hb
  cases hg : G b with
  | some o'=>simp only [G2,hg] at hb;exact .inl hb
  | none =>
    simp only [G2,hg] at hb
    cases hal' : al with
    | false =>
      rcases hGn hal' b o hb with h4|h4
      ·exact .inr ⟨hb,.inr h4⟩
      ·exact .inr ⟨hb,.inl h4⟩
    | true =>
      rcases hm'.src b o hb with h4|h4|h4
      ·exact .inr ⟨hb,.inr h4⟩
      ·exact .inr ⟨hb,.inl h4⟩
      ·have:=hal hal' b o h4
       rw [hg] at this
       cases this
 refine ⟨_,_,σ2,G2,fp2,hk2,fun j hj=>by simp only [σ2,hj,if_true],gG2,by rw [hoblen];omega,?_,?_,⟨?_,?_,?_,?_,?_,?_,?_,?_,(fun h=>by rw [hd] at h;cases h)⟩,⟨?_,?_,?_,?_⟩⟩
 ·rw [val_ren]
  exact SV.val_ext (E:=⟨G',(os1 i).length⟩) (fun j hj=>(hσ2 j hj).2.symm) _ hwf
 ·rw [hoblen]
  exact wf_ren (fun j hj=>(hσ2 j hj).1) _ (SV.wf_mono (Ev.grow gG2' (Nat.le_refl _)) _ hwf)
 ·-- at_
  intro q o hq
  rw [hoblen]
  by_cases hql : q < ob.length
  ·rw [List.getElem?_append_left (by rw [sets_len];exact hql)] at hq
   by_cases hqr : q∈r
   ·obtain ⟨h4,h5⟩:=idx q hqr
    have h6 : (os1 i)[r.idxOf q]? = some ((os1 i)[r.idxOf q]'(by omega)):=List.getElem?_eq_getElem (by omega)
    rw [sets_hit r _ ob (r.idxOf q) q _ hnd h5 (by rw [List.getElem?_map,h6];rfl) hql] at hq
    cases hq
    have h7:=hm'.at_ _ _ h6
    have h8 : σ' (r.idxOf q)=σ2 q:=by
     rw [hpin.2 _ h4]
     simp only [σ2,hql,if_true,List.getD_eq_getElem?_getD,h5,Option.getD_some]
    rw [h8] at h7
    simp only [fp2,hql,hqr,if_true]
    exact OB.at_ren hσ2 (OB.at_ext h7 (fun _ _=>rfl) (Ev.grow gG2' (Nat.le_refl _)) fun _ _=>rfl)
   ·rw [sets_miss _ _ _ (fun hm=>by
     obtain ⟨p,hp,e⟩:=List.mem_map.1 hm
     have:=(List.of_mem_zip (a:=p.1) (b:=p.2) hp).1
     exact hqr (e ▸ this))] at hq
    simp only [fp2,hql,hqr,if_true,if_false]
    have h7:=hm.at_ q o hq
    have h8 : σ2 q=σ q:=by simp only [σ2,hql,if_true]
    rw [h8]
    exact OB.at_ext h7 (fun j hj=>by simp only at hj;simp only [σ2,hj,if_true]) (Ev.grow gG2 (by omega)) fun b hb=>same b (hm.hi q hql b hb) (notM q hql hqr b hb)
  ·rw [List.getElem?_append_right (by rw [sets_len];omega),sets_len,List.getElem?_drop,List.getElem?_map,hrl] at hq
   have h5 : os0.length + (q - ob.length) < (os1 i).length:=by
    cases h6 : (os1 i)[os0.length + (q - ob.length)]? with
    | none=>rw [h6] at hq;cases hq
    | some o'=>exact (List.getElem?_eq_some_iff.1 h6).1
   rw [List.getElem?_eq_getElem h5] at hq
   cases hq
   have h7:=hm'.at_ _ _ (List.getElem?_eq_getElem h5)
   have h8 : σ' (os0.length + (q - ob.length))=σ2 q:=by simp only [σ2,hql,if_false]
   rw [h8] at h7
   simp only [fp2,hql,if_false]
   exact OB.at_ren hσ2 (OB.at_ext h7 (fun _ _=>rfl) (Ev.grow gG2' (Nat.le_refl _)) fun _ _=>rfl)
 ·-- disj
  rw [hoblen]
  have cls : ∀ q,q < ob.length + ((os1 i).length - os0.length)→(q < ob.length∧q ∉ r∧fp2 q=fp q)∨∃ j,j < (os1 i).length∧fp2 q=fp' j∧ρ.getD j 0=q:=by
   intro q hq
   by_cases hql : q < ob.length
   ·by_cases hqr : q∈r
    ·obtain ⟨h4,h5⟩:=idx q hqr
     exact .inr ⟨r.idxOf q,by omega,by simp only [fp2,hql,hqr,if_true],by rw [ρlo _ h4];simp [h5]⟩
    ·exact .inl ⟨hql,hqr,by simp only [fp2,hql,hqr,if_true,if_false]⟩
   ·exact .inr ⟨os0.length + (q - ob.length),by omega,by simp only [fp2,hql,if_false],by rw [ρhi _ (by omega) (by omega)];omega⟩
  intro p q hp hq hne b hb hb'
  rcases cls p hp with ⟨p1,p2,p3⟩|⟨jp,p1,p2,p3⟩<;>rcases cls q hq with ⟨q1,q2,q3⟩|⟨jq,q1,q2,q3⟩
  ·rw [p3] at hb;rw [q3] at hb'
   exact hm.disj p q p1 q1 hne b hb hb'
  ·rw [p3] at hb;rw [q2] at hb'
   rcases lo' jq q1 b hb' with ⟨s,s1,s2,s3⟩|h4
   ·exact hm.disj p s p1 s1 (fun e=>p2 (e ▸ s2)) b hb s3
   ·have:=hm.hi p p1 b hb;omega
  ·rw [p2] at hb;rw [q3] at hb'
   rcases lo' jp p1 b hb with ⟨s,s1,s2,s3⟩|h4
   ·exact hm.disj q s q1 s1 (fun e=>q2 (e ▸ s2)) b hb' s3
   ·have:=hm.hi q q1 b hb';omega
  ·rw [p2] at hb;rw [q2] at hb'
   refine hm'.disj jp jq p1 q1 (fun e=>hne ?_) b hb hb'
   rw [← p3,← q3,e]
 ·-- lo
  rw [hoblen]
  intro q hq b hb
  have frm : ∀ j,j < (os1 i).length→fp' j b→C.M b∨C.w0.heap.size≤b:=by
   intro j hj hjb
   rcases lo' j hj b hjb with ⟨s,s1,s2,s3⟩|h4
   ·exact hm.lo s s1 b s3
   ·have:=hm.kept.size;right;omega
  by_cases hql : q < ob.length
  ·by_cases hqr : q∈r
   ·simp only [fp2,hql,hqr,if_true] at hb
    exact frm _ (by have:=(idx q hqr).1;omega) hb
   ·simp only [fp2,hql,hqr,if_true,if_false] at hb
    exact hm.lo q hql b hb
  ·simp only [fp2,hql,if_false] at hb
   exact frm _ (by omega) hb
 ·-- hi
  rw [hoblen]
  intro q hq b hb
  have hsz:=hm'.kept.size
  simp only at hsz
  by_cases hql : q < ob.length
  ·by_cases hqr : q∈r
   ·simp only [fp2,hql,hqr,if_true] at hb
    exact hm'.hi _ (by have:=(idx q hqr).1;omega) b hb
   ·simp only [fp2,hql,hqr,if_true,if_false] at hb
    have:=hm.hi q hql b hb
    omega
  ·simp only [fp2,hql,if_false] at hb
   exact hm'.hi _ (by omega) b hb
 ·-- kept
  have hk':=hm'.kept
  refine ⟨hk'.os.trans hm.kept.os,hk'.tape.trans hm.kept.tape,hk'.output.trans hm.kept.output,Nat.le_trans hm.kept.size hk'.size,fun b hb hnM=>?_⟩
  rw [same b (Nat.lt_of_lt_of_le hb hm.kept.size) ?_,hm.kept.block b hb hnM]
  rintro ⟨j,hj,hjb⟩
  obtain ⟨q',h4,h5,h6⟩:=ridx j hj
  simp only [h5] at hjb
  rcases hm.lo q' h6 b hjb with h|h
  ·exact hnM h
  ·omega
 ·-- what stays as it is
  rw [hoblen]
  intro b o hb
  have hnot : ∀ q,q < ob.length + ((os1 i).length - os0.length)→fp2 q b→(q < ob.length∧q ∉ r∧fp q b)∨∃ j,j < (os1 i).length∧fp' j b:=by
   intro q hq hf
   by_cases hql : q < ob.length
   ·by_cases hqr : q∈r
    ·simp only [fp2,hql,hqr,if_true] at hf
     exact .inr ⟨_,by have:=(idx q hqr).1;omega,hf⟩
    ·simp only [fp2,hql,hqr,if_true,if_false] at hf
     exact .inl ⟨hql,hqr,hf⟩
   ·simp only [fp2,hql,if_false] at hf
    exact .inr ⟨_,by omega,hf⟩
  rcases srcG2 b o hb with h4|⟨h4,h5⟩
  ·refine ⟨keepG b o h4,fun q hq hf=>?_⟩
   rcases hnot q hq hf with ⟨h6,h7,h8⟩|⟨j,h6,h7⟩
   ·exact (hm.fz b o h4).2 q h6 h8
   ·rcases lo' j h6 b h7 with ⟨s,s1,s2,s3⟩|h8
    ·exact (hm.fz b o h4).2 s s1 s3
    ·have:=hm.fz_lt h4
     omega
  ·refine ⟨(hm'.fz b o h4).1,fun q hq hf=>?_⟩
   rcases hnot q hq hf with ⟨h6,h7,h8⟩|⟨j,h6,h7⟩
   ·rcases h5 with h5|h5
    ·have:=hm.hi q h6 b h8
     omega
    ·exact notM q h6 h7 b h8 h5
   ·exact (hm'.fz b o h4).2 j h6 h7
 ·-- where it comes from
  intro b o hb
  rcases srcG2 b o hb with h4|⟨h4,h5|⟨j,hj,hjb⟩⟩
  ·exact hm.src b o h4
  ·exact .inr (.inl (Nat.le_trans hm.kept.size h5))
  ·obtain ⟨q',h5,h6,h7⟩:=ridx j hj
   simp only [h6] at hjb
   rcases hm.lo q' h7 b hjb with h8|h8
   ·exact .inl h8
   ·exact .inr (.inl h8)
 ·-- pin
  refine ⟨by rw [hoblen];have:=hm.pin.1;omega,fun j hj=>?_⟩
  have : j < ob.length:=Nat.lt_of_lt_of_le hj hm.pin.1
  simp only [σ2,this,if_true]
  exact hm.pin.2 j hj
 ·-- what is no object
  intro b hb hlt hno
  refine same b hlt ?_
  rintro ⟨j,hj,hjb⟩
  obtain ⟨q',h4,h5,h6⟩:=ridx j hj
  simp only [h5] at hjb
  exact hno q' h6 hjb
 ·rw [hoblen]
  intro q hq b hb hlo hlt
  by_cases hql : q < ob.length
  ·by_cases hqr : q∈r
   ·simp only [fp2,hql,hqr,if_true] at hb
    rcases lo' _ (by have:=(idx q hqr).1;omega) b hb with ⟨s,s1,s2,s3⟩|h4
    ·exact ⟨s,s1,s3⟩
    ·omega
   ·simp only [fp2,hql,hqr,if_true,if_false] at hb
    exact ⟨q,hql,hb⟩
  ·simp only [fp2,hql,if_false] at hb
   rcases lo' _ (by omega) b hb with ⟨s,s1,s2,s3⟩|h4
   ·exact ⟨s,s1,s3⟩
   ·omega
 ·intro b o hb hlt
  rcases srcG2 b o hb with h4|⟨h4,h5|⟨j,hj,hjb⟩⟩
  ·exact .inl h4
  ·omega
  ·obtain ⟨q',h5,h6,h7⟩:=ridx j hj
   simp only [h6] at hjb
   exact .inr ⟨q',h7,hjb⟩
 ·exact hm'.kept.size
theorem CallX_m {C : Ctx} {f : FuncId} {args : List SV} {ob : List OB} {k : SV → List OB → Prop} {al : Bool} {args0 : List SV} {os0 : List OB} {ι : Type} {x : ι → SV} {os1 : ι → List OB} (h : CM C.P f al args0 os0 x os1) (r : List Nat)
 (hargs : args=SV.rens r args0) (hent : entO r os0.length ob r os0) (hnd : r.Nodup) (hk : ∀ i,retM ob r (x i) (os1 i) k) (hd : C.d=false:=by rfl) : CallX C f args ob k:=by
 unfold CallX
 intro σ G fp w hm hw
 obtain ⟨hlen,hidx⟩:=entO_spec hent
 subst hargs
 have:=h.run r hent hnd hk hd hm G (fun b o hb=>⟨(hm.fz b o hb).1,fun j hj=>?_⟩) (Fz.refl _) (fun _ _ _ h=>h) (wfs_nm _ hw h.1)
 ·rwa [← vals_ren] at this
 ·obtain ⟨q,o',h4,h5,_⟩:=hidx j os0[j] (by simp [hj])
  simp only [List.getD_eq_getElem?_getD,h4,Option.getD_some]
  exact (hm.fz b o hb).2 q (List.getElem?_eq_some_iff.1 h5).1
end Go.Proofs.YtkflmidichikjaaGreatDoor.V
end
