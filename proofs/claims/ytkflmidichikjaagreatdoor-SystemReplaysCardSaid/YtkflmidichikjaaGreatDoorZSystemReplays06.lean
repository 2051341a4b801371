import Derived.Test.YtkflmidichikjaaGreatDoorZSystemReplays05
set_option linter.all false
section
namespace Go.Proofs.YtkflmidichikjaaGreatDoor.V
open Go.RowKit
structure Sil where
 s : Nat
 d : Nat
 t : TypeId
 zs : List Value
def opens (C : Ctx) (es : List Edge) (pd : List SP) : List Sil → List (Nat × SV) → List OB → (List Sil → List (Nat × SV) → List OB → Prop) → Prop
 | [],tm,ob,k=>k [] tm ob
 | h :: r,tm,ob,k=>match depL es h.s with
   | true=>newBox h.t (h.zs.map .v) ob fun x ob=>vX C ob pd fun _=>putT C (some h.d) x tm fun tm=>opens C es pd r tm ob k
   | false=>opens C es pd r tm ob fun hs tm ob=>k (h :: hs) tm ob
def opensAll (C : Ctx) : List Sil → List (Nat × SV) → List OB → (List (Nat × SV) → List OB → Prop) → Prop
 | [],tm,ob,k=>k tm ob
 | h :: r,tm,ob,k=>newBox h.t (h.zs.map .v) ob fun x ob=>putT C (some h.d) x tm fun tm=>opensAll C r tm ob k
def runT (C : Ctx) (o : Oper) (i : Nat) (pd : List SP) (tm : List (Nat × SV)) (ob : List OB) (kk : List SP → List (Nat × SV) → List OB → Prop) : Prop :=
 match isVal o.op with
 | true=>xval C o tm ob fun x=>putT C o.dst x tm fun tm'=>match pureOp o.op with
   | true=>kk pd tm' ob
   | false=>andX (xval C o tm ob fun y=>y=x) fun _=>kk (⟨i,o,tm,x⟩ :: pd) tm' ob
 | false=>xop C o tm ob fun x ob'=>filtK o.after.toList pd fun pd'=>vX C ob' pd' fun _=>putT C o.dst x tm fun tm'=>kk pd' tm' ob'
def xschT (C : Ctx) (full : List Oper) : List Nat → List Sil → List SP → List (Nat × SV) → List OB → (List (Nat × SV) → List OB → Prop) → Prop
 | [],hs,_,tm,ob,k=>opensAll C hs tm ob k
 | i :: r,hs,pd,tm,ob,k=>match nth full i with
   | none=>False
   | some o=>opens C o.after.toList pd hs tm ob fun hs tm ob=>match o.guard with
     | none=>runT C o i pd tm ob fun pd tm ob=>xschT C full r hs pd tm ob k
     | some (j,want)=>match nth full j with
       | some g=>match g.dst with
         | some d=>match look tm d with
           | some (.v (.bool b))=>match want with
             | true=>xif b (fun _=>runT C o i pd ((d,.v (.bool true)) :: tm) ob fun pd tm ob=>xschT C full r hs pd tm ob k) (fun _=>skipS C o pd ((d,.v (.bool false)) :: tm) ob fun pd tm ob=>xschT C full r hs pd tm ob k)
             | false=>xif b (fun _=>skipS C o pd ((d,.v (.bool true)) :: tm) ob fun pd tm ob=>xschT C full r hs pd tm ob k) (fun _=>runT C o i pd ((d,.v (.bool false)) :: tm) ob fun pd tm ob=>xschT C full r hs pd tm ob k)
           | some (.v (.tuple _))=>skipS C o pd tm ob fun pd tm ob=>xschT C full r hs pd tm ob k
           | _=>False
         | none=>False
       | none=>False
section
variable {C : Ctx} {ob : List OB} {σ : Nat → Nat} {G : Fz} {fp : Nat → Nat → Prop} {a : Act} {w : World}
theorem Mem.adopt (h : Mem C σ G fp ob w) (o : OB) (b : Nat) (F : Nat → Prop) (ho : o.at (fun j => if j = ob.length then b else σ j) ⟨G, ob.length + 1⟩ w b F) (hF : ∀ i, F i → (C.M i ∨ C.w0.heap.size ≤ i) ∧ i < w.heap.size ∧ (∀ j, j < ob.length → ¬ fp j i) ∧ ∀ o, G i ≠ some o) :
 Mem C (fun j=>if j=ob.length then b else σ j) G (fun j=>if j=ob.length then F else fp j) (ob ++ [o]) w:=by
 have hσ : ∀ j,j < ob.length→(fun j=>if j=ob.length then b else σ j) j=σ j:=fun j hj=>by simp [show j ≠ ob.length by omega]
 refine ⟨?_,?_,?_,?_,h.kept,?_,h.src,⟨by have:=h.pin.1;simp;omega,fun j hj=>(hσ j (Nat.lt_of_lt_of_le hj h.pin.1)).trans (h.pin.2 j hj)⟩,h.drw⟩
 ·intro k o' hk
  by_cases hlt : k < ob.length
  ·rw [List.getElem?_append_left hlt] at hk
   simp only [show k ≠ ob.length by omega,if_false]
   exact OB.at_ext (h.at_ k o' hk) hσ (Ev.same (by simp)) fun i hi=>rfl
  ·have hlen:=(List.getElem?_eq_some_iff.1 hk).1
   simp at hlen
   obtain rfl : k=ob.length:=by omega
   simp at hk
   subst hk
   simp only [if_true]
   simpa using ho
 ·intro j k hj hk hne i hi hi'
  simp at hj hk
  by_cases e1 : j=ob.length<;>by_cases e2 : k=ob.length
  ·omega
  ·simp only [e1,e2,if_true,if_false] at hi hi'
   exact (hF i hi).2.2.1 k (by omega) hi'
  ·simp only [e1,e2,if_true,if_false] at hi hi'
   exact (hF i hi').2.2.1 j (by omega) hi
  ·simp only [e1,e2,if_false] at hi hi'
   exact h.disj j k (by omega) (by omega) hne i hi hi'
 ·intro k hk i hi
  simp at hk
  by_cases e : k=ob.length
  ·simp only [e,if_true] at hi
   exact (hF i hi).1
  ·simp only [e,if_false] at hi
   exact h.lo k (by omega) i hi
 ·intro k hk i hi
  simp at hk
  by_cases e : k=ob.length
  ·simp only [e,if_true] at hi
   exact (hF i hi).2.1
  ·simp only [e,if_false] at hi
   exact h.hi k (by omega) i hi
 ·intro i o' hi
  refine ⟨(h.fz i o' hi).1,fun k hk hf=>?_⟩
  simp at hk
  by_cases e : k=ob.length
  ·simp only [e,if_true] at hf
   exact (hF i hf).2.2.2 o' hi
  ·simp only [e,if_false] at hf
   exact (h.fz i o' hi).2 k (by omega) hf
theorem Mem.below {w' : World} (h : Mem C σ G fp ob w) (hb : Below w.heap.size w w') (hdr : C.d = true → w.drawn ≤ w'.drawn) : Mem C σ G fp ob w' :=
 ⟨fun k o hk=>OB.at_ext (h.at_ k o hk) (fun _ _=>rfl) (Ev.same (Nat.le_refl _)) fun i hi=>hb.block i (h.hi k (List.getElem?_eq_some_iff.1 hk).1 i hi),h.disj,h.lo,
  fun k hk i hi=>Nat.lt_of_lt_of_le (h.hi k hk i hi) hb.size,⟨hb.os.trans h.kept.os,hb.tape.trans h.kept.tape,hb.output.trans h.kept.output,Nat.le_trans h.kept.size hb.size,fun i hi hm=>(hb.block i (Nat.lt_of_lt_of_le hi h.kept.size)).trans (h.kept.block i hi hm)⟩,
  fun b o hG=>⟨(hb.block b (h.fz_lt hG)).trans (h.fz b o hG).1,(h.fz b o hG).2⟩,h.src,h.pin,fun hd=>Nat.le_trans (h.drw hd) (hdr hd)⟩
structure Hid (C : Ctx) (full : List Oper) (hs : List Sil) (sil : List Nat) (β : Nat → Nat) (tm : List (Nat × SV)) (n : Nat) (G : Fz) (fp : Nat → Nat → Prop) (a : Act) (w : World) : Prop where
 op : ∀ h∈hs,∃ o ti,full.toArray[h.s]? = some o∧o.op = .alloc h.t∧o.dst=some h.d∧o.guard=none∧lookT C.T h.t=some ti∧ti.zero=h.zs∧h.d < C.n
 free : ∀ h∈hs,look tm h.d=none
 pw : hs.Pairwise fun h h'=>h.s ≠ h'.s∧h.d ≠ h'.d
 in_ : ∀ s∈sil,∃ h∈hs,h.s=s
 at_ : ∀ h∈hs,h.s ∉ sil→a.tmps.getD h.d undef = .pointer (some ⟨β h.s,0,none⟩)∧w.heap[β h.s]? = some (.cells h.zs.toArray h.t (0,0))∧C.w0.heap.size≤β h.s∧(∀ j,j < n→¬ fp j (β h.s))∧∀ o,G (β h.s) ≠ some o
 inj : ∀ h∈hs,∀ h'∈hs,h.s ∉ sil→h'.s ∉ sil→β h.s=β h'.s→h.s=h'.s
def PX (C : Ctx) (ob : List OB) (pd : List SP) : Prop := ∀ s ∈ pd, xval C s.o s.tm ob fun x => x = s.x
theorem PInv.now (hT : TabOk C.P C.T) {ops : Array Oper} {pd : List SP} {pend : List Pend} (h : PInv C ops σ ⟨G, ob.length⟩ pd pend) (hx : PX C ob pd) (hm : Mem C σ G fp ob w) : ∀ p ∈ pend, YW C.P ops p w := by
 intro p hp
 rcases h.2 p hp with h1|⟨s,hs,h1,h2,h3,h4,h5,h6⟩
 ·exact h1 w
 ·obtain ⟨x,hxx,hrun,_⟩:=xval_sound hT (hx s hs) h4 hm
  subst hxx
  exact ⟨s.o,h2,.inl ⟨h3,by rw [h5];exact hrun⟩⟩
theorem PInv.ext {ops : Array Oper} {n m : Ev} {σ' : Nat → Nat} {pd : List SP} {pend : List Pend} (h : PInv C ops σ n pd pend) (hσ : ∀ j, j < n.n → σ' j = σ j) (hn : n.le m) : PInv C ops σ' m pd pend := by
 refine ⟨h.1,fun p hp=>?_⟩
 rcases h.2 p hp with h1|⟨s,hs,h1,h2,h3,h4,h5,h6⟩
 ·exact .inl h1
 ·exact .inr ⟨s,hs,h1,h2,h3,h4.ext hσ hn,by rw [h5,SV.val_ext hσ s.x h6],SV.wf_mono hn _ h6⟩
theorem Tm.see {m : Ev} {d : Nat} {x : SV} {tm : List (Nat × SV)} (h : Tm C σ m tm a) (hx : a.tmps.getD d undef = x.val σ) (hw : x.wf m) : Tm C σ m ((d, x) :: tm) a := by
 refine ⟨h.size,h.defers,fun t y hl=>?_⟩
 unfold look at hl
 split at hl
 ·rename_i e
  have:=Nat.eq_of_beq_eq_true e
  subst this
  simp at hl
  subst hl
  exact ⟨hx,hw⟩
 ·exact h.val t y hl
theorem Hid.take {full : List Oper} {kept r : List Sil} {h : Sil} {sil : List Nat} {β : Nat → Nat} {tm : List (Nat × SV)} (hh : Hid C full (kept ++ h :: r) sil β tm ob.length G fp a w) (hn : h.s ∉ sil) (hr : Rel C tm ob σ G fp a w) :
 ∃ σ' fp',(∀ j,j < ob.length→σ' j=σ j)∧Rel C ((h.d,.p ob.length 0) :: tm) (ob ++ [.box h.t (h.zs.map .v)]) σ' G fp' a w∧Hid C full (kept ++ r) sil β ((h.d,.p ob.length 0) :: tm) (ob ++ [OB.box h.t (h.zs.map .v)]).length G fp' a w:=by
 have hmem : h∈kept ++ h :: r:=by simp
 obtain ⟨h1,h2,h3,h4,h4'⟩:=hh.at_ h hmem hn
 have hlt : β h.s < w.heap.size:=(Array.getElem?_eq_some_iff.1 h2).1
 have hσ : ∀ j,j < ob.length→(fun j=>if j=ob.length then β h.s else σ j) j=σ j:=fun j hj=>by simp [show j ≠ ob.length by omega]
 have hsub : ∀ x∈kept ++ r,x∈kept ++ h :: r:=by
  intro x hx
  simp at hx ⊢
  rcases hx with hx|hx
  ·exact .inl hx
  ·exact .inr (.inr hx)
 have hpw:=hh.pw
 rw [List.pairwise_append,List.pairwise_cons] at hpw
 have hne : ∀ x∈kept ++ r,x.s ≠ h.s∧x.d ≠ h.d:=by
  intro x hx
  rcases List.mem_append.1 hx with hx|hx
  ·exact hpw.2.2 x hx h (by simp)
  ·exact ⟨(hpw.2.1.1 x hx).1.symm,(hpw.2.1.1 x hx).2.symm⟩
 refine ⟨_,_,hσ,⟨(hr.tm.ext (m:=⟨G,(ob ++ [OB.box h.t (h.zs.map .v)]).length⟩) hσ (Ev.same (by simp))).see (by simp [SV.val,h1]) (by simp [SV.wf]),hr.mem.adopt (.box h.t (h.zs.map .v)) (β h.s) (· = β h.s) ⟨by rw [vals_v];exact h2,fun i=>Iff.rfl,wfs_v _ _⟩ ?_⟩,?_⟩
 ·rintro i rfl
  exact ⟨.inr h3,hlt,h4,h4'⟩
 ·refine ⟨fun x hx=>hh.op x (hsub x hx),fun x hx=>?_,?_,fun s hs=>?_,fun x hx hxn=>?_,fun x hx y hy=>hh.inj x (hsub x hx) y (hsub y hy)⟩
  ·unfold look
   have : Nat.beq h.d x.d=false:=by
    cases hq : Nat.beq h.d x.d with
    | false=>rfl
    | true=>exact ((hne x hx).2 (Nat.eq_of_beq_eq_true hq).symm).elim
   rw [this]
   exact hh.free x (hsub x hx)
  ·rw [List.pairwise_append]
   exact ⟨hpw.1,hpw.2.1.2,fun x hx y hy=>hpw.2.2 x hx y (by simp [hy])⟩
  ·obtain ⟨x,hx,hxs⟩:=hh.in_ s hs
   refine ⟨x,?_,hxs⟩
   simp at hx ⊢
   rcases hx with hx|rfl|hx
   ·exact .inl hx
   ·exact (hn (hxs ▸ hs)).elim
   ·exact .inr hx
  ·obtain ⟨g1,g2,g3,g4,g5⟩:=hh.at_ x (hsub x hx) hxn
   refine ⟨g1,g2,g3,fun j hj hf=>?_,g5⟩
   by_cases e : j=ob.length
   ·simp only [e,if_true] at hf
    exact (hne x hx).1 (hh.inj x (hsub x hx) h hmem hxn hn hf)
   ·simp only [e,if_false] at hf
    simp at hj
    exact g4 j (by omega) hf
theorem putT_some {d : Nat} {x : SV} {tm : List (Nat × SV)} {k : List (Nat × SV) → Prop} (h : putT C (some d) x tm k) : k ((d, x) :: tm) := by
 unfold putT at h
 simp only at h
 split at h
 ·exact h
 ·exact h.elim
theorem opens_sound {full : List Oper} {sil : List Nat} {β : Nat → Nat} {es : List Edge} {pd : List SP} {pend : List Pend} (hes : ∀ s ∈ sil, depL es s = false) : ∀ {r : List Sil} {kept : List Sil} {tm : List (Nat × SV)} {ob : List OB} {σ : Nat → Nat} {G : Fz} {fp : Nat → Nat → Prop} {k : List Sil → List (Nat × SV) → List OB → Prop},
 opens C es pd r tm ob k→Rel C tm ob σ G fp a w→Hid C full (kept ++ r) sil β tm ob.length G fp a w→PX C ob pd→PInv C full.toArray σ ⟨G,ob.length⟩ pd pend →
 ∃ r' tm' ob' σ' fp',k r' tm' ob'∧Rel C tm' ob' σ' G fp' a w∧Hid C full (kept ++ r') sil β tm' ob'.length G fp' a w∧PX C ob' pd∧PInv C full.toArray σ' ⟨G,ob'.length⟩ pd pend∧∀ x∈r',x∈r
 | [],kept,tm,ob,σ,G,fp,k,h,hr,hh,hx,hp=>⟨[],tm,ob,σ,fp,h,hr,hh,hx,hp,fun _ h=>h⟩
 | g :: r,kept,tm,ob,σ,G,fp,k,h,hr,hh,hx,hp=>by
   unfold opens at h
   split at h
   ·rename_i hd
    have hn : g.s ∉ sil:=fun hs=>by rw [hes _ hs] at hd;cases hd
    unfold newBox at h
    have h1:=lenK_spec h
    simp only [force_eq] at h1
    obtain ⟨h2,h3⟩:=vX_spec h1
    obtain ⟨σ',fp',hσ,hr',hh'⟩:=hh.take hn hr
    obtain ⟨r',tm',ob',σ',fp',h4,h5,h6,h7,h8,h9⟩:=opens_sound hes (putT_some h3) hr' hh' h2 (hp.ext (m:=⟨G,(ob ++ [OB.box g.t (g.zs.map .v)]).length⟩) hσ (Ev.same (by simp)))
    exact ⟨r',tm',ob',σ',fp',h4,h5,h6,h7,h8,fun x hx=>List.mem_cons_of_mem _ (h9 x hx)⟩
   ·have e : kept ++ g :: r=(kept ++ [g]) ++ r:=by simp
    rw [e] at hh
    obtain ⟨r',tm',ob',σ',fp',h1,h2,h3,h4,h5,h6⟩:=opens_sound hes h hr hh hx hp
    refine ⟨g :: r',tm',ob',σ',fp',h1,h2,by simpa using h3,h4,h5,fun x hx=>?_⟩
    rcases List.mem_cons.1 hx with rfl|hx
    ·simp
    ·exact List.mem_cons_of_mem _ (h6 x hx)
theorem opensAll_sound {full : List Oper} {β : Nat → Nat} : ∀ {r : List Sil} {tm : List (Nat × SV)} {ob : List OB} {σ : Nat → Nat} {G : Fz} {fp : Nat → Nat → Prop} {k : List (Nat × SV) → List OB → Prop},
 opensAll C r tm ob k→Rel C tm ob σ G fp a w→Hid C full r [] β tm ob.length G fp a w→∃ tm' ob' σ' fp',k tm' ob'∧Rel C tm' ob' σ' G fp' a w
 | [],tm,ob,σ,G,fp,k,h,hr,hh=>⟨tm,ob,σ,fp,h,hr⟩
 | g :: r,tm,ob,σ,G,fp,k,h,hr,hh=>by
   unfold opensAll newBox at h
   have h1:=lenK_spec h
   simp only [force_eq] at h1
   obtain ⟨σ',fp',hσ,hr',hh'⟩:=Hid.take (kept:=[]) hh (by simp) hr
   exact opensAll_sound (putT_some h1) hr' hh'
theorem pw_sep : ∀ {hs : List Sil}, (hs.Pairwise fun h h' => h.s ≠ h'.s ∧ h.d ≠ h'.d) → ∀ {g h : Sil}, g ∈ hs → h ∈ hs → g ≠ h → g.s ≠ h.s ∧ g.d ≠ h.d
 | [],_,_,_,hg,_,_=>by simp at hg
 | x :: r,hp,g,h,hg,hh,hne=>by
   rw [List.pairwise_cons] at hp
   rcases List.mem_cons.1 hg with e1|hg'<;>rcases List.mem_cons.1 hh with e2|hh'
   ·exact (hne (e1.trans e2.symm)).elim
   ·rw [e1]
    exact hp.1 h hh'
   ·rw [e2]
    have:=hp.1 g hg'
    exact ⟨this.1.symm,this.2.symm⟩
   ·exact pw_sep hp.2 hg' hh' hne
theorem Hid.put {tm : List (Nat × SV)} {full : List Oper} {hs : List Sil} {sil : List Nat} {β : Nat → Nat} {n : Nat} (hh : Hid C full hs sil β tm n G fp a w) {d : Option Nat} (hd : ∀ h ∈ hs, d ≠ some h.d) (v : Value) {tm' : List (Nat × SV)} (hf : ∀ h ∈ hs, look tm' h.d = none) : Hid C full hs sil β tm' n G fp (a.put d v) w := by
 refine ⟨hh.op,hf,hh.pw,hh.in_,fun h hm hn=>?_,hh.inj⟩
 obtain ⟨h1,h2⟩:=hh.at_ h hm hn
 refine ⟨?_,h2⟩
 rw [← h1]
 cases d with
 | none=>rfl
 | some d =>
   have : d ≠ h.d:=fun e=>hd h hm (by rw [e])
   simp [Act.put,Array.getElem?_setIfInBounds_ne this]
theorem look_cons_ne {d t : Nat} {x : SV} {tm : List (Nat × SV)} (h : d ≠ t) : look ((d, x) :: tm) t = look tm t := by
 rw [look]
 cases hq : Nat.beq d t with
 | false=>rfl
 | true=>exact (h (Nat.eq_of_beq_eq_true hq)).elim
theorem putT_hid {tm : List (Nat × SV)} {full : List Oper} {hs : List Sil} {sil : List Nat} {β : Nat → Nat} {d : Option Nat} {x : SV} {k : List (Nat × SV) → Prop} (h : putT C d x tm k) {m : Ev} (ht : Tm C σ m tm a) (hx : x.wf m) (hd : ∀ h ∈ hs, d ≠ some h.d) {n : Nat} (hh : Hid C full hs sil β tm n G fp a w) :
 ∃ tm',k tm'∧Tm C σ m tm' (a.put d (x.val σ))∧Hid C full hs sil β tm' n G fp (a.put d (x.val σ)) w:=by
 unfold putT at h
 cases d with
 | none=>exact ⟨tm,h,ht,hh.put (d:=none) (by simp) _ hh.free⟩
 | some d =>
   simp only at h
   split at h
   ·rename_i hlt
    refine ⟨_,h,ht.put (Nat.le_of_ble_eq_true hlt) hx,hh.put hd _ fun g hg=>?_⟩
    rw [look_cons_ne fun e=>hd g hg (by rw [e])]
    exact hh.free g hg
   ·exact h.elim
theorem Hid.goes {tm : List (Nat × SV)} {full : List Oper} {hs : List Sil} {sil : List Nat} {β : Nat → Nat} {n : Nat} (hh : Hid C full hs sil β tm n G fp a w) {n' : Nat} {G' : Fz} {fp' : Nat → Nat → Prop} {w' : World} (hf : Frm C n G fp w n' G' fp' w') : Hid C full hs sil β tm n' G' fp' a w' := by
 refine ⟨hh.op,hh.free,hh.pw,hh.in_,fun h hm hn=>?_,hh.inj⟩
 obtain ⟨h1,h2,h3,h4,h7⟩:=hh.at_ h hm hn
 have hlt : β h.s < w.heap.size:=(Array.getElem?_eq_some_iff.1 h2).1
 refine ⟨h1,(hf.old _ h3 hlt h4).trans h2,h3,fun j hj hi=>?_,fun o ho=>?_⟩
 ·obtain ⟨j',h5,h6⟩:=hf.new j hj _ hi h3 hlt
  exact h4 j' h5 h6
 ·rcases hf.fz _ o ho hlt with h5|⟨j,h5,h6⟩
  ·exact h7 o h5
  ·exact h4 j h5 h6
theorem Hid.make {tm : List (Nat × SV)} {full : List Oper} {hs : List Sil} {sil : List Nat} {β : Nat → Nat} {h : Sil} (hh : Hid C full hs sil β tm ob.length G fp a w) (hr : Rel C tm ob σ G fp a w) (hnd : sil.Nodup) (hm : h ∈ hs) (hs' : h.s ∈ sil) :
 Rel C tm ob σ G fp (a.put (some h.d) (.pointer (some ⟨w.heap.size,0,none⟩))) (w.alloc (.cells h.zs.toArray h.t)) ∧
  Hid C full hs (sil.erase h.s) (fun x=>if x=h.s then w.heap.size else β x) tm ob.length G fp (a.put (some h.d) (.pointer (some ⟨w.heap.size,0,none⟩))) (w.alloc (.cells h.zs.toArray h.t)):=by
 have hb : Below w.heap.size w (w.alloc (.cells h.zs.toArray h.t)):=(Below.refl _ _).alloc (Nat.le_refl _) _
 obtain ⟨o,ti,ho1,ho2,ho3,ho4,ho5,ho6,ho7⟩:=hh.op h hm
 have uniq : ∀ g∈hs,g.s=h.s→g=h:=by
  intro g hg e
  cases Classical.em (g=h) with
  | inl h=>exact h
  | inr hne=>exact ((pw_sep hh.pw hg hm hne).1 e).elim
 have dne : ∀ g∈hs,g ≠ h→h.d ≠ g.d:=fun g hg hne e=>(pw_sep hh.pw hg hm hne).2 e.symm
 refine ⟨⟨⟨by simp [Act.put,hr.tm.size],hr.tm.defers,fun t x hx=>?_⟩,hr.mem.below hb (fun _=>Nat.le_refl _)⟩,⟨hh.op,hh.free,hh.pw,fun s hs=>hh.in_ s (List.mem_of_mem_erase hs),fun g hg hn=>?_,fun g hg g' hg' hn hn' he=>?_⟩⟩
 ·have hne : h.d ≠ t:=fun e=>by
   have:=hh.free h hm
   rw [e,hx] at this
   cases this
  have:=hr.tm.val t x hx
  refine ⟨?_,this.2⟩
  rw [← this.1]
  simp [Act.put,Array.getElem?_setIfInBounds_ne hne]
 ·rw [hnd.mem_erase_iff] at hn
  by_cases e : g.s=h.s
  ·obtain rfl:=uniq g hg e
   refine ⟨by simp [Act.put,hr.tm.size,ho7],?_,?_,?_,?_⟩
   ·simp only [if_true]
    exact Array.getElem?_push_size
   ·simp only [if_true]
    exact hr.mem.kept.size
   ·intro j hj hf
    simp only [if_true] at hf
    have:=hr.mem.hi j hj _ hf
    omega
   ·intro o ho
    simp only [if_true] at ho
    have:=hr.mem.fz_lt ho
    omega
  ·have hn' : g.s ∉ sil:=fun h=>hn ⟨e,h⟩
   obtain ⟨h1,h2,h3,h4⟩:=hh.at_ g hg hn'
   have hlt : β g.s < w.heap.size:=(Array.getElem?_eq_some_iff.1 h2).1
   have hgh : g ≠ h:=fun e'=>e (by rw [e'])
   simp only [e,if_false]
   refine ⟨?_,(hb.block _ hlt).trans h2,h3,h4⟩
   rw [← h1]
   simp [Act.put,Array.getElem?_setIfInBounds_ne (dne g hg hgh)]
 ·rw [hnd.mem_erase_iff] at hn hn'
  by_cases e : g.s=h.s<;>by_cases e' : g'.s=h.s
  ·rw [e,e']
  ·have hn2 : g'.s ∉ sil:=fun h=>hn' ⟨e',h⟩
   obtain ⟨_,h2,_⟩:=hh.at_ g' hg' hn2
   have hlt : β g'.s < w.heap.size:=(Array.getElem?_eq_some_iff.1 h2).1
   simp only [e,e',if_true,if_false] at he
   omega
  ·have hn2 : g.s ∉ sil:=fun h=>hn ⟨e,h⟩
   obtain ⟨_,h2,_⟩:=hh.at_ g hg hn2
   have hlt : β g.s < w.heap.size:=(Array.getElem?_eq_some_iff.1 h2).1
   simp only [e,e',if_true,if_false] at he
   omega
  ·simp only [e,e',if_false] at he
   exact hh.inj g hg g' hg' (fun h=>hn ⟨e,h⟩) (fun h=>hn' ⟨e',h⟩) he
theorem xschT_sound (hT : TabOk C.P C.T) {Q : Act → World → Prop} {full : List Oper} : ∀ (n : Nat) {sch : List Nat} {hs : List Sil} {sil : List Nat} {β : Nat → Nat} {pd : List SP} {pend : List Pend} {tm : List (Nat × SV)} {ob : List OB} {k : List (Nat × SV) → List OB → Prop} {σ : Nat → Nat} {G : Fz} {fp : Nat → Nat → Prop} {a : Act} {w : World},
 sch.length + sil.length=n→sil.Nodup→(∀ i∈sch,∀ o,full.toArray[i]? = some o→∀ h∈hs,o.dst ≠ some h.d)→xschT C full sch hs pd tm ob k→Rel C tm ob σ G fp a w→Hid C full hs sil β tm ob.length G fp a w→PX C ob pd→PInv C full.toArray σ ⟨G,ob.length⟩ pd pend→(∀ p∈pend,YW C.P full.toArray p w) →
 (∀ tm ob σ G fp a w,k tm ob→Rel C tm ob σ G fp a w→Q a w)→wpT C.P full.toArray (onlyN Q) n sch sil pend a w
 | 0,sch,hs,sil,β,pd,pend,tm,ob,k,σ,G,fp,a,w,hn,hnd,hdd,h,hr,hh,hx,hp,hpw,hk=>by
   have e1 : sch=[]:=List.eq_nil_of_length_eq_zero (by omega)
   have e2 : sil=[]:=List.eq_nil_of_length_eq_zero (by omega)
   subst e1 e2
   unfold xschT at h
   obtain ⟨tm',ob',σ',fp',h1,h2⟩:=opensAll_sound h hr hh
   exact hk _ _ _ _ _ _ _ h1 h2
 | n + 1,sch,hs,sil,β,pd,pend,tm,ob,k,σ,G,fp,a,w,hn,hnd,hdd,h,hr,hh,hx,hp,hpw,hk=>by
   refine ⟨fun s hs'=>?_,fun i r hsch hdep=>?_⟩
   ·obtain ⟨g,hg,rfl⟩:=hh.in_ s hs'
    obtain ⟨o,ti,ho1,ho2,ho3,ho4,ho5,ho6,ho7⟩:=hh.op g hg
    obtain ⟨hid,hti⟩:=hT _ _ ho5
    obtain ⟨z,hz,hzc⟩:=hti.zero
    rw [hid] at hz
    rw [ho6] at hzc
    obtain ⟨hr',hh'⟩:=hh.make hr hnd hg hs'
    have hrun : (execOp a.eval o).run C.P w = .ok (.value (.pointer (some ⟨w.heap.size,0,none⟩))) (w.alloc (.cells g.zs.toArray g.t)):=by
     obtain ⟨dst,op,ty,pos,after,guard⟩:=o
     simp only at ho2
     subst ho2
     simp only [execOp,Instr.alloc,Sem.run_bind,hz,Result.andThen_ok,newVar,newRow,hzc]
     rfl
    have hpw' : ∀ p∈pend,YW C.P full.toArray p (w.alloc (.cells g.zs.toArray g.t)):=hp.now hT hx hr'.mem
    unfold wpOp
    simp only [ho1]
    have hw : Region.wanted o (yielded full.toArray a.tmps)=true:=by simp [Region.wanted,ho4]
    simp only [hw,if_true]
    refine .inl ?_
    unfold Oper.wp
    rw [hrun]
    simp only [Oper.upon,ho3]
    refine ⟨hpw',xschT_sound hT n (by rw [List.length_erase_of_mem hs'];have:=List.length_pos_of_mem hs';omega) (hnd.erase _) hdd h hr' hh' hx hp hpw' hk⟩
   ·subst hsch
    unfold xschT at h
    cases hni : nth full i with
    | none=>simp [hni] at h
    | some o =>
      simp only [hni] at h
      have hi : full.toArray[i]? = some o:=by simpa [nth_eq] using hni
      refine ⟨o,hi,?_⟩
      obtain ⟨hs',tm,ob,σ,fp,h,hr,hh,hx,hp,hsub⟩:=opens_sound (full:=full) (kept:=[]) (fun s hs=>by rw [← depL_eq full.toArray hi];exact hdep s hs) h hr hh hx hp
      simp only [List.nil_append] at hh
      have hdo : ∀ g∈hs',o.dst ≠ some g.d:=fun g hg=>hdd i (by simp) o hi g (hsub g hg)
      have hdr : ∀ i∈r,∀ o,full.toArray[i]? = some o→∀ g∈hs',o.dst ≠ some g.d:=fun j hj o ho g hg=>hdd j (List.mem_cons_of_mem _ hj) o ho g (hsub g hg)
      have hlen : r.length + sil.length=n:=by simp at hn;omega
      have run : ∀ tm,Rel C tm ob σ G fp a w→Hid C full hs' sil β tm ob.length G fp a w→Region.wanted o (yielded full.toArray a.tmps)=true→(runT C o i pd tm ob fun pd tm ob=>xschT C full r hs' pd tm ob k) →
       ((isVal o.op=true∧∃ v,YO C.P full.toArray o a v w∧wpT C.P full.toArray (onlyN Q) n r sil (⟨i,a,v⟩ :: pend) (a.put o.dst v) w) ∨
        (isVal o.op=false∧wpOp C.P full.toArray (onlyN Q) i (fun a' w'=>(∀ p∈pend,tdB full.toArray i p.i=false→YW C.P full.toArray p w')∧wpT C.P full.toArray (onlyN Q) n r sil (pend.filter fun p=>!tdB full.toArray i p.i) a' w') a w)):=by
       intro tm hr hh hw hxr
       unfold runT at hxr
       cases hv : isVal o.op with
       | true =>
         simp only [hv] at hxr
         refine .inl ⟨rfl,?_⟩
         obtain ⟨x,h1,hrun,hwf⟩:=xval_sound hT hxr hr.tm hr.mem
         obtain ⟨tm',h2,h3,h4⟩:=putT_hid h1 hr.tm hwf hdo hh
         refine ⟨x.val σ,.inl ⟨hw,hrun⟩,?_⟩
         have hpw' : ∀ p∈(⟨i,a,x.val σ⟩ : Pend) :: pend,YW C.P full.toArray p w:=by
          intro p hpm
          rcases List.mem_cons.1 hpm with rfl|hpm
          ·exact ⟨o,hi,.inl ⟨hw,hrun⟩⟩
          ·exact hpw p hpm
         split at h2
         ·rename_i hpo
          refine xschT_sound hT n hlen hnd hdr h2 ⟨h3,hr.mem⟩ h4 hx ⟨hp.1,?_⟩ hpw' hk
          intro p hpm
          rcases List.mem_cons.1 hpm with rfl|hpm
          ·exact .inl fun w'=>⟨o,hi,.inl ⟨hw,pure_any hpo hrun w'⟩⟩
          ·exact hp.2 p hpm
         ·rw [andX_iff] at h2
          refine xschT_sound hT n hlen hnd hdr h2.2 ⟨h3,hr.mem⟩ h4 ?_ ?_ hpw' hk
          ·intro s hs
           rcases List.mem_cons.1 hs with rfl|hs
           ·exact h2.1
           ·exact hx s hs
          ·refine ⟨fun s hs=>?_,?_⟩
           ·rcases List.mem_cons.1 hs with rfl|hs
            ·exact hi
            ·exact hp.1 s hs
           intro p hpm
           rcases List.mem_cons.1 hpm with rfl|hpm
           ·exact .inr ⟨_,List.mem_cons_self,rfl,hi,hw,hr.tm,rfl,hwf⟩
           ·rcases hp.2 p hpm with h5|⟨s,hs,h5⟩
            ·exact .inl h5
            ·exact .inr ⟨s,List.mem_cons_of_mem _ hs,h5⟩
       | false =>
         simp only [hv] at hxr
         refine .inr ⟨rfl,?_⟩
         unfold wpOp
         simp only [hi,hw,if_true]
         refine .inl (xop_sound hT hxr hr ?_)
         rintro v w' ⟨x,ob',σ',G',fp',hf,hσ,hG,hn0,rfl,hwf,hm,hfr⟩
         have hn' : Ev.le ⟨G,ob.length⟩ ⟨G',ob'.length⟩:=⟨hG,hn0⟩
         obtain ⟨h1,h2⟩:=vX_spec (filtK_spec hf)
         obtain ⟨h3,h4⟩:=hp.again hT hσ hn' hm hi h1
         refine ⟨h3,?_⟩
         obtain ⟨tm',h5,h6,h7⟩:=putT_hid h2 (hr.tm.ext hσ hn') hwf hdo (hh.goes hfr)
         exact xschT_sound hT n hlen hnd hdr h5 ⟨h6,hm⟩ h7 h1 h4 (fun p hpm=>h3 p (List.mem_filter.1 hpm).1 (by simpa using (List.mem_filter.1 hpm).2)) hk
      have skip : ∀ tm,Rel C tm ob σ G fp a w→Hid C full hs' sil β tm ob.length G fp a w→Region.wanted o (yielded full.toArray a.tmps)=false→(skipS C o pd tm ob fun pd tm ob=>xschT C full r hs' pd tm ob k) →
       ((isVal o.op=true∧∃ v,YO C.P full.toArray o a v w∧wpT C.P full.toArray (onlyN Q) n r sil (⟨i,a,v⟩ :: pend) (a.put o.dst v) w) ∨
        (isVal o.op=false∧wpOp C.P full.toArray (onlyN Q) i (fun a' w'=>(∀ p∈pend,tdB full.toArray i p.i=false→YW C.P full.toArray p w')∧wpT C.P full.toArray (onlyN Q) n r sil (pend.filter fun p=>!tdB full.toArray i p.i) a' w') a w)):=by
       intro tm hr hh hw hxr
       unfold skipS at hxr
       obtain ⟨tm',h2,h3,h4⟩:=putT_hid (σ:=σ) hxr hr.tm (x:=.v undef) trivial hdo hh
       cases hv : isVal o.op with
       | true =>
         simp only [hv] at h2
         refine .inl ⟨rfl,undef,.inr ⟨hw,rfl⟩,xschT_sound hT n hlen hnd hdr h2 ⟨h3,hr.mem⟩ h4 hx ⟨hp.1,?_⟩ ?_ hk⟩
         ·intro p hpm
          rcases List.mem_cons.1 hpm with rfl|hpm
          ·exact .inl fun w'=>⟨o,hi,.inr ⟨hw,rfl⟩⟩
          ·exact hp.2 p hpm
         ·intro p hpm
          rcases List.mem_cons.1 hpm with rfl|hpm
          ·exact ⟨o,hi,.inr ⟨hw,rfl⟩⟩
          ·exact hpw p hpm
       | false =>
         simp only [hv] at h2
         refine .inr ⟨rfl,?_⟩
         unfold wpOp
         simp only [hi,hw,Bool.false_eq_true,if_false]
         have h5:=filtK_spec h2
         exact ⟨fun p hpm _=>hpw p hpm,xschT_sound hT n hlen hnd hdr h5 ⟨h3,hr.mem⟩ h4 (fun s hs=>hx s (filtL_sub hs)) (hp.filt hi) (fun p hpm=>hpw p (List.mem_filter.1 hpm).1) hk⟩
      have litH : ∀ {d : Nat} {b : Bool},look tm d=some (.v (.bool b))→Hid C full hs' sil β ((d,.v (.bool b)) :: tm) ob.length G fp a w:=by
       intro d b hl
       refine ⟨hh.op,fun g hg=>?_,hh.pw,hh.in_,hh.at_,hh.inj⟩
       rw [look_cons_ne fun e=>by have:=hh.free g hg;rw [← e,hl] at this;cases this]
       exact hh.free g hg
      cases hg : o.guard with
      | none =>
        simp only [hg] at h
        exact run tm hr hh (by simp [Region.wanted,hg]) h
      | some jw =>
        obtain ⟨j,want⟩:=jw
        simp only [hg] at h
        split at h
        ·rename_i g hj
         split at h
         ·rename_i d hd
          split at h
          ·rename_i b hl
           have hy:=yield_spec hr.tm hj hd hl
           have lit : Rel C ((d,.v (.bool b)) :: tm) ob σ G fp a w:=hr.lit hl
           split at h
           ·rw [xif_iff] at h
            cases b with
            | true=>exact run _ lit (litH hl) (by simp [Region.wanted,hg,hy]) (h.1 rfl)
            | false=>exact skip _ lit (litH hl) (by simp [Region.wanted,hg,hy]) (h.2 rfl)
           ·rw [xif_iff] at h
            cases b with
            | true=>exact skip _ lit (litH hl) (by simp [Region.wanted,hg,hy]) (h.1 rfl)
            | false=>exact run _ lit (litH hl) (by simp [Region.wanted,hg,hy]) (h.2 rfl)
          ·rename_i l hl
           have hy:=yield_none hr.tm hj hd hl
           exact skip _ hr hh (by simp [Region.wanted,hg,hy]) h
          ·exact h.elim
         ·exact h.elim
        ·exact h.elim
def silK (C : Ctx) (full : List Oper) : List Nat → (List Sil → Prop) → Prop
 | [],k=>k []
 | s :: r,k=>match nth full s with
   | some o=>match o.op,o.dst with
     | .alloc t,some d=>match lookT C.T t with
       | some ti=>match Nat.ble (d + 1) C.n with
         | true=>silK C full r fun hs=>k (⟨s,d,t,ti.zero⟩ :: hs)
         | false=>False
       | none=>False
     | _,_=>False
   | none=>False
def dropK (d : Nat) : List (Nat × SV) → (List (Nat × SV) → Prop) → Prop
 | [],k=>k []
 | p :: r,k=>match Nat.beq p.1 d with
   | true=>dropK d r k
   | false=>dropK d r fun r'=>k (p :: r')
def dropsK : List Sil → List (Nat × SV) → (List (Nat × SV) → Prop) → Prop
 | [],tm,k=>k tm
 | h :: r,tm,k=>dropK h.d tm fun tm=>dropsK r tm k
def chkD (ops : Array Oper) (sch sil : List Nat) : Bool :=
 Region.noSelect ops && Nat.beq (sch.length + sil.length) ops.size && decide (sch ++ sil).Nodup && ((List.range ops.size).all fun j=>(sch ++ sil).contains j) && ((sch ++ sil).all fun j=>Nat.blt j ops.size) && chkT ops sil sch &&
  (sil.all fun s=>match ops[s]? with
   | some o=>o.after.isEmpty && o.guard.isNone && (match o.op with|.alloc _=>true|_=>false)
   | none=>false) &&
  ((sch ++ sil).all fun i=>sil.all fun s=>i == s || (match ops[i]?,ops[s]? with
   | some o,some o'=>o.dst != o'.dst
   | _,_=>false))
theorem dropK_spec {d : Nat} : ∀ {tm : List (Nat × SV)} {k : List (Nat × SV) → Prop}, dropK d tm k → ∃ tm', k tm' ∧ look tm' d = none ∧ ∀ t x, look tm' t = some x → look tm t = some x
 | [],k,h=>⟨[],h,rfl,fun _ _ h=>h⟩
 | p :: r,k,h=>by
   unfold dropK at h
   split at h
   ·rename_i e
    have e:=Nat.eq_of_beq_eq_true e
    obtain ⟨tm',h1,h2,h3⟩:=dropK_spec h
    refine ⟨tm',h1,h2,fun t x hx=>?_⟩
    have hne : p.1 ≠ t:=fun e'=>by rw [← e',e,h2] at hx;cases hx
    rw [show p=(p.1,p.2) from rfl,look_cons_ne hne]
    exact h3 t x hx
   ·rename_i e
    obtain ⟨tm',h1,h2,h3⟩:=dropK_spec h
    have hne : p.1 ≠ d:=fun e'=>by simp [e'] at e
    refine ⟨p :: tm',h1,by rw [show p=(p.1,p.2) from rfl,look_cons_ne hne];exact h2,fun t x hx=>?_⟩
    by_cases hpt : p.1=t
    ·unfold look at hx ⊢
     simp only [hpt,Nat.beq_refl] at hx ⊢
     exact hx
    ·rw [show p=(p.1,p.2) from rfl,look_cons_ne hpt] at hx ⊢
     exact h3 t x hx
theorem dropsK_spec : ∀ {hs : List Sil} {tm : List (Nat × SV)} {k : List (Nat × SV) → Prop}, dropsK hs tm k → ∃ tm', k tm' ∧ (∀ h ∈ hs, look tm' h.d = none) ∧ ∀ t x, look tm' t = some x → look tm t = some x
 | [],tm,k,h=>⟨tm,h,by simp,fun _ _ h=>h⟩
 | g :: r,tm,k,h=>by
   unfold dropsK at h
   obtain ⟨tm1,h1,h2,h3⟩:=dropK_spec h
   obtain ⟨tm2,h4,h5,h6⟩:=dropsK_spec h1
   refine ⟨tm2,h4,fun q hm=>?_,fun t x hx=>h3 t x (h6 t x hx)⟩
   rcases List.mem_cons.1 hm with e|hm
   ·rw [e]
    cases hq : look tm2 g.d with
    | none=>rfl
    | some x=>rw [h6 _ _ hq] at h2;cases h2
   ·exact h5 q hm
theorem silK_spec {full : List Oper} : ∀ {l : List Nat} {k : List Sil → Prop}, silK C full l k → ∃ hs, k hs ∧ hs.map (·.s) = l ∧ ∀ h ∈ hs, ∃ o ti, full.toArray[h.s]? = some o ∧ o.op = .alloc h.t ∧ o.dst = some h.d ∧ lookT C.T h.t = some ti ∧ ti.zero = h.zs ∧ h.d < C.n
 | [],k,h=>⟨[],h,rfl,by simp⟩
 | s :: r,k,h=>by
   unfold silK at h
   split at h
   ·rename_i o ho
    split at h
    ·rename_i t d hop hd
     split at h
     ·rename_i ti hti
      split at h
      ·rename_i hle
       obtain ⟨hs,h1,h2,h3⟩:=silK_spec h
       refine ⟨_,h1,by simp [h2],fun g hg=>?_⟩
       rcases List.mem_cons.1 hg with rfl|hg
       ·exact ⟨o,ti,by simpa [nth_eq] using ho,hop,hd,hti,rfl,Nat.le_of_ble_eq_true hle⟩
       ·exact h3 g hg
      ·exact h.elim
     ·exact h.elim
    ·exact h.elim
   ·exact h.elim
@[irreducible] def DrawS (C : Ctx) (ops : Array Oper) (sch sil : List Nat) (tm : List (Nat × SV)) (ob : List OB) (K : Kx) : Prop :=
 chkD ops sch sil=true∧silK C ops.toList sil fun hs=>dropsK hs tm fun tm=>xschT C ops.toList sch hs [] tm ob fun tm ob=>K .normal tm ob
theorem DrawS_i {K : Kx} {tm : List (Nat × SV)} {ops : Array Oper} {sch sil : List Nat} (hc : chkD ops sch sil = true) (h : silK C ops.toList sil fun hs => dropsK hs tm fun tm => xschT C ops.toList sch hs [] tm ob fun tm ob => K .normal tm ob) : DrawS C ops sch sil tm ob K := by
 unfold DrawS
 exact ⟨hc,h⟩
theorem DrawX_ofS {K : Kx} {tm : List (Nat × SV)} {ops : Array Oper} (hT : TabOk C.P C.T) (sch sil : List Nat) (hm : C.P.follows .mixedOrders = true) (h : DrawS C ops sch sil tm ob K) : DrawX C ops tm ob K := by
 unfold DrawS at h
 obtain ⟨hc,h⟩:=h
 unfold DrawX
 intro id σ G fp a w hr
 simp only [chkD,Bool.and_eq_true] at hc
 obtain ⟨⟨⟨⟨⟨⟨⟨c1,c2⟩,c3⟩,c4⟩,c8⟩,c5⟩,c6⟩,c7⟩:=hc
 have c2:=Nat.eq_of_beq_eq_true c2
 have c3:=of_decide_eq_true c3
 obtain ⟨hs,h1,h2,h3⟩:=silK_spec h
 obtain ⟨tm',h4,h5,h6⟩:=dropsK_spec h1
 have hnd:=c3
 rw [List.nodup_append] at hnd
 have hmem : ∀ g∈hs,g.s∈sil:=fun g hg=>by rw [← h2];exact List.mem_map_of_mem hg
 have hr' : Rel C tm' ob σ G fp a w.drew:=⟨⟨hr.tm.size,hr.tm.defers,fun t x hx=>hr.tm.val t x (h6 t x hx)⟩,hr.mem.drew⟩
 have hsil : ∀ s∈sil,∃ o,ops[s]? = some o∧o.after = #[]∧o.guard=none:=by
  intro s hs
  have:=List.all_eq_true.1 c6 s hs
  cases ho : ops[s]? with
  | none=>simp [ho] at this
  | some o=>simp only [ho,Bool.and_eq_true,Array.isEmpty_iff,Option.isNone_iff_eq_none] at this;exact ⟨o,rfl,this.1.1,this.1.2⟩
 have hH : Hid C ops.toList hs sil (fun _=>0) tm' ob.length G fp a w.drew:=by
  refine ⟨fun g hg=>?_,h5,?_,fun s hs'=>?_,fun g hg hn=>(hn (hmem g hg)).elim,fun g hg _ _ hn=>(hn (hmem g hg)).elim⟩
  ·obtain ⟨o,ti,e1,e2,e3,e4,e5,e6⟩:=h3 g hg
   obtain ⟨o',e7,e8,e9⟩:=hsil g.s (hmem g hg)
   have : o=o':=by
    have e1' : ops[g.s]? = some o:=by simpa using e1
    rw [e1'] at e7
    simpa using e7
   subst this
   exact ⟨o,ti,e1,e2,e3,e9,e4,e5,e6⟩
  ·have hsn : (hs.map (·.s)).Nodup:=by rw [h2];exact hnd.2.1
   rw [List.Nodup,List.pairwise_map] at hsn
   refine hsn.imp_of_mem fun {g g'} hg hg' hne=>⟨hne,fun e=>?_⟩
   have:=List.all_eq_true.1 (List.all_eq_true.1 c7 g.s (List.mem_append_right _ (hmem g hg))) g'.s (hmem g' hg')
   obtain ⟨o,_,e1,_,e3,_⟩:=h3 g hg
   obtain ⟨o',_,e1',_,e3',_⟩:=h3 g' hg'
   have e1 : ops[g.s]? = some o:=by simpa using e1
   have e1' : ops[g'.s]? = some o':=by simpa using e1'
   simp [e1,e1',hne,e3,e3',e] at this
  ·rw [← h2] at hs'
   obtain ⟨g,hg,e⟩:=List.mem_map.1 hs'
   exact ⟨g,hg,e⟩
 have hT2:=xschT_sound hT (full:=ops.toList) (pend:=[]) (Q:=post C K .normal) (sch.length + sil.length) rfl hnd.2.1 (fun i hi o ho g hg e=>by
  have:=List.all_eq_true.1 (List.all_eq_true.1 c7 i (List.mem_append_left _ hi)) g.s (hmem g hg)
  obtain ⟨o',_,e1,_,e3,_⟩:=h3 g hg
  have e1 : ops[g.s]? = some o':=by simpa using e1
  have ho : ops[i]? = some o:=by simpa using ho
  have hne : i ≠ g.s:=fun e'=>hnd.2.2 i hi g.s (hmem g hg) e'
  simp [e1,ho,hne,e3,e] at this) h4 hr' hH (by intro s hs;simp at hs) ⟨by intro s hs;simp at hs,by intro p hp;simp at hp⟩ (by simp) fun tm ob σ G fp a w hk hr=>⟨tm,ob,σ,G,fp,hk,hr⟩
 have hV:=wpV_of_T (ops:=ops) (listed:=Array.replicate ops.size false) (Q:=onlyN (post C K .normal)) c1 (fun c a w h=>h) (sil0:=sil) (fun s hs=>by obtain ⟨o,e1,e2,_⟩:=hsil s hs;exact ⟨o,e1,e2⟩) (sch.length + sil.length) rfl c5 (fun s hs=>hs) c3 (by simp) closed_none (fun j=>?_) (pend:=[]) (fun p hp=>by cases hp) hT2
 ·rw [c2] at hV
  refine wp_mono (wp_region_any hm (wpAny_of_V _ hV)) ?_
  intro e a w h
  cases e<;>first|exact h|exact h.elim
 ·by_cases hj : j < ops.size
  ·have:=List.all_eq_true.1 c4 j (List.mem_range.2 hj)
   simp at this
   simp [hj,this]
  ·have : j ∉ sch ++ sil:=by
    intro hj'
    have:=List.all_eq_true.1 c8 j hj'
    exact hj (by simpa using this)
   simp only [List.mem_append] at this
   simp [hj,this]
def isSil (o : Oper) : Bool := match o.op, o.after.toList, o.guard with
 | .alloc _,[],none=>true
 | _,_,_=>false
def splitK : List (Nat × Oper) → (List Nat → List (Nat × Oper) → Prop) → Prop
 | [],k=>k [] []
 | (i,o) :: r,k=>match isSil o with
   | true=>splitK r fun s m=>k (i :: s) m
   | false=>splitK r fun s m=>k s ((i,o) :: m)
def canonT : Nat → List (Nat × Oper) → List Nat → List Nat → (List Nat → Prop) → Prop
 | 0,_,_,acc,k=>force acc.reverse k
 | f + 1,rem,done,acc,k=>takeK true done rem (fun i r=>canonT f r (i :: done) (i :: acc) k) fun _=>takeK false done rem (fun i r=>canonT f r (i :: done) (i :: acc) k) fun _=>force acc.reverse k
theorem splitK_spec : ∀ {l : List (Nat × Oper)} {k : List Nat → List (Nat × Oper) → Prop}, splitK l k → ∃ s m, k s m
 | [],k,h=>⟨_,_,h⟩
 | (i,o) :: r,k,h=>by
   unfold splitK at h
   split at h
   ·obtain ⟨s,m,h1⟩:=splitK_spec h
    exact ⟨_,_,h1⟩
   ·obtain ⟨s,m,h1⟩:=splitK_spec h
    exact ⟨_,_,h1⟩
theorem canonT_spec : ∀ {f : Nat} {rem : List (Nat × Oper)} {done acc : List Nat} {k : List Nat → Prop}, canonT f rem done acc k → ∃ sch, k sch
 | 0,rem,done,acc,k,h=>by
   unfold canonT at h
   rw [force_eq] at h
   exact ⟨_,h⟩
 | f + 1,rem,done,acc,k,h=>by
   unfold canonT at h
   rcases takeK_spec h with ⟨i,r,h1⟩|h1
   ·exact canonT_spec h1
   ·rcases takeK_spec h1 with ⟨i,r,h2⟩|h2
    ·exact canonT_spec h2
    ·rw [force_eq] at h2
     exact ⟨_,h2⟩
theorem DrawX_s {K : Kx} {tm : List (Nat × SV)} {ops : Array Oper} (hT : TabOk C.P C.T) (hm : C.P.follows .mixedOrders = true) (h : splitK (zipL lits ops.toList) fun sil rem => canonT ops.size rem sil [] fun sch => DrawS C ops sch sil tm ob K) : DrawX C ops tm ob K := by
 obtain ⟨sil,rem,h1⟩:=splitK_spec h
 obtain ⟨sch,h2⟩:=canonT_spec h1
 exact DrawX_ofS hT sch sil hm h2
end
end Go.Proofs.YtkflmidichikjaaGreatDoor.V
end
