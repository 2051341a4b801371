import Derived.Test.YtkflmidichikjaaGreatDoorZSystemReplays08
set_option linter.all false
section
namespace Go.Proofs.YtkflmidichikjaaGreatDoor.V
open Go.RowKit
abbrev CF (P : Program) (f : FuncId) (al : Bool) (args : List SV) (r : SV) (os : List OB) : Prop := CM P f al args [] (fun _ : Unit => r) (fun _ => os)
mutual
theorem ren_clean (r : List Nat) : ∀ x : SV, x.nm 0 → x.ren r = x
 | .v _,_=>rfl
 | .p _ _,h=>(Nat.not_lt_zero _ h).elim
 | .a l,h=>by simp only [SV.ren,rens_clean r l h]
 | .t l,h=>by simp only [SV.ren,rens_clean r l h]
 | .fn _ l,h=>by simp only [SV.ren,rens_clean r l h]
 | .sl _ _ _ _ _,h=>(Nat.not_lt_zero _ h).elim
 | .sq _ _ _ _,h=>(Nat.not_lt_zero _ h).elim
 | .fz _ _ _ _,_=>rfl
 | .fa _ _,_=>rfl
theorem rens_clean (r : List Nat) : ∀ l : List SV, SV.nms 0 l → SV.rens r l = l
 | [],_=>rfl
 | x :: l,h=>by simp only [SV.rens,ren_clean r x h.1,rens_clean r l h.2]
end
section
variable {C : Ctx} {tm : List (Nat × SV)} {ob : List OB} {f : FuncId} {args : List SV} {k : SV → List OB → Prop}
theorem CallX_cf {al : Bool} {r : SV} {os : List OB} (h : CF C.P f al args r os) (hk : retM ob [] r os k) (hd : C.d = false := by rfl) : CallX C f args ob k :=
 CallX_m h [] (rens_clean [] args h.1).symm trivial List.nodup_nil (fun _=>hk) hd
structure ViewE (i n : Nat) (els : List (List DV)) (k : List (List DV) → Prop) : Prop where
 out : i + n≤els.length∧k ((els.drop i).take n)
theorem view_w {n : Nat} {els : List (List DV)} {k : List (List DV) → Prop} (hn : n = els.length) (h : k els) : ViewE 0 n els k := ⟨by omega, by subst hn; simpa using h⟩
theorem view_p {i n : Nat} {els : List (List DV)} {k : List (List DV) → Prop} (hn : i + n ≤ els.length) (h : k ((els.drop i).take n)) : ViewE i n els k := ⟨hn, h⟩
theorem view_pf {α : Type} {enc : α → List Value} {X : List α} {i n : Nat} {k : List (List DV) → Prop} (hn : i + n ≤ X.length) (h : k (fl enc ((X.drop i).take n))) : ViewE i n (fl enc X) k := ⟨by rw [fl_len]; exact hn, by simpa [fl, List.map_take, List.map_drop] using h⟩
mutual
def viewK0 (φ : SV → Option Addr × Nat) (ob : List OB) : SV → (SV → Prop) → Prop
 | .v x,k=>k (.v x)
 | .p j off,k=>match off with
   | 0=>match nth ob j with
     | some (.box _ cs)=>match toD cs,ones cs with
       | some ds,true=>force ds fun ds=>k (.fa ((φ (.p j 0)).1.getD ⟨0,0,none⟩) ds)
       | _,_=>False
     | _=>False
   | _ + 1=>False
 | .a l,k=>viewKs0 φ ob l fun l=>k (.a l)
 | .t _,_=>False
 | .fn f l,k=>viewKs0 φ ob l fun l=>k (.fn f l)
 | .sl j p i n sz,k=>match nth ob j with
   | some (.row _ _ sz' els)=>match Nat.beq sz' sz with
     | true=>ViewE i n els fun els=>k (.fz (φ (.sl j p i n sz)).1 (φ (.sl j p i n sz)).2 sz els)
     | false=>False
   | _=>False
 | .sq _ _ _ _,_=>False
 | .fz A c sz els,k=>k (.fz A c sz els)
 | .fa ad x,k=>k (.fa ad x)
def viewKs0 (φ : SV → Option Addr × Nat) (ob : List OB) : List SV → (List SV → Prop) → Prop
 | [],k=>k []
 | x :: r,k=>viewK0 φ ob x fun x=>viewKs0 φ ob r fun r=>k (x :: r)
end
noncomputable def viewK (φ : SV → Option Addr × Nat) (ob : List OB) (x : SV) : (SV → Prop) → Prop :=
 SV.rec (motive_1:=fun _=>(SV→Prop)→Prop) (motive_2:=fun _=>(List SV→Prop)→Prop)
  (fun x k=>k (.v x))
  (fun j off k=>match off with
   | 0=>match nth ob j with
     | some (.box _ cs)=>match toD cs,ones cs with
       | some ds,true=>force ds fun ds=>k (.fa ((φ (.p j 0)).1.getD ⟨0,0,none⟩) ds)
       | _,_=>False
     | _=>False
   | _ + 1=>False)
  (fun _ ih k=>ih fun l=>k (.a l))
  (fun _ _ _=>False)
  (fun f _ ih k=>ih fun l=>k (.fn f l))
  (fun j p i n sz k=>match nth ob j with
   | some (.row _ _ sz' els)=>match Nat.beq sz' sz with
     | true=>ViewE i n els fun els=>k (.fz (φ (.sl j p i n sz)).1 (φ (.sl j p i n sz)).2 sz els)
     | false=>False
   | _=>False)
  (fun _ _ _ _ _=>False)
  (fun A c sz els k=>k (.fz A c sz els))
  (fun ad x k=>k (.fa ad x))
  (fun k=>k [])
  (fun _ _ ix ir k=>ix fun x=>ir fun r=>k (x :: r)) x
noncomputable def viewKs (φ : SV → Option Addr × Nat) (ob : List OB) (x : List SV) : (List SV → Prop) → Prop :=
 SV.rec_1 (motive_1:=fun _=>(SV→Prop)→Prop) (motive_2:=fun _=>(List SV→Prop)→Prop)
  (fun x k=>k (.v x))
  (fun j off k=>match off with
   | 0=>match nth ob j with
     | some (.box _ cs)=>match toD cs,ones cs with
       | some ds,true=>force ds fun ds=>k (.fa ((φ (.p j 0)).1.getD ⟨0,0,none⟩) ds)
       | _,_=>False
     | _=>False
   | _ + 1=>False)
  (fun _ ih k=>ih fun l=>k (.a l))
  (fun _ _ _=>False)
  (fun f _ ih k=>ih fun l=>k (.fn f l))
  (fun j p i n sz k=>match nth ob j with
   | some (.row _ _ sz' els)=>match Nat.beq sz' sz with
     | true=>ViewE i n els fun els=>k (.fz (φ (.sl j p i n sz)).1 (φ (.sl j p i n sz)).2 sz els)
     | false=>False
   | _=>False)
  (fun _ _ _ _ _=>False)
  (fun A c sz els k=>k (.fz A c sz els))
  (fun ad x k=>k (.fa ad x))
  (fun k=>k [])
  (fun _ _ ix ir k=>ix fun x=>ir fun r=>k (x :: r)) x
mutual
theorem viewK_eq {φ : SV → Option Addr × Nat} : ∀ (x : SV) (k : SV → Prop), viewK φ ob x k = viewK0 φ ob x k
 | .v _,k=>rfl
 | .p _ 0,k=>rfl
 | .p _ (_ + 1),k=>rfl
 | .a l,k=>viewKs_eq l _
 | .t l,k=>rfl
 | .fn _ l,k=>viewKs_eq l _
 | .sl _ _ _ _ _,k=>rfl
 | .sq _ _ _ _,k=>rfl
 | .fz _ _ _ _,k=>rfl
 | .fa _ _,k=>rfl
theorem viewKs_eq {φ : SV → Option Addr × Nat} : ∀ (x : List SV) (k : List SV → Prop), viewKs φ ob x k = viewKs0 φ ob x k
 | [],k=>rfl
 | x :: l,k=>by
   show viewK φ ob x (fun x=>viewKs φ ob l fun l=>k (x :: l))=_
   rw [viewK_eq x]
   unfold viewKs0
   congr 1
   funext y
   exact viewKs_eq l _
end
def allG (w : World) : Fz := fun b => w.heap[b]?
def slA (v : Value) : Option Addr × Nat := match v with
 | .slice A _ c=>(A,c)
 | .pointer A=>(A,0)
 | _=>(none,0)
theorem Rds.rd {w : World} {A : Option Addr} {n c sz : Nat} {els : List (List DV)} {G : Fz} (h : Rds G w A n sz els) (hG : G.le (allG w)) (hc : n ≤ c) (hb : ∀ b o, A = some ⟨b, o, none⟩ → n ≠ 0 → ∃ cs ty fz, w.heap[b]? = some (.cells cs ty fz)) : (DV.fz sz els).rd (allG w) (.slice A n c) := by
 obtain ⟨h1,h2,h3⟩:=h
 subst h1
 refine ⟨A,c,rfl,hc,fun hne=>?_⟩
 have hn : els.length ≠ 0:=fun h=>hne (List.eq_nil_of_length_eq_zero h)
 obtain ⟨b,o,xs,rfl,h4,h5⟩:=h3 hn
 obtain ⟨cs,ty,fz,h6⟩:=hb b o rfl hn
 refine ⟨b,o,cs,ty,fz,rfl,h6,rdE_of (rdLL_mono hG h4) h2 fun j v hj=>?_⟩
 have:=h5 j v hj
 simpa [World.cell?,h6] using this
theorem row_cells {w : World} {σ : Nat → Nat} {G : Fz} {fp : Nat → Nat → Prop} (hm : Mem C σ G fp ob w) {j e sz : Nat} {ro : Bool} {els : List (List DV)} (h : nth ob j = some (.row ro e sz els)) (hne : els ≠ []) : ∃ b o cs ty fz, dA (σ j) = some ⟨b, o, none⟩ ∧ w.heap[b]? = some (.cells cs ty fz) := by
 rw [nth_eq] at h
 have ha:=hm.at_ j _ h
 cases ro with
 | true =>
   obtain ⟨A,c,h1,h2,h4⟩:=ha.1
   obtain ⟨b,o,cs,ty,fz,h5,h6,_⟩:=h4 hne
   cases h1
   exact ⟨b,o,cs,ty,fz,h5,(hm.fz b _ h6).1⟩
 | false =>
   rcases (ha : RowAt _ _ _ _ _ _ _ _).at_ with ⟨h0,_⟩|⟨g,o,cs,xs,h1,⟨fz,h2,_⟩,_⟩
   ·have:=(ha : RowAt _ _ _ _ _ _ _ _).cap.1
    exact (hne (List.eq_nil_of_length_eq_zero (by omega))).elim
   ·exact ⟨g,o,cs,e,_,h1,h2⟩
theorem view_spec {w : World} {σ : Nat → Nat} {G : Fz} {fp : Nat → Nat → Prop} (hm : Mem C σ G fp ob w) {j p i n sz e : Nat} {ro : Bool} {els : List (List DV)} (h : nth ob j = some (.row ro e sz els)) (hi : i + n ≤ els.length) :
 (SV.fz (slA ((SV.sl j p i n sz).val σ)).1 (slA ((SV.sl j p i n sz).val σ)).2 sz ((els.drop i).take n)).val σ=(SV.sl j p i n sz).val σ∧(SV.fz (slA ((SV.sl j p i n sz).val σ)).1 (slA ((SV.sl j p i n sz).val σ)).2 sz ((els.drop i).take n)).wf ⟨allG w,0⟩:=by
 obtain ⟨h1,h2,_⟩:=hm.row h
 have h3:=h1.part (p:=p) h2 hi
 have hn : ((els.drop i).take n).length=n:=by simp;omega
 refine ⟨by simp only [SV.val,slA,hn],?_⟩
 show (DV.fz sz _).rd (allG w) (.slice _ _ _)
 rw [hn]
 simp only [SV.val,slA]
 refine h3.rd (fun b o hb=>(hm.fz b o hb).1) (by omega) (fun b o hA hn0=>?_)
 ·obtain ⟨b',o',cs,ty,fz,h4,h5⟩:=row_cells hm h (fun h=>by simp [h] at hi;omega)
  simp [cutP,h4] at hA
  rw [← hA.1]
  exact ⟨cs,ty,fz,h5⟩
theorem rdC_at {G : Fz} {cs : Array Value} : ∀ {ds : List DV} {l : List Value} {o : Nat}, rdL G ds l → (∀ i v, l[i]? = some v → cs[o + i]? = some v) → DV.rdC G ds cs o
 | [],_,_,_,_=>trivial
 | _ :: _,[],_,h,_=>h.elim
 | d :: ds,y :: l,o,h,hc=>⟨⟨y,by simpa using hc 0 y rfl,h.1⟩,rdC_at h.2 fun i v hv=>by rw [show o + 1 + i=o + (i + 1) by omega];exact hc (i + 1) v (by simpa using hv)⟩
theorem view_box {w : World} {σ : Nat → Nat} {G : Fz} {fp : Nat → Nat → Prop} (hm : Mem C σ G fp ob w) {j : Nat} {t : TypeId} {cs : List SV} {ds : List DV} (h : nth ob j = some (.box t cs)) (hd : toD cs = some ds) (ho : ones cs = true) : rdAt (allG w) ⟨σ j, 0, none⟩ ds := by
 obtain ⟨h1,_,h3,_⟩:=nth_box hm h
 refine ⟨σ j,0,_,_,_,rfl,h1,?_⟩
 refine DV.rdC_mono (G:=G) (fun b o hb=>(hm.fz b o hb).1) ds _ 0 (rdC_at (toD_spec (σ:=σ) hd ho h3) fun i v hv=>?_)
 simpa using hv
mutual
theorem viewK_spec {w : World} {σ : Nat → Nat} {G : Fz} {fp : Nat → Nat → Prop} {n : Nat} (hm : Mem C σ G fp ob w) : ∀ {x : SV} {k : SV → Prop}, viewK0 (fun x => slA (x.val σ)) ob x k → x.wf ⟨G, n⟩ → ∃ y, k y ∧ y.val σ = x.val σ ∧ y.wf ⟨allG w, 0⟩
 | .v x,k,h,_=>by unfold viewK0 at h;exact ⟨_,h,rfl,trivial⟩
 | .p j off,k,h,_=>by
   unfold viewK0 at h
   split at h
   ·split at h
    ·rename_i cs hj
     split at h
     ·rename_i ds hd ho
      rw [force_eq] at h
      exact ⟨_,h,rfl,view_box hm hj hd ho⟩
     ·exact h.elim
    ·exact h.elim
   ·exact h.elim
 | .a l,k,h,hw=>by
   unfold viewK0 at h
   obtain ⟨m,h1,h2,h3⟩:=viewKs_spec hm h hw
   exact ⟨_,h1,by simp only [SV.val,h2],h3⟩
 | .t _,k,h,_=>by unfold viewK0 at h;exact h.elim
 | .fn f l,k,h,hw=>by
   unfold viewK0 at h
   obtain ⟨m,h1,h2,h3⟩:=viewKs_spec hm h hw
   exact ⟨_,h1,by simp only [SV.val,h2],h3⟩
 | .sl j p i m sz,k,h,_=>by
   unfold viewK0 at h
   split at h
   ·rename_i ro e sz' els hj
    split at h
    ·rename_i hb
     have:=Nat.eq_of_beq_eq_true hb
     subst this
     obtain ⟨h1,h2⟩:=h.out
     obtain ⟨h3,h4⟩:=view_spec (p:=p) hm hj h1
     exact ⟨_,h2,h3,h4⟩
    ·exact h.elim
   ·exact h.elim
 | .sq _ _ _ _,k,h,_=>by unfold viewK0 at h;exact h.elim
 | .fz A c sz els,k,h,hw=>by unfold viewK0 at h;exact ⟨_,h,rfl,SV.wf_mono (E:=⟨G,0⟩) (E':=⟨allG w,0⟩) ⟨fun b o hb=>(hm.fz b o hb).1,Nat.le_refl _⟩ (.fz A c sz els) hw⟩
 | .fa ad x,k,h,hw=>by unfold viewK0 at h;exact ⟨_,h,rfl,SV.wf_mono (E:=⟨G,0⟩) (E':=⟨allG w,0⟩) ⟨fun b o hb=>(hm.fz b o hb).1,Nat.le_refl _⟩ (.fa ad x) hw⟩
theorem viewKs_spec {w : World} {σ : Nat → Nat} {G : Fz} {fp : Nat → Nat → Prop} {n : Nat} (hm : Mem C σ G fp ob w) : ∀ {l : List SV} {k : List SV → Prop}, viewKs0 (fun x => slA (x.val σ)) ob l k → SV.wfs ⟨G, n⟩ l → ∃ m, k m ∧ SV.vals σ m = SV.vals σ l ∧ SV.wfs ⟨allG w, 0⟩ m
 | [],k,h,_=>by unfold viewKs0 at h;exact ⟨_,h,rfl,trivial⟩
 | x :: r,k,h,hw=>by
   unfold viewKs0 at h
   obtain ⟨y,h1,h2,h3⟩:=viewK_spec hm h hw.1
   obtain ⟨m,h4,h5,h6⟩:=viewKs_spec hm h1 hw.2
   exact ⟨_,h4,by simp only [SV.vals,h2,h5],h3,h6⟩
end
mutual
theorem viewK_ex {φ : SV → Option Addr × Nat} : ∀ {x : SV} {k : SV → Prop}, viewK0 φ ob x k → ∃ y, k y
 | .v x,k,h=>by unfold viewK0 at h;exact ⟨_,h⟩
 | .p j off,k,h=>by
   unfold viewK0 at h
   split at h
   ·split at h
    ·split at h
     ·rw [force_eq] at h
      exact ⟨_,h⟩
     ·exact h.elim
    ·exact h.elim
   ·exact h.elim
 | .a l,k,h=>by unfold viewK0 at h;obtain ⟨m,h1⟩:=viewKs_ex h;exact ⟨_,h1⟩
 | .t _,k,h=>by unfold viewK0 at h;exact h.elim
 | .fn f l,k,h=>by unfold viewK0 at h;obtain ⟨m,h1⟩:=viewKs_ex h;exact ⟨_,h1⟩
 | .sl j p i m sz,k,h=>by
   unfold viewK0 at h
   split at h
   ·split at h
    ·exact ⟨_,h.out.2⟩
    ·exact h.elim
   ·exact h.elim
 | .sq _ _ _ _,k,h=>by unfold viewK0 at h;exact h.elim
 | .fz A c sz els,k,h=>by unfold viewK0 at h;exact ⟨_,h⟩
 | .fa ad x,k,h=>by unfold viewK0 at h;exact ⟨_,h⟩
theorem viewKs_ex {φ : SV → Option Addr × Nat} : ∀ {l : List SV} {k : List SV → Prop}, viewKs0 φ ob l k → ∃ m, k m
 | [],k,h=>by unfold viewKs0 at h;exact ⟨_,h⟩
 | x :: r,k,h=>by
   unfold viewKs0 at h
   obtain ⟨y,h1⟩:=viewK_ex h
   obtain ⟨m,h2⟩:=viewKs_ex h1
   exact ⟨_,h2⟩
end
@[irreducible] def CallB (C : Ctx) (f : FuncId) (args : List SV) (ob : List OB) (k : SV → List OB → Prop) : Prop :=
 ∀ σ G fp w,Mem C σ G fp ob w→SV.wfs ⟨allG w,0⟩ args→CallsE C.P f (SV.vals σ args).toArray w fun e w'=>∃ v,e = .returned v∧Goes C ob.length σ G fp w k v w'
theorem CallX_v (h : ∀ φ, viewKs φ ob args fun args => CallB C f args ob k) : CallX C f args ob k := by
 unfold CallX
 intro σ G fp w hm hw
 obtain ⟨m,h1,h2,h3⟩:=viewKs_spec hm (by have:=h fun x=>slA (x.val σ);rwa [viewKs_eq] at this) hw
 unfold CallB at h1
 rw [← h2]
 exact h1 σ G fp w hm h3
theorem CallB_cf {r : SV} {os : List OB} (h : CF C.P f false args r os) (hk : retM ob [] r os k) (hd : C.d = false := by rfl) : CallB C f args ob k := by
 unfold CallB
 intro σ G fp w hm hw
 have:=CM.run h [] trivial List.nodup_nil (fun _=>hk) hd hm (allG w) (fun b o hb=>⟨hb,fun j hj=>by cases hj⟩) (fun b o hb=>(hm.fz b o hb).1) (fun h=>by cases h) hw
 rwa [SV.vals_ext (E:=⟨allG w,0⟩) (fun j hj=>by cases hj) args hw] at this
theorem CM.of {P : Program} {T : List TI} {fn : Func} {cd : Code} {al : Bool} {os0 : List OB} {ι : Type} {x : ι → SV} {os1 : ι → List OB} {m : Nat} (hf : P.funcs[f]? = some fn) (hb : fn.body = some cd) (hT : TabOk P T) (hname : (fn.name == "runtime.NumGoroutine") = false) (hl : Nat.ble args.length fn.ntmps = true) (hl' : Nat.ble args.length 300 = true)
 (hm : os0.length=m) (hw : SV.nms m args) (h : ∀ w M π G0,force (argsL lits args) fun tm=>force os0 fun ob=>xcode ⟨P,T,fn.ntmps,w,M,m,π,false,G0⟩ cd tm ob (endX ⟨P,T,fn.ntmps,w,M,m,π,false,G0⟩ (RetM P w M m π al G0 x os1) fn.results.toList)) : CM P f al args os0 x os1:=by
 subst hm
 refine ⟨hw,fun σ G fp w hM hw=>CallsE.of (Entr.of hf hname hb) ?_⟩
 exact calls_of_x (C:=⟨P,T,fn.ntmps,w,MOf os0.length fp,os0.length,σ,false,G⟩) (σ:=σ) (ob:=os0) hT hf hb rfl (Nat.le_of_ble_eq_true hl) hw (hM.ctx rfl rfl rfl rfl rfl rfl) (by have:=h w (MOf os0.length fp) σ G;rwa [force_eq,force_eq,argsL_eq (Nat.le_of_ble_eq_true hl')] at this)
mutual
/-- names, and no part of what was shown -/
def SV.own : SV → Prop
 | .fz _ _ _ _=>False
 | .fa _ _=>False
 | .a l=>SV.owns l
 | .t l=>SV.owns l
 | .fn _ l=>SV.owns l
 | _=>True
def SV.owns : List SV → Prop
 | []=>True
 | x :: r=>x.own∧SV.owns r
end
mutual
theorem wf_own {G G' : Fz} {n : Nat} : ∀ x : SV, x.wf ⟨G, n⟩ → x.own → x.wf ⟨G', n⟩
 | .v _,_,_=>trivial
 | .p _ _,h,_=>h
 | .a l,h,h'=>wfs_own l h h'
 | .t l,h,h'=>wfs_own l h h'
 | .fn _ l,h,h'=>wfs_own l h h'
 | .sl _ _ _ _ _,h,_=>h
 | .sq _ _ _ _,h,_=>h
 | .fz _ _ _ _,_,h=>h.elim
 | .fa _ _,_,h=>h.elim
theorem wfs_own {G G' : Fz} {n : Nat} : ∀ l : List SV, SV.wfs ⟨G, n⟩ l → SV.owns l → SV.wfs ⟨G', n⟩ l
 | [],_,_=>trivial
 | x :: l,h,h'=>⟨wf_own x h.1 h'.1,wfs_own l h.2 h'.2⟩
end
def flatD : List (List DV) → Prop := fun els => ∀ x ∈ els, ∀ d ∈ x, ∃ v, d = .v v
theorem flatD_fl {α : Type} (enc : α → List Value) (X : List α) : flatD (fl enc X) := by
 intro x hx d hd
 obtain ⟨a,_,rfl⟩:=List.mem_map.1 hx
 obtain ⟨v,_,rfl⟩:=List.mem_map.1 hd
 exact ⟨v,rfl⟩
def OB.own : OB → Prop
 | .box _ cs=>SV.owns cs
 | .row ro _ _ els=>ro=false∧flatD els
 | .res _=>False
theorem rdL_flat {G G' : Fz} : ∀ {x : List DV} {y : List Value}, rdL G x y → (∀ d ∈ x, ∃ v, d = .v v) → rdL G' x y
 | [],[],_,_=>trivial
 | [],_ :: _,h,_=>h.elim
 | _ :: _,[],h,_=>h.elim
 | x :: r,y :: l,h,hf=>by
   obtain ⟨v,rfl⟩:=hf x (by simp)
   exact ⟨⟨h.1.1,h.1.2⟩,rdL_flat h.2 fun d hd=>hf d (by simp [hd])⟩
theorem rdLL_flat {G G' : Fz} : ∀ {x : List (List DV)} {y : List (List Value)}, rdLL G x y → flatD x → rdLL G' x y
 | [],[],_,_=>trivial
 | [],_ :: _,h,_=>h.elim
 | _ :: _,[],h,_=>h.elim
 | x :: r,y :: l,h,hf=>⟨rdL_flat h.1 (hf x (by simp)),rdLL_flat h.2 fun e he=>hf e (by simp [he])⟩
theorem at_own {σ : Nat → Nat} {G G' : Fz} {n b : Nat} {w : World} {F : Nat → Prop} {o : OB} (h : o.at σ ⟨G, n⟩ w b F) (ho : o.own) : o.at σ ⟨G', n⟩ w b F := by
 cases o with
 | box t cs=>exact ⟨h.1,h.2.1,wfs_own _ h.2.2 ho⟩
 | row ro e sz els =>
   obtain ⟨rfl,hf⟩:=ho
   have h : RowAt G w e sz (dA b) (dC b) els F:=h
   refine ⟨h.cap,h.size,h.spot,?_⟩
   rcases h.at_ with h1|⟨g,o,cs,xs,h1,h2,h3,h4,h5⟩
   ·exact .inl h1
   ·exact .inr ⟨g,o,cs,xs,h1,h2,h3,rdLL_flat h4 hf,h5⟩
 | res R=>exact ho.elim
def OB.ownsB : List OB → Prop
 | []=>True
 | o :: r=>o.own∧OB.ownsB r
theorem ownsB_get : ∀ {l : List OB} {i : Nat} {o : OB}, OB.ownsB l → l[i]? = some o → o.own
 | [],_,_,_,h=>by simp at h
 | _ :: _,0,_,h,h'=>by simp at h';subst h';exact h.1
 | _ :: r,i + 1,_,h,h'=>ownsB_get h.2 (by simpa using h')
theorem Fin_o {P : Program} {T : List TI} {n m : Nat} {w : World} {M : Nat → Prop} {π : Nat → Nat} {G0 : Fz} {ι : Type} {x : ι → SV} {os1 : ι → List OB} {y : SV} (i : ι) (r : List Nat) (hy : y = (x i).ren r) (ho : entO r (os1 i).length ob r (os1 i)) (hnm : (x i).nm (os1 i).length) (hn : (x i).own) (hos : OB.ownsB (os1 i)) (hnd : r.Nodup) (hp : pinB m 0 r = true) :
 Fin ⟨P,T,n,w,M,m,π,false,G0⟩ (RetM P w M m π false G0 x os1) y ob:=by
 unfold Fin
 intro σ G fp w' hm hwf
 have h1:=(Mem.ren (C:=⟨P,T,n,w,M,m,π,false,G0⟩) ho hnd hp hm).ctx (C':=⟨P,[],0,w,M,m,π,false,G0⟩) rfl rfl rfl rfl rfl rfl
 subst hy
 refine ⟨i,_,fun _=>none,_,by rw [val_ren],wf_own _ (wf_nm _ hwf hnm) hn,⟨fun k o hk=>at_own (h1.at_ k o hk) (ownsB_get hos hk),h1.disj,h1.lo,h1.hi,h1.kept,(fun b o h=>by cases h),(fun b o h=>by cases h),h1.pin,h1.drw⟩,(fun _ b o h=>by cases h)⟩
theorem Fin_a {P : Program} {T : List TI} {n m : Nat} {w : World} {M : Nat → Prop} {π : Nat → Nat} {G0 : Fz} {ι : Type} {x : ι → SV} {os1 : ι → List OB} {y : SV} (i : ι) (r : List Nat) (hy : y = (x i).ren r) (ho : entO r (os1 i).length ob r (os1 i)) (hnm : (x i).nm (os1 i).length) (hnd : r.Nodup) (hp : pinB m 0 r = true) :
 Fin ⟨P,T,n,w,M,m,π,false,G0⟩ (RetM P w M m π true G0 x os1) y ob:=by
 unfold Fin
 intro σ G fp w' hm hwf
 have h1:=(Mem.ren (C:=⟨P,T,n,w,M,m,π,false,G0⟩) ho hnd hp hm).ctx (C':=⟨P,[],0,w,M,m,π,false,G0⟩) rfl rfl rfl rfl rfl rfl
 subst hy
 exact ⟨i,_,G,_,by rw [val_ren],wf_nm _ hwf hnm,h1,(fun h=>by cases h)⟩
end
end Go.Proofs.YtkflmidichikjaaGreatDoor.V
end
section
namespace Go.Proofs.YtkflmidichikjaaGreatDoor.V
open Go.RowKit
def dstsO : List Oper → List Nat
 | []=>[]
 | o :: r=>match o.dst with
   | some d=>d :: dstsO r
   | none=>dstsO r
noncomputable def asg (c : Code) : List Nat :=
 Code.rec (motive:=fun _=>List Nat) [] (fun _ ops _=>dstsO ops.toList) (fun _ _ a b=>a ++ b) (fun _ _ _ a b=>a ++ b) (fun _ _ a=>a) (fun _ a=>a) (fun _ _ _ _ a b=>a ++ b) (fun _=>[]) (fun _ a=>a) (fun _=>[]) (fun _=>[]) [] (fun _=>[]) c
mutual
def SV.ment (ks : List Nat) : SV → Bool
 | .sl k _ _ _ _=>memN k ks
 | .sq k _ _ _=>memN k ks
 | .a l=>SV.ments ks l
 | .t l=>SV.ments ks l
 | .fn _ l=>SV.ments ks l
 | _=>false
def SV.ments (ks : List Nat) : List SV → Bool
 | []=>false
 | x :: r=>match x.ment ks with
   | true=>true
   | false=>SV.ments ks r
end
def ment' (x : SV) : List Nat → Bool
 | []=>false
 | k :: ks=>x.ment (k :: ks)
def strip (as mv : List Nat) : List (Nat × SV) → List (Nat × SV)
 | []=>[]
 | (t,x) :: r=>match memN t as,ment' x mv with
   | false,false=>(t,x) :: strip (t :: as) mv r
   | _,_=>strip (t :: as) mv r
theorem memN_true {x : Nat} : ∀ {l : List Nat}, memN x l = true ↔ x ∈ l
 | []=>by simp [memN]
 | y :: r=>by
   unfold memN
   cases h : Nat.beq x y with
   | true=>simp [Nat.eq_of_beq_eq_true h]
   | false =>
     have : x ≠ y:=fun e=>by simp [e] at h
     simp [memN_true (l:=r),this]
theorem strip_spec {mv : List Nat} : ∀ {tm : List (Nat × SV)} {as : List Nat} {t : Nat} {x : SV}, look (strip as mv tm) t = some x → look tm t = some x ∧ t ∉ as
 | [],as,t,x,h=>by simp [strip,look] at h
 | (s,y) :: r,as,t,x,h=>by
   unfold strip at h
   have rest : look (strip (s :: as) mv r) t=some x→look ((s,y) :: r) t=some x∧t ∉ as:=by
    intro h
    obtain ⟨h1,h2⟩:=strip_spec h
    simp only [List.mem_cons,not_or] at h2
    refine ⟨?_,h2.2⟩
    unfold look
    have : Nat.beq s t=false:=by
     cases hb : Nat.beq s t with
     | true=>exact absurd (Nat.eq_of_beq_eq_true hb).symm h2.1
     | false=>rfl
    rw [this]
    exact h1
   split at h
   ·rename_i h1 h2
    unfold look at h
    split at h
    ·rename_i hb
     have hb:=Nat.eq_of_beq_eq_true hb
     subst hb
     simp at h
     subst h
     refine ⟨by simp [look],fun hm=>?_⟩
     rw [memN_true.2 hm] at h1
     cases h1
    ·exact rest h
   ·exact rest h
mutual
def fV : SV → SV → List Nat → List Nat
 | .sl k _ _ _ _,.sl k' _ _ _ _,r=>setN r k k'
 | .sq k _ _ _,.sq k' _ _ _,r=>setN r k k'
 | .p k _,.p k' _,r=>setN r k k'
 | .a l,.a m,r=>fVs l m r
 | .t l,.t m,r=>fVs l m r
 | .fn _ l,.fn _ m,r=>fVs l m r
 | _,_,r=>r
def fVs : List SV → List SV → List Nat → List Nat
 | x :: l,y :: m,r=>fVs l m (fV x y r)
 | _,_,r=>r
end
def fT (tm : List (Nat × SV)) : List (Nat × SV) → List Nat → List Nat
 | [],r=>r
 | (t,x) :: l,r=>match look tm t with
   | some y=>fT tm l (fV x y r)
   | none=>fT tm l r
def fO (ob : List OB) : List Nat → List OB → List Nat → List Nat
 | i :: is,o :: l,r=>match o,nth r i with
   | .box _ cs,some j=>match nth ob j with
     | some (.box _ cs')=>fO ob is l (fVs cs cs' r)
     | _=>fO ob is l r
   | _,_=>fO ob is l r
 | _,_,r=>r
def idL : List Nat → List OB → List Nat
 | m :: ms,_ :: l=>m :: idL ms l
 | _,_=>[]
def putsO : List (Nat × OB) → List OB → List OB
 | [],ob=>ob
 | (k,o) :: r,ob=>putsO r (setN ob k o)
def catT : List (Nat × SV) → List (Nat × SV) → List (Nat × SV)
 | [],l=>l
 | x :: r,l=>x :: catT r l
def ent0T (tm : List (Nat × SV)) : List (Nat × SV) → Prop
 | []=>True
 | (t,x) :: l=>(match look tm t with|some y=>y=x|none=>False)∧ent0T tm l
def ent0O (ob : List OB) : List (Nat × OB) → Prop
 | []=>True
 | (k,o) :: l=>(match nth ob k with|some o'=>o' = o|none=>False)∧ent0O ob l
theorem ent0T_spec {tm : List (Nat × SV)} : ∀ {l l0 : List (Nat × SV)} {t : Nat} {x : SV}, ent0T tm l → look (catT l l0) t = some x → look tm t = some x ∨ look l0 t = some x
 | [],l0,t,x,_,h=>.inr h
 | (s,y) :: r,l0,t,x,he,h=>by
   unfold catT look at h
   split at h
   ·rename_i hb
    have hb:=Nat.eq_of_beq_eq_true hb
    subst hb
    simp at h
    subst h
    have h1:=he.1
    split at h1
    ·rename_i z hz
     subst h1
     exact .inl hz
    ·exact h1.elim
   ·exact ent0T_spec he.2 h
theorem ent0O_spec : ∀ {l : List (Nat × OB)} {ob : List OB}, ent0O ob l → putsO l ob = ob
 | [],_,_=>rfl
 | (k,o) :: r,ob,he=>by
   unfold putsO
   have h1:=he.1
   split at h1
   ·rename_i z hz
    subst h1
    rw [nth_eq] at hz
    have : setN ob k z=ob:=by
     rw [setN_eq]
     apply List.ext_getElem?
     intro i
     rw [List.getElem?_set]
     split
     ·rename_i e
      subst e
      rw [hz]
      simp [(List.getElem?_eq_some_iff.1 hz).1]
     ·rfl
    rw [this]
    exact ent0O_spec he.2
   ·exact h1.elim
structure RoundE (C : Ctx) {α : Type} (J : α → Prop) (It : α → List (Nat × SV)) (Io : α → List OB) (μ : α → Nat) (x : α) (tm : List (Nat × SV)) (ob : List OB) : Prop where
 out : ∃ y r,J y∧Ent C.m r tm ob (It y) (Io y)∧μ y < μ x
def fT0 (tm ty : List (Nat × SV)) : List Nat → List Nat
 | []=>[]
 | a :: l=>fT tm ty (a :: l)
def fV0 (x y : SV) : List Nat → List Nat
 | []=>[]
 | a :: l=>fV x y (a :: l)
theorem round_i {C : Ctx} {α : Type} {J : α → Prop} {It : α → List (Nat × SV)} {Io : α → List OB} {μ : α → Nat} {x : α} {tm : List (Nat × SV)} {ob : List OB} (y : α) (hj : J y) (hμ : μ y < μ x)
 (he : force (It y) fun ty=>force (Io y) fun oy=>force (fO ob lits oy (fT0 tm ty (idL lits oy))) fun r=>Ent C.m r tm ob ty oy) : RoundE C J It Io μ x tm ob:=by
 simp only [force_eq] at he
 exact ⟨y,_,hj,he,hμ⟩
def roundX (C : Ctx) {α : Type} (J : α → Prop) (It : α → List (Nat × SV)) (Io : α → List OB) (μ : α → Nat) (x : α) (K : Kx) : Kx := fun e tm ob =>
 match e with
 | .normal=>RoundE C J It Io μ x tm ob
 | .exit i=>K (.exit i) tm ob
 | .ret=>K .ret tm ob
 | _=>False
theorem LoopX_c {C : Ctx} (hT : TabOk C.P C.T) {c : Code} {tm : List (Nat × SV)} {ob : List OB} {K : Kx} {α : Type} (mv : List Nat) (J : α → Prop) (Ct : α → List (Nat × SV)) (Co : α → List (Nat × OB)) (μ : α → Nat) (x0 : α) (hj : J x0) (ht : ent0T tm (Ct x0)) (ho : ent0O ob (Co x0))
 (hround : force (strip (asg c) mv tm) fun tm0=>∀ x,J x→force (catT (Ct x) tm0) fun tx=>force (putsO (Co x) ob) fun ox=>xcode C c tx ox (roundX C J (fun x=>catT (Ct x) tm0) (fun x=>putsO (Co x) ob) μ x K)) : LoopX C c tm ob K:=by
 simp only [force_eq] at hround
 unfold LoopX
 intro σ G fp a w hr
 refine wp_loop_ghost (fun n a w=>∃ x σ G fp,J x∧μ x=n∧Rel C (catT (Ct x) (strip (asg c) mv tm)) (putsO (Co x) ob) σ G fp a w) (μ x0) ⟨x0,σ,G,fp,hj,rfl,?_⟩ ?_
 ·rw [ent0O_spec ho]
  refine ⟨⟨hr.tm.size,hr.tm.defers,fun t x hx=>?_⟩,hr.mem⟩
  rcases ent0T_spec ht hx with h|h
  ·exact hr.tm.val t x h
  ·exact hr.tm.val t x (strip_spec h).1
 rintro n a w ⟨x,σ,G,fp,hj,rfl,hr⟩
 refine wp_mono (xcode_sound hT c (hround x hj) hr) ?_
 rintro e a' w' ⟨tm',ob',σ',G',fp',hk,hr'⟩
 cases e with
 | normal =>
   obtain ⟨y,r',hj',he,hlt⟩:=hk.out
   exact ⟨_,hlt,y,_,G',_,hj',rfl,he.rel hr'⟩
 | exit i=>exact ⟨tm',ob',σ',G',fp',hk,hr'⟩
 | ret=>exact ⟨tm',ob',σ',G',fp',hk,hr'⟩
 | goto l=>exact hk.elim
 | panic l=>exact hk.elim
 | outgrown=>exact hk.elim
section
variable {C : Ctx} {tm : List (Nat × SV)} {ob : List OB}
theorem Mem.nilRow {σ : Nat → Nat} {G : Fz} {fp : Nat → Nat → Prop} {w : World} (hm : Mem C σ G fp ob w) (e sz : Nat) : ∃ σ' fp', Mem C σ' G fp' (ob ++ [.row false e sz []]) w ∧ (∀ j, j < ob.length → σ' j = σ j) ∧ σ' ob.length = rowN none 0 := by
 have hrow : RowAt G w e sz none 0 [] (fun _=>False):=⟨⟨Nat.le_refl _,Nat.zero_le _⟩,by simp,by simp,.inl ⟨rfl,fun _ h=>h⟩⟩
 have hM:=hm.pushO (Below.refl _ _) (.row false e sz []) (rowN none 0) (fun _=>False) (Fz.refl _) (fun i o hi=>⟨(hm.fz i o hi).1,fun h=>h,.inl hi⟩) (by
  show RowAt G w e sz (dA (rowN none 0)) (dC (rowN none 0)) [] _
  rw [dA_rowN 0 (by simp),dC_rowN]
  exact hrow) (fun i h=>h.elim) (fun _=>Nat.le_refl _)
 exact ⟨_,_,hM,fun q hq=>by simp [show q ≠ ob.length by omega],by simp⟩
theorem LoopX_nil {c : Code} {K : Kx} (t e sz : Nat) (hl : look tm t = some (.v (.slice none 0 0)))
 (h : force (ob ++ [.row false e sz []]) fun ob'=>lenK lits ob (fun m=>LoopX C c ((t,.sl m 0 0 0 sz) :: tm) ob' K) False) : LoopX C c tm ob K:=by
 rw [force_eq] at h
 have h:=lenK_spec h
 unfold LoopX at *
 intro σ G fp a w hr
 obtain ⟨σ',fp',h1,h2,h3⟩:=hr.mem.nilRow e sz
 have ht:=hr.tm.ext (σ':=σ') (m:=⟨G,(ob ++ [OB.row false e sz []]).length⟩) h2 (Ev.same (by simp))
 refine h σ' G fp' a w ⟨⟨ht.size,ht.defers,fun s x hx=>?_⟩,h1⟩
 unfold look at hx
 split at hx
 ·rename_i hb
  have hb:=Nat.eq_of_beq_eq_true hb
  subst hb
  simp at hx
  subst hx
  refine ⟨?_,by simp [SV.wf]⟩
  rw [(hr.tm.val _ _ hl).1,val_new (A:=none) (c:=0) (by simp) h3]
  rfl
 ·exact ht.val s x hx
mutual
/-- a result's nil slices as rows -/
def mendK0 (os : List OB) : SV → SV → List OB → (SV → List OB → Prop) → Prop
 | .sl i _ _ _ sz,.v (.slice none 0 0),ob,k=>match nth os i with
   | some (.row _ e _ _)=>lenK lits ob (fun m=>force (ob ++ [.row false e sz []]) fun ob=>k (.sl m 0 0 0 sz) ob) False
   | _=>k (.v (.slice none 0 0)) ob
 | .a l,.a m,ob,k=>mendsK0 os l m ob fun m ob=>k (.a m) ob
 | .t l,.t m,ob,k=>mendsK0 os l m ob fun m ob=>k (.t m) ob
 | _,y,ob,k=>k y ob
def mendsK0 (os : List OB) : List SV → List SV → List OB → (List SV → List OB → Prop) → Prop
 | x :: l,y :: m,ob,k=>mendK0 os x y ob fun y ob=>mendsK0 os l m ob fun m ob=>k (y :: m) ob
 | _,m,ob,k=>k m ob
end
noncomputable def mendK (os : List OB) (x : SV) : SV → List OB → (SV → List OB → Prop) → Prop :=
 SV.rec (motive_1:=fun _=>SV→List OB→(SV→List OB→Prop)→Prop) (motive_2:=fun _=>List SV→List OB→(List SV→List OB→Prop)→Prop)
  (fun _ y ob k=>k y ob)
  (fun _ _ y ob k=>k y ob)
  (fun _ ih y ob k=>match y with
   | .a m=>ih m ob fun m ob=>k (.a m) ob
   | y=>k y ob)
  (fun _ ih y ob k=>match y with
   | .t m=>ih m ob fun m ob=>k (.t m) ob
   | y=>k y ob)
  (fun _ _ _ y ob k=>k y ob)
  (fun i _ _ _ sz y ob k=>match y with
   | .v (.slice none 0 0)=>match nth os i with
     | some (.row _ e _ _)=>lenK lits ob (fun m=>force (ob ++ [.row false e sz []]) fun ob=>k (.sl m 0 0 0 sz) ob) False
     | _=>k (.v (.slice none 0 0)) ob
   | y=>k y ob)
  (fun _ _ _ _ y ob k=>k y ob)
  (fun _ _ _ _ y ob k=>k y ob)
  (fun _ _ y ob k=>k y ob)
  (fun m ob k=>k m ob)
  (fun _ _ ix il m ob k=>match m with
   | y :: m=>ix y ob fun y ob=>il m ob fun m ob=>k (y :: m) ob
   | []=>k [] ob) x
noncomputable def mendsK (os : List OB) (x : List SV) : List SV → List OB → (List SV → List OB → Prop) → Prop :=
 SV.rec_1 (motive_1:=fun _=>SV→List OB→(SV→List OB→Prop)→Prop) (motive_2:=fun _=>List SV→List OB→(List SV→List OB→Prop)→Prop)
  (fun _ y ob k=>k y ob)
  (fun _ _ y ob k=>k y ob)
  (fun _ ih y ob k=>match y with
   | .a m=>ih m ob fun m ob=>k (.a m) ob
   | y=>k y ob)
  (fun _ ih y ob k=>match y with
   | .t m=>ih m ob fun m ob=>k (.t m) ob
   | y=>k y ob)
  (fun _ _ _ y ob k=>k y ob)
  (fun i _ _ _ sz y ob k=>match y with
   | .v (.slice none 0 0)=>match nth os i with
     | some (.row _ e _ _)=>lenK lits ob (fun m=>force (ob ++ [.row false e sz []]) fun ob=>k (.sl m 0 0 0 sz) ob) False
     | _=>k (.v (.slice none 0 0)) ob
   | y=>k y ob)
  (fun _ _ _ _ y ob k=>k y ob)
  (fun _ _ _ _ y ob k=>k y ob)
  (fun _ _ y ob k=>k y ob)
  (fun m ob k=>k m ob)
  (fun _ _ ix il m ob k=>match m with
   | y :: m=>ix y ob fun y ob=>il m ob fun m ob=>k (y :: m) ob
   | []=>k [] ob) x
mutual
theorem mendK_eq {os : List OB} : ∀ (x y : SV) (ob : List OB) (k : SV → List OB → Prop), mendK os x y ob k = mendK0 os x y ob k
 | .v _,y,ob,k=>by unfold mendK0;rfl
 | .p _ _,y,ob,k=>by unfold mendK0;rfl
 | .a l,y,ob,k=>by
   unfold mendK0
   cases y with
   | a m=>exact mendsK_eq l m ob _
   | _=>rfl
 | .t l,y,ob,k=>by
   unfold mendK0
   cases y with
   | t m=>exact mendsK_eq l m ob _
   | _=>rfl
 | .fn _ _,y,ob,k=>by unfold mendK0;rfl
 | .sl i a b c sz,y,ob,k=>by
   unfold mendK0
   show (match y with|.v (.slice none 0 0)=>_|y=>k y ob)=_
   split
   ·rfl
   ·split<;>first|rfl|simp_all
 | .sq _ _ _ _,y,ob,k=>by unfold mendK0;rfl
 | .fz _ _ _ _,y,ob,k=>by unfold mendK0;rfl
 | .fa _ _,y,ob,k=>by unfold mendK0;rfl
theorem mendsK_eq {os : List OB} : ∀ (x y : List SV) (ob : List OB) (k : List SV → List OB → Prop), mendsK os x y ob k = mendsK0 os x y ob k
 | [],y,ob,k=>by unfold mendsK0;rfl
 | x :: l,[],ob,k=>by unfold mendsK0;rfl
 | x :: l,y :: m,ob,k=>by
   show mendK os x y ob (fun y ob=>mendsK os l m ob fun m ob=>k (y :: m) ob)=_
   rw [mendK_eq x]
   unfold mendsK0
   congr 1
   funext y ob
   exact mendsK_eq l m ob _
end
mutual
theorem mendK_spec0 {os : List OB} {G : Fz} {w : World} : ∀ {x y : SV} {ob : List OB} {k : SV → List OB → Prop}, mendK0 os x y ob k → ∀ {σ fp}, Mem C σ G fp ob w → y.wf ⟨G, ob.length⟩ →
 ∃ y' ob' σ' fp',k y' ob'∧Mem C σ' G fp' ob' w∧y'.val σ' = y.val σ∧y'.wf ⟨G,ob'.length⟩∧(∀ j,j < ob.length→σ' j=σ j)∧ob.length≤ob'.length
 | x,y,ob,k,h,σ,fp,hm,hw=>by
   unfold mendK0 at h
   split at h
   ·split at h
    ·have h:=lenK_spec h
     rw [force_eq] at h
     obtain ⟨σ',fp',h1,h2,h3⟩:=hm.nilRow _ _
     exact ⟨_,_,σ',fp',h,h1,(val_new (A:=none) (c:=0) (by simp) h3),by simp [SV.wf],h2,by simp⟩
    ·exact ⟨_,_,σ,fp,h,hm,rfl,hw,fun _ _=>rfl,Nat.le_refl _⟩
   ·rename_i l m
    obtain ⟨m',ob',σ',fp',h1,h2,h3,h4,h5,h6⟩:=mendsK_spec0 h hm hw
    exact ⟨_,_,σ',fp',h1,h2,by simp only [SV.val,h3],h4,h5,h6⟩
   ·rename_i l m
    obtain ⟨m',ob',σ',fp',h1,h2,h3,h4,h5,h6⟩:=mendsK_spec0 h hm hw
    exact ⟨_,_,σ',fp',h1,h2,by simp only [SV.val,h3],h4,h5,h6⟩
   ·exact ⟨_,_,σ,fp,h,hm,rfl,hw,fun _ _=>rfl,Nat.le_refl _⟩
theorem mendsK_spec0 {os : List OB} {G : Fz} {w : World} : ∀ {l m : List SV} {ob : List OB} {k : List SV → List OB → Prop}, mendsK0 os l m ob k → ∀ {σ fp}, Mem C σ G fp ob w → SV.wfs ⟨G, ob.length⟩ m →
 ∃ m' ob' σ' fp',k m' ob'∧Mem C σ' G fp' ob' w∧SV.vals σ' m' = SV.vals σ m∧SV.wfs ⟨G,ob'.length⟩ m'∧(∀ j,j < ob.length→σ' j=σ j)∧ob.length≤ob'.length
 | l,m,ob,k,h,σ,fp,hm,hw=>by
   unfold mendsK0 at h
   split at h
   ·rename_i x l y m
    obtain ⟨y',ob1,σ1,fp1,h1,h2,h3,h4,h5,h6⟩:=mendK_spec0 h hm hw.1
    obtain ⟨m',ob2,σ2,fp2,h7,h8,h9,h10,h11,h12⟩:=mendsK_spec0 h1 h2 (SV.wfs_mono (Ev.same h6) _ hw.2)
    refine ⟨_,_,σ2,fp2,h7,h8,?_,⟨SV.wf_mono (Ev.same h12) _ h4,h10⟩,fun j hj=>(h11 j (by omega)).trans (h5 j hj),by omega⟩
    simp only [SV.vals]
    rw [h9,SV.val_ext (E:=⟨G,ob1.length⟩) h11 _ h4,h3,SV.vals_ext (E:=⟨G,ob.length⟩) h5 _ hw.2]
   ·exact ⟨_,_,σ,fp,h,hm,rfl,hw,fun _ _=>rfl,Nat.le_refl _⟩
end
theorem mendK_spec {os : List OB} {G : Fz} {w : World} : ∀ {x y : SV} {ob : List OB} {k : SV → List OB → Prop}, mendK os x y ob k → ∀ {σ fp}, Mem C σ G fp ob w → y.wf ⟨G, ob.length⟩ →
 ∃ y' ob' σ' fp',k y' ob'∧Mem C σ' G fp' ob' w∧y'.val σ' = y.val σ∧y'.wf ⟨G,ob'.length⟩∧(∀ j,j < ob.length→σ' j=σ j)∧ob.length≤ob'.length:=by
 intro x y ob k h
 rw [mendK_eq] at h
 exact mendK_spec0 h
theorem Fin_k {P : Program} {T : List TI} {n m : Nat} {w : World} {M : Nat → Prop} {π : Nat → Nat} {G0 : Fz} {ι : Type} {x : ι → SV} {os1 : ι → List OB} {y : SV} (i : ι) (h : mendK (os1 i) (x i) y ob fun y ob => force (fO ob lits (os1 i) (fV0 (x i) y (idL lits (os1 i)))) fun r =>
 y=(x i).ren r∧entO r (os1 i).length ob r (os1 i)∧(x i).nm (os1 i).length∧(x i).own∧OB.ownsB (os1 i)∧r.Nodup∧pinB m 0 r=true) : Fin ⟨P,T,n,w,M,m,π,false,G0⟩ (RetM P w M m π false G0 x os1) y ob:=by
 unfold Fin
 intro σ G fp w' hm hw
 obtain ⟨y',ob',σ',fp',h1,h2,h3,h4,_⟩:=mendK_spec h hm hw
 rw [force_eq] at h1
 obtain ⟨a1,a2,a3,a4,a5,a6,a7⟩:=h1
 have:=Fin_o (P:=P) (T:=T) (n:=n) (w:=w) (M:=M) (π:=π) (G0:=G0) (x:=x) (os1:=os1) i _ a1 a2 a3 a4 a5 a6 a7
 unfold Fin at this
 rw [← h3]
 exact this σ' G fp' w' h2 h4
theorem Fin_ka {P : Program} {T : List TI} {n m : Nat} {w : World} {M : Nat → Prop} {π : Nat → Nat} {G0 : Fz} {ι : Type} {x : ι → SV} {os1 : ι → List OB} {y : SV} (i : ι) (h : mendK (os1 i) (x i) y ob fun y ob => force (fO ob lits (os1 i) (fV0 (x i) y (idL lits (os1 i)))) fun r =>
 y=(x i).ren r∧entO r (os1 i).length ob r (os1 i)∧(x i).nm (os1 i).length∧r.Nodup∧pinB m 0 r=true) : Fin ⟨P,T,n,w,M,m,π,false,G0⟩ (RetM P w M m π true G0 x os1) y ob:=by
 unfold Fin
 intro σ G fp w' hm hw
 obtain ⟨y',ob',σ',fp',h1,h2,h3,h4,_⟩:=mendK_spec h hm hw
 rw [force_eq] at h1
 obtain ⟨a1,a2,a3,a6,a7⟩:=h1
 have:=Fin_a (P:=P) (T:=T) (n:=n) (w:=w) (M:=M) (π:=π) (G0:=G0) (x:=x) (os1:=os1) i _ a1 a2 a3 a6 a7
 unfold Fin at this
 rw [← h3]
 exact this σ' G fp' w' h2 h4
end
end Go.Proofs.YtkflmidichikjaaGreatDoor.V
end
