import Derived.Test.YtkflmidichikjaaGreatDoorZSystemReplays14
set_option linter.all false
section
namespace Go.Proofs.YtkflmidichikjaaGreatDoor.V
open Go.RowKit
set_option maxRecDepth 100000
section
variable {C : Ctx} {tm : List (Nat × SV)} {ob : List OB} {σ : Nat → Nat} {G : Fz} {fp : Nat → Nat → Prop} {a : Act} {w : World}
theorem RowAt.frz {e sz c : Nat} {A : Option Addr} {els : List (List DV)} {F : Nat → Prop} {G' : Fz} (h : RowAt G w e sz A c els F) (hG : G.le G') (hF : ∀ i, F i → G' i = w.heap[i]?) : (DV.fz sz els).rd G' (.slice A els.length c) := by
 refine ⟨A,c,rfl,h.cap.1,fun hne=>?_⟩
 rcases h.at_ with ⟨h0,_⟩|⟨g,o,cs,xs,hA,⟨fz0,hg,_⟩,hle,hr,hfl,hF'⟩
 ·have:=h.cap.1
  have:=List.length_pos_iff.2 hne
  omega
 ·refine ⟨g,o,cs,e,fz0,hA,by rw [hF g ((hF' g).2 rfl),hg],rdE_of (rdLL_mono hG hr) h.size fun j v hj=>?_⟩
  rw [← hfl,List.getElem?_take] at hj
  split at hj
  ·rw [List.getElem?_drop,Array.getElem?_toList] at hj
   exact hj
  ·cases hj
noncomputable def frG (G : Fz) (w : World) (F : Nat → Prop) : Fz := fun b => @ite _ (F b) (Classical.propDecidable _) (w.heap[b]?) (G b)
theorem frG_yes {F : Nat → Prop} {b : Nat} (h : F b) : frG G w F b = w.heap[b]? := by unfold frG; rw [if_pos h]
theorem frG_no {F : Nat → Prop} {b : Nat} (h : ¬ F b) : frG G w F b = G b := by unfold frG; rw [if_neg h]
theorem frG_le (hm : Mem C σ G fp ob w) {j : Nat} (hj : j < ob.length) : G.le (frG G w (fp j)) := fun b o hb => by
 rw [frG_no ((hm.fz b o hb).2 j hj)]
 exact hb
theorem Mem.freeze (hm : Mem C σ G fp ob w) {j e sz : Nat} {els : List (List DV)} (hj : nth ob j = some (.row false e sz els)) :
 Mem C σ (frG G w (fp j)) (fun k=>if k=j then fun _=>False else fp k) (setN ob j (.row true e sz els)) w:=by
 rw [nth_eq] at hj
 have hjl:=(List.getElem?_eq_some_iff.1 hj).1
 have hle:=frG_le hm hjl
 rw [setN_eq]
 refine ⟨?_,?_,?_,?_,hm.kept,?_,?_,⟨by simpa using hm.pin.1,hm.pin.2⟩,hm.drw⟩
 ·intro k o' hk
  simp only [List.length_set]
  by_cases ek : k=j
  ·subst ek
   rw [List.getElem?_set_self hjl] at hk
   cases hk
   simp only [if_true]
   exact ⟨RowAt.frz (hm.at_ k _ hj) hle fun i hi=>frG_yes hi,fun _ h=>h⟩
  ·rw [List.getElem?_set_ne (Ne.symm ek)] at hk
   simp only [ek,if_false]
   exact OB.at_ext (hm.at_ k o' hk) (fun _ _=>rfl) (Ev.grow hle (Nat.le_refl _)) fun _ _=>rfl
 ·intro p q hp hq hne i hi hi'
  simp only [List.length_set] at hp hq
  by_cases ep : p=j
  ·simp only [ep,if_true] at hi
  ·by_cases eq : q=j
   ·simp only [eq,if_true] at hi'
   ·simp only [ep,eq,if_false] at hi hi'
    exact hm.disj p q hp hq hne i hi hi'
 ·intro k hk i hi
  simp only [List.length_set] at hk
  by_cases ek : k=j
  ·simp only [ek,if_true] at hi
  ·simp only [ek,if_false] at hi
   exact hm.lo k hk i hi
 ·intro k hk i hi
  simp only [List.length_set] at hk
  by_cases ek : k=j
  ·simp only [ek,if_true] at hi
  ·simp only [ek,if_false] at hi
   exact hm.hi k hk i hi
 ·intro b o hb
  by_cases hf : fp j b
  ·rw [frG_yes hf] at hb
   refine ⟨hb,fun k hk hk'=>?_⟩
   simp only [List.length_set] at hk
   by_cases ek : k=j
   ·simp only [ek,if_true] at hk'
   ·simp only [ek,if_false] at hk'
    exact hm.disj k j hk hjl ek b hk' hf
  ·rw [frG_no hf] at hb
   obtain ⟨h1,h2⟩:=hm.fz b o hb
   refine ⟨h1,fun k hk hk'=>?_⟩
   simp only [List.length_set] at hk
   by_cases ek : k=j
   ·simp only [ek,if_true] at hk'
   ·simp only [ek,if_false] at hk'
    exact h2 k hk hk'
 ·intro b o hb
  by_cases hf : fp j b
  ·rcases hm.lo j hjl b hf with h|h
   ·exact .inl h
   ·exact .inr (.inl h)
  ·rw [frG_no hf] at hb
   exact hm.src b o hb
mutual
def frK0 (j sz : Nat) (els : List (List DV)) (A : Option Addr) (c : Nat) : SV → (SV → Prop) → Prop
 | .v x,k=>k (.v x)
 | .p q o,k=>k (.p q o)
 | .a l,k=>frKs0 j sz els A c l fun l=>k (.a l)
 | .t l,k=>frKs0 j sz els A c l fun l=>k (.t l)
 | .fn f l,k=>frKs0 j sz els A c l fun l=>k (.fn f l)
 | .sl q b i n sz',k=>match Nat.beq q j,b,i with
   | true,0,0=>ViewE 0 n els fun X=>k (.fz A c sz X)
   | _,_,_=>k (.sl q b i n sz')
 | .sq q i o sz',k=>k (.sq q i o sz')
 | .fz A' c' sz' X,k=>k (.fz A' c' sz' X)
 | .fa ad x,k=>k (.fa ad x)
def frKs0 (j sz : Nat) (els : List (List DV)) (A : Option Addr) (c : Nat) : List SV → (List SV → Prop) → Prop
 | [],k=>k []
 | x :: r,k=>frK0 j sz els A c x fun x=>frKs0 j sz els A c r fun r=>k (x :: r)
end
noncomputable def frK (j sz : Nat) (els : List (List DV)) (A : Option Addr) (c : Nat) (x : SV) : (SV → Prop) → Prop :=
 SV.rec (motive_1:=fun _=>(SV→Prop)→Prop) (motive_2:=fun _=>(List SV→Prop)→Prop)
  (fun x k=>k (.v x))
  (fun q o k=>k (.p q o))
  (fun _ ih k=>ih fun l=>k (.a l))
  (fun _ ih k=>ih fun l=>k (.t l))
  (fun f _ ih k=>ih fun l=>k (.fn f l))
  (fun q b i n sz' k=>match Nat.beq q j,b,i with
   | true,0,0=>ViewE 0 n els fun X=>k (.fz A c sz X)
   | _,_,_=>k (.sl q b i n sz'))
  (fun q i o sz' k=>k (.sq q i o sz'))
  (fun A' c' sz' X k=>k (.fz A' c' sz' X))
  (fun ad x k=>k (.fa ad x))
  (fun k=>k [])
  (fun _ _ ix ir k=>ix fun x=>ir fun r=>k (x :: r)) x
noncomputable def frKs (j sz : Nat) (els : List (List DV)) (A : Option Addr) (c : Nat) (x : List SV) : (List SV → Prop) → Prop :=
 SV.rec_1 (motive_1:=fun _=>(SV→Prop)→Prop) (motive_2:=fun _=>(List SV→Prop)→Prop)
  (fun x k=>k (.v x))
  (fun q o k=>k (.p q o))
  (fun _ ih k=>ih fun l=>k (.a l))
  (fun _ ih k=>ih fun l=>k (.t l))
  (fun f _ ih k=>ih fun l=>k (.fn f l))
  (fun q b i n sz' k=>match Nat.beq q j,b,i with
   | true,0,0=>ViewE 0 n els fun X=>k (.fz A c sz X)
   | _,_,_=>k (.sl q b i n sz'))
  (fun q i o sz' k=>k (.sq q i o sz'))
  (fun A' c' sz' X k=>k (.fz A' c' sz' X))
  (fun ad x k=>k (.fa ad x))
  (fun k=>k [])
  (fun _ _ ix ir k=>ix fun x=>ir fun r=>k (x :: r)) x
mutual
theorem frK_eq {j sz : Nat} {els : List (List DV)} {A : Option Addr} {c : Nat} : ∀ (x : SV) (k : SV → Prop), frK j sz els A c x k = frK0 j sz els A c x k
 | .v _,k=>rfl
 | .p _ _,k=>rfl
 | .a l,k=>frKs_eq l _
 | .t l,k=>frKs_eq l _
 | .fn _ l,k=>frKs_eq l _
 | .sl _ _ _ _ _,k=>rfl
 | .sq _ _ _ _,k=>rfl
 | .fz _ _ _ _,k=>rfl
 | .fa _ _,k=>rfl
theorem frKs_eq {j sz : Nat} {els : List (List DV)} {A : Option Addr} {c : Nat} : ∀ (x : List SV) (k : List SV → Prop), frKs j sz els A c x k = frKs0 j sz els A c x k
 | [],k=>rfl
 | x :: l,k=>by
   show frK j sz els A c x (fun x=>frKs j sz els A c l fun l=>k (x :: l))=_
   rw [frK_eq x]
   unfold frKs0
   congr 1
   funext y
   exact frKs_eq l _
end
mutual
theorem frK_spec {j sz n : Nat} {els : List (List DV)} (hr : (DV.fz sz els).rd G (.slice (dA (σ j)) els.length (dC (σ j)))) : ∀ {x : SV} {k : SV → Prop}, frK0 j sz els (dA (σ j)) (dC (σ j)) x k → x.wf ⟨G, n⟩ → ∃ y, k y ∧ y.val σ = x.val σ ∧ y.wf ⟨G, n⟩
 | .v x,k,h,hw=>by unfold frK0 at h;exact ⟨_,h,rfl,hw⟩
 | .p _ _,k,h,hw=>by unfold frK0 at h;exact ⟨_,h,rfl,hw⟩
 | .a l,k,h,hw=>by
   unfold frK0 at h
   obtain ⟨m,h1,h2,h3⟩:=frKs_spec hr h hw
   exact ⟨_,h1,by simp only [SV.val,h2],h3⟩
 | .t l,k,h,hw=>by
   unfold frK0 at h
   obtain ⟨m,h1,h2,h3⟩:=frKs_spec hr h hw
   exact ⟨_,h1,by simp only [SV.val,h2],h3⟩
 | .fn f l,k,h,hw=>by
   unfold frK0 at h
   obtain ⟨m,h1,h2,h3⟩:=frKs_spec hr h hw
   exact ⟨_,h1,by simp only [SV.val,h2],h3⟩
 | .sl q b i m sz',k,h,hw=>by
   unfold frK0 at h
   split at h
   ·rename_i hb
    have:=Nat.eq_of_beq_eq_true hb
    subst this
    obtain ⟨h1,h2⟩:=h.out
    rw [List.drop_zero] at h2
    have hl : (els.take m).length=m:=by rw [List.length_take];omega
    refine ⟨_,h2,by rw [val_whole];simp only [SV.val,hl],?_⟩
    show (DV.fz sz (els.take m)).rd G _
    obtain ⟨A,c,e1,e2,e4⟩:=hr
    cases e1
    refine ⟨_,_,rfl,by omega,fun hne=>?_⟩
    obtain ⟨b,o,cs,ty,fz,h5,h6,h7⟩:=e4 (fun hn=>hne (by rw [hn];simp))
    refine ⟨b,o,cs,ty,fz,h5,h6,?_⟩
    have:=rdE_cut 0 m h7
    simpa using this
   ·exact ⟨_,h,rfl,hw⟩
 | .sq _ _ _ _,k,h,hw=>by unfold frK0 at h;exact ⟨_,h,rfl,hw⟩
 | .fz _ _ _ _,k,h,hw=>by unfold frK0 at h;exact ⟨_,h,rfl,hw⟩
 | .fa _ _,k,h,hw=>by unfold frK0 at h;exact ⟨_,h,rfl,hw⟩
theorem frKs_spec {j sz n : Nat} {els : List (List DV)} (hr : (DV.fz sz els).rd G (.slice (dA (σ j)) els.length (dC (σ j)))) : ∀ {l : List SV} {k : List SV → Prop}, frKs0 j sz els (dA (σ j)) (dC (σ j)) l k → SV.wfs ⟨G, n⟩ l → ∃ m, k m ∧ SV.vals σ m = SV.vals σ l ∧ SV.wfs ⟨G, n⟩ m
 | [],k,h,_=>by unfold frKs0 at h;exact ⟨_,h,rfl,trivial⟩
 | x :: r,k,h,hw=>by
   unfold frKs0 at h
   obtain ⟨y,h1,h2,h3⟩:=frK_spec hr h hw.1
   obtain ⟨m,h4,h5,h6⟩:=frKs_spec hr h1 hw.2
   exact ⟨_,h4,by simp only [SV.vals,h2,h5],h3,h6⟩
end
noncomputable def frOs (j sz : Nat) (els : List (List DV)) (A : Option Addr) (c : Nat) : List OB → (List OB → Prop) → Prop
 | [],k=>k []
 | .box t cs :: r,k=>frKs j sz els A c cs fun cs=>frOs j sz els A c r fun r=>k (.box t cs :: r)
 | .row ro e sz' X :: r,k=>frOs j sz els A c r fun r=>k (.row ro e sz' X :: r)
 | .res R :: r,k=>frOs j sz els A c r fun r=>k (.res R :: r)
def simO (σ : Nat → Nat) (E : Ev) : OB → OB → Prop
 | .box t cs,.box t' cs'=>t=t'∧SV.vals σ cs' = SV.vals σ cs∧(SV.wfs E cs→SV.wfs E cs')
 | o,o'=>o=o'
def simOs (σ : Nat → Nat) (E : Ev) : List OB → List OB → Prop
 | [],[]=>True
 | o :: r,o' :: r'=>simO σ E o o'∧simOs σ E r r'
 | _,_=>False
theorem simOs_len {E : Ev} : ∀ {l m : List OB}, simOs σ E l m → m.length = l.length
 | [],[],_=>rfl
 | [],_ :: _,h=>h.elim
 | _ :: _,[],h=>h.elim
 | _ :: _,_ :: _,h=>by simp [simOs_len h.2]
theorem simOs_get {E : Ev} : ∀ {l m : List OB} {i : Nat} {o' : OB}, simOs σ E l m → m[i]? = some o' → ∃ o, l[i]? = some o ∧ simO σ E o o'
 | [],[],_,_,_,h=>by simp at h
 | [],_ :: _,_,_,h,_=>h.elim
 | _ :: _,[],_,_,h,_=>h.elim
 | o :: _,o' :: _,0,x,h,hx=>by simp at hx;subst hx;exact ⟨o,rfl,h.1⟩
 | _ :: _,_ :: _,i + 1,x,h,hx=>by simp at hx;simpa using simOs_get h.2 hx
theorem simO_at {E : Ev} {o o' : OB} {b : Nat} {F : Nat → Prop} (h : simO σ E o o') (ha : o.at σ E w b F) : o'.at σ E w b F := by
 cases o with
 | box t cs =>
   cases o' with
   | box t' cs' =>
     obtain ⟨rfl,h2,h3⟩:=h
     exact ⟨by rw [h2];exact ha.1,ha.2.1,h3 ha.2.2⟩
   | row _ _ _ _=>cases h
   | res _=>cases h
 | row _ _ _ _=>cases h;exact ha
 | res _=>cases h;exact ha
theorem frOs_spec {n j sz : Nat} {els : List (List DV)} (hr : (DV.fz sz els).rd G (.slice (dA (σ j)) els.length (dC (σ j)))) : ∀ {l : List OB} {k : List OB → Prop}, frOs j sz els (dA (σ j)) (dC (σ j)) l k → (∀ (i : Nat) t cs, l[i]? = some (.box t cs) → SV.wfs ⟨G, n⟩ cs) → ∃ m, k m ∧ simOs σ ⟨G, n⟩ l m
 | [],k,h,_=>⟨[],h,trivial⟩
 | .box t cs :: r,k,h,hw=>by
   unfold frOs at h
   rw [frKs_eq] at h
   obtain ⟨cs',h1,h2,h3⟩:=frKs_spec (n:=n) hr h (hw 0 t cs rfl)
   obtain ⟨m,h4,h5⟩:=frOs_spec hr h1 fun i t cs hi=>hw (i + 1) t cs (by simpa using hi)
   exact ⟨_,h4,⟨rfl,h2,fun _=>h3⟩,h5⟩
 | .row ro e sz' X :: r,k,h,hw=>by
   unfold frOs at h
   obtain ⟨m,h4,h5⟩:=frOs_spec hr h fun i t cs hi=>hw (i + 1) t cs (by simpa using hi)
   exact ⟨_,h4,rfl,h5⟩
 | .res R :: r,k,h,hw=>by
   unfold frOs at h
   obtain ⟨m,h4,h5⟩:=frOs_spec hr h fun i t cs hi=>hw (i + 1) t cs (by simpa using hi)
   exact ⟨_,h4,rfl,h5⟩
theorem Mem.sim {ob' : List OB} (hm : Mem C σ G fp ob w) (h : simOs σ ⟨G, ob.length⟩ ob ob') : Mem C σ G fp ob' w := by
 have hl:=simOs_len h
 exact ⟨fun k o hk=>by
  obtain ⟨o',h1,h2⟩:=simOs_get h hk
  rw [hl]
  exact simO_at h2 (hm.at_ k o' h1),by rw [hl];exact hm.disj,by rw [hl];exact hm.lo,by rw [hl];exact hm.hi,hm.kept,fun b o hb=>by rw [hl];exact hm.fz b o hb,hm.src,by rw [hl];exact hm.pin,hm.drw⟩
theorem Mem.fr (hm : Mem C σ G fp ob w) {j e sz : Nat} {els : List (List DV)} {k : Option Addr → Nat → List OB → Prop} (hj : nth ob j = some (.row false e sz els))
 (h : ∀ A c,force (setN ob j (.row true e sz els)) fun ob=>frOs j sz els A c ob (k A c)) :
 ∃ G' fp' ob',G.le G'∧(∀ q,q < ob.length→∀ i,fp' q i→fp q i)∧(∀ i o,G' i=some o→G i=some o∨∃ q,q < ob.length∧fp q i)∧ob'.length=ob.length∧Mem C σ G' fp' ob' w∧k (dA (σ j)) (dC (σ j)) ob'∧(DV.fz sz els).rd G' (.slice (dA (σ j)) els.length (dC (σ j))):=by
 have hj':=hj
 rw [nth_eq] at hj'
 have hjl:=(List.getElem?_eq_some_iff.1 hj').1
 have hm1:=hm.freeze hj
 have h1:=h (dA (σ j)) (dC (σ j))
 rw [force_eq] at h1
 have hl : (setN ob j (.row true e sz els)).length=ob.length:=by rw [setN_eq];simp
 have hat:=hm1.at_ j (.row true e sz els) (by rw [setN_eq,List.getElem?_set_self hjl])
 obtain ⟨m,h2,h3⟩:=frOs_spec (n:=(setN ob j (.row true e sz els)).length) hat.1 h1 fun i t cs hi=>(hm1.at_ i _ hi).2.2
 refine ⟨_,_,m,frG_le hm hjl,fun q hq i hi=>?_,fun i o hi=>?_,(simOs_len h3).trans hl,hm1.sim h3,h2,hat.1⟩
 ·by_cases eq : q=j
  ·simp only [eq,if_true] at hi
  ·simp only [eq,if_false] at hi
   exact hi
 ·by_cases hf : fp j i
  ·exact .inr ⟨j,hjl,hf⟩
  ·rw [frG_no hf] at hi
   exact .inl hi
theorem Goes.ghost {k : SV → List OB → Prop} {v : Value} {w' : World} {n : Nat} {G' : Fz} {fp' : Nat → Nat → Prop} (h : Goes C n σ G' fp' w k v w') (hG : G.le G') (hf : ∀ j, j < n → ∀ i, fp' j i → fp j i) (hz : ∀ i o, G' i = some o → G i = some o ∨ ∃ j, j < n ∧ fp j i) : Goes C n σ G fp w k v w' := by
 obtain ⟨x,ob,σ2,G2,fp2,h1,h2,h3,h4,h5,h6,h7,h8⟩:=h
 refine ⟨x,ob,σ2,G2,fp2,h1,h2,hG.trans h3,h4,h5,h6,h7,fun i h9 h10 h11=>h8.old i h9 h10 fun j hj hi=>h11 j hj (hf j hj i hi),fun j hj i hi h9 h10=>?_,fun i o h9 h10=>?_,h8.size⟩
 ·obtain ⟨j',h11,h12⟩:=h8.new j hj i hi h9 h10
  exact ⟨j',h11,hf j' h11 i h12⟩
 ·rcases h8.fz i o h9 h10 with h11|⟨j,h11,h12⟩
  ·exact hz i o h11
  ·exact .inr ⟨j,h11,hf j h11 i h12⟩
theorem Fin_fr {R : Ending → World → Prop} {x : SV} (j : Nat) {e sz : Nat} {els : List (List DV)} (hj : nth ob j = some (.row false e sz els))
 (h : ∀ A c,force (setN ob j (.row true e sz els)) fun ob=>frOs j sz els A c ob fun ob=>frK j sz els A c x fun x=>Fin C R x ob) : Fin C R x ob:=by
 unfold Fin
 intro σ G fp w hm hw
 obtain ⟨G',fp',ob',h1,h2,h3,h4,h5,h6,h7⟩:=hm.fr hj h
 rw [frK_eq] at h6
 obtain ⟨y,h8,h9,h10⟩:=frK_spec (n:=ob'.length) h7 h6 (SV.wf_mono (Ev.grow h1 (by omega)) x hw)
 unfold Fin at h8
 rw [← h9]
 exact h8 σ G' fp' w h5 h10
theorem CallX_fr {f : FuncId} {args : List SV} {k : SV → List OB → Prop} (j : Nat) {e sz : Nat} {els : List (List DV)} (hj : nth ob j = some (.row false e sz els))
 (h : ∀ A c,force (setN ob j (.row true e sz els)) fun ob=>frOs j sz els A c ob fun ob=>frKs j sz els A c args fun args=>CallX C f args ob k) : CallX C f args ob k:=by
 unfold CallX
 intro σ G fp w hm hw
 obtain ⟨G',fp',ob',h1,h2,h3,h4,h5,h6,h7⟩:=hm.fr hj h
 rw [frKs_eq] at h6
 obtain ⟨y,h8,h9,h10⟩:=frKs_spec (n:=ob'.length) h7 h6 (SV.wfs_mono (Ev.grow h1 (by omega)) args hw)
 unfold CallX at h8
 rw [← h9]
 refine (h8 σ G' fp' w h5 h10).mono ?_
 rintro e' w' ⟨v,he,hg⟩
 rw [h4] at hg
 exact ⟨v,he,hg.ghost h1 h2 h3⟩
theorem OpX_fr {o : Oper} {xs : List SV} {k : SV → List OB → Prop} (j : Nat) {e sz : Nat} {els : List (List DV)} (hj : nth ob j = some (.row false e sz els))
 (h : ∀ A c,force (setN ob j (.row true e sz els)) fun ob=>frOs j sz els A c ob fun ob=>frKs j sz els A c xs fun xs=>OpX C o xs ob k) : OpX C o xs ob k:=by
 unfold OpX
 intro σ G fp w ρ hm hw hx
 obtain ⟨G',fp',ob',h1,h2,h3,h4,h5,h6,h7⟩:=hm.fr hj h
 rw [frKs_eq] at h6
 obtain ⟨y,h8,h9,h10⟩:=frKs_spec (n:=ob'.length) h7 h6 (SV.wfs_mono (Ev.grow h1 (by omega)) xs hw)
 unfold OpX at h8
 have h11:=h8 σ G' fp' w ρ h5 h10 (by rw [hx,h9])
 rw [h4] at h11
 generalize (execOp ρ o).run C.P w=r at h11 ⊢
 cases r with
 | halt _ _=>exact h11
 | ok q w' =>
   cases q with
   | value v=>exact h11.ghost h1 h2 h3
   | skip=>exact h11.ghost h1 h2 h3
   | enter f args=>exact h11.mono fun e w'' ⟨v,he,hg⟩=>⟨v,he,hg.ghost h1 h2 h3⟩
   | _=>exact h11
def seen : List Nat → List (Nat × SV) → (List (Nat × SV) → Prop) → Prop
 | _,[],k=>k []
 | ks,(t,x) :: r,k=>match memN t ks with
   | true=>seen ks r k
   | false=>seen (t :: ks) r fun r=>k ((t,x) :: r)
theorem RowAt.trunc {e sz c : Nat} {A : Option Addr} {els : List (List DV)} {F : Nat → Prop} (h : RowAt G w e sz A c els F) (n : Nat) : RowAt G w e sz A c (els.take n) F := by
 refine ⟨⟨Nat.le_trans (List.length_take_le' _ _) h.cap.1,h.cap.2⟩,fun x hx=>h.size x (List.mem_of_mem_take hx),h.spot,?_⟩
 rcases h.at_ with h0|⟨g,o,cs,xs,hA,hg,hle,hr,hfl,hF⟩
 ·exact .inl h0
 ·have hxs:=rdLL_size hr h.size
  have hl:=rdLL_len hr
  have hc:=rdLL_cut 0 n hr
  have hf:=flat_cut 0 n hxs
  simp only [List.drop_zero,Nat.zero_mul] at hc hf
  refine .inr ⟨g,o,cs,xs.take n,hA,hg,hle,hc,?_,hF⟩
  rw [hf,← hfl,List.take_take,List.length_take]
  congr 1
  rcases Nat.le_total n els.length with h1|h1
  ·rw [Nat.min_eq_left h1,Nat.min_eq_left (Nat.mul_le_mul_right _ h1)]
  ·rw [Nat.min_eq_right h1,Nat.min_eq_right (Nat.mul_le_mul_right _ h1)]
theorem Mem.trunc (hm : Mem C σ G fp ob w) {j e sz : Nat} {els : List (List DV)} (n : Nat) (hj : nth ob j = some (.row false e sz els)) : Mem C σ G fp (setN ob j (.row false e sz (els.take n))) w := by
 rw [nth_eq] at hj
 have hjl:=(List.getElem?_eq_some_iff.1 hj).1
 rw [setN_eq]
 refine ⟨fun k o hk=>?_,by simpa using hm.disj,by simpa using hm.lo,by simpa using hm.hi,hm.kept,by simpa using hm.fz,hm.src,by simpa using hm.pin,hm.drw⟩
 simp only [List.length_set]
 by_cases ek : k=j
 ·subst ek
  rw [List.getElem?_set_self hjl] at hk
  cases hk
  exact RowAt.trunc (hm.at_ k _ hj) n
 ·rw [List.getElem?_set_ne (Ne.symm ek)] at hk
  exact hm.at_ k o hk
theorem Fin_tr {R : Ending → World → Prop} {x : SV} (j n : Nat) {e sz : Nat} {α : Type} {enc : α → List Value} {X : List α} (hj : nth ob j = some (.row false e sz (fl enc X)))
 (h : force (setN ob j (.row false e sz (fl enc (X.take n)))) fun ob=>Fin C R x ob) : Fin C R x ob:=by
 unfold Fin
 intro σ G fp w hm hw
 rw [force_eq] at h
 have hm1:=hm.trunc n hj
 rw [fl_take] at hm1
 unfold Fin at h
 exact h σ G fp w hm1 (by rw [setN_eq];simpa using hw)
end
end Go.Proofs.YtkflmidichikjaaGreatDoor.V
end
section
namespace Go.Proofs.YtkflmidichikjaaGreatDoor.V
open Go.RowKit
set_option maxRecDepth 100000
section
variable {C : Ctx} {ob : List OB} {σ : Nat → Nat} {G : Fz} {fp : Nat → Nat → Prop} {w : World}
noncomputable def boxK (q : List Nat) (ob : List OB) : List SV → (List DV → Prop) → Prop
 | [],k=>k []
 | x :: r,k=>match x with
   | .v y=>match y with
     | .agg _=>False
     | .tuple _=>False
     | y=>boxK q ob r fun l=>k (.v y :: l)
   | .fz _ _ sz els=>boxK q ob r fun l=>k (.fz sz els :: l)
   | .sl j _ i n sz=>match memN j q,nth ob j with
     | false,some (.row _ _ sz' els)=>match Nat.beq sz' sz with
       | true=>ViewE i n els fun X=>boxK q ob r fun l=>k (.fz sz X :: l)
       | false=>False
     | _,_=>False
   | _=>False
mutual
def viewR0 (r : List Nat) (φ : SV → Option Addr × Nat) (ob : List OB) : SV → (SV → Prop) → Prop
 | .v x,k=>k (.v x)
 | .p j off,k=>match memN j r with
   | true=>k (.p j off)
   | false=>match off with
     | 0=>match nth ob j with
       | some (.box _ cs)=>boxK r ob cs fun ds=>k (.fa ((φ (.p j 0)).1.getD ⟨0,0,none⟩) ds)
       | _=>False
     | _ + 1=>False
 | .a l,k=>viewRs0 r φ ob l fun l=>k (.a l)
 | .t _,_=>False
 | .fn f l,k=>viewRs0 r φ ob l fun l=>k (.fn f l)
 | .sl j p i n sz,k=>match memN j r with
   | true=>k (.sl j p i n sz)
   | false=>match nth ob j with
     | some (.row _ _ sz' els)=>match Nat.beq sz' sz with
       | true=>ViewE i n els fun els=>k (.fz (φ (.sl j p i n sz)).1 (φ (.sl j p i n sz)).2 sz els)
       | false=>False
     | _=>False
 | .sq j i o sz,k=>match memN j r with
   | true=>k (.sq j i o sz)
   | false=>False
 | .fz A c sz els,k=>k (.fz A c sz els)
 | .fa ad x,k=>k (.fa ad x)
def viewRs0 (r : List Nat) (φ : SV → Option Addr × Nat) (ob : List OB) : List SV → (List SV → Prop) → Prop
 | [],k=>k []
 | x :: l,k=>viewR0 r φ ob x fun x=>viewRs0 r φ ob l fun l=>k (x :: l)
end
noncomputable def viewR (r : List Nat) (φ : SV → Option Addr × Nat) (ob : List OB) (x : SV) : (SV → Prop) → Prop :=
 SV.rec (motive_1:=fun _=>(SV→Prop)→Prop) (motive_2:=fun _=>(List SV→Prop)→Prop)
  (fun x k=>k (.v x))
  (fun j off k=>match memN j r with
   | true=>k (.p j off)
   | false=>match off with
     | 0=>match nth ob j with
       | some (.box _ cs)=>boxK r ob cs fun ds=>k (.fa ((φ (.p j 0)).1.getD ⟨0,0,none⟩) ds)
       | _=>False
     | _ + 1=>False)
  (fun _ ih k=>ih fun l=>k (.a l))
  (fun _ _ _=>False)
  (fun f _ ih k=>ih fun l=>k (.fn f l))
  (fun j p i n sz k=>match memN j r with
   | true=>k (.sl j p i n sz)
   | false=>match nth ob j with
     | some (.row _ _ sz' els)=>match Nat.beq sz' sz with
       | true=>ViewE i n els fun els=>k (.fz (φ (.sl j p i n sz)).1 (φ (.sl j p i n sz)).2 sz els)
       | false=>False
     | _=>False)
  (fun j i o sz k=>match memN j r with
   | true=>k (.sq j i o sz)
   | false=>False)
  (fun A c sz els k=>k (.fz A c sz els))
  (fun ad x k=>k (.fa ad x))
  (fun k=>k [])
  (fun _ _ ix ir k=>ix fun x=>ir fun r=>k (x :: r)) x
noncomputable def viewRs (r : List Nat) (φ : SV → Option Addr × Nat) (ob : List OB) (x : List SV) : (List SV → Prop) → Prop :=
 SV.rec_1 (motive_1:=fun _=>(SV→Prop)→Prop) (motive_2:=fun _=>(List SV→Prop)→Prop)
  (fun x k=>k (.v x))
  (fun j off k=>match memN j r with
   | true=>k (.p j off)
   | false=>match off with
     | 0=>match nth ob j with
       | some (.box _ cs)=>boxK r ob cs fun ds=>k (.fa ((φ (.p j 0)).1.getD ⟨0,0,none⟩) ds)
       | _=>False
     | _ + 1=>False)
  (fun _ ih k=>ih fun l=>k (.a l))
  (fun _ _ _=>False)
  (fun f _ ih k=>ih fun l=>k (.fn f l))
  (fun j p i n sz k=>match memN j r with
   | true=>k (.sl j p i n sz)
   | false=>match nth ob j with
     | some (.row _ _ sz' els)=>match Nat.beq sz' sz with
       | true=>ViewE i n els fun els=>k (.fz (φ (.sl j p i n sz)).1 (φ (.sl j p i n sz)).2 sz els)
       | false=>False
     | _=>False)
  (fun j i o sz k=>match memN j r with
   | true=>k (.sq j i o sz)
   | false=>False)
  (fun A c sz els k=>k (.fz A c sz els))
  (fun ad x k=>k (.fa ad x))
  (fun k=>k [])
  (fun _ _ ix ir k=>ix fun x=>ir fun r=>k (x :: r)) x
mutual
theorem viewR_eq {r : List Nat} {φ : SV → Option Addr × Nat} : ∀ (x : SV) (k : SV → Prop), viewR r φ ob x k = viewR0 r φ ob x k
 | .v _,k=>rfl
 | .p _ 0,k=>rfl
 | .p _ (_ + 1),k=>rfl
 | .a l,k=>viewRs_eq l _
 | .t _,k=>rfl
 | .fn _ l,k=>viewRs_eq l _
 | .sl _ _ _ _ _,k=>rfl
 | .sq _ _ _ _,k=>rfl
 | .fz _ _ _ _,k=>rfl
 | .fa _ _,k=>rfl
theorem viewRs_eq {r : List Nat} {φ : SV → Option Addr × Nat} : ∀ (x : List SV) (k : List SV → Prop), viewRs r φ ob x k = viewRs0 r φ ob x k
 | [],k=>rfl
 | x :: l,k=>by
   show viewR r φ ob x (fun x=>viewRs r φ ob l fun l=>k (x :: l))=_
   rw [viewR_eq x]
   unfold viewRs0
   congr 1
   funext y
   exact viewRs_eq l _
end
noncomputable def restG (w : World) (M : Nat → Prop) : Fz := fun b => @ite _ (M b) (Classical.propDecidable _) none (w.heap[b]?)
theorem restG_no {M : Nat → Prop} {b : Nat} (h : ¬ M b) : restG w M b = w.heap[b]? := by unfold restG; rw [if_neg h]
theorem restG_some {M : Nat → Prop} {b : Nat} {o : Obj} (h : restG w M b = some o) : w.heap[b]? = some o ∧ ¬ M b := by
 unfold restG at h
 split at h
 ·cases h
 ·rename_i hn
  exact ⟨h,hn⟩
def MR (r : List Nat) (fp : Nat → Nat → Prop) : Nat → Prop := fun b => ∃ j, j ∈ r ∧ fp j b
theorem restG_le (hm : Mem C σ G fp ob w) {r : List Nat} (hr : ∀ j ∈ r, j < ob.length) : G.le (restG w (MR r fp)) := fun b o hb => by
 obtain ⟨h1,h2⟩:=hm.fz b o hb
 rw [restG_no]
 ·exact h1
 ·rintro ⟨j,hj,hf⟩
  exact h2 j (hr j hj) hf
theorem row_rest (hm : Mem C σ G fp ob w) {r : List Nat} (hr : ∀ j ∈ r, j < ob.length) {j p i n sz e : Nat} {ro : Bool} {els : List (List DV)} (hjr : j ∉ r) (h : nth ob j = some (.row ro e sz els)) (hi : i + n ≤ els.length) :
 (DV.fz sz ((els.drop i).take n)).rd (restG w (MR r fp)) (.slice (cutP (dA (σ j)) (dC (σ j)) p i sz) n (dC (σ j) - i)):=by
 obtain ⟨h1,h2,hjl⟩:=hm.row h
 have h3:=h1.part (p:=p) h2 hi
 have hn : ((els.drop i).take n).length=n:=by simp;omega
 refine ⟨_,_,by rw [hn],by rw [hn];omega,fun hne=>?_⟩
 have hn0 : n ≠ 0:=by intro h0;exact hne (List.eq_nil_of_length_eq_zero (hn.trans h0))
 obtain ⟨b,o,xs,hA,hr4,hc⟩:=h3.at_ hn0
 obtain ⟨b',o',cs,ty,fz,h4,h5⟩:=row_cells hm h (fun h=>by simp [h] at hi;omega)
 have hbb : b=b':=by
  simp [cutP,h4] at hA
  exact hA.1.symm
 subst hbb
 refine ⟨b,o,cs,ty,fz,hA,?_,rdE_of (rdLL_mono (restG_le hm hr) hr4) h3.size fun q v hq=>?_⟩
 ·rw [restG_no,h5]
  rintro ⟨q,hq,hf⟩
  rw [nth_eq] at h
  have hat:=hm.at_ j _ h
  cases ro with
  | true =>
    obtain ⟨A,c,e1,_,e4⟩:=hat.1
    cases e1
    obtain ⟨b2,o2,cs2,ty2,fz2,e5,e6,_⟩:=e4 (fun h=>by simp [h] at hi;omega)
    rw [h4] at e5
    cases e5
    exact (hm.fz b _ e6).2 q (hr q hq) hf
  | false =>
    rcases (hat : RowAt _ _ _ _ _ _ _ _).at_ with ⟨h0,_⟩|⟨g,o2,cs2,xs2,e1,_,_,_,_,e6⟩
    ·have:=(hat : RowAt _ _ _ _ _ _ _ _).cap.1
     omega
    ·rw [h4] at e1
     cases e1
     exact hm.disj q j (hr q hq) hjl (fun e=>hjr (e ▸ hq)) b hf ((e6 b).2 rfl)
 ·have:=hc q v hq
  simpa [World.cell?,h5] using this
theorem boxK_spec (hm : Mem C σ G fp ob w) {r : List Nat} (hr : ∀ j ∈ r, j < ob.length) : ∀ {cs : List SV} {k : List DV → Prop}, boxK r ob cs k → SV.wfs ⟨G, ob.length⟩ cs → ∃ ds, k ds ∧ rdL (restG w (MR r fp)) ds (SV.vals σ cs)
 | [],k,h,_=>⟨[],h,trivial⟩
 | x :: l,k,h,hw=>by
   unfold boxK at h
   split at h
   ·rename_i y
    have key : ∀ (hh : boxK r ob l fun l=>k (.v y :: l)) (_ : y.oneCell' = true),∃ ds,k ds∧rdL (restG w (MR r fp)) ds (SV.vals σ (.v y :: l)):=fun hh ho=>by
     obtain ⟨ds,h1,h2⟩:=boxK_spec hm hr hh hw.2
     exact ⟨_,h1,⟨ho,rfl⟩,h2⟩
    split at h
    ·exact h.elim
    ·exact h.elim
    ·rename_i n1 n2
     refine key h ?_
     cases y<;>first|rfl|exact (n1 _ rfl).elim|exact (n2 _ rfl).elim
   ·rename_i A c sz els
    obtain ⟨ds,h1,h2⟩:=boxK_spec hm hr h hw.2
    exact ⟨_,h1,⟨rfl,DV.rd_mono (restG_le hm hr) _ _ hw.1⟩,h2⟩
   ·rename_i j p i n sz
    split at h
    ·rename_i ro e sz' els hjr hj
     have hjr : j ∉ r:=fun h=>by rw [memN_true.2 h] at hjr;cases hjr
     split at h
     ·rename_i hb
      have:=Nat.eq_of_beq_eq_true hb
      subst this
      obtain ⟨h1,h2⟩:=h.out
      obtain ⟨ds,h3,h4⟩:=boxK_spec hm hr h2 hw.2
      exact ⟨_,h3,⟨rfl,row_rest hm hr hjr hj h1⟩,h4⟩
     ·exact h.elim
    ·exact h.elim
   ·exact h.elim
mutual
theorem viewR_spec (hm : Mem C σ G fp ob w) {r : List Nat} (hr : ∀ j ∈ r, j < ob.length) : ∀ {x : SV} {k : SV → Prop}, viewR0 r (fun x => slA (x.val σ)) ob x k → x.wf ⟨G, ob.length⟩ → ∃ y, k y ∧ y.val σ = x.val σ ∧ y.wf ⟨restG w (MR r fp), ob.length⟩
 | .v x,k,h,_=>by unfold viewR0 at h;exact ⟨_,h,rfl,trivial⟩
 | .p j off,k,h,hw=>by
   unfold viewR0 at h
   split at h
   ·exact ⟨_,h,rfl,hw⟩
   ·rename_i hjr
    have hjr : j ∉ r:=fun h=>by rw [memN_true.2 h] at hjr;cases hjr
    split at h
    ·split at h
     ·rename_i t cs hj
      obtain ⟨h1,h2,h3,hjl⟩:=nth_box hm hj
      obtain ⟨ds,h4,h5⟩:=boxK_spec hm hr h h3
      refine ⟨_,h4,rfl,σ j,0,(SV.vals σ cs).toArray,t,(0,0),rfl,?_,rdC_at h5 fun i v hv=>by simpa using hv⟩
      show restG w (MR r fp) (σ j)=_
      rw [restG_no,h1]
      rintro ⟨q,hq,hf⟩
      exact hm.disj q j (hr q hq) hjl (fun e=>hjr (e ▸ hq)) (σ j) hf ((h2 _).2 rfl)
     ·exact h.elim
    ·exact h.elim
 | .a l,k,h,hw=>by
   unfold viewR0 at h
   obtain ⟨m,h1,h2,h3⟩:=viewRs_spec hm hr h hw
   exact ⟨_,h1,by simp only [SV.val,h2],h3⟩
 | .t _,k,h,_=>by unfold viewR0 at h;exact h.elim
 | .fn f l,k,h,hw=>by
   unfold viewR0 at h
   obtain ⟨m,h1,h2,h3⟩:=viewRs_spec hm hr h hw
   exact ⟨_,h1,by simp only [SV.val,h2],h3⟩
 | .sl j p i n sz,k,h,hw=>by
   unfold viewR0 at h
   split at h
   ·exact ⟨_,h,rfl,hw⟩
   ·rename_i hjr
    have hjr : j ∉ r:=fun h=>by rw [memN_true.2 h] at hjr;cases hjr
    split at h
    ·rename_i ro e sz' els hj
     split at h
     ·rename_i hb
      have:=Nat.eq_of_beq_eq_true hb
      subst this
      obtain ⟨h1,h2⟩:=h.out
      have hn : ((els.drop i).take n).length=n:=by simp;omega
      have h3:=row_rest (p:=p) hm hr hjr hj h1
      refine ⟨_,h2,by simp only [SV.val,slA,hn],?_⟩
      show (DV.fz sz' _).rd _ (.slice _ _ _)
      rw [hn]
      exact h3
     ·exact h.elim
    ·exact h.elim
 | .sq j i o sz,k,h,hw=>by
   unfold viewR0 at h
   split at h
   ·exact ⟨_,h,rfl,hw⟩
   ·exact h.elim
 | .fz A c sz els,k,h,hw=>by unfold viewR0 at h;exact ⟨_,h,rfl,SV.wf_mono (E:=⟨G,ob.length⟩) (E':=⟨_,ob.length⟩) ⟨restG_le hm hr,Nat.le_refl _⟩ (.fz A c sz els) hw⟩
 | .fa ad x,k,h,hw=>by unfold viewR0 at h;exact ⟨_,h,rfl,SV.wf_mono (E:=⟨G,ob.length⟩) (E':=⟨_,ob.length⟩) ⟨restG_le hm hr,Nat.le_refl _⟩ (.fa ad x) hw⟩
theorem viewRs_spec (hm : Mem C σ G fp ob w) {r : List Nat} (hr : ∀ j ∈ r, j < ob.length) : ∀ {l : List SV} {k : List SV → Prop}, viewRs0 r (fun x => slA (x.val σ)) ob l k → SV.wfs ⟨G, ob.length⟩ l → ∃ m, k m ∧ SV.vals σ m = SV.vals σ l ∧ SV.wfs ⟨restG w (MR r fp), ob.length⟩ m
 | [],k,h,_=>by unfold viewRs0 at h;exact ⟨_,h,rfl,trivial⟩
 | x :: l,k,h,hw=>by
   unfold viewRs0 at h
   obtain ⟨y,h1,h2,h3⟩:=viewR_spec hm hr h hw.1
   obtain ⟨m,h4,h5,h6⟩:=viewRs_spec hm hr h1 hw.2
   exact ⟨_,h4,by simp only [SV.vals,h2,h5],h3,h6⟩
end
theorem CallX_mv {f : FuncId} {args : List SV} {k : SV → List OB → Prop} {ι : Type} {args0 : ι → List SV} {os0 : ι → List OB} {pre : ι → Prop} {x : ι → SV} {os1 : ι → List OB} [h : CMp f ι false args0 os0 pre x os1] (i : ι)
 (hk : ∀ φ,force (fO ob lits (os0 i) (fVs0 (args0 i) args (idL lits (os0 i)))) fun r=>nthL ob r=some (rnOs r (os0 i))∧viewRs r φ ob args fun args=>args=SV.rens r (args0 i)∧pre i∧(nmOB (os0 i).length (os0 i) && nodupB r)=true∧retM ob r (x i) (os1 i) k) (hP : C.P=Tryz.prog:=by rfl) (hd : C.d=false:=by rfl) : CallX C f args ob k:=by
 unfold CallX
 intro σ G fp w hm hw
 have hk:=hk fun x=>slA (x.val σ)
 rw [force_eq] at hk
 generalize fO ob lits (os0 i) (fVs0 (args0 i) args (idL lits (os0 i)))=r at hk
 obtain ⟨h2,hk⟩:=hk
 rw [viewRs_eq] at hk
 have hr : ∀ j∈r,j < ob.length:=by
  have : ∀ {r : List Nat} {l : List OB},nthL ob r=some l→∀ j∈r,j < ob.length:=by
   intro r
   induction r with
   | nil=>intro l _ j hj;cases hj
   | cons a r ih =>
     intro l hl j hj
     unfold nthL at hl
     split at hl
     ·rename_i o l' ho hl'
      rcases List.mem_cons.1 hj with rfl|hj
      ·rw [nth_eq] at ho
       exact (List.getElem?_eq_some_iff.1 ho).1
      ·exact ih hl' j hj
     ·cases hl
  exact this h2
 obtain ⟨m,⟨h1,h3,h4,h5⟩,h6,h7⟩:=viewRs_spec hm hr hk hw
 simp only [Bool.and_eq_true] at h4
 have hent:=entO_of h2 h4.1
 obtain ⟨hlen,hidx⟩:=entO_spec hent
 have hcm:=h.out i h3
 subst h1
 have:=CM.run (C:=C) (by rw [hP];exact hcm) r hent (nodupB_spec h4.2) (fun _=>h5) hd hm (restG w (MR r fp)) (fun b o hb=>?_) (restG_le hm hr) (fun h=>by cases h) (wfs_nm _ h7 hcm.1)
 ·rw [← vals_ren,h6] at this
  exact this
 ·obtain ⟨g1,g2⟩:=restG_some hb
  refine ⟨g1,fun j hj hf=>g2 ⟨r.getD j 0,?_,hf⟩⟩
  have hj' : j < r.length:=by omega
  simp [hj']
@[irreducible] def CallR (C : Ctx) (f : FuncId) (args : List SV) (ob : List OB) (k : SV → List OB → Prop) : Prop :=
 ∀ σ G fp w,Mem C σ G fp ob w→SV.wfs ⟨restG w (MR [] fp),ob.length⟩ args→CallsE C.P f (SV.vals σ args).toArray w fun e w'=>∃ v,e = .returned v∧Goes C ob.length σ G fp w k v w'
theorem CallX_w {f : FuncId} {args : List SV} {k : SV → List OB → Prop} (h : ∀ φ, viewRs [] φ ob args fun args => CallR C f args ob k) : CallX C f args ob k := by
 unfold CallX
 intro σ G fp w hm hw
 have hk:=h fun x=>slA (x.val σ)
 rw [viewRs_eq] at hk
 obtain ⟨m,h1,h6,h7⟩:=viewRs_spec hm (r:=[]) (by simp) hk hw
 unfold CallR at h1
 rw [← h6]
 exact h1 σ G fp w hm h7
theorem CallR_i {f : FuncId} {args : List SV} {k : SV → List OB → Prop} {pre : Prop} {x : SV} {os : List OB} [h : CFc f false args pre x os] (hk : retM ob [] x os k) (hp : pre) (hP : C.P = Tryz.prog := by rfl) (hd : C.d = false := by rfl) : CallR C f args ob k := by
 unfold CallR
 intro σ G fp w hm h7
 have hcm:=h.out hp
 have:=CM.run (C:=C) (os0:=[]) (by rw [hP];exact hcm) [] trivial List.nodup_nil (fun _=>hk) hd hm (restG w (MR [] fp)) (fun b o hb=>⟨(restG_some hb).1,fun j hj=>by cases hj⟩) (restG_le hm (by simp)) (fun h=>by cases h) (wfs_nm (r:=[]) _ (by rw [rens_clean _ _ hcm.1];exact h7) hcm.1)
 rwa [← vals_ren,rens_clean _ _ hcm.1] at this
@[irreducible] def CallQ (C : Ctx) (f : FuncId) (args : List SV) (r : List Nat) (ob : List OB) (k : SV → List OB → Prop) : Prop :=
 ∀ σ G fp w,Mem C σ G fp ob w→SV.wfs ⟨restG w (MR r fp),ob.length⟩ args→CallsE C.P f (SV.vals σ args).toArray w fun e w'=>∃ v,e = .returned v∧Goes C ob.length σ G fp w k v w'
def allLt (n : Nat) : List Nat → Bool
 | []=>true
 | j :: r=>Nat.blt j n && allLt n r
theorem allLt_spec {n : Nat} : ∀ {r : List Nat}, allLt n r = true → ∀ j ∈ r, j < n
 | [],_,j,h=>by cases h
 | a :: r,h,j,hj=>by
   unfold allLt at h
   simp only [Bool.and_eq_true] at h
   rcases List.mem_cons.1 hj with rfl|hj
   ·exact Nat.le_of_ble_eq_true h.1
   ·exact allLt_spec h.2 j hj
theorem CallX_q {f : FuncId} {args : List SV} {k : SV → List OB → Prop} (r : List Nat) (hr : allLt ob.length r = true) (h : ∀ φ, viewRs r φ ob args fun args => CallQ C f args r ob k) : CallX C f args ob k := by
 unfold CallX
 intro σ G fp w hm hw
 have hk:=h fun x=>slA (x.val σ)
 rw [viewRs_eq] at hk
 obtain ⟨m,h1,h6,h7⟩:=viewRs_spec hm (allLt_spec hr) hk hw
 unfold CallQ at h1
 rw [← h6]
 exact h1 σ G fp w hm h7
theorem CallQ_m {f : FuncId} {r : List Nat} {k : SV → List OB → Prop} {args args0 : List SV} {os0 : List OB} {x : SV} {os1 : List OB} (h : CM C.P f false args0 os0 (fun _ : Unit => x) (fun _ => os1)) (hargs : args = SV.rens r args0) (h2 : nthL ob r = some (rnOs r os0)) (h4 : (nmOB os0.length os0 && nodupB r && allLt ob.length r) = true) (h5 : retM ob r x os1 k) (hd : C.d = false := by rfl) : CallQ C f args r ob k := by
 subst hargs
 unfold CallQ
 intro σ G fp w hm h7
 simp only [Bool.and_eq_true] at h4
 have hent:=entO_of h2 h4.1.1
 obtain ⟨hlen,hidx⟩:=entO_spec hent
 have:=CM.run (C:=C) h r hent (nodupB_spec h4.1.2) (fun _=>h5) hd hm (restG w (MR r fp)) (fun b o hb=>?_) (restG_le hm (allLt_spec h4.2)) (fun h=>by cases h) (wfs_nm _ h7 h.1)
 ·rwa [← vals_ren] at this
 ·obtain ⟨g1,g2⟩:=restG_some hb
  refine ⟨g1,fun j hj hf=>g2 ⟨r.getD j 0,?_,hf⟩⟩
  have hj' : j < r.length:=by omega
  simp [hj']
end
end Go.Proofs.YtkflmidichikjaaGreatDoor.V
end
