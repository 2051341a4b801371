import Derived.Test.YtkflmidichikjaaGreatDoorZSystemReplays13
set_option linter.all false
section
namespace Go.Proofs.YtkflmidichikjaaGreatDoor.V
open Go.RowKit
def mapE {α β : Type} (f : Nat → α → β × Int) : List α → Nat → List β × Int
 | [],_=>([],0)
 | x :: r,i=>if (f i x).2 ≠ 0 then ([],(f i x).2) else if (mapE f r (i + 1)).2 ≠ 0 then ([],(mapE f r (i + 1)).2) else ((f i x).1 :: (mapE f r (i + 1)).1,0)
theorem mapE_ok {α β : Type} [Inhabited α] {f : Nat → α → β × Int} : ∀ {M : List α} {s : Nat}, (∀ j, j < M.length → (f (s + j) (gt M j)).2 = 0) → mapE f M s = ((List.range M.length).map fun j => (f (s + j) (gt M j)).1, 0)
 | [],_,_=>rfl
 | x :: r,s,h=>by
   have h0 : (f s x).2=0:=by simpa [gt] using h 0 (by simp)
   have hr:=mapE_ok (f:=f) (M:=r) (s:=s + 1) fun j hj=>by
    have:=h (j + 1) (by simpa using hj)
    simpa [gt,Nat.add_assoc,Nat.add_comm 1] using this
   unfold mapE
   rw [if_neg (by simpa using h0),hr]
   simp only [ne_eq,not_true_eq_false,if_false,List.length_cons,List.range_succ_eq_map,List.map_cons,List.map_map]
   congr 2
   apply List.map_congr_left
   intro j hj
   simp [gt,Nat.add_assoc,Nat.add_comm 1]
theorem mapE_err {α β : Type} [Inhabited α] {f : Nat → α → β × Int} : ∀ {M : List α} {s i : Nat}, i < M.length → (∀ j, j < i → (f (s + j) (gt M j)).2 = 0) → (f (s + i) (gt M i)).2 ≠ 0 → mapE f M s = ([], (f (s + i) (gt M i)).2)
 | [],_,_,h,_,_=>by simp at h
 | x :: r,s,0,_,_,h=>by
   unfold mapE
   simp only [gt,List.getD_cons_zero,Nat.add_zero] at h ⊢
   rw [if_pos h]
 | x :: r,s,i + 1,h,h1,h2=>by
   have h0 : (f s x).2=0:=by simpa [gt] using h1 0 (by omega)
   have e : (s + 1 + i)=s + (i + 1):=by omega
   have hr:=mapE_err (f:=f) (M:=r) (s:=s + 1) (i:=i) (by simpa using h) (fun j hj=>by
    have:=h1 (j + 1) (by omega)
    simpa [gt,Nat.add_assoc,Nat.add_comm 1] using this) (by simpa [gt,e] using h2)
   unfold mapE
   rw [if_neg (by simpa using h0),hr]
   have h3 : (f (s + 1 + i) (gt r i)).2 ≠ 0:=by simpa [gt,e] using h2
   rw [if_pos h3,e]
   simp [gt]
theorem mapE_ok0 {α β : Type} [Inhabited α] {f : Nat → α → β × Int} {M : List α} (h : ∀ j, j < M.length → (f j (gt M j)).2 = 0) : mapE f M 0 = ((List.range M.length).map fun j => (f j (gt M j)).1, 0) := by
 have:=mapE_ok (f:=f) (M:=M) (s:=0) (fun j hj=>by simpa using h j hj)
 simpa using this
theorem mapE_err0 {α β : Type} [Inhabited α] {f : Nat → α → β × Int} {M : List α} {i : Nat} (hi : i < M.length) (h : ∀ j, j < i → (f j (gt M j)).2 = 0) (h2 : (f i (gt M i)).2 ≠ 0) : mapE f M 0 = ([], (f i (gt M i)).2) := by
 have:=mapE_err (f:=f) (M:=M) (s:=0) hi (fun j hj=>by simpa using h j hj) (by simpa using h2)
 simpa using this
theorem range_next {β : Type} {g : Nat → β} {i : Nat} : (List.range (i + 1)).map g = (List.range i).map g ++ [g i] := by
 rw [List.range_succ,List.map_append]
 rfl
theorem all_next {p : Nat → Prop} {i : Nat} (h : ∀ j, j < i → p j) (hi : p i) : ∀ j, j < i + 1 → p j := fun j hj => by
 rcases Nat.lt_succ_iff_lt_or_eq.1 hj with h1|rfl
 ·exact h j h1
 ·exact hi
theorem any_no {α : Type} [Inhabited α] {p : α → Bool} {X : List α} (h : ∀ j, j < X.length → p (gt X j) = false) : X.any p = false := by
 rw [List.any_eq_false]
 intro a ha
 obtain ⟨j,hj,rfl⟩:=List.mem_iff_getElem.1 ha
 have:=h j hj
 simp only [gt,List.getD_eq_getElem?_getD,List.getElem?_eq_getElem hj,Option.getD_some] at this
 simp [this]
theorem any_yes {α : Type} [Inhabited α] {p : α → Bool} {X : List α} {i : Nat} (hi : i < X.length) (h : p (gt X i) = true) : X.any p = true := List.any_eq_true.2 ⟨gt X i, gt_mem hi, h⟩
attribute [irreducible] mapE
end Go.Proofs.YtkflmidichikjaaGreatDoor.V
end
section
namespace Go.Proofs.YtkflmidichikjaaGreatDoor.V
open Go.RowKit
set_option maxRecDepth 100000
theorem RowAt.fill {P : Program} {G : Fz} {w : World} {e sz c b i : Nat} {els Z : List (List DV)} {zs : List (List Value)} {F : Nat → Prop} (h : RowAt G w e sz (dA b) c els F) (hi : i + Z.length ≤ els.length) (h0 : 0 < Z.length) (hz : rdLL G Z zs) (hs : ∀ x ∈ Z, x.length = sz) :
 ∃ g cur',F g∧(storeCells ⟨qB b,qO b + i * sz,none⟩ zs.flatten).run P w = .ok () (w.setRow g cur')∧RowAt G (w.setRow g cur') e sz (dA b) c (els.take i ++ Z ++ els.drop (i + Z.length)) F∧w.heap[g]? ≠ none:=by
 have hcap:=h.cap
 rcases h.at_ with ⟨h0',_⟩|⟨g,o,cur,xs,hA,⟨fz,hg,hfz⟩,hle,hr,hfl,hF⟩
 ·omega
 have hqq:=dA_q hA
 simp at hqq
 obtain ⟨hq1,hq2⟩:=hqq
 have hxs:=rdLL_size hr h.size
 have hzs:=rdLL_size hz hs
 have hxl:=rdLL_len hr
 have hzl:=rdLL_len hz
 have hfl2:=flat_len hxs
 have hfl3:=flat_len hzs
 have hle1 : i * sz + zs.flatten.length≤els.length * sz:=by
  rw [hfl3,hzl,← Nat.add_mul]
  exact Nat.mul_le_mul_right _ hi
 have hle2 : els.length * sz≤c * sz:=Nat.mul_le_mul_right _ hcap.1
 have hst:=run_storeCells_atB P g (o + i * sz) e fz zs.flatten 0 cur w hg (hfz.use (by omega)) (by omega) (rdLL_one hz)
 simp only [Nat.add_zero] at hst
 have hrow:=setRow_heap w g cur (cur.toList.take (o + i * sz) ++ zs.flatten ++ cur.toList.drop (o + i * sz + zs.flatten.length)).toArray e fz hg
 have hlen : (els.take i ++ Z ++ els.drop (i + Z.length)).length=els.length:=by simp;omega
 refine ⟨g,_,(hF g).2 rfl,by rw [← hq1,← hq2];exact hst,⟨by rw [hlen];exact hcap,fun x hx=>?_,h.spot,.inr ⟨g,o,_,xs.take i ++ zs ++ xs.drop (i + Z.length),hA,⟨fz,hrow,hfz.le (by simp only [List.size_toArray,List.length_append,List.length_take,List.length_drop,Array.length_toList];omega)⟩,?_,?_,?_,hF⟩⟩,by rw [hg];simp⟩
 ·simp only [List.mem_append] at hx
  rcases hx with (hx|hx)|hx
  ·exact h.size x (List.mem_of_mem_take hx)
  ·exact hs x hx
  ·exact h.size x (List.mem_of_mem_drop hx)
 ·simp only [List.size_toArray,List.length_append,List.length_take,List.length_drop,Array.length_toList]
  omega
 ·refine rdLL_app (rdLL_app ?_ hz) ?_
  ·have:=rdLL_cut 0 i hr
   simpa using this
  ·have:=rdLL_cut (i + Z.length) els.length hr
   rwa [List.take_of_length_le (by simp),List.take_of_length_le (by rw [List.length_drop];omega)] at this
 ·have e1 : (xs.take i ++ zs ++ xs.drop (i + Z.length)).flatten=xs.flatten.take (i * sz) ++ zs.flatten ++ xs.flatten.drop (i * sz + zs.flatten.length):=by
   have a1:=flat_cut (els:=xs) 0 i hxs
   have a2:=flat_cut (els:=xs) (i + Z.length) xs.length hxs
   simp only [List.drop_zero,Nat.zero_mul] at a1
   rw [List.take_of_length_le (by simp),List.take_of_length_le (by rw [List.length_drop,hfl2];omega)] at a2
   rw [List.flatten_append,List.flatten_append,a1,a2,hfl3,hzl,Nat.add_mul]
  rw [e1,← hfl,hlen]
  have hdr:=splice_drop cur.toList zs.flatten o (i * sz) (by have:=cur.length_toList;omega)
  simp only []
  rw [hdr]
  exact splice_take _ zs.flatten (i * sz) (els.length * sz) hle1 (by have:=cur.length_toList;rw [List.length_drop];omega)
theorem zeroCells_eq (l : List Value) : ∀ n : Nat, (Builtin.zeroCells l.toArray n).toList = (List.replicate n l).flatten
 | 0=>by simp [Builtin.zeroCells]
 | n + 1=>by
   have ih:=zeroCells_eq l n
   rw [List.replicate_succ',List.flatten_append,← ih]
   unfold Builtin.zeroCells
   apply List.ext_getElem?
   intro q
   have hs : l.toArray.size=l.length:=by simp
   rw [hs]
   simp only [Array.toList_map,Array.toList_range,List.flatten_cons,List.flatten_nil,List.append_nil,List.getElem?_map]
   by_cases hq : q < n * l.length
   ·rw [List.getElem?_append_left (by simpa using hq)]
    have h1 : q < (n + 1) * l.length:=by rw [Nat.add_mul];omega
    simp [h1,hq]
   ·rw [List.getElem?_append_right (by simpa using Nat.le_of_not_lt hq)]
    simp only [List.length_map,List.length_range]
    by_cases h1 : q < (n + 1) * l.length
    ·have h2 : q - n * l.length < l.length:=by rw [Nat.add_mul] at h1;omega
     have h3 : q % l.length=q - n * l.length:=by
      obtain ⟨m,rfl⟩ : ∃ m,q=m + n * l.length:=⟨_,(Nat.sub_add_cancel (by omega)).symm⟩
      rw [Nat.add_mul_mod_self_right,Nat.add_sub_cancel,Nat.mod_eq_of_lt (by simpa using h2)]
     simp [h1,h2,h3]
    ·have h2 : ¬ q - n * l.length < l.length:=by rw [Nat.add_mul] at h1;omega
     simp [h1,List.getElem?_eq_none (Nat.le_of_not_lt h2)]
theorem rdLL_rep {G : Fz} {l : List Value} (h : ∀ v ∈ l, v.oneCell' = true) : ∀ n : Nat, rdLL G (List.replicate n (l.map .v)) (List.replicate n l)
 | 0=>trivial
 | n + 1=>⟨rdL_v l h,rdLL_rep h n⟩
theorem OpX_clear {C : Ctx} {ob : List OB} {e sz : Nat} {els : List (List DV)} {o : Oper} {t : TypeId} {x : Operand} {j p i n : Nat} {k : SV → List OB → Prop} {te : TI} (hT : TabOk C.P C.T) (ho : o.op = .call ⟨.builtin .clear, #[x], #[t]⟩) (hj : nth ob j = some (.row false e sz els))
 (hs : slInfo C t=some (e,sz)) (hte : lookT C.T e=some te) (hone : ones (te.zero.map .v)=true) (hi : i + n≤els.length)
 (hk : force (setN ob j (.row false e sz (els.take i ++ List.replicate n (te.zero.map .v) ++ els.drop (i + n)))) fun ob=>k (.t []) ob) : OpX C o [.sl j p i n sz] ob k:=by
 unfold OpX
 intro σ G fp w ρ hm hw hx
 obtain ⟨hu,te',hl,hz,hti,hid⟩:=slInfo_spec hT hs
 rw [hte] at hl
 cases hl
 have hj':=hj
 rw [nth_eq] at hj'
 have hat : RowAt G w e sz (dA (σ j)) (dC (σ j)) els (fp j):=hm.at_ j _ hj'
 have hjl:=(List.getElem?_eq_some_iff.1 hj').1
 rw [ho] at hx
 simp only [Op.operands,Call.operands,SV.vals,SV.val] at hx
 simp at hx
 obtain ⟨dst,op,ty,pos,after,guard⟩:=o
 simp only at ho
 subst ho
 rw [force_eq,setN_eq] at hk
 have h1z : ∀ v∈te.zero,v.oneCell' = true:=by
  have:=ones_spec (fun _=>0) hone
  rwa [vals_v] at this
 by_cases hn : n=0
 ·subst hn
  have hex : (execOp ρ ⟨dst,.call ⟨.builtin .clear,#[x],#[t]⟩,ty,pos,after,guard⟩).run C.P w = .ok (.value (.tuple #[])) w:=by
   cases hA : cutP (dA (σ j)) (dC (σ j)) p i sz<;>simp [execOp,resolve,invoke,builtin,Builtin.clear_,hx,hA,run_underlying hu,Result.andThen]
  rw [hex]
  have e1 : ob.set j (.row false e sz (els.take i ++ List.replicate 0 (te.zero.map DV.v) ++ els.drop (i + 0)))=ob:=by
   simp only [List.replicate_zero,List.append_nil,Nat.add_zero,List.take_append_drop]
   apply List.ext_getElem?
   intro q
   rw [List.getElem?_set]
   by_cases hq : j=q
   ·subst hq;simp [hjl,hj'.symm]
   ·simp [hq]
  rw [e1] at hk
  exact Goes.same (x:=.t []) hk trivial hm
 ·have hlen : (List.replicate n (te.zero.map DV.v)).length=n:=by simp
  obtain ⟨g,cur',hg,hst,hrow,_⟩:=hat.fill (P:=C.P) (i:=i) (Z:=List.replicate n (te.zero.map DV.v)) (zs:=List.replicate n te.zero) (by rw [hlen];exact hi) (by rw [hlen];omega) (rdLL_rep h1z n) (by
   intro x hx
   have:=List.eq_of_mem_replicate hx
   rw [this,List.length_map,hz])
  rw [hlen] at hrow
  have hA : ∃ a,dA (σ j)=some a:=by
   rcases hat.at_ with ⟨h0,_⟩|⟨g',o',_,_,hA,_⟩
   ·have:=hat.cap.1;omega
   ·exact ⟨_,hA⟩
  obtain ⟨a,hA⟩:=hA
  have hcp : cutP (dA (σ j)) (dC (σ j)) p i sz=some ⟨qB (σ j),qO (σ j) + i * sz,none⟩:=by
   have hb : Nat.beq (dC (σ j)) i=false:=by
    cases hq : Nat.beq (dC (σ j)) i with
    | false=>rfl
    | true=>have:=Nat.eq_of_beq_eq_true hq;have:=hat.cap.1;omega
   simp only [cutP,hA,hb,cond_false,Option.map_some,dA_q hA]
  obtain ⟨z,hzr,hzc⟩:=hti.zero
  have hzr':=hzr w
  rw [hid] at hzr'
  rw [← zeroCells_eq,← hzc] at hst
  obtain ⟨m',hm'⟩ : ∃ m',n=m' + 1:=⟨n - 1,by omega⟩
  have hex : (execOp ρ ⟨dst,.call ⟨.builtin .clear,#[x],#[t]⟩,ty,pos,after,guard⟩).run C.P w = .ok (.value (.tuple #[])) (w.setRow g cur'):=by
   rw [hm'] at hst
   simp [execOp,resolve,invoke,builtin,Builtin.clear_,hx,hcp,hm',run_underlying hu,hzr',hst,Result.andThen]
  rw [hex]
  obtain ⟨hsz2,hsame⟩:=setRow_same (w:=w) g cur' (F:=fp j) hg
  have hM:=hm.change (w':=w.setRow g cur') hjl (.row false e sz (els.take i ++ List.replicate n (te.zero.map DV.v) ++ els.drop (i + n))) (fp j) hrow (fun i hi=>.inl hi) (by
   intro u hu
   have:=hm.hi j hjl u hu
   simpa [World.setRow] using this) rfl rfl rfl hsz2 hsame (fun _=>Nat.le_refl _)
  exact ⟨.t [],_,σ,G,_,hk,fun _ _=>rfl,Fz.refl _,by simp,rfl,trivial,hM,Frm.changed hjl (by simp) (fun i hi=>.inl hi) hsz2 hsame⟩
theorem OpX_appSelf {C : Ctx} {ob : List OB} {e sz : Nat} {els : List (List DV)} {o : Oper} {t : TypeId} {x y : Operand} {j p p2 i1 i2 n2 : Nat} {k : SV → List OB → Prop} {te : TI} (hT : TabOk C.P C.T) (ho : o.op = .call ⟨.builtin .append, #[x, y], #[t, t]⟩) (hj : nth ob j = some (.row false e sz els))
 (hs : slInfo C t=some (e,sz)) (hte : lookT C.T e=some te) (h1 : i1≤i2) (h2 : i2 + n2≤els.length) (hn : 0 < n2)
 (hk : force (setN ob j (.row false e sz (els.take i1 ++ (els.drop i2).take n2 ++ els.drop (i1 + n2)))) fun ob=>k (.sl j p 0 (i1 + n2) sz) ob) : OpX C o [.sl j p 0 i1 sz,.sl j p2 i2 n2 sz] ob k:=by
 unfold OpX
 intro σ G fp w ρ hm hw hx
 obtain ⟨hu,te',hl,hz,hti,hid⟩:=slInfo_spec hT hs
 rw [hte] at hl
 cases hl
 have hj':=hj
 rw [nth_eq] at hj'
 have hat : RowAt G w e sz (dA (σ j)) (dC (σ j)) els (fp j):=hm.at_ j _ hj'
 have hjl:=(List.getElem?_eq_some_iff.1 hj').1
 have hcap:=hat.cap
 obtain ⟨iz,z,hi,hz',hzc,his,hib⟩:=hti.inf
 rw [hid] at hi
 have hS:=(hat.rds).part (p:=p2) (b:=σ j) (by exact hcap.1) (by omega : i2 + n2≤els.length)
 have hlen2:=hS.len
 obtain ⟨b,oo,xs2,hA2,hr2,hc2⟩:=hS.at_ (by omega)
 have hx2:=rdLL_size hr2 hS.size
 have hl2 : xs2.flatten.length=n2 * sz:=by rw [flat_len hx2,rdLL_len hr2,hlen2]
 have hcells : ∀ j u,xs2.flatten[j]? = some u→w.cell? ((⟨b,oo,none⟩ : Addr).add j)=some u:=fun j u hj=>by rw [Addr.add_mid];exact hc2 j u hj
 obtain ⟨g,cur',hg,hst,hrow,_⟩:=hat.fill (P:=C.P) (i:=i1) (Z:=(els.drop i2).take n2) (zs:=xs2) (by rw [hlen2];omega) (by rw [hlen2];exact hn) hr2 hS.size
 rw [hlen2] at hrow
 have hA : ∃ a,dA (σ j)=some a:=by
  rcases hat.at_ with ⟨h0,_⟩|⟨g',o',_,_,hA,_⟩
  ·omega
  ·exact ⟨_,hA⟩
 obtain ⟨a,hA⟩:=hA
 have hb0 : Nat.beq (dC (σ j)) 0=false:=by
  cases hq : Nat.beq (dC (σ j)) 0 with
  | false=>rfl
  | true=>have:=Nat.eq_of_beq_eq_true hq;omega
 have hcp : cutP (dA (σ j)) (dC (σ j)) p 0 sz=some ⟨qB (σ j),qO (σ j),none⟩:=by
  simp only [cutP,hA,hb0,cond_false,Option.map_some,dA_q hA,Nat.zero_mul,Nat.add_zero]
 rw [ho] at hx
 simp only [Op.operands,Call.operands,SV.vals,SV.val,hcp,hA2] at hx
 simp at hx
 have hfc:=run_firstCells_some (P:=C.P) w iz.size n2 ⟨b,oo,none⟩ n2 (dC (σ j) - i2) xs2.flatten (by rw [hl2,his,hz]) hcells
 obtain ⟨dst,op,ty,pos,after,guard⟩:=o
 simp only at ho
 subst ho
 rw [his,hz] at hfc
 have hadd : (⟨qB (σ j),qO (σ j),none⟩ : Addr).add (i1 * sz) = ⟨qB (σ j),qO (σ j) + i1 * sz,none⟩:=Addr.add_mid ..
 have hex : (execOp ρ ⟨dst,.call ⟨.builtin .append,#[x,y],#[t,t]⟩,ty,pos,after,guard⟩).run C.P w = .ok (.value (.slice (some ⟨qB (σ j),qO (σ j),none⟩) (i1 + n2) (dC (σ j)))) (w.setRow g cur'):=by
  have hle : i1 + n2≤dC (σ j):=by omega
  simp [execOp,resolve,invoke,builtin,hx.1,hx.2,Builtin.append_,run_underlying hu,sizeOf,typeInfo,hi,Builtin.lenOf,hle,hfc,his,hz,hadd,hst,Result.andThen]
 rw [hex]
 rw [force_eq,setN_eq] at hk
 obtain ⟨hsz2,hsame⟩:=setRow_same (w:=w) g cur' (F:=fp j) hg
 have hM:=hm.change (w':=w.setRow g cur') hjl (.row false e sz (els.take i1 ++ (els.drop i2).take n2 ++ els.drop (i1 + n2))) (fp j) hrow (fun i hi=>.inl hi) (by
  intro u hu
  have:=hm.hi j hjl u hu
  simpa [World.setRow] using this) rfl rfl rfl hsz2 hsame (fun _=>Nat.le_refl _)
 exact ⟨.sl j p 0 (i1 + n2) sz,_,σ,G,_,hk,fun _ _=>rfl,Fz.refl _,by simp,by simp only [SV.val,hcp,Nat.sub_zero],by simp only [SV.wf];simpa using hjl,hM,Frm.changed hjl (by simp) (fun i hi=>.inl hi) hsz2 hsame⟩
section
variable {C : Ctx} {ob : List OB} {e sz n : Nat} {els : List (List DV)} {k : SV → Prop}
theorem ValX_slX {o : Oper} {t : TypeId} {x la ha : Operand} {j b i N : Nat} {m q : Int} {ro : Bool} (hT : TabOk C.P C.T) (ho : o.op = .slice t x (some la) (some ha) none) (hs : slInfo C t = some (e, sz)) (hj : nth ob j = some (.row ro e sz els)) (hN : els.length = N) (g0 : 0 ≤ m) (g1 : m ≤ q) (g2 : i + q.toNat ≤ N) (g3 : i + n ≤ N)
 (hk : k (.sl j (bif Nat.beq m.toNat 0 then b else i) (i + m.toNat) (q.toNat - m.toNat) sz)) : ValX C o [.sl j b i n sz,.v (.int .i64 m),.v (.int .i64 q)] ob k:=by
 unfold ValX
 intro σ G fp w ρ hm hw hx
 obtain ⟨hu,hz⟩:=slInfo_run hT hs w
 obtain ⟨hS,hc,hjl⟩:=hm.row hj
 have hr:=run_slice (P:=C.P) (w:=w) (n:=n) (c:=dC (σ j) - i) (A:=cutP (dA (σ j)) (dC (σ j)) b i sz) hu hz (some m) (some q) none (by simp) (fun m' hm=>by simp at hm;omega) (by simp;omega) (by simp;omega) (by simp)
 refine ⟨_,hk,slice_exec (lo:=some m) (hi:=some q) (mx:=none) ho rfl rfl rfl hx hu (y:=.sl j b i n sz) ?_,hjl⟩
 rw [SV.val,hr]
 simp only [SV.val,Option.map_none,Option.getD_none,Option.map_some,Option.getD_some]
 rw [cut_cut (by omega)]
 rw [Nat.sub_sub]
theorem ValX_sl3 {o : Oper} {t : TypeId} {x la ha ma : Operand} {j b i N : Nat} {m q u : Int} {ro : Bool} (hT : TabOk C.P C.T) (ho : o.op = .slice t x (some la) (some ha) (some ma)) (hs : slInfo C t = some (e, sz)) (hj : nth ob j = some (.row ro e sz els)) (hN : els.length = N) (g0 : 0 ≤ m) (g1 : m ≤ q) (g2 : q ≤ u) (g3 : i + u.toNat ≤ N)
 (hk : ∀ A,k (.v (.slice A (q.toNat - m.toNat) (u.toNat - m.toNat)))) : ValX C o [.sl j b i n sz,.v (.int .i64 m),.v (.int .i64 q),.v (.int .i64 u)] ob k:=by
 unfold ValX
 intro σ G fp w ρ hm hw hx
 obtain ⟨hu,hz⟩:=slInfo_run hT hs w
 obtain ⟨hS,hc,hjl⟩:=hm.row hj
 have hr:=run_slice (P:=C.P) (w:=w) (n:=n) (c:=dC (σ j) - i) (A:=cutP (dA (σ j)) (dC (σ j)) b i sz) hu hz (some m) (some q) (some u) (by simp) (fun m' hm=>by simp at hm;omega) (by simp;omega) (by simp;omega) (by simp;omega)
 refine ⟨_,hk (cutA (cutP (dA (σ j)) (dC (σ j)) b i sz) u.toNat m.toNat sz),slice_exec (lo:=some m) (hi:=some q) (mx:=some u) ho rfl rfl rfl hx hu (y:=.sl j b i n sz) ?_,trivial⟩
 simpa only [SV.val,Option.map_some,Option.getD_some] using hr
end
theorem OpX_appSelfF {C : Ctx} {ob : List OB} {e sz : Nat} {α : Type} {enc : α → List Value} {X : List α} {o : Oper} {t : TypeId} {x y : Operand} {j p p2 i1 i2 n2 : Nat} {k : SV → List OB → Prop} {te : TI} (hT : TabOk C.P C.T) (ho : o.op = .call ⟨.builtin .append, #[x, y], #[t, t]⟩) (hj : nth ob j = some (.row false e sz (fl enc X)))
 (hs : slInfo C t=some (e,sz)) (hte : lookT C.T e=some te) (h1 : i1≤i2) (h2 : i2 + n2≤X.length) (hn : 0 < n2)
 (hk : force (setN ob j (.row false e sz (fl enc (X.take i1 ++ (X.drop i2).take n2 ++ X.drop (i1 + n2))))) fun ob=>k (.sl j p 0 (i1 + n2) sz) ob) : OpX C o [.sl j p 0 i1 sz,.sl j p2 i2 n2 sz] ob k :=
 OpX_appSelf hT ho hj hs hte h1 (by rw [fl_len];exact h2) hn (by
  have : ((fl enc X).take i1 ++ ((fl enc X).drop i2).take n2 ++ (fl enc X).drop (i1 + n2))=fl enc (X.take i1 ++ (X.drop i2).take n2 ++ X.drop (i1 + n2)):=by simp [fl,List.map_drop,List.map_take]
  rw [this];exact hk)
theorem OpX_clearF {C : Ctx} {ob : List OB} {e sz : Nat} {α : Type} [Inhabited α] {enc : α → List Value} {X : List α} {o : Oper} {t : TypeId} {x : Operand} {j p i n : Nat} {k : SV → List OB → Prop} {te : TI} (hT : TabOk C.P C.T) (ho : o.op = .call ⟨.builtin .clear, #[x], #[t]⟩) (hj : nth ob j = some (.row false e sz (fl enc X)))
 (hs : slInfo C t=some (e,sz)) (hte : lookT C.T e=some te) (hone : ones (te.zero.map .v)=true) (hz : te.zero=enc default) (hi : i + n≤X.length)
 (hk : force (setN ob j (.row false e sz (fl enc (X.take i ++ List.replicate n default ++ X.drop (i + n))))) fun ob=>k (.t []) ob) : OpX C o [.sl j p i n sz] ob k :=
 OpX_clear hT ho hj hs hte hone (by rw [fl_len];exact hi) (by
  have : ((fl enc X).take i ++ List.replicate n (te.zero.map DV.v) ++ (fl enc X).drop (i + n))=fl enc (X.take i ++ List.replicate n default ++ X.drop (i + n)):=by simp [fl,List.map_drop,List.map_take,hz]
  rw [this];exact hk)
theorem OpX_app0 {C : Ctx} {ob : List OB} {e sz : Nat} {els : List (List DV)} {o : Oper} {t : TypeId} {x y : Operand} {j p p2 i1 i2 n2 : Nat} {k : SV → List OB → Prop} {te : TI} (hT : TabOk C.P C.T) (ho : o.op = .call ⟨.builtin .append, #[x, y], #[t, t]⟩) (hj : nth ob j = some (.row false e sz els))
 (hs : slInfo C t=some (e,sz)) (hte : lookT C.T e=some te) (h1 : i1≤els.length) (hn : n2=0) (hk : k (.sl j p 0 i1 sz) ob) : OpX C o [.sl j p 0 i1 sz,.sl j p2 i2 n2 sz] ob k:=by
 subst hn
 unfold OpX
 intro σ G fp w ρ hm hw hx
 obtain ⟨hu,te',hl,hz,hti,hid⟩:=slInfo_spec hT hs
 rw [hte] at hl
 cases hl
 have hj':=hj
 rw [nth_eq] at hj'
 have hat : RowAt G w e sz (dA (σ j)) (dC (σ j)) els (fp j):=hm.at_ j _ hj'
 have hcap:=hat.cap
 obtain ⟨iz,z,hi,hz',hzc,his,hib⟩:=hti.inf
 rw [hid] at hi
 rw [ho] at hx
 simp only [Op.operands,Call.operands,SV.vals,SV.val] at hx
 simp at hx
 obtain ⟨dst,op,ty,pos,after,guard⟩:=o
 simp only at ho
 subst ho
 have hle : i1≤dC (σ j):=by omega
 have hfc : ∀ A2 c2,(Builtin.firstCells iz.size 0 (.slice A2 0 c2)).run C.P w = .ok #[] w:=by
  intro A2 c2
  cases A2 with
  | none=>simp [Builtin.firstCells]
  | some ad=>simpa using run_firstCells_some (P:=C.P) w iz.size 0 ad 0 c2 [] (by simp) (by simp)
 have hex : (execOp ρ ⟨dst,.call ⟨.builtin .append,#[x,y],#[t,t]⟩,ty,pos,after,guard⟩).run C.P w = .ok (.value ((SV.sl j p 0 i1 sz).val σ)) w:=by
  simp only [SV.val,Nat.sub_zero]
  cases hA : cutP (dA (σ j)) (dC (σ j)) p 0 sz with
  | none=>simp [execOp,resolve,invoke,builtin,hx.1,hx.2,hA,Builtin.append_,run_underlying hu,sizeOf,typeInfo,hi,Builtin.lenOf,hle,hfc,Result.andThen]
  | some a=>simp [execOp,resolve,invoke,builtin,hx.1,hx.2,hA,Builtin.append_,run_underlying hu,sizeOf,typeInfo,hi,Builtin.lenOf,hle,hfc,storeCells,Result.andThen]
 rw [hex]
 exact Goes.same (x:=.sl j p 0 i1 sz) hk hw.1 hm
set_option maxHeartbeats 8000000
theorem del_list {α : Type} [Inhabited α] {X : List α} {n i : Nat} (hn : n ≤ X.length) (hp : i + 1 ≤ n) : (X.take i ++ (X.drop (i + 1)).take (n - (i + 1)) ++ X.drop (i + (n - (i + 1)))).take (i + (n - (i + 1))) ++ List.replicate (n - (i + (n - (i + 1)))) default ++ (X.take i ++ (X.drop (i + 1)).take (n - (i + 1)) ++ X.drop (i + (n - (i + 1)))).drop (i + (n - (i + 1)) + (n - (i + (n - (i + 1))))) = X.take i ++ (X.take n).drop (i + 1) ++ [default] ++ X.drop n := by
 have hB : (X.drop (i + 1)).take (n - (i + 1))=(X.take n).drop (i + 1):=by rw [List.drop_take]
 have hW : (X.take i ++ (X.take n).drop (i + 1)).length=i + (n - (i + 1)):=by simp;omega
 rw [hB]
 generalize X.take i ++ (X.take n).drop (i + 1)=W at *
 generalize ha : i + (n - (i + 1))=a at *
 rw [show n - a=1 by omega,List.take_left' hW,show n=a + 1 by omega]
 rw [List.drop_append,hW,List.drop_of_length_le (by omega : W.length≤a + 1),List.drop_drop,show a + 1 - a=1 by omega]
 simp
instance inVt_1 : CMp 222 (List Box × Nat × Int) false (fun (X, n, i) => [.sl 0 0 0 n 6, I i, I (i + 1)]) (fun (X, n, i) => [.row false 85 6 (fl Box.e X)]) (fun (X, n, i) => n ≤ X.length ∧ 0 ≤ i ∧ i + 1 ≤ n ∧ n ≤ 1000000) (fun (X, n, i) => .sl 0 0 0 (i.toNat + (n - (i.toNat + 1))) 6) (fun (X, n, i) => [.row false 85 6 (fl Box.e (X.take i.toNat ++ (X.take n).drop (i.toNat + 1) ++ [default] ++ X.drop n))]) := ⟨fun ⟨X, n, i⟩ hp => by
 obtain ⟨hn,hp0,hp,hp2⟩:=hp
 obtain ⟨i,rfl⟩ : ∃ j : Nat,i=(j : Int):=⟨i.toNat,by omega⟩
 replace hp : i + 1≤n:=by omega
 simp only [Int.toNat_natCast]
 refine CM.of Tryz.func222 rfl tabOk rfl rfl rfl rfl (by simp [SV.nms,SV.nm]) fun w_ M_ π_ G0_=>?_
 refine runA (a1 ?_)
 refine ValX_sl3 tabOk rfl rfl rfl (fl_len _ _) (by omega) (by omega) (by omega) (by omega) (fun A=>?_)
 have hl : (X.take i ++ (X.drop (i + 1)).take (n - (i + 1)) ++ X.drop (i + (n - (i + 1)))).length=X.length:=by simp;omega
 by_cases hlast : i + 1=n
 ·(conv=>whnf)
  repeat' (first|with_reducible exact trivial|((with_reducible show OpX _ _ _ _ _);(first|refine OpX_app0 tabOk rfl rfl rfl rfl (by rw [fl_len];omega) zSd ?_|refine OpX_clearF tabOk rfl rfl rfl rfl rfl rfl zSd ?_);conv=>whnf)|((with_reducible show ValX _ _ _ _ _);refine ValX_slX tabOk rfl rfl rfl (fl_len _ _) zSd zSd zSd zSd ?_;conv=>whnf)|((first |(with_reducible show xwr64 _ _);refine xwr_a ?_ |(with_reducible show CallX _ _ _ _ _);(first|refine CallX_i ?_ zSi|(refine AQ_has ?_;(first|(refine AQ_chk 1 ?_;apply CallX_mp (_);(conv=>whnf);refine ⟨⟨rfl,rfl⟩,zSi,by kernel_rfl,?_⟩)|(refine AQ_chk 2 ?_;apply CallX_mp (_,_);(conv=>whnf);refine ⟨⟨rfl,rfl⟩,zSi,by kernel_rfl,?_⟩)|(refine AQ_chk 3 ?_;apply CallX_mp (_,_,_);(conv=>whnf);refine ⟨⟨rfl,rfl⟩,zSi,by kernel_rfl,?_⟩)|(refine AQ_chk 4 ?_;apply CallX_mp (_,_,_,_);(conv=>whnf);refine ⟨⟨rfl,rfl⟩,zSi,by kernel_rfl,?_⟩)|(refine AQ_chk 5 ?_;apply CallX_mp (_,_,_,_,_);(conv=>whnf);refine ⟨⟨rfl,rfl⟩,zSi,by kernel_rfl,?_⟩)|(refine AQ_chk 6 ?_;apply CallX_mp (_,_,_,_,_,_);(conv=>whnf);refine ⟨⟨rfl,rfl⟩,zSi,by kernel_rfl,?_⟩)|(refine AQ_chk 7 ?_;apply CallX_mp (_,_,_,_,_,_,_);(conv=>whnf);refine ⟨⟨rfl,rfl⟩,zSi,by kernel_rfl,?_⟩)|(refine AQ_chk 8 ?_;apply CallX_mp (_,_,_,_,_,_,_,_);(conv=>whnf);refine ⟨⟨rfl,rfl⟩,zSi,by kernel_rfl,?_⟩)|(refine AQ_chk 9 ?_;apply CallX_mp (_,_,_,_,_,_,_,_,_);(conv=>whnf);refine ⟨⟨rfl,rfl⟩,zSi,by kernel_rfl,?_⟩)|(refine AQ_chk 10 ?_;apply CallX_mp (_,_,_,_,_,_,_,_,_,_);(conv=>whnf);refine ⟨⟨rfl,rfl⟩,zSi,by kernel_rfl,?_⟩)|(refine AQ_chk 11 ?_;apply CallX_mp (_,_,_,_,_,_,_,_,_,_,_);(conv=>whnf);refine ⟨⟨rfl,rfl⟩,zSi,by kernel_rfl,?_⟩)|(refine AQ_chk 12 ?_;apply CallX_mp (_,_,_,_,_,_,_,_,_,_,_,_);(conv=>whnf);refine ⟨⟨rfl,rfl⟩,zSi,by kernel_rfl,?_⟩)))|(refine CallX_v fun φ=>?_;(conv=>whnf);(repeat ((with_reducible show ViewE _ _ _ _);(first|refine view_w zLn ?_|refine view_pf zSd ?_|refine view_p zSd ?_);(conv=>whnf)));(with_reducible show CallB _ _ _ _ _);refine CallB_i ?_ zSi)) |(with_reducible show CallB _ _ _ _ _);(with_reducible show CallB _ _ _ _ _);refine CallB_i ?_ zSi |(with_reducible show ValX _ _ _ _ _);(first|refine ValX_idxF tabOk rfl rfl zSd zSd ?_|refine ValX_idxS tabOk rfl rfl rfl zLn zSd zSd zSd ?_|refine ValX_loadF tabOk rfl rfl rfl rfl rfl zSd ?_|refine ValX_loadQ tabOk rfl rfl rfl rfl rfl rfl ?_|refine ValX_sl1 tabOk rfl rfl rfl zLn zSd zSd ?_|refine ValX_slLo tabOk rfl rfl rfl zLn zSd zSd zSd ?_|refine ValX_slHi tabOk rfl rfl rfl zLn zSd zSd zSd ?_|refine ValX_max3 rfl ?_|refine ValX_cpl rfl ?_|refine ValX_fzNil tabOk rfl rfl rfl (fun hb=>?_) ?_|refine ValX_bldA rfl rfl ?_ (fun w=>by kernel_rfl)|refine ValX_bldB rfl rfl ?_ (fun w=>by kernel_rfl)|refine ValX_ixA1 rfl rfl rfl rfl ?_ (fun w=>by kernel_rfl)|refine ValX_ixA2 rfl rfl rfl rfl ?_ (fun w=>by kernel_rfl)) |(with_reducible show OpX _ _ _ _ _);(first|refine OpX_storeF tabOk rfl rfl rfl (by rfl) (by rfl) zSd ?_|refine OpX_appF tabOk rfl rfl zLn rfl rfl zSe rfl zSd zSd ?_|refine OpX_appP tabOk rfl rfl rfl rfl zSe rfl zSd zSd zSd zSd ?_|refine OpX_build_a tabOk rfl rfl rfl ?_ (by rfl)|refine OpX_make_a tabOk rfl rfl rfl ?_ (by rfl) (by rfl) zSd zSd zSd|refine OpX_build0_a tabOk rfl rfl rfl ?_|refine OpX_nil_a rfl rfl ?_) |(with_reducible show DrawX _ _ _ _ _);refine DrawX_s tabOk folOk ?_ |(with_reducible show DrawS _ _ _ _ _ _ _);refine DrawS_i (by kernel_rfl) ?_ |(with_reducible show ViewE _ _ _ _);(first|refine view_w zLn ?_|refine view_pf zSd ?_|refine view_p zSd ?_) |(with_reducible show xquo64 _ _ _);(first|refine xquo_a ?_|refine xquo_b ?_) |(with_reducible show xrem64 _ _ _);(first|refine xrem_a ?_|refine xrem_b ?_) |(with_reducible show xshr _ _ _ _);(first|refine xshr_1 ?_|refine xshr_32 ?_|refine xshr_6 ?_|refine xshr_7 ?_|refine xshr_8 ?_|refine xshr_63 ?_) |(with_reducible show xshl _ _ _ _);(first|refine xshl_1u ?_|refine xshl_0u ?_|refine xshl_7u ?_) |(with_reducible show andX _ _);refine andX_i ?_ ?_ |(with_reducible show need _ _);refine need_i zSd ?_ |(with_reducible show xwru _ _ _);(first|refine xwru_64 (by omega) (by omega) ?_|refine xwru_32 (by omega) (by omega) ?_|refine xwru_32m ?_) |(with_reducible show xquou _ _ _ _);refine xquou_nn (by omega) (by omega) (by omega) ?_ |(with_reducible show xremu _ _ _);refine xremu_nn (by omega) (by omega) ?_ |(with_reducible show xcv _ _ _);(first|refine xcv_i64 (by omega) (by omega) ?_|refine xcv_u8 (by omega) (by omega) ?_|refine xcv_u32 (by omega) (by omega) ?_|refine xcv_u64 (by omega) (by omega) ?_|refine xcv_u8m ?_|refine xcv_u32m ?_|refine xcv_u64m ?_))<;>conv=>whnf)|((with_reducible refine xif_s ?_ ?_)<;>(intro hb;((try simp (disch:=omega) only [hbS,fl_len] at hb);(try have hb:=bnd hb))<;>first|(exfalso;omega)|conv=>whnf)))
  refine Fin_j () ?_
  conv=>whnf
  refine ⟨by simp [SV.ren];omega,?_,⟨flatD_fl _ _,trivial⟩,rfl⟩
  simp only [nthL,nth,rnOs,OB.rnB]
  refine congrArg (fun z=>some [OB.row false 85 6 (fl Box.e z)]) ?_
  have e1 : ((i : Int) + 1).toNat=i + 1:=by omega
  subst hlast
  simp only [e1,Int.toNat_natCast,Nat.zero_add]
  rw [show i + 1 - i=1 by omega,show List.drop (i + 1) (X.take (i + 1))=[] from List.drop_of_length_le (by rw [List.length_take];omega)]
  simp
 (conv=>whnf)
 repeat' (first|with_reducible exact trivial|((with_reducible show OpX _ _ _ _ _);(first|refine OpX_appSelfF tabOk rfl rfl rfl rfl zSd zSd zSd ?_|refine OpX_clearF tabOk rfl rfl rfl rfl rfl rfl zSd ?_);conv=>whnf)|((with_reducible show ValX _ _ _ _ _);refine ValX_slX tabOk rfl rfl rfl rfl zSd zSd zSd zSd ?_;conv=>whnf)|((first |(with_reducible show xwr64 _ _);refine xwr_a ?_ |(with_reducible show CallX _ _ _ _ _);(first|refine CallX_i ?_ zSi|(refine AQ_has ?_;(first|(refine AQ_chk 1 ?_;apply CallX_mp (_);(conv=>whnf);refine ⟨⟨rfl,rfl⟩,zSi,by kernel_rfl,?_⟩)|(refine AQ_chk 2 ?_;apply CallX_mp (_,_);(conv=>whnf);refine ⟨⟨rfl,rfl⟩,zSi,by kernel_rfl,?_⟩)|(refine AQ_chk 3 ?_;apply CallX_mp (_,_,_);(conv=>whnf);refine ⟨⟨rfl,rfl⟩,zSi,by kernel_rfl,?_⟩)|(refine AQ_chk 4 ?_;apply CallX_mp (_,_,_,_);(conv=>whnf);refine ⟨⟨rfl,rfl⟩,zSi,by kernel_rfl,?_⟩)|(refine AQ_chk 5 ?_;apply CallX_mp (_,_,_,_,_);(conv=>whnf);refine ⟨⟨rfl,rfl⟩,zSi,by kernel_rfl,?_⟩)|(refine AQ_chk 6 ?_;apply CallX_mp (_,_,_,_,_,_);(conv=>whnf);refine ⟨⟨rfl,rfl⟩,zSi,by kernel_rfl,?_⟩)|(refine AQ_chk 7 ?_;apply CallX_mp (_,_,_,_,_,_,_);(conv=>whnf);refine ⟨⟨rfl,rfl⟩,zSi,by kernel_rfl,?_⟩)|(refine AQ_chk 8 ?_;apply CallX_mp (_,_,_,_,_,_,_,_);(conv=>whnf);refine ⟨⟨rfl,rfl⟩,zSi,by kernel_rfl,?_⟩)|(refine AQ_chk 9 ?_;apply CallX_mp (_,_,_,_,_,_,_,_,_);(conv=>whnf);refine ⟨⟨rfl,rfl⟩,zSi,by kernel_rfl,?_⟩)|(refine AQ_chk 10 ?_;apply CallX_mp (_,_,_,_,_,_,_,_,_,_);(conv=>whnf);refine ⟨⟨rfl,rfl⟩,zSi,by kernel_rfl,?_⟩)|(refine AQ_chk 11 ?_;apply CallX_mp (_,_,_,_,_,_,_,_,_,_,_);(conv=>whnf);refine ⟨⟨rfl,rfl⟩,zSi,by kernel_rfl,?_⟩)|(refine AQ_chk 12 ?_;apply CallX_mp (_,_,_,_,_,_,_,_,_,_,_,_);(conv=>whnf);refine ⟨⟨rfl,rfl⟩,zSi,by kernel_rfl,?_⟩)))|(refine CallX_v fun φ=>?_;(conv=>whnf);(repeat ((with_reducible show ViewE _ _ _ _);(first|refine view_w zLn ?_|refine view_pf zSd ?_|refine view_p zSd ?_);(conv=>whnf)));(with_reducible show CallB _ _ _ _ _);refine CallB_i ?_ zSi)) |(with_reducible show CallB _ _ _ _ _);(with_reducible show CallB _ _ _ _ _);refine CallB_i ?_ zSi |(with_reducible show ValX _ _ _ _ _);(first|refine ValX_idxF tabOk rfl rfl zSd zSd ?_|refine ValX_idxS tabOk rfl rfl rfl zLn zSd zSd zSd ?_|refine ValX_loadF tabOk rfl rfl rfl rfl rfl zSd ?_|refine ValX_loadQ tabOk rfl rfl rfl rfl rfl rfl ?_|refine ValX_sl1 tabOk rfl rfl rfl zLn zSd zSd ?_|refine ValX_slLo tabOk rfl rfl rfl zLn zSd zSd zSd ?_|refine ValX_slHi tabOk rfl rfl rfl zLn zSd zSd zSd ?_|refine ValX_max3 rfl ?_|refine ValX_cpl rfl ?_|refine ValX_fzNil tabOk rfl rfl rfl (fun hb=>?_) ?_|refine ValX_bldA rfl rfl ?_ (fun w=>by kernel_rfl)|refine ValX_bldB rfl rfl ?_ (fun w=>by kernel_rfl)|refine ValX_ixA1 rfl rfl rfl rfl ?_ (fun w=>by kernel_rfl)|refine ValX_ixA2 rfl rfl rfl rfl ?_ (fun w=>by kernel_rfl)) |(with_reducible show OpX _ _ _ _ _);(first|refine OpX_storeF tabOk rfl rfl rfl (by rfl) (by rfl) zSd ?_|refine OpX_appF tabOk rfl rfl zLn rfl rfl zSe rfl zSd zSd ?_|refine OpX_appP tabOk rfl rfl rfl rfl zSe rfl zSd zSd zSd zSd ?_|refine OpX_build_a tabOk rfl rfl rfl ?_ (by rfl)|refine OpX_make_a tabOk rfl rfl rfl ?_ (by rfl) (by rfl) zSd zSd zSd|refine OpX_build0_a tabOk rfl rfl rfl ?_|refine OpX_nil_a rfl rfl ?_) |(with_reducible show DrawX _ _ _ _ _);refine DrawX_s tabOk folOk ?_ |(with_reducible show DrawS _ _ _ _ _ _ _);refine DrawS_i (by kernel_rfl) ?_ |(with_reducible show ViewE _ _ _ _);(first|refine view_w zLn ?_|refine view_pf zSd ?_|refine view_p zSd ?_) |(with_reducible show xquo64 _ _ _);(first|refine xquo_a ?_|refine xquo_b ?_) |(with_reducible show xrem64 _ _ _);(first|refine xrem_a ?_|refine xrem_b ?_) |(with_reducible show xshr _ _ _ _);(first|refine xshr_1 ?_|refine xshr_32 ?_|refine xshr_6 ?_|refine xshr_7 ?_|refine xshr_8 ?_|refine xshr_63 ?_) |(with_reducible show xshl _ _ _ _);(first|refine xshl_1u ?_|refine xshl_0u ?_|refine xshl_7u ?_) |(with_reducible show andX _ _);refine andX_i ?_ ?_ |(with_reducible show need _ _);refine need_i zSd ?_ |(with_reducible show xwru _ _ _);(first|refine xwru_64 (by omega) (by omega) ?_|refine xwru_32 (by omega) (by omega) ?_|refine xwru_32m ?_) |(with_reducible show xquou _ _ _ _);refine xquou_nn (by omega) (by omega) (by omega) ?_ |(with_reducible show xremu _ _ _);refine xremu_nn (by omega) (by omega) ?_ |(with_reducible show xcv _ _ _);(first|refine xcv_i64 (by omega) (by omega) ?_|refine xcv_u8 (by omega) (by omega) ?_|refine xcv_u32 (by omega) (by omega) ?_|refine xcv_u64 (by omega) (by omega) ?_|refine xcv_u8m ?_|refine xcv_u32m ?_|refine xcv_u64m ?_))<;>conv=>whnf)|((with_reducible refine xif_s ?_ ?_)<;>(intro hb;((try simp (disch:=omega) only [hbS,fl_len] at hb);(try have hb:=bnd hb))<;>first|(exfalso;omega)|conv=>whnf)))
 refine Fin_j () ?_
 conv=>whnf
 refine ⟨rfl,?_,⟨flatD_fl _ _,trivial⟩,rfl⟩
 simp only [nthL,nth,rnOs,OB.rnB]
 refine congrArg (fun z=>some [OB.row false 85 6 (fl Box.e z)]) ?_
 have e1 : ((i : Int) + 1).toNat=i + 1:=by omega
 simp only [e1,Int.toNat_natCast,Nat.zero_add]
 exact del_list hn hp⟩
instance inVt_2 : AQ 222 3 := ⟨trivial⟩
end Go.Proofs.YtkflmidichikjaaGreatDoor.V
end
