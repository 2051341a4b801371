import Derived.Test.YtkflmidichikjaaGreatDoorZSystemReplays09
import Derived.Great.BuildSlice
set_option linter.all false
section
namespace Go.Proofs.YtkflmidichikjaaGreatDoor.V
open Go.RowKit
theorem fl_app {α : Type} (enc : α → List Value) (X Y : List α) : fl enc X ++ fl enc Y = fl enc (X ++ Y) := by simp [fl]
theorem fl_take {α : Type} (enc : α → List Value) (X : List α) (n : Nat) : (fl enc X).take n = fl enc (X.take n) := by simp [fl]
theorem fl_drop {α : Type} (enc : α → List Value) (X : List α) (n : Nat) : (fl enc X).drop n = fl enc (X.drop n) := by simp [fl]
theorem Sees.allF {ob : List OB} {α : Type} {enc : α → List Value} {X : List α} {j p m e sz : Nat} {ro : Bool} (hj : nth ob j = some (.row ro e sz (fl enc X))) (h : m = X.length) : Sees ob sz (.sl j p 0 m sz) m (fl enc X) := .all hj (by rw [fl_len]; exact h)
theorem Sees.rowF {ob : List OB} {α : Type} {enc : α → List Value} {X : List α} {j p i m e sz : Nat} {ro : Bool} (hj : nth ob j = some (.row ro e sz (fl enc X))) (h : i + m ≤ X.length) : Sees ob sz (.sl j p i m sz) m (fl enc ((X.drop i).take m)) := by
 have:=Sees.row (p:=p) (i:=i) (m:=m) hj (by rw [fl_len];exact h)
 rwa [fl_drop,fl_take] at this
theorem Sees.fzF {ob : List OB} {α : Type} {enc : α → List Value} {X : List α} {A : Option Addr} {c sz : Nat} : Sees ob sz (.fz A c sz (fl enc X)) X.length (fl enc X) := by
 have:=Sees.l (ob:=ob) (sz:=sz) (A:=A) (c:=c) (X:=fl enc X)
 rwa [fl_len] at this
theorem Sees.nilF {ob : List OB} {α : Type} {enc : α → List Value} {sz : Nat} : Sees ob sz (.v (.slice none 0 0)) 0 (fl enc []) := .nil
section
variable {C : Ctx} {ob : List OB} {e sz n c : Nat} {A : Option Addr} {els : List (List DV)}
theorem OpX_appF {α : Type} {enc : α → List Value} {X Y : List α} {o : Oper} {t : TypeId} {x y : Operand} {j N m : Nat} {y' : SV} {k : SV → List OB → Prop} {te : TI} (hT : TabOk C.P C.T) (ho : o.op = .call ⟨.builtin .append, #[x, y], #[t, t]⟩) (hj : nth ob j = some (.row false e sz (fl enc X))) (hN : N = X.length)
 (hs : slInfo C t=some (e,sz)) (hte : lookT C.T e=some te) (hy : Sees ob sz y' m (fl enc Y)) (hsz : Nat.ble 1 sz=true) (hn : (N + m) * te.byt≤140737488355328) (hn' : N + m≤1000000000000)
 (hk : force (setN ob j dead ++ [.row false e sz (fl enc (X ++ Y))]) fun ob'=>lenK lits ob (fun q=>k (.sl q 0 0 (N + m) sz) ob') False) (hd : C.d=false:=by rfl) : OpX C o [.sl j 0 0 N sz,y'] ob k :=
 OpX_append hT ho hj (by rw [fl_len];exact hN) hs hte hy hsz hn hn' (by rw [fl_app];exact hk) hd
theorem flat_get {sz : Nat} : ∀ {els : List (List Value)} {i j : Nat} {e : List Value} {v : Value}, (∀ e ∈ els, e.length = sz) → els[i]? = some e → e[j]? = some v → els.flatten[i * sz + j]? = some v
 | [],_,_,_,_,_,h,_=>by simp at h
 | x :: r,0,j,e,v,hs,h,hj=>by
   simp at h
   subst h
   have hlt:=(List.getElem?_eq_some_iff.1 hj).1
   simp only [List.flatten_cons,Nat.zero_mul,Nat.zero_add]
   rw [List.getElem?_append_left hlt,hj]
 | x :: r,i + 1,j,e,v,hs,h,hj=>by
   have hx:=hs x (by simp)
   have:=flat_get (els:=r) (i:=i) (j:=j) (fun e he=>hs e (by simp [he])) (by simpa using h) hj
   simp only [List.flatten_cons]
   rw [List.getElem?_append_right (by rw [hx,Nat.add_mul];omega),hx]
   rw [← this]
   congr 1
   rw [Nat.add_mul]
   omega
def idxP : Nat → List (Nat × Operand) → Bool
 | _,[]=>true
 | n,(i,_) :: r=>match Nat.beq i n with
   | true=>idxP (n + 1) r
   | false=>false
theorem fill_dense (ρ : Operand → Value) : ∀ (ps : List (Nat × Operand)) (s : Nat) (vs : List (List Value)) (cs : Array Value), idxP s ps = true → vs.length = ps.length → (∀ (i : Nat) (p : Nat × Operand), ps[i]? = some p → ∃ v : List Value, vs[i]? = some v ∧ (ρ p.2).cells = v.toArray) → (∀ x ∈ vs, x.length = sz) → (s + ps.length) * sz ≤ cs.size →
 Instr.fill (fun i=>some (i * sz,sz)) cs (ps.map fun p=>(p.1,ρ p.2))=some (cs.toList.take (s * sz) ++ vs.flatten ++ cs.toList.drop ((s + ps.length) * sz)).toArray
 | [],s,vs,cs,_,hl,_,_,_=>by
   have : vs=[]:=List.eq_nil_of_length_eq_zero hl
   subst this
   simp [Instr.fill]
 | (i,x) :: ps,s,[],cs,_,hl,_,_,_=>by simp at hl
 | (i,x) :: ps,s,v :: vs,cs,hi,hl,hv,hs,hc=>by
   unfold idxP at hi
   split at hi
   ·rename_i hb
    have hb:=Nat.eq_of_beq_eq_true hb
    subst hb
    obtain ⟨v',h1,h2⟩:=hv 0 (i,x) (by simp)
    simp at h1
    subst h1
    have hvl:=hs v (by simp)
    have hc' : (i + 1 + ps.length) * sz≤cs.size:=by
     have : (i + 1 + ps.length) * sz=(i + (ps.length + 1)) * sz:=by congr 1;omega
     simp at hc
     omega
    have e1 : (i + 1 + ps.length) * sz=i * sz + sz + ps.length * sz:=by rw [Nat.add_mul,Nat.add_mul,Nat.one_mul]
    have hfold:=fold_splice cs v (i * sz) (by rw [hvl];omega)
    have ih:=fill_dense ρ ps (i + 1) vs (cs.toList.take (i * sz) ++ v ++ cs.toList.drop (i * sz + v.length)).toArray hi (by simpa using hl) (fun j p hp=>by simpa using hv (j + 1) p (by simpa using hp)) (fun y hy=>hs y (by simp [hy])) (by
     simp only [List.size_toArray,List.length_append,List.length_take,List.length_drop,Array.length_toList]
     omega)
    simp only [List.map_cons,Instr.fill,h2]
    rw [if_neg (by simp [hvl];omega)]
    rw [hfold,ih]
    congr 2
    apply List.ext_getElem?
    intro q
    have e2 : (i + 1) * sz=i * sz + sz:=by rw [Nat.add_mul,Nat.one_mul]
    have e3 : (i + (ps.length + 1)) * sz=i * sz + sz + ps.length * sz:=by rw [Nat.add_mul,Nat.add_mul,Nat.one_mul];omega
    have hfl : vs.flatten.length=ps.length * sz:=by rw [flat_len (fun y hy=>hs y (by simp [hy]))];congr 1;simpa using hl
    simp only [List.flatten_cons,List.length_cons,e1,e2,e3]
    generalize hP : ps.length * sz=pz at *
    have t1 : (List.take (i * sz) cs.toList ++ v ++ List.drop (i * sz + v.length) cs.toList).take (i * sz + sz)=List.take (i * sz) cs.toList ++ v:=by
     rw [List.take_append_of_le_length (by simp;omega)]
     rw [List.take_of_length_le (by simp;omega)]
    have t2 : (List.take (i * sz) cs.toList ++ v ++ List.drop (i * sz + v.length) cs.toList).drop (i * sz + sz + pz)=cs.toList.drop (i * sz + sz + pz):=by
     rw [List.drop_append,List.drop_eq_nil_of_le (by simp;omega)]
     simp only [List.nil_append,List.drop_drop]
     congr 1
     simp
     omega
    rw [t1,t2]
    simp [List.append_assoc]
   ·cases hi
theorem made_eq (z : List Value) (n : Nat) (hz : z.length = sz) (hp : 0 < sz) : (madeCells z.toArray (n * sz)).toList = (List.replicate n z).flatten := by
 have hfl : (List.replicate n z).flatten.length=n * sz:=by rw [flat_len (sz:=sz) (by intro e he;rw [List.eq_of_mem_replicate he,hz])];simp
 apply List.ext_getElem?
 intro i
 by_cases hi : i < n * sz
 ·have h1 : i / sz < n:=by rw [Nat.div_lt_iff_lt_mul hp];exact hi
  have h2 : i % sz < sz:=Nat.mod_lt _ hp
  have h3:=flat_get (sz:=sz) (els:=List.replicate n z) (i:=i / sz) (j:=i % sz) (e:=z) (v:=z[i % sz]'(by omega)) (by intro e he;rw [List.eq_of_mem_replicate he,hz]) (by simp [h1]) (by simp)
  rw [show i / sz * sz + i % sz=i by rw [Nat.mul_comm];exact Nat.div_add_mod i sz] at h3
  rw [h3]
  simp [madeCells,hi,hz]
  rw [List.getElem?_eq_getElem (by omega)]
  rfl
 ·rw [List.getElem?_eq_none (by simp [size_madeCells];omega),List.getElem?_eq_none (by omega)]
class DecL {α : Type} (enc : α → List Value) (rs : List SV) (as : outParam (List α)) : Prop where
 out : rs.map SV.cells=as.map fun a=>(enc a).map .v
instance inVr_1 {α : Type} {enc : α → List Value} : DecL enc [] [] := ⟨rfl⟩
instance inVr_2 {α : Type} {enc : α → List Value} {x : SV} {r : List SV} {a : α} {as : List α} [h : Dec enc x a] [h' : DecL enc r as] : DecL enc (x :: r) (a :: as) := ⟨by simp [h.out, h'.out]⟩
theorem rdLL_fl {G : Fz} {α : Type} {enc : α → List Value} : ∀ {X : List α}, (∀ v ∈ (X.map enc).flatten, v.oneCell' = true) → rdLL G (fl enc X) (X.map enc)
 | [],_=>trivial
 | a :: r,h=>by
   simp only [List.map_cons,List.flatten_cons,List.mem_append] at h
   exact ⟨rdL_v _ fun v hv=>h v (.inl hv),rdLL_fl fun v hv=>h v (.inr hv)⟩
def szF {α : Type} (enc : α → List Value) (sz : Nat) : List α → Bool
 | []=>true
 | a :: r=>Nat.beq (enc a).length sz && szF enc sz r
theorem szF_spec {α : Type} {enc : α → List Value} : ∀ {X : List α}, szF enc sz X = true → ∀ x ∈ X.map enc, x.length = sz
 | [],_,x,hx=>by simp at hx
 | a :: r,h,x,hx=>by
   simp only [szF,Bool.and_eq_true] at h
   rcases List.mem_cons.1 hx with rfl|hx
   ·exact Nat.eq_of_beq_eq_true h.1
   ·exact szF_spec h.2 x hx
theorem fl_sz {α : Type} {enc : α → List Value} {X : List α} (h : ∀ x ∈ X.map enc, x.length = sz) : ∀ x ∈ fl enc X, x.length = sz := by
 intro x hx
 obtain ⟨a,ha,rfl⟩:=List.mem_map.1 hx
 rw [List.length_map]
 exact h _ (List.mem_map.2 ⟨a,ha,rfl⟩)
theorem OpX_build {α : Type} {enc : α → List Value} {as : List α} {o : Oper} {t : TypeId} {len : Nat} {parts : Array (Nat × Operand)} {k : SV → List OB → Prop} {te : TI} {rs : List SV} (hT : TabOk C.P C.T) (ho : o.op = .buildSlice t len parts)
 (hs : slInfo C t=some (e,sz)) (hte : lookT C.T e=some te) [hv : DecL enc rs as] (hchk : (idxP 0 parts.toList && Nat.beq parts.toList.length len && szF enc sz as && ones ((as.map enc).flatten.map .v) && Nat.ble (len * sz) 16777216 && Nat.ble 1 (len * sz))=true)
 (hk : force (ob ++ [.row false e sz (fl enc as)]) fun ob'=>lenK lits ob (fun q=>k (.sl q 0 0 len sz) ob') False) : OpX C o rs ob k:=by
 rw [force_eq] at hk
 have hk:=lenK_spec hk
 unfold OpX
 intro σ G fp w ρ hm _ hx
 simp only [Bool.and_eq_true] at hchk
 obtain ⟨⟨⟨⟨⟨hc1,hc2⟩,hc3⟩,hc4⟩,hc5⟩,hc6⟩:=hchk
 have hc2:=Nat.eq_of_beq_eq_true hc2
 have hc3:=szF_spec hc3
 have hc5:=Nat.le_of_ble_eq_true hc5
 have hc6:=Nat.le_of_ble_eq_true hc6
 obtain ⟨hu,te',hl,hz,hti,hid⟩:=slInfo_spec hT hs
 rw [hte] at hl
 cases hl
 obtain ⟨i,z,hi,hz',hzc,his,hib⟩:=hti.inf
 rw [hid] at hi
 rw [hz] at his
 rw [ho] at hx
 have hx' : parts.toList.map (fun p=>ρ p.2)=SV.vals σ rs:=by simpa [Op.operands,Function.comp_def] using hx
 have hvo:=hv.out
 have hrl : rs.length=parts.toList.length:=by
  have:=congrArg List.length hx'
  simpa [vals_length] using this.symm
 have hal : as.length=rs.length:=by
  have:=congrArg List.length hvo
  simpa using this.symm
 obtain ⟨dst,op,ty,pos,after,guard⟩:=o
 simp only at ho
 subst ho
 have hzz : ((Array.range (len * i.size)).map (z.cells[· % z.cells.size]!)).size=len * sz:=by simp [his]
 have hf:=fill_dense (sz:=sz) ρ parts.toList 0 (as.map enc) ((Array.range (len * i.size)).map (z.cells[· % z.cells.size]!)) hc1 (by rw [List.length_map];omega) (by
  intro q p hp
  have h1 : (SV.vals σ rs)[q]? = some (ρ p.2):=by rw [← hx'];simp [hp]
  rw [vals_get] at h1
  cases hq : rs[q]? with
  | none=>simp [hq] at h1
  | some y =>
    simp [hq] at h1
    have h2 : (rs.map SV.cells)[q]? = some y.cells:=by simp [hq]
    rw [hvo,List.getElem?_map] at h2
    cases ha : as[q]? with
    | none=>simp [ha] at h2
    | some a =>
      simp [ha] at h2
      exact ⟨enc a,by simp [ha],by rw [← h1,cells_val,← h2,vals_v]⟩) hc3 (by rw [hzz,hc2];simp)
 have hfl : (as.map enc).flatten.length=len * sz:=by rw [flat_len hc3];congr 1;simp;omega
 have hcells : ((((Array.range (len * i.size)).map (z.cells[· % z.cells.size]!)).toList.take (0 * sz) ++ (as.map enc).flatten ++ ((Array.range (len * i.size)).map (z.cells[· % z.cells.size]!)).toList.drop ((0 + parts.toList.length) * sz)).toArray)=(as.map enc).flatten.toArray:=by
  rw [List.drop_eq_nil_of_le (by rw [Array.length_toList,hzz,hc2];simp)]
  simp
 rw [hcells] at hf
 have hrun:=run_buildSlice (P:=C.P) w t e len (parts.map fun (i,x)=>(i,ρ x)) (as.map enc).flatten.toArray i z hu hi hz' (by rw [his];omega) (by rw [his];omega) (by rw [his,Array.toList_map];rw [his] at hf;exact hf)
 have hex : (execOp ρ ⟨dst,.buildSlice t len parts,ty,pos,after,guard⟩).run C.P w = .ok (.value (.slice (some ⟨w.heap.size,0,none⟩) len len)) (w.alloc (.cells (as.map enc).flatten.toArray e)):=by
  simp only [execOp,Sem.run_bind,hrun,Result.andThen_ok,Sem.run_pure]
 rw [hex]
 have hlen : len≤16777216:=by
  have : len * 1≤len * sz:=Nat.mul_le_mul_left _ (by rcases Nat.eq_zero_or_pos sz with h|h;(subst h;simp at hc6);exact h)
  omega
 have hone : ∀ v∈(as.map enc).flatten,v.oneCell' = true:=fun v hv=>ones_spec σ hc4 v (by rw [vals_v];exact hv)
 have hown:=World.ownsRow_lit (base:=w.heap.size) (e:=e) (size:=sz) w (as.map enc).flatten.toArray len (Nat.le_refl _) (by simp [maxLen];omega) (by simpa using hfl)
 obtain ⟨A',c',F',h1,h2,h3⟩:=RowAt.of_owns (G:=G) (els:=fl enc as) (xs:=as.map enc) (n:=len) (by simpa using hown) (rdLL_fl hone) (fl_sz hc3) (by rw [fl_len];omega)
 cases h1
 exact Goes.pushN hm ((Below.refl _ _).alloc (Nat.le_refl _) _) h2 (by rw [fl_len];omega) h3 hk (fun _=>Nat.le_refl _)
theorem OpX_build0 {α : Type} (enc : α → List Value) {o : Oper} {t : TypeId} {parts : Array (Nat × Operand)} {k : SV → List OB → Prop} (hT : TabOk C.P C.T) (ho : o.op = .buildSlice t 0 parts) (hp : parts.toList = [])
 (hs : slInfo C t=some (e,sz)) (hk : force (ob ++ [.row false e sz (fl enc [])]) fun ob'=>lenK lits ob (fun q=>k (.sl q 0 0 0 sz) ob') False) : OpX C o [] ob k:=by
 rw [force_eq] at hk
 have hk:=lenK_spec hk
 unfold OpX
 intro σ G fp w ρ hm _ hx
 obtain ⟨hu,te,hl,hz,hti,hid⟩:=slInfo_spec hT hs
 obtain ⟨i,z,hi,hz',hzc,his,hib⟩:=hti.inf
 rw [hid] at hi
 have hparts : parts = #[]:=by
  apply Array.toList_inj.1
  simpa using hp
 subst hparts
 obtain ⟨dst,op,ty,pos,after,guard⟩:=o
 simp only at ho
 subst ho
 have hex : (execOp ρ ⟨dst,.buildSlice t 0 #[],ty,pos,after,guard⟩).run C.P w = .ok (.value (.slice (some ⟨w.heap.size,0,none⟩) 0 0)) (w.alloc (.cells #[] e)):=by
  simp [execOp,Instr.buildSlice,run_underlying hu,sizeOf,typeInfo,hi,Instr.fill,newRow]
  congr 2
  apply Array.toList_inj.1
  simp
 rw [hex]
 have hown:=World.ownsRow_lit (base:=w.heap.size) (e:=e) (size:=sz) w #[] 0 (Nat.le_refl _) (by simp) (by simp)
 obtain ⟨A',c',F',h1,h2,h3⟩:=RowAt.of_owns (G:=G) (els:=fl enc []) (xs:=[]) (n:=0) (by simpa using hown) trivial (by simp [fl]) rfl
 cases h1
 exact Goes.pushN hm ((Below.refl _ _).alloc (Nat.le_refl _) _) h2 rfl h3 hk (fun _=>Nat.le_refl _)
theorem OpX_make {α : Type} {enc : α → List Value} {a : α} {o : Oper} {t : TypeId} {x y : Operand} {m : Int} {k : SV → List OB → Prop} {te : TI} (hT : TabOk C.P C.T) (ho : o.op = .makeSlice t x y)
 (hs : slInfo C t=some (e,sz)) (hte : lookT C.T e=some te) (ha : te.zero=enc a) (hone : (ones (te.zero.map .v) && Nat.ble 1 sz)=true) (h0 : 0≤m) (hn : te.byt * m.toNat≤140737488355328) (hn' : m.toNat * sz≤16777216)
 (hk : force (ob ++ [.row false e sz (fl enc (List.replicate m.toNat a))]) fun ob'=>lenK lits ob (fun q=>k (.sl q 0 0 m.toNat sz) ob') False) (hd : C.d=false:=by rfl) : OpX C o [.v (.int .i64 m),.v (.int .i64 m)] ob k:=by
 rw [force_eq] at hk
 have hk:=lenK_spec hk
 unfold OpX
 intro σ G fp w ρ hm _ hx
 simp only [Bool.and_eq_true] at hone
 have hsz:=Nat.le_of_ble_eq_true hone.2
 obtain ⟨hu,te',hl,hz,hti,hid⟩:=slInfo_spec hT hs
 rw [hte] at hl
 cases hl
 obtain ⟨i,z,hi,hz',hzc,his,hib⟩:=hti.inf
 rw [hid] at hi
 rw [hz] at his
 rw [ho] at hx
 simp [Op.operands,SV.vals,SV.val] at hx
 obtain ⟨dst,op,ty,pos,after,guard⟩:=o
 simp only at ho
 subst ho
 obtain ⟨M,rfl⟩ : ∃ M : Nat,m=(M : Int):=⟨m.toNat,by omega⟩
 simp only [Int.toNat_natCast] at *
 have hm' : M≤16777216:=by
  have : M * 1≤M * sz:=Nat.mul_le_mul_left _ hsz
  omega
 obtain ⟨w',hr,hown,hg⟩:=run_makeSlice_full (P:=C.P) w w.heap.size t e i z sz hu hi hz' his .i64 .i64 M hn' (by rw [hib];omega) (by simp [maxLen];omega) (Nat.le_refl _)
 rw [hzc,made_eq _ _ hz (by omega)] at hown
 have hex : (execOp ρ ⟨dst,.makeSlice t x y,ty,pos,after,guard⟩).run C.P w = .ok (.value (.slice (some ⟨w.heap.size,0,none⟩) M M)) w':=by
  simp only [execOp,hx,Sem.run_bind,hr,Result.andThen_ok,Sem.run_pure]
 rw [hex]
 have hrep : (List.replicate M a).map enc=List.replicate M te.zero:=by simp [ha]
 have hone' : ∀ v∈((List.replicate M a).map enc).flatten,v.oneCell' = true:=by
  intro v hv
  rw [hrep] at hv
  obtain ⟨l,hl,hql⟩:=List.mem_flatten.1 hv
  rw [List.eq_of_mem_replicate hl] at hql
  exact ones_spec σ hone.1 v (by rw [vals_v];exact hql)
 obtain ⟨A',c',F',h1,h2,h3⟩:=RowAt.of_owns (G:=G) (els:=fl enc (List.replicate M a)) (xs:=(List.replicate M a).map enc) (n:=M) (by rw [hrep];exact hown) (rdLL_fl hone') (fl_sz (by rw [hrep];intro x hx;rw [List.eq_of_mem_replicate hx,hz])) (by rw [fl_len];simp)
 cases h1
 exact Goes.pushN hm ⟨hg.os,hg.tape,hg.output,hg.size,fun k hk=>hg.block k hk (by simp)⟩ h2 (by rw [fl_len];simp) h3 hk (fun h=>by rw [hd] at h;cases h)
def cutA (A : Option Addr) (c i sz : Nat) : Option Addr := if c = i then A else A.map fun a => a.add (i * sz)
theorem run_slice {P : Program} {t : TypeId} {w : World} (hu : P.underlying t = some (.slice e)) (hs : (sizeOf e).run P w = .ok sz w) (lo hi mx : Option Int) (h3 : mx ≠ none → hi ≠ none) (h0 : ∀ m, lo = some m ∨ hi = some m ∨ mx = some m → 0 ≤ m)
 (h1 : (lo.map Int.toNat).getD 0≤(hi.map Int.toNat).getD n) (h2 : (hi.map Int.toNat).getD n≤(mx.map Int.toNat).getD c) (h4 : (mx.map Int.toNat).getD c≤c) :
 (Instr.slice t (.slice A n c) (lo.map fun m=>.int .i64 m) (hi.map fun m=>.int .i64 m) (mx.map fun m=>.int .i64 m)).run P w = .ok (.slice (cutA A ((mx.map Int.toNat).getD c) ((lo.map Int.toNat).getD 0) sz) ((hi.map Int.toNat).getD n - (lo.map Int.toNat).getD 0) ((mx.map Int.toNat).getD c - (lo.map Int.toNat).getD 0)) w:=by
 have hadd : ∀ (M L : Nat),(if M=L then A else A.map (·.add (L * sz)))=cutA A M L sz:=by
  intro M L
  unfold cutA
  split
  ·rfl
  ·rfl
 cases lo with
 | none=>cases hi with
   | none=>cases mx with
     | none =>
       simp [Instr.slice,run_underlying hu,Instr.sliceBounds,hs]
       simpa using hadd c 0
     | some m=>exact absurd rfl (h3 (by simp))
   | some h=>cases mx with
     | none =>
       have g1:=h0 h (by simp)
       simp at h2
       simp [Instr.slice,run_underlying hu,Instr.sliceBounds,run_sliceBound _ _ _ _ _ g1 (show h≤(c : Int) by omega),hs]
       simpa using hadd c 0
     | some m =>
       have g1:=h0 h (by simp)
       have g2:=h0 m (by simp)
       simp at h2 h4
       simp [Instr.slice,run_underlying hu,Instr.sliceBounds,run_sliceBound _ _ _ _ _ g2 (show m≤(c : Int) by omega),run_sliceBound _ _ _ _ _ g1 (show h≤(m.toNat : Int) by omega),hs]
       simpa using hadd m.toNat 0
 | some l=>cases hi with
   | none=>cases mx with
     | none =>
       have g1:=h0 l (by simp)
       simp at h1
       simp [Instr.slice,run_underlying hu,Instr.sliceBounds,run_sliceBound _ _ _ _ _ g1 (show l≤(n : Int) by omega),hs,hadd]
     | some m=>exact absurd rfl (h3 (by simp))
   | some h=>cases mx with
     | none =>
       have g1:=h0 h (by simp)
       have g2:=h0 l (by simp)
       simp at h1 h2
       simp [Instr.slice,run_underlying hu,Instr.sliceBounds,run_sliceBound _ _ _ _ _ g1 (show h≤(c : Int) by omega),run_sliceBound _ _ _ _ _ g2 (show l≤(h.toNat : Int) by omega),hs,hadd]
     | some m =>
       have g1:=h0 h (by simp)
       have g2:=h0 m (by simp)
       have g3:=h0 l (by simp)
       simp at h1 h2 h4
       simp [Instr.slice,run_underlying hu,Instr.sliceBounds,run_sliceBound _ _ _ _ _ g2 (show m≤(c : Int) by omega),run_sliceBound _ _ _ _ _ g1 (show h≤(m.toNat : Int) by omega),run_sliceBound _ _ _ _ _ g3 (show l≤(h.toNat : Int) by omega),hs,hadd]
theorem slInfo_run (hT : TabOk C.P C.T) {t : TypeId} (h : slInfo C t = some (e, sz)) (w : World) : C.P.underlying t = some (.slice e) ∧ (sizeOf e).run C.P w = .ok sz w := by
 obtain ⟨hu,te,hl,hz,hti,hid⟩:=slInfo_spec hT h
 refine ⟨hu,?_⟩
 have:=hti.run_size w
 rwa [hid,hz] at this
theorem cut_cut {A : Option Addr} {c p i lo sz : Nat} (hi : i + lo ≤ c) : cutA (cutP A c p i sz) (c - i) lo sz = cutP A c (bif Nat.beq lo 0 then p else i) (i + lo) sz := by
 cases A with
 | none=>simp [cutA,cutP]
 | some a =>
   simp only [cutA,cutP,Option.map_some,Addr.add_mid]
   by_cases h0 : lo=0
   ·subst h0
    have e1 : Nat.beq 0 0=true:=rfl
    simp only [e1,cond_true,Nat.add_zero,Nat.zero_mul]
    split<;>rfl
   ·have e1 : Nat.beq lo 0=false:=by
     cases h : Nat.beq lo 0 with
     | false=>rfl
     | true=>exact absurd (Nat.eq_of_beq_eq_true h) h0
    have e2 : Nat.beq c i=false:=by
     cases h : Nat.beq c i with
     | false=>rfl
     | true=>have:=Nat.eq_of_beq_eq_true h;omega
    simp only [e1,e2,cond_false]
    by_cases h1 : c=i + lo
    ·have e3 : Nat.beq c (i + lo)=true:=by rw [h1];exact Nat.beq_refl _
     simp only [e3,cond_true]
     rw [if_pos (by omega)]
    ·have e3 : Nat.beq c (i + lo)=false:=by
      cases h : Nat.beq c (i + lo) with
      | false=>rfl
      | true=>exact absurd (Nat.eq_of_beq_eq_true h) h1
     simp only [e3,cond_false]
     rw [if_neg (by omega),Nat.add_mul]
     simp only [Nat.add_assoc]
def bnds (lo hi mx : Option Int) : List SV := (lo.toList ++ hi.toList ++ mx.toList).map fun m => .v (.int .i64 m)
theorem slice_exec {o : Oper} {t : TypeId} {x : Operand} {la ha ma : Option Operand} {lo hi mx : Option Int} {σ : Nat → Nat} {ρ : Operand → Value} {y : SV} {v : Value} {w : World} (ho : o.op = .slice t x la ha ma) (h1 : la.isSome = lo.isSome) (h2 : ha.isSome = hi.isSome) (h3 : ma.isSome = mx.isSome)
 (hx : o.op.operands.toList.map ρ=SV.vals σ (y :: bnds lo hi mx)) {e0 : TypeId} (hu : C.P.underlying t=some (.slice e0)) (hr : (Instr.slice t (y.val σ) (lo.map fun m=>.int .i64 m) (hi.map fun m=>.int .i64 m) (mx.map fun m=>.int .i64 m)).run C.P w = .ok v w) : (execOp ρ o).run C.P w = .ok (.value v) w:=by
 obtain ⟨dst,op,ty,pos,after,guard⟩:=o
 simp only at ho
 subst ho
 have e1 : ρ x=y.val σ∧la.map ρ=lo.map (fun m=>Value.int .i64 m)∧ha.map ρ=hi.map (fun m=>Value.int .i64 m)∧ma.map ρ=mx.map (fun m=>Value.int .i64 m):=by
  cases la<;>cases lo<;>simp at h1<;>cases ha<;>cases hi<;>simp at h2<;>cases ma<;>cases mx<;>simp at h3<;>simp [Op.operands,bnds,SV.vals,SV.val] at hx<;>simp [hx]
 obtain ⟨g1,g2,g3,g4⟩:=e1
 simp only [execOp,g1,g2,g3,g4,Instr.sliceAt,Sem.run_bind,run_underlying hu,Result.andThen_ok]
 rw [hr]
 rfl
theorem ValX_slS {o : Oper} {t : TypeId} {x : Operand} {la ha : Option Operand} {lo hi : Option Int} {j b i N : Nat} {ro : Bool} {k : SV → Prop} (hT : TabOk C.P C.T) (ho : o.op = .slice t x la ha none) (h1 : la.isSome = lo.isSome) (h2 : ha.isSome = hi.isSome) (hs : slInfo C t = some (e, sz)) (hj : nth ob j = some (.row ro e sz els)) (hN : els.length = N)
 (g0 : ∀ m,lo=some m∨hi=some m→0≤m) (g1 : (lo.map Int.toNat).getD 0≤(hi.map Int.toNat).getD n) (g2 : (hi.map Int.toNat).getD n≤n) (g3 : i + n≤N)
 (hk : k (.sl j (bif Nat.beq ((lo.map Int.toNat).getD 0) 0 then b else i) (i + (lo.map Int.toNat).getD 0) ((hi.map Int.toNat).getD n - (lo.map Int.toNat).getD 0) sz)) : ValX C o (.sl j b i n sz :: bnds lo hi none) ob k:=by
 unfold ValX
 intro σ G fp w ρ hm hw hx
 obtain ⟨hu,hz⟩:=slInfo_run hT hs w
 obtain ⟨hS,hc,hjl⟩:=hm.row hj
 have hr:=run_slice (P:=C.P) (w:=w) (n:=n) (c:=dC (σ j) - i) (A:=cutP (dA (σ j)) (dC (σ j)) b i sz) hu hz lo hi none (by simp) (fun m hm=>g0 m (by simpa using hm)) g1 (by simp;omega) (by simp)
 refine ⟨_,hk,slice_exec (mx:=none) ho h1 h2 rfl hx hu (y:=.sl j b i n sz) ?_,hjl⟩
 rw [SV.val,hr]
 simp only [SV.val,Option.map_none,Option.getD_none]
 rw [cut_cut (by omega)]
 rw [Nat.sub_sub]
theorem rdE_cut {G : Fz} : ∀ {els : List (List DV)} {cs : Array Value} {o : Nat} (L n : Nat), DV.rdE G sz els cs o → DV.rdE G sz ((els.drop L).take n) cs (o + L * sz)
 | [],_,_,L,n,_=>by simp [DV.rdE]
 | _ :: _,_,_,0,0,_=>trivial
 | x :: r,cs,o,0,n + 1,h=>by
   have:=rdE_cut 0 n h.2.2
   simp only [Nat.zero_mul,Nat.add_zero,List.drop_zero] at this ⊢
   exact ⟨h.1,h.2.1,this⟩
 | x :: r,cs,o,L + 1,n,h=>by
   have:=rdE_cut L n h.2.2
   rw [show o + (L + 1) * sz=o + sz + L * sz by rw [Nat.add_mul];omega]
   simpa using this
theorem ValX_slF {α : Type} {enc : α → List Value} {X : List α} {o : Oper} {t : TypeId} {x : Operand} {la ha ma : Option Operand} {lo hi mx : Option Int} {k : SV → Prop} (hT : TabOk C.P C.T) (ho : o.op = .slice t x la ha ma) (h1 : la.isSome = lo.isSome) (h2 : ha.isSome = hi.isSome) (h3 : ma.isSome = mx.isSome) (hs : slInfo C t = some (e, sz)) (h4 : mx ≠ none → hi ≠ none)
 (g0 : ∀ m,lo=some m∨hi=some m∨mx=some m→0≤m) (g1 : (lo.map Int.toNat).getD 0≤(hi.map Int.toNat).getD X.length) (g2 : (hi.map Int.toNat).getD X.length≤X.length) (g3 : ∀ m,mx=some m→(hi.map Int.toNat).getD X.length≤m.toNat∧m.toNat≤X.length)
 (hk : ∀ c',k (.fz (cutA A ((mx.map Int.toNat).getD c) ((lo.map Int.toNat).getD 0) sz) c' sz (fl enc ((X.drop ((lo.map Int.toNat).getD 0)).take ((hi.map Int.toNat).getD X.length - (lo.map Int.toNat).getD 0))))) : ValX C o (.fz A c sz (fl enc X) :: bnds lo hi mx) ob k:=by
 unfold ValX
 intro σ G fp w ρ hm hw hx
 obtain ⟨hu,hz⟩:=slInfo_run hT hs w
 obtain ⟨A',c0,e1,hc,hrd⟩:=hw.1
 cases e1
 rw [fl_len] at hc
 have g2' : (hi.map Int.toNat).getD X.length≤(mx.map Int.toNat).getD c:=by
  cases mx with
  | none=>simp;omega
  | some m=>simpa using (g3 m rfl).1
 have g4 : (mx.map Int.toNat).getD c≤c:=by
  cases mx with
  | none=>simp
  | some m=>have:=(g3 m rfl).2;simp only [Option.map_some,Option.getD_some];omega
 have hr:=run_slice (P:=C.P) (w:=w) (n:=X.length) (c:=c) (A:=A) hu hz lo hi mx h4 g0 g1 g2' g4
 generalize (lo.map Int.toNat).getD 0=L at *
 generalize (hi.map Int.toNat).getD X.length=H at *
 generalize (mx.map Int.toNat).getD c=M at *
 have hln : ((X.drop L).take (H - L)).length=H - L:=by rw [List.length_take,List.length_drop];omega
 refine ⟨_,hk (M - L),slice_exec ho h1 h2 h3 hx hu (y:=.fz A c sz (fl enc X)) ?_,?_⟩
 ·rw [SV.val,fl_len,hr,SV.val,fl_len,hln]
 ·show (DV.fz sz _).rd G (.slice _ _ _)
  refine ⟨_,_,by rw [fl_len,hln],by rw [fl_len,hln];exact Nat.sub_le_sub_right g2' L,fun hne=>?_⟩
  ·have hHL : H - L ≠ 0:=fun h=>hne (by simp [h,fl])
   obtain ⟨b,oo,cs,ty,fz,rfl,h6,h7⟩:=hrd (by intro h;have:=congrArg List.length h;rw [fl_len] at this;simp at this;simp [this] at g2;omega)
   refine ⟨b,oo + L * sz,cs,ty,fz,by unfold cutA;rw [if_neg (by omega),Option.map_some,Addr.add_mid],h6,?_⟩
   have:=rdE_cut L (H - L) h7
   rwa [fl_drop,fl_take] at this
end
end Go.Proofs.YtkflmidichikjaaGreatDoor.V
end
