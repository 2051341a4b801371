import Derived.Test.YtkflmidichikjaaGreatDoorZSystemReplays15
import Derived.Lib.AppendZeros
set_option linter.all false
section
namespace Go.Proofs.YtkflmidichikjaaGreatDoor.V
open Go.RowKit
set_option maxRecDepth 100000
set_option maxHeartbeats 16000000
section
variable {C : Ctx} {ob : List OB} {e sz : Nat}
def fldOff (T : List TI) (t i : Nat) : Option Nat := match lookT T t with
 | some ti=>match nth ti.flds i with
   | some (fo,_,_)=>some fo
   | none=>none
 | none=>none
theorem ValX_fld {o : Oper} {t : TypeId} {x : Operand} {i n : Nat} {l : List SV} {y : SV} {k : SV → Prop} (ho : o.op = .field t x i) (_ : fldOff C.T t i = some n) (hy : nth l n = some y)
 (hr : ∀ σ w,(Instr.field t (.agg (SV.vals σ l).toArray) i).run C.P w = .ok (y.val σ) w) (hk : k y) : ValX C o [.a l] ob k:=by
 unfold ValX
 intro σ G fp w ρ hm hw hx
 obtain ⟨dst,op,ty,pos,after,guard⟩:=o
 simp only at ho
 subst ho
 simp [Op.operands,SV.vals,SV.val] at hx
 rw [nth_eq] at hy
 refine ⟨_,hk,?_,wfs_get hw.1 hy⟩
 simp only [execOp,hx,Sem.run_bind,hr,Result.andThen_ok,Sem.run_pure]
theorem ValX_cap0 {o : Oper} {t : TypeId} {x : Operand} {k : SV → Prop} (hT : TabOk C.P C.T) (ho : o.op = .call ⟨.builtin .cap, #[x], #[t]⟩) (hs : slInfo C t = some (e, sz)) (hk : k (I 0)) : ValX C o [.v (.slice none 0 0)] ob k := by
 unfold ValX
 intro σ G fp w ρ hm hw hx
 obtain ⟨hu,te,hl,hz,hti,hid⟩:=slInfo_spec hT hs
 obtain ⟨dst,op,ty,pos,after,guard⟩:=o
 simp only at ho
 subst ho
 simp [Op.operands,Call.operands,SV.vals,SV.val] at hx
 refine ⟨_,hk,?_,trivial⟩
 simp [execOp,resolve,invoke,builtin,hx,Builtin.cap_,run_underlying hu,goInt,SV.val]
theorem ValX_slNil {o : Oper} {t : TypeId} {x la : Operand} {k : SV → Prop} (hT : TabOk C.P C.T) (ho : o.op = .slice t x none (some la) none) (hs : slInfo C t = some (e, sz)) (hk : k (.v (.slice none 0 0))) : ValX C o [.v (.slice none 0 0), I 0] ob k := by
 unfold ValX
 intro σ G fp w ρ hm hw hx
 obtain ⟨hu,hz⟩:=slInfo_run hT hs w
 have hr:=run_slice (P:=C.P) (w:=w) (n:=0) (c:=0) (A:=none) hu hz none (some 0) none (by simp) (fun m' hm=>by simp at hm;omega) (by simp) (by simp) (by simp)
 exact ⟨_,hk,slice_exec (lo:=none) (hi:=some 0) (mx:=none) ho rfl rfl rfl hx hu (y:=.v (.slice none 0 0)) hr,trivial⟩
theorem OpX_appZ {o : Oper} {t tn : TypeId} {x y : Operand} {m : Int} {k : SV → List OB → Prop} {te : TI} (hT : TabOk C.P C.T) (ho : o.op = .call ⟨.builtin .append, #[x, y], #[t, tn]⟩) (htn : C.P.underlying tn = some (.int .i64))
 (hs : slInfo C t=some (e,sz)) (hte : lookT C.T e=some te) (hone : (ones (te.zero.map .v) && Nat.ble 1 sz)=true) (h0 : 0 < m) (hn : te.byt * m.toNat≤140737488355328) (hn' : m.toNat≤16777216)
 (hk : force (ob ++ [.row false e sz (fl id (List.replicate m.toNat te.zero))]) fun ob'=>lenK lits ob (fun q=>k (.sl q 0 0 m.toNat sz) ob') False) : OpX C o [.v (.slice none 0 0),.v (.int .i64 m)] ob k:=by
 rw [force_eq] at hk
 have hk:=lenK_spec hk
 unfold OpX
 intro σ G fp w ρ hm _ hx
 simp only [Bool.and_eq_true] at hone
 have hsz:=Nat.le_of_ble_eq_true hone.2
 obtain ⟨hu,te',hl,hz,hti,hid⟩:=slInfo_spec hT hs
 rw [hte] at hl
 cases hl
 obtain ⟨i,z,hi,hz',hzc,his,hib⟩:=hti.inf
 rw [hid] at hi
 rw [hz] at his
 rw [ho] at hx
 simp [Op.operands,Call.operands,SV.vals,SV.val] at hx
 obtain ⟨dst,op,ty,pos,after,guard⟩:=o
 simp only at ho
 subst ho
 obtain ⟨M,rfl⟩ : ∃ M : Nat,m=(M : Int):=⟨m.toNat,by omega⟩
 simp only [Int.toNat_natCast] at *
 have hr:=Go.Lib.run_append_nil_zeros (P:=C.P) w t tn ty e i z .i64 .i64 hu htn hi hz' M (by omega) (by omega) (by omega) (by rw [hib,Nat.mul_comm];omega)
 have hex : (execOp ρ ⟨dst,.call ⟨.builtin .append,#[x,y],#[t,tn]⟩,ty,pos,after,guard⟩).run C.P w = .ok (.value (.slice (some ⟨w.heap.size,0,none⟩) M (grownCap w M 0 e))) (w.drew.alloc (.cells (Builtin.zeroCells z.cells M ++ Builtin.zeroCells z.cells (grownCap w M 0 e - M)) e)):=by
  simp [execOp,resolve,invoke,builtin,hx.1,hx.2,hr]
 rw [hex]
 have hzs : z.cells.size=sz:=by rw [hzc];simpa using hz
 have hge:=grownCap_ge w M 0 e
 have hflat : (Builtin.zeroCells z.cells M).toList=(List.replicate M te.zero).flatten:=by
  rw [← made_eq te.zero M hz (by omega),← hzc]
  unfold Builtin.zeroCells madeCells
  rw [hzs]
 have hfl : (List.replicate M te.zero).flatten.length=M * sz:=by rw [flat_len (sz:=sz) (by intro e he;rw [List.eq_of_mem_replicate he,hz])];simp
 have hown : (w.drew.alloc (.cells (Builtin.zeroCells z.cells M ++ Builtin.zeroCells z.cells (grownCap w M 0 e - M)) e)).ownsRow w.heap.size e sz (.slice (some ⟨w.heap.size,0,none⟩) M (grownCap w M 0 e)) M (List.replicate M te.zero).flatten:=by
  refine ⟨hfl,.inr ⟨w.heap.size,_,_,rfl,Nat.le_refl _,heap_alloc_new w.drew _,hge,grownCap_le_maxLen _ _ _ _ (by simp [maxLen];omega),?_,?_⟩⟩
  ·simp only [Array.size_append,Builtin.zeroCells,Array.size_map,Array.size_range,hzs]
   rw [← Nat.add_mul]
   congr 1
   omega
  ·rw [Array.toList_append,hflat,List.take_append_of_le_length (by rw [hfl];exact Nat.le_refl _),List.take_of_length_le (by rw [hfl];exact Nat.le_refl _)]
 have hone' : ∀ v∈((List.replicate M te.zero).map id).flatten,v.oneCell' = true:=by
  intro v hv
  rw [List.map_id] at hv
  obtain ⟨l,hl,hql⟩:=List.mem_flatten.1 hv
  rw [List.eq_of_mem_replicate hl] at hql
  exact ones_spec σ hone.1 v (by rw [vals_v];exact hql)
 obtain ⟨A',c',F',h1,h2,h3⟩:=RowAt.of_owns (G:=G) (els:=fl id (List.replicate M te.zero)) (xs:=(List.replicate M te.zero).map id) (n:=M) (by rw [List.map_id];exact hown) (rdLL_fl hone') (fl_sz (by rw [List.map_id];intro x hx;rw [List.eq_of_mem_replicate hx,hz])) (by rw [fl_len];simp)
 cases h1
 exact Goes.pushN hm ⟨rfl,rfl,rfl,by simp,fun k hk=>heap_alloc_old w.drew _ hk⟩ h2 (by rw [fl_len];simp) h3 hk (fun h=>Nat.le_succ _)
end
section
variable {C : Ctx} {ob : List OB} {σ : Nat → Nat}
theorem simO_refl {E : Ev} : ∀ {o : OB}, simO σ E o o
 | .box _ _=>⟨rfl,rfl,id⟩
 | .row _ _ _ _=>rfl
 | .res _=>rfl
theorem simOs_set {E : Ev} : ∀ {l : List OB} {k : Nat} {o' : OB}, (∀ o, l[k]? = some o → simO σ E o o') → simOs σ E l (l.set k o')
 | [],_,_,_=>trivial
 | o :: r,0,o',h=>⟨h o rfl,simOs_refl r⟩
 | o :: r,k + 1,o',h=>⟨simO_refl,simOs_set (l:=r) (k:=k) fun o ho=>h o (by simpa using ho)⟩
where
 simOs_refl {E : Ev} : ∀ l : List OB,simOs σ E l l
  | []=>trivial
  | _ :: r=>⟨simO_refl,simOs_refl r⟩
theorem LoopX_nilB {tm : List (Nat × SV)} {c : Code} {K : Kx} (j i e sz : Nat) {ty : TypeId} {cs : List SV} (hj : nth ob j = some (.box ty cs)) (hi : nth cs i = some (.v (.slice none 0 0)))
 (h : lenK lits ob (fun m=>force (setN (ob ++ [.row false e sz []]) j (.box ty (setN cs i (.sl m 0 0 0 sz)))) fun ob'=>LoopX C c tm ob' K) False) : LoopX C c tm ob K:=by
 have h:=lenK_spec h
 rw [force_eq] at h
 unfold LoopX at *
 intro σ G fp a w hr
 obtain ⟨σ',fp',h1,h2,h3⟩:=hr.mem.nilRow e sz
 have ht:=hr.tm.ext (σ':=σ') (m:=⟨G,(ob ++ [OB.row false e sz []]).length⟩) h2 (Ev.same (by simp))
 rw [nth_eq] at hj hi
 have hjl:=(List.getElem?_eq_some_iff.1 hj).1
 have hs : simOs σ' ⟨G,(ob ++ [OB.row false e sz []]).length⟩ (ob ++ [.row false e sz []]) (setN (ob ++ [.row false e sz []]) j (.box ty (setN cs i (.sl ob.length 0 0 0 sz)))):=by
  rw [setN_eq]
  refine simOs_set fun o ho=>?_
  rw [List.getElem?_append_left hjl,hj] at ho
  cases ho
  have hv : (SV.sl ob.length 0 0 0 sz).val σ' = .slice none 0 0:=val_new (A:=none) (c:=0) (by simp) h3
  rw [setN_eq]
  refine ⟨rfl,?_,fun hw=>?_⟩
  ·apply List.ext_getElem?
   intro q
   rw [vals_get,vals_get,List.getElem?_set]
   split
   ·rename_i hq
    subst hq
    rw [hi]
    simp only [(List.getElem?_eq_some_iff.1 hi).1,if_true,Option.map_some,hv]
    rfl
   ·rfl
  ·refine wfs_of fun q x hq=>?_
   rw [List.getElem?_set] at hq
   split at hq
   ·split at hq
    ·cases hq;simp [SV.wf]
    ·cases hq
   ·exact wfs_get hw hq
 have hm:=h1.sim hs
 refine h σ' G fp' a w ⟨?_,hm⟩
 have e : (setN (ob ++ [OB.row false e sz []]) j (.box ty (setN cs i (.sl ob.length 0 0 0 sz)))).length=(ob ++ [OB.row false e sz []]).length:=by rw [setN_eq];simp
 rw [e]
 exact ht
end
end Go.Proofs.YtkflmidichikjaaGreatDoor.V
end
