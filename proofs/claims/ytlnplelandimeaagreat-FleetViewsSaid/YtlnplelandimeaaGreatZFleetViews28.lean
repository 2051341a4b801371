import Derived.Test.YtlnplelandimeaaGreatZFleetViews27
import Derived.Test.YtlnplelandimeaaGreatZFleetViews26
set_option linter.all false
section
namespace Go.Proofs.YtlnplelandimeaaGreat.En
open Go.RowKit
set_option maxRecDepth 100000
theorem bw4 {rs : List RelT} {a b : Int} (h : a < 0 ∨ 8 ≤ a ∨ b < 0 ∨ 8 ≤ b) : btF rs a b = none := by
 unfold btF rbB
 rw [if_neg]
 simp
 omega
theorem btF_in {rs : List RelT} {a b : Int} (h0 : 0 ≤ a) (h1 : a < 8) (h2 : 0 ≤ b) (h3 : b < 8) : btF rs a b = aqe (aj7 rs a) b := by
 unfold btF rbB
 rw [if_pos]
 simp
 omega
theorem bvg (A : Option Addr) (c : Nat) (rs : List RelT) (a b : Int) (hok : ∀ r ∈ rs, RelOk r) (hl : rs.length ≤ 1000) :
 CallW Tryz.prog 25 [.a [.v (.slice A rs.length c)],I a,I b] (fun w=>ArgSl w A rs.length 5 (rs.map encR)) (.t [frS ((btF rs a b).getD (0,0,0)),B (btF rs a b).isSome]):=by
 unfold frS
 refine CallW.of Tryz.func25 rfl aza rfl rfl rfl (by simp [SV.wfs,SV.wf]) (by simp [SV.wfs,SV.wf]) fun w hpre=>?_
 (conv=>whnf);repeat' (first|((with_reducible refine isC ?_);first|(refine azl (reached_x A c rs a (by omega) (by omega) hok hl) [] rfl trivial (by decide) (fun σ fp w hm=>ArgN.of0 (hpre.mem (by decide) rfl σ fp w hm) _) ?_;intro p;conv=>whnf))|((with_reducible refine isV ?_);first|((first|refine azf aza rfl (ArgSl.row 2 rfl) rfl ?_ ?_ ?_|(with_reducible refine azq ?_);refine azw _ _ ((0,0,0)) aza rfl rfl rfl rfl (ArgSl.row 2 rfl) ?_ ?_ ?_|refine azy _ _ ((0,0,0)) aza rfl rfl rfl rfl (ArgSl.row 2 rfl) ?_ ?_ ?_|refine azf aza rfl (ArgSl.row 3 rfl) rfl ?_ ?_ ?_|(with_reducible refine azq ?_);refine azn _ _ (false) aza rfl rfl rfl (ArgSl.row 3 rfl) ?_ ?_ ?_|refine azp _ _ (false) aza rfl rfl rfl (ArgSl.row 3 rfl) ?_ ?_ ?_)<;>first|rfl|omega|with_reducible refine isP ?_|conv=>whnf))|((first|refine azj aza azt ?_|refine azi (by kernel_rfl) ?_|with_reducible refine azo ?_ ?_)<;>conv=>whnf)|with_reducible exact rfl|((with_reducible refine aze (by assumption) ?_);conv=>whnf)|((with_reducible refine azd ?_ ?_)<;>(intro hb;(try simp (disch:=omega) only [hbS] at hb)<;>conv=>whnf)))
 ·refine azk rfl ?_ (by simp [SV.wf,SV.wfs])
  rw [bw4 (by omega)]
  rfl
 ·refine azk rfl ?_ (by simp [SV.wf,SV.wfs])
  rw [bw4 (by omega)]
  rfl
 ·refine azk rfl ?_ (by simp [SV.wf,SV.wfs])
  rw [bw4 (by omega)]
  rfl
 ·refine azk rfl ?_ (by simp [SV.wf,SV.wfs])
  rw [bw4 (by omega)]
  rfl
 ·refine azk rfl ?_ (by simp [SV.wf,SV.wfs])
  have e1:=bq7 (aj7 rs a) (k:=b) (by omega) (by omega) (0,0,0)
  have e2:=avb (aj7 rs a) (k:=b) (by omega) (by omega) false
  rw [btF_in (by omega) (by omega) (by omega) (by omega),← e1,← e2]
theorem cka (a b q x y : Int) : PureX Tryz.prog 44 [.a [I a, I b, I q, I x, I y]] (B (aq1 (a, b, q, x, y))) := by
 refine PureX.of Tryz.func44 rfl aza rfl rfl rfl (by simp [SV.wfs,SV.wf]) (by simp [SV.wfs,SV.wf]) fun w=>?_
 (conv=>whnf);repeat' (first|((with_reducible refine isC ?_);first|((with_reducible refine azb (ajz _ _ ?_ ?_) ?_)<;>first|omega|with_reducible refine isP ?_|conv=>whnf))|with_reducible exact rfl|((with_reducible refine aze (by assumption) ?_);conv=>whnf)|((with_reducible refine azd ?_ ?_)<;>(intro hb;(try simp (disch:=omega) only [hbS] at hb)<;>conv=>whnf)))
 all_goals refine azk rfl ?_ trivial
 all_goals simp only [aq1,rbB]
 all_goals simp_all
 all_goals omega
def addI (rs : List RelT) (r : RelT) : Type := { p : Option (Option Addr × Nat) // match p with | none => (addF rs r).2 = rs | some _ => (addF rs r).2.length = rs.length + 1 }
def addV (A : Option Addr) (c : Nat) (rs : List RelT) (r : RelT) (p : addI rs r) : SV :=
 match p.1 with
 | none=>.t [.a [.v (.slice A rs.length c)],I (addF rs r).1]
 | some q=>.t [.a [.v (.slice q.1 (addF rs r).2.length q.2)],I (addF rs r).1]
def addO (rs : List RelT) (r : RelT) (p : addI rs r) : List OB :=
 match p.1 with
 | none=>[]
 | some q=>[.row 39 5 q.1 (addF rs r).2.length q.2 ((addF rs r).2.map encR)]
set_option maxHeartbeats 2000000 in
theorem rAdd_x (A : Option Addr) (c : Nat) (rs : List RelT) (a b q x y : Int) (hok : ∀ r ∈ rs, RelOk r) (hl : rs.length ≤ 1000) :
 CallM Tryz.prog 65 [.a [.v (.slice A rs.length c)],.a [I a,I b,I q,I x,I y]] (fun w M=>ArgN w M A rs.length 5 (rs.map encR)) []
  (addV A c rs (a,b,q,x,y)) (addO rs (a,b,q,x,y)):=by
 refine CallM.of (m:=0) Tryz.func65 rfl aza rfl rfl rfl rfl (by simp [SV.wfs,SV.wf]) fun w M π hpre=>?_
 (conv=>whnf);repeat' (first|((with_reducible refine isC ?_);first|((first|with_reducible refine azb (cka _ _ _ _ _) ?_|with_reducible refine azb (aqu _ _ ?_ ?_) ?_)<;>first|omega|with_reducible refine isP ?_|conv=>whnf)|(refine az2 (bvg A c rs _ _ hok hl) (fun σ fp w hm=>hpre.mem (by decide) σ fp w hm) ?_;conv=>whnf))|((with_reducible refine isO ?_);first|((first|refine azz 4 aza rfl rfl rfl rfl (ArgN.mem hpre (by decide)) (by decide) ?_ ?_ ?_|refine azz 4 aza rfl rfl rfl rfl (ArgSl.row 5 rfl) (by decide) ?_ ?_ ?_)<;>first|omega|(dsimp only;omega)|(intro A' c';conv=>whnf))|((first|(refine azh aza rfl rfl rfl ?_);intro bN|(refine azm aza rfl rfl rfl rfl rfl ?_);intro bN);conv=>whnf))|with_reducible exact rfl|((with_reducible refine aze (by assumption) ?_);conv=>whnf)|((with_reducible refine azd ?_ ?_)<;>(intro hb;(try simp (disch:=omega) only [hbS] at hb)<;>conv=>whnf)))
 ·have e : addF rs (a,b,q,x,y)=(1,rs):=by simp [addF,hb]
  refine azv (⟨none,by rw [e]⟩ : addI rs (a,b,q,x,y)) [] ⟨?_,?_⟩ trivial (by decide) rfl
  ·show _=SV.ren [] (.t [.a [.v (.slice A rs.length c)],I (addF rs (a,b,q,x,y)).1])
   rw [e]
   rfl
  ·simp [addV,SV.wf,SV.wfs]
 ·have e : addF rs (a,b,q,x,y)=(11,rs):=by
   obtain ⟨f,hf⟩:=Option.isSome_iff_exists.1 (by assumption : (btF rs a b).isSome=true)
   rw [hf] at hb
   have hne : ¬ f=(q % 4,x,y):=by
    rintro rfl
    simp at hb
   simp [addF, *,addX]
  refine azv (⟨none,by rw [e]⟩ : addI rs (a,b,q,x,y)) [] ⟨?_,?_⟩ trivial (by decide) rfl
  ·show _=SV.ren [] (.t [.a [.v (.slice A rs.length c)],I (addF rs (a,b,q,x,y)).1])
   rw [e]
   rfl
  ·simp [addV,SV.wf,SV.wfs]
 ·have e : addF rs (a,b,q,x,y)=(0,rs):=by
   obtain ⟨f,hf⟩:=Option.isSome_iff_exists.1 (by assumption : (btF rs a b).isSome=true)
   rw [hf] at hb
   have hq : f=(q % 4,x,y):=by
    obtain ⟨h1,h2,h3,_⟩:=hb
    exact Prod.ext h1 (Prod.ext h2 h3)
   simp [addF, *,addX]
  refine azv (⟨none,by rw [e]⟩ : addI rs (a,b,q,x,y)) [] ⟨?_,?_⟩ trivial (by decide) rfl
  ·show _=SV.ren [] (.t [.a [.v (.slice A rs.length c)],I (addF rs (a,b,q,x,y)).1])
   rw [e]
   rfl
  ·simp [addV,SV.wf,SV.wfs]
 ·have e : addF rs (a,b,q,x,y)=(0,rs ++ [(a,b,q % 4,x,y)]):=by
   have hn : btF rs a b=none:=by simpa using hb
   simp [addF, *,addX]
  refine azv (⟨some (A',c'),by rw [e];simp⟩ : addI rs (a,b,q,x,y)) [4] ⟨?_,?_⟩ ?_ (by decide) rfl
  ·show _=SV.ren [4] (.t [.a [.v (.slice A' (addF rs (a,b,q,x,y)).2.length c')],I (addF rs (a,b,q,x,y)).1])
   rw [e,Nat.zero_add,List.length_append]
   rfl
  ·simp [addV,SV.wf,SV.wfs]
  ·refine ⟨?_,trivial⟩
   show OB.is [4] 1 _ (.row 39 5 A' (addF rs (a,b,q,x,y)).2.length c' ((addF rs (a,b,q,x,y)).2.map encR))
   rw [e,List.length_append]
   exact ⟨rfl,rfl,rfl,by rw [Nat.zero_add];rfl,rfl,by simp [encR]⟩
def FnAt (w : World) (b : Nat) (T N : Nat) (c : Nat → Value) : Prop := ∃ L : List Value, w.heap[b]? = some (.cells L.toArray T (0, 0)) ∧ L.length = N ∧ ∀ k, k < N → L[k]? = some (c k)
section
variable {C : Ctx} {ob : List OB}
theorem FnAt.get {w : World} {b T N : Nat} {c : Nat → Value} (h : FnAt w b T N c) {k : Nat} (hk : k < N) : w.cell? ⟨b, k, none⟩ = some (c k) := by
 obtain ⟨L,h1,h2,h3⟩:=h
 rw [cell_of_row w b k L.toArray _ (0,0) h1]
 simpa using h3 k hk
theorem FnAt.ext {w w' : World} {b T N : Nat} {c : Nat → Value} (h : FnAt w b T N c) (hw : w'.heap[b]? = w.heap[b]?) : FnAt w' b T N c := by
 obtain ⟨L,h1,h2,h3⟩:=h
 exact ⟨L,hw.trans h1,h2,h3⟩
theorem FnAt.lt {w : World} {b T N : Nat} {c : Nat → Value} (h : FnAt w b T N c) : b < w.heap.size := by
 obtain ⟨L,h1,h2,h3⟩:=h
 exact (Array.getElem?_eq_some_iff.1 h1).1
theorem FnAt.range {w : World} {b T N : Nat} {c : Nat → Value} (h : FnAt w b T N c) {off : Nat} {vs : List Value} (hv : ∀ q, q < vs.length → vs[q]? = some (c (off + q))) (hle : off + vs.length ≤ N) : w.rangeAt b off vs := by
 intro q v hq
 have hlt:=(List.getElem?_eq_some_iff.1 hq).1
 rw [h.get (by omega),← hv q hlt,hq]
theorem bzk {o : Oper} {t : TypeId} {x : Operand} {te : TI} {b off : Nat} (v : Value) {K : SV → Prop} (hT : aqc C.P C.T) (ho : o.op = .load t x) (hte : aqf C.T t = some te) (hagg : te.agg = false)
 (hg : ∀ σ fp w,Mem C σ fp ob w→w.cell? ⟨b,off,none⟩ = some v) (hK : K (.v v)) : ValX C o [.v (.pointer (some ⟨b,off,none⟩))] ob K:=by
 unfold ValX
 intro σ fp w ρ hm hx
 obtain ⟨hid,hti⟩:=hT t te hte
 have hl:=avw (w:=w) hti hagg (hg σ fp w hm)
 rw [hid] at hl
 refine ⟨_,hK,?_,trivial⟩
 rw [ho] at hx
 simp [Op.operands,SV.vals,SV.val] at hx
 obtain ⟨dst,op,ty,pos,after,guard⟩:=o
 simp only at ho
 subst ho
 simp only [execOp,hx,Instr.loadAt,Instr.sureAddr,Sem.run_bind,Sem.run_pure,Result.andThen_ok,hl,SV.val]
theorem bjq {o : Oper} {t : TypeId} {x : Operand} {te : TI} {b off : Nat} (vs : List Value) {K : SV → Prop} (hT : aqc C.P C.T) (ho : o.op = .load t x) (hte : aqf C.T t = some te) (hagg : te.agg = true) (hz : te.zero.length = vs.length)
 (hg : ∀ σ fp w,Mem C σ fp ob w→w.rangeAt b off vs) (hK : K (.a (vs.map .v))) : ValX C o [.v (.pointer (some ⟨b,off,none⟩))] ob K:=by
 unfold ValX
 intro σ fp w ρ hm hx
 obtain ⟨hid,hti⟩:=hT t te hte
 obtain ⟨d,hd,hrow⟩:=hti.under
 rw [hagg] at hrow
 have hl:=run_loadVar_mid (P:=C.P) w b off te.id vs d (hg σ fp w hm) hd hrow (by rw [hti.info,hz])
 rw [hid] at hl
 refine ⟨_,hK,?_,bvt _ _⟩
 rw [ho] at hx
 simp [Op.operands,SV.vals,SV.val] at hx
 obtain ⟨dst,op,ty,pos,after,guard⟩:=o
 simp only at ho
 subst ho
 simp only [execOp,hx,Instr.loadAt,Instr.sureAddr,Sem.run_bind,Sem.run_pure,Result.andThen_ok,hl,SV.val,ajq]
theorem akd {o : Oper} {t e : TypeId} {x ix : Operand} {i : Int} {n sz : Nat} {te : TI} {vs : List Value} (r : SV) {K : SV → Prop} (hT : aqc C.P C.T) (ho : o.op = .index t x ix) (ht : C.P.underlying t = some (.array n e)) (hte : aqf C.T e = some te) (hz : te.zero.length = sz)
 (h0 : 0≤i) (h1 : i < n) (hl : vs.length=n * sz) (hr : r=match te.agg with
  | true=>.a (((vs.drop (i.toNat * sz)).take sz).map .v)
  | false=>.v (((vs.drop (i.toNat * sz)).take sz).headD undef)) (hK : K r) : ValX C o [.a (vs.map .v),I i] ob K:=by
 unfold ValX
 intro σ fp w ρ hm hx
 obtain ⟨hid,hti⟩:=hT e te hte
 obtain ⟨d,hd,hrow⟩:=hti.under
 have hsz:=hti.run_size w
 rw [hid,hz] at hsz
 rw [ho] at hx
 simp [Op.operands,SV.vals,SV.val,ajq] at hx
 have hle : i.toNat * sz + sz≤vs.length:=by
  rw [hl]
  have : i.toNat + 1≤n:=by omega
  calc i.toNat * sz + sz=(i.toNat + 1) * sz:=by rw [Nat.add_mul,Nat.one_mul]
   _≤n * sz:=Nat.mul_le_mul_right _ this
 obtain ⟨ii,hii⟩ : ∃ ii,C.P.info? te.id=some ii:=by
  have:=hti.info
  cases hq : C.P.info? te.id with
  | none=>rw [hq] at this;cases this
  | some ii=>exact ⟨ii,rfl⟩
 have his : ii.size=sz:=by
  have:=hti.info
  rw [hii] at this
  simpa [hz] using this
 have hp:=bv2 hd hii vs (i.toNat * sz) sz his hle (fun hf=>by rw [← hz];exact hti.one (by rw [← hrow];exact hf)) w
 rw [hid] at hp hd
 have hpv : pv C.P e ((vs.drop (i.toNat * sz)).take sz)=r.val σ:=by
  unfold pv
  rw [hd,hr]
  dsimp only
  rw [hrow]
  cases te.agg with
  | true=>simp only [SV.val,ajq]
  | false=>rfl
 rw [hpv] at hp
 refine ⟨r,hK,?_,?_⟩
 ·obtain ⟨dst,op,ty,pos,after,guard⟩:=o
  simp only at ho
  subst ho
  have hc : (0≤i∧i < (n : Int)):=⟨h0,h1⟩
  simp only [execOp,hx,Instr.index,asIntOf,Sem.run_bind,Sem.run_pure,Result.andThen_ok,run_underlying ht,hc,and_self,if_true,hsz,hp]
 ·rw [hr]
  cases te.agg with
  | true=>exact bvt _ _
  | false=>trivial
theorem fn_store {L : List Value} {f : Nat → Value} {N : Nat} (hl : L.length = N) (hf : ∀ k, k < N → L[k]? = some (f k)) {off : Nat} {vs : List Value} (ho : off + vs.length ≤ N) :
 (L.take off ++ vs ++ L.drop (off + vs.length)).length=N∧∀ k,k < N→(L.take off ++ vs ++ L.drop (off + vs.length))[k]? = some (if off≤k∧k < off + vs.length then vs.getD (k - off) undef else f k):=by
 refine ⟨by simp;omega,fun k hk=>?_⟩
 have h1 : (L.take off).length=off:=by simp;omega
 by_cases c1 : k < off
 ·rw [if_neg (by omega),List.append_assoc,List.getElem?_append_left (by omega),List.getElem?_take,if_pos c1,hf k hk]
 ·by_cases c2 : k < off + vs.length
  ·rw [if_pos ⟨by omega,c2⟩,List.getElem?_append_left (by simp;omega),List.getElem?_append_right (by omega),h1]
   simp [show k - off < vs.length by omega]
  ·rw [if_neg (by omega),List.getElem?_append_right (by simp;omega)]
   simp only [List.length_append,h1,List.getElem?_drop]
   rw [show off + vs.length + (k - (off + vs.length))=k by omega,hf k hk]
theorem fn_set {o : Oper} {t : TypeId} {x y : Operand} {te : TI} {b off T N : Nat} {v : SV} {vs : List Value} {f f' : Nat → Value} (hT : aqc C.P C.T) (ho : o.op = .store t x y) (hte : aqf C.T t = some te) (hoff : off + vs.length ≤ N)
 (hz : te.zero.length=vs.length) (hone : ∀ u∈vs,Value.oneCell' u=true) (hr : ∀ k,k < N→f' k=if off≤k∧k < off + vs.length then vs.getD (k - off) undef else f k)
 {σ : Nat→Nat} (hvs : v.val σ = .agg vs.toArray∨∃ u,vs=[u]∧v.val σ=u) {w : World} (hR : FnAt w b T N f) {ρ : Operand→Value} (hx : o.op.operands.toList.map ρ=SV.vals σ [.v (.pointer (some ⟨b,off,none⟩)),v]) :
 ∃ w',(execOp ρ o).run C.P w = .ok .skip w'∧FnAt w' b T N f'∧(∀ i,i ≠ b→w'.heap[i]? = w.heap[i]?)∧w'.heap.size=w.heap.size∧w'.os=w.os∧w'.tape=w.tape∧w'.output=w.output∧w'.drawn=w.drawn:=by
 obtain ⟨hid,hti⟩:=hT t te hte
 obtain ⟨L,h1,h2,h3⟩:=hR
 rw [ho] at hx
 simp [Op.operands,SV.vals,SV.val] at hx
 have hst:=run_storeCells_at (P:=C.P) b off T vs 0 L.toArray w h1 (by simp;omega) hone
 simp only [Nat.add_zero] at hst
 have hsz:=hti.run_size w
 rw [hid,hz] at hsz
 have hcv : (v.val σ).cells=vs.toArray:=by
  rcases hvs with h|⟨u,rfl,h⟩
  ·rw [h];rfl
  ·rw [h]
   have:=hone u (by simp)
   cases u<;>first|rfl|cases this
 obtain ⟨dst,op,ty,pos,after,guard⟩:=o
 simp only at ho
 subst ho
 refine ⟨w.setRow b (L.take off ++ vs ++ L.drop (off + vs.length)).toArray,?_,?_,?_,?_,rfl,rfl,rfl,rfl⟩
 ·simp only [execOp,Instr.storeAt,hx.1,hx.2,Instr.sureAddr,Sem.run_bind,Sem.run_pure,Result.andThen_ok,storeVar,hsz,hcv,List.size_toArray,ne_eq,not_true,if_false,Nat.zero_add]
  simp only [hst,Result.andThen_ok]
 ·obtain ⟨g1,g2⟩:=fn_store h2 h3 hoff
  exact ⟨_,setRow_heap w b L.toArray _ _ (0,0) h1,g1,fun k hk=>by rw [g2 k hk,hr k hk]⟩
 ·intro i hi
  simp [World.setRow,Array.getElem?_modify,Ne.symm hi]
 ·simp [World.setRow]
end
def AtW (w : World) (F : Nat → Prop) (p : Nat) (a : AtT) : Prop := ajj a ∧ ∃ (b1 b2 : Nat) (m : List (Int × SlT)) (q : List (Int × PlT)) (F1 F2 : Nat → Prop), okS m ∧ absM (m, q) = a ∧
 w.heap[p]? = some (.cells #[.map (some b1),.map (some b2)] 132 (0,0))∧((ImAt encS w b1 m∧F1 b1)∧∀ e∈m,InF w F1 e.2)∧(ImAt encPl w b2 q∧F2 b2)∧(∀ i,F i↔i=p∨F1 i∨F2 i)∧(∀ i,F1 i→i ≠ p∧¬ F2 i)∧∀ i,F2 i→i ≠ p
theorem AtW.ext {w w' : World} {F : Nat → Prop} {p : Nat} {a : AtT} (h : AtW w F p a) (hw : ∀ i, F i → w'.heap[i]? = w.heap[i]?) : AtW w' F p a := by
 obtain ⟨hg,b1,b2,m,q,F1,F2,h1,h2,h3,⟨⟨h4,h5⟩,h6⟩,⟨h7,h8⟩,h9,h10,h11⟩:=h
 refine ⟨hg,b1,b2,m,q,F1,F2,h1,h2,?_,⟨⟨ImAt.ext h4 (hw _ ((h9 _).2 (.inr (.inl h5)))),h5⟩,fun e he=>(h6 e he).ext (fun _ h=>h) fun i hi=>hw i ((h9 i).2 (.inr (.inl hi)))⟩,⟨ImAt.ext h7 (hw _ ((h9 _).2 (.inr (.inr h8)))),h8⟩,h9,h10,h11⟩
 rw [hw p ((h9 p).2 (.inl rfl)),h3]
structure SnT where
 me : Int
 rel : Nat→Nat→Option Fr
 ats : Nat→AtT
structure CoT where
 pt : Nat→Option Nat
 rp : Nat→Nat→Nat
def updN {α : Type} (f : Nat → α) (k : Nat) (v : α) : Nat → α := fun i => if i = k then v else f i
theorem ajw {α : Type} (f : Nat → α) (i : Nat) : updN f i (f i) = f := by
 funext k
 unfold updN
 split
 ·rename_i h;rw [h]
 ·rfl
def upd2 {α : Type} (f : Nat → Nat → α) (x y : Nat) (v : α) : Nat → Nat → α := fun i j => if i = x ∧ j = y then v else f i j
def relP (c : CoT) (S : SnT) (x y : Nat) : Option Addr := (S.rel x y).map fun _ => ⟨c.rp x y, 2, none⟩
def ptP (c : CoT) (i : Nat) : Option Addr := (c.pt i).map fun p => ⟨p, 0, none⟩
def stC (c : CoT) (S : SnT) (k : Nat) : Value := if k = 0 then .int .i64 S.me else if k < 9 then .pointer (ptP c (k - 1)) else .pointer (relP c S ((k - 9) / 8) ((k - 9) % 8))
def RelW (w : World) (g : Nat) (f : Fr) : Prop := ∃ x y : Value, w.heap[g]? = some (.cells #[x, y, .int .i64 f.1, .int .i64 f.2.1, .int .i64 f.2.2] 39 (0, 0))
structure StW (w : World) (F : Nat → Prop) (b : Nat) (c : CoT) (S : SnT) (H : Nat → Bool) (Fs : Nat → Nat → Prop) : Prop where
 box : FnAt w b 99 73 (stC c S)
 own : Fs 8 b
 rel : ∀ x y f,x < 8→y < 8→S.rel x y=some f→RelW w (c.rp x y) f∧Fs 8 (c.rp x y)∧c.rp x y ≠ b
 ats : ∀ i,i < 8→H i=true→∃ p,c.pt i=some p∧AtW w (Fs i) p (S.ats i)
 disj : ∀ i j,i < 9→j < 9→i ≠ j→∀ x,Fs i x→¬ Fs j x
 sub : ∀ i,i < 9→∀ x,Fs i x→F x
theorem StW.ext {w w' : World} {F : Nat → Prop} {b : Nat} {c : CoT} {S : SnT} {H : Nat → Bool} {Fs : Nat → Nat → Prop} (h : StW w F b c S H Fs) (hw : ∀ i, F i → w'.heap[i]? = w.heap[i]?) : StW w' F b c S H Fs := by
 refine ⟨h.box.ext (hw b (h.sub 8 (by omega) b h.own)),h.own,fun x y f hx hy hf=>?_,fun i hi hH=>?_,h.disj,h.sub⟩
 ·obtain ⟨⟨u,v,h1⟩,h2,h3⟩:=h.rel x y f hx hy hf
  exact ⟨⟨u,v,(hw _ (h.sub 8 (by omega) _ h2)).trans h1⟩,h2,h3⟩
 ·obtain ⟨p,h1,h2⟩:=h.ats i hi hH
  exact ⟨p,h1,h2.ext fun x hx=>hw x (h.sub i (by omega) x hx)⟩
def stO (b : Nat) (c : CoT) (S : SnT) (H : Nat → Bool) : OB := .res fun w F => ∃ Fs, StW w F b c S H Fs
theorem cxj {w : World} {F : Nat → Prop} {b : Nat} {c : CoT} {S : SnT} {H : Nat → Bool} {Fs : Nat → Nat → Prop} (h : StW w F b c S H Fs) {σ : Nat → Nat} {n q : Nat} : (stO b c S H).at σ n w q F :=
 ⟨⟨Fs,h⟩,fun w' hw=>⟨Fs,h.ext hw⟩⟩
def allT : Nat → Bool := fun i => decide (i < 8)
theorem ajk {i : Nat} (h : i < 8) : allT i = true := decide_eq_true h
section
variable {C : Ctx} {ob : List OB} {b : Nat} {c : CoT} {S : SnT} {H : Nat → Bool}
theorem bzl {σ : Nat → Nat} {fp : Nat → Nat → Prop} {w : World} {j : Nat} (hm : Mem C σ fp ob w) (h : nth ob j = some (stO b c S H)) : (∃ Fs, StW w (fp j) b c S H Fs) ∧ j < ob.length := by
 rw [aq4] at h
 have:=hm.at_ j _ h
 exact ⟨this.1,(List.getElem?_eq_some_iff.1 h).1⟩
theorem st_get {σ : Nat → Nat} {fp : Nat → Nat → Prop} {w : World} (j : Nat) (h : nth ob j = some (stO b c S H)) {k : Nat} (hk : k < 73) (hm : Mem C σ fp ob w) : w.cell? ⟨b, k, none⟩ = some (stC c S k) := by
 obtain ⟨⟨Fs,hs⟩,_⟩:=bzl hm h
 exact hs.box.get hk
theorem ake (b off k : Nat) : (⟨b, off, none⟩ : Addr).add k = ⟨b, off + k, none⟩ := Addr.add_mid ..
variable {o : Oper} {t : TypeId} {x y : Operand} {te : TI}
theorem bzm (j : Nat) (v : Int) {K : SV → Prop} (hT : aqc C.P C.T) (ho : o.op = .load t x) (hte : aqf C.T t = some te) (hagg : te.agg = false) (hj : nth ob j = some (stO b c S H)) (hv : S.me = v) (hK : K (I v)) : ValX C o [.v (.pointer (some ((⟨b, 0, none⟩ : Addr).add 0)))] ob K := by
 subst hv
 rw [ake]
 exact bzk _ hT ho hte hagg (fun σ fp w hm=>st_get j hj (by omega) hm) hK
theorem avr (j i : Nat) (v : Option Addr) {K : SV → Prop} (hT : aqc C.P C.T) (ho : o.op = .load t x) (hte : aqf C.T t = some te) (hagg : te.agg = false) (hj : nth ob j = some (stO b c S H)) (hi : i < 8) (hv : ptP c i = v) (hK : K (.v (.pointer v))) :
 ValX C o [.v (.pointer (some (((⟨b,0,none⟩ : Addr).add 1).add ((i : Int).toNat * 1))))] ob K:=by
 subst hv
 rw [ake,ake,Int.toNat_natCast,Nat.mul_one,Nat.zero_add]
 refine bzk _ hT ho hte hagg (fun σ fp w hm=>?_) hK
 rw [st_get j hj (by omega) hm]
 unfold stC
 rw [if_neg (by omega),if_pos (by omega),Nat.add_sub_cancel_left]
def ptsL (c : CoT) : List Value := (List.range 8).map fun i => .pointer (ptP c i)
theorem bqf (j : Nat) {K : SV → Prop} (hT : aqc C.P C.T) (ho : o.op = .load t x) (hte : aqf C.T t = some te) (hagg : te.agg = true) (hz : te.zero.length = 8) (hj : nth ob j = some (stO b c S H)) (hK : K (.a ((ptsL c).map .v))) :
 ValX C o [.v (.pointer (some ((⟨b,0,none⟩ : Addr).add 1)))] ob K:=by
 rw [ake]
 refine bjq _ hT ho hte hagg (by rw [hz];rfl) (fun σ fp w hm=>?_) hK
 obtain ⟨⟨Fs,hs⟩,_⟩:=bzl hm hj
 refine hs.box.range (fun q hq=>?_) (by simp [ptsL])
 simp [ptsL] at hq
 unfold stC ptsL
 rw [if_neg (by omega),if_pos (by omega),List.getElem?_map,List.getElem?_range hq,show 0 + 1 + q - 1=q by omega]
 rfl
theorem aj5 (j p q : Nat) (v : Option Addr) {K : SV → Prop} (hT : aqc C.P C.T) (ho : o.op = .load t x) (hte : aqf C.T t = some te) (hagg : te.agg = false) (hj : nth ob j = some (stO b c S H)) (hp : p < 8) (hq : q < 8) (hv : relP c S p q = v) (hK : K (.v (.pointer v))) :
 ValX C o [.v (.pointer (some ((((⟨b,0,none⟩ : Addr).add 9).add ((p : Int).toNat * 8)).add ((q : Int).toNat * 1))))] ob K:=by
 subst hv
 rw [ake,ake,ake,Int.toNat_natCast,Int.toNat_natCast,Nat.mul_one,Nat.zero_add]
 refine bzk _ hT ho hte hagg (fun σ fp w hm=>?_) hK
 rw [st_get j hj (by omega) hm]
 unfold stC
 rw [if_neg (by omega),if_neg (by omega),show (9 + p * 8 + q - 9) / 8=p by omega,show (9 + p * 8 + q - 9) % 8=q by omega]
def bw5 (c : CoT) (S : SnT) : List Value := (List.range 64).map fun k => .pointer (relP c S (k / 8) (k % 8))
theorem ckb (j : Nat) {K : SV → Prop} (hT : aqc C.P C.T) (ho : o.op = .load t x) (hte : aqf C.T t = some te) (hagg : te.agg = true) (hz : te.zero.length = 64) (hj : nth ob j = some (stO b c S H)) (hK : K (.a ((bw5 c S).map .v))) :
 ValX C o [.v (.pointer (some ((⟨b,0,none⟩ : Addr).add 9)))] ob K:=by
 rw [ake]
 refine bjq _ hT ho hte hagg (by rw [hz];rfl) (fun σ fp w hm=>?_) hK
 obtain ⟨⟨Fs,hs⟩,_⟩:=bzl hm hj
 refine hs.box.range (fun q hq=>?_) (by simp [bw5])
 simp [bw5] at hq
 unfold stC bw5
 rw [if_neg (by omega),if_neg (by omega),List.getElem?_map,List.getElem?_range hq,show 0 + 9 + q - 9=q by omega]
 rfl
theorem avs (j p q : Nat) (f : Fr) {K : SV → Prop} (hT : aqc C.P C.T) (ho : o.op = .load t x) (hte : aqf C.T t = some te) (hagg : te.agg = true) (hz : te.zero.length = 3) (hj : nth ob j = some (stO b c S H)) (hp : p < 8) (hq : q < 8) (hf : S.rel p q = some f) (hK : K (.a [I f.1, I f.2.1, I f.2.2])) :
 ValX C o [.v (.pointer (some ⟨c.rp p q,2,none⟩))] ob K:=by
 refine bjq [.int .i64 f.1,.int .i64 f.2.1,.int .i64 f.2.2] hT ho hte hagg (by rw [hz];rfl) (fun σ fp w hm=>?_) hK
 obtain ⟨⟨Fs,hs⟩,_⟩:=bzl hm hj
 obtain ⟨⟨u,v,h1⟩,_⟩:=hs.rel p q f hp hq hf
 intro i z hi
 rw [cell_of_row w _ _ _ _ (0,0) h1]
 match i,hi with
 | 0,hi=>simpa using hi
 | 1,hi=>simpa using hi
 | 2,hi=>simpa using hi
 | i + 3,hi=>simp at hi
end
end Go.Proofs.YtlnplelandimeaaGreat.En
end
