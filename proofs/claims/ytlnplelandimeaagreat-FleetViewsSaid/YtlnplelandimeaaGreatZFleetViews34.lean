import Derived.Test.YtlnplelandimeaaGreatZFleetViews33
set_option linter.all false
section
namespace Go.Proofs.YtlnplelandimeaaGreat.En
open Go.RowKit
set_option maxRecDepth 100000
def rsC (own : Int) (A : Option Addr) (n cA : Nat) (P : Option Addr) (m d : Nat) (k : Nat) : Value := if k = 0 then .int .i64 own else if k = 1 then .slice A n cA else .slice P m d
abbrev rsO (b : Nat) (own : Int) (A : Option Addr) (n cA : Nat) (P : Option Addr) (m d : Nat) : OB := bxO b 104 3 (rsC own A n cA P m d)
section
variable {C : Ctx} {ob : List OB} {b : Nat} {own : Int} {A P : Option Addr} {n cA m d : Nat} {o : Oper} {t : TypeId} {x y : Operand} {te : TI}
theorem bvl (j : Nat) (v : Int) {K : SV → Prop} (hT : aqc C.P C.T) (ho : o.op = .load t x) (hte : aqf C.T t = some te) (hagg : te.agg = false) (hj : nth ob j = some (rsO b own A n cA P m d)) (hv : own = v) (hK : K (I v)) : ValX C o [.v (.pointer (some ((⟨b, 0, none⟩ : Addr).add 0)))] ob K :=
 ckd j 0 _ hT ho hte hagg hj (by omega) (by rw [← hv];rfl) hK
theorem aj2 (j : Nat) {K : SV → Prop} (hT : aqc C.P C.T) (ho : o.op = .load t x) (hte : aqf C.T t = some te) (hagg : te.agg = false) (hj : nth ob j = some (rsO b own A n cA P m d)) (hK : K (.v (.slice A n cA))) : ValX C o [.v (.pointer (some ((⟨b, 0, none⟩ : Addr).add 1)))] ob K :=
 ckd j 1 _ hT ho hte hagg hj (by omega) rfl hK
theorem axg (j : Nat) {K : SV → Prop} (hT : aqc C.P C.T) (ho : o.op = .load t x) (hte : aqf C.T t = some te) (hagg : te.agg = false) (hj : nth ob j = some (rsO b own A n cA P m d)) (hK : K (.v (.slice P m d))) : ValX C o [.v (.pointer (some ((⟨b, 0, none⟩ : Addr).add 2)))] ob K :=
 ckd j 2 _ hT ho hte hagg hj (by omega) rfl hK
theorem OpX_rsA (j : Nat) {A' : Option Addr} {n' c' : Nat} {K : SV → List OB → Prop} (hT : aqc C.P C.T) (ho : o.op = .store t x y) (hte : aqf C.T t = some te) (hz : te.zero.length = 1) (hj : nth ob j = some (rsO b own A n cA P m d))
 (hK : aqb (setN ob j (rsO b own A' n' c' P m d)) fun ob=>K (.v undef) ob) : OpX C o [.v (.pointer (some ((⟨b,0,none⟩ : Addr).add 1))),.v (.slice A' n' c')] ob K :=
 OpX_bx j 1 _ _ hT ho hte hz hj (by omega) rfl (fun k hk=>by rcases (by omega : k=0∨k=1∨k=2) with rfl|rfl|rfl<;>rfl) hK
theorem bw8 (j : Nat) {P' : Option Addr} {m' d' : Nat} {K : SV → List OB → Prop} (hT : aqc C.P C.T) (ho : o.op = .store t x y) (hte : aqf C.T t = some te) (hz : te.zero.length = 1) (hj : nth ob j = some (rsO b own A n cA P m d))
 (hK : aqb (setN ob j (rsO b own A n cA P' m' d')) fun ob=>K (.v undef) ob) : OpX C o [.v (.pointer (some ((⟨b,0,none⟩ : Addr).add 2))),.v (.slice P' m' d')] ob K :=
 OpX_bx j 2 _ _ hT ho hte hz hj (by omega) rfl (fun k hk=>by rcases (by omega : k=0∨k=1∨k=2) with rfl|rfl|rfl<;>rfl) hK
theorem rs_new {σ : Nat → Nat} {fp : Nat → Nat → Prop} {w : World} (hm : Mem C σ fp ob w) {j : Nat} (hj : nth ob j = some (.box 104 [I own, .v (.slice none 0 0), .v (.slice none 0 0)])) : (rsO (σ j) own none 0 0 none 0 0).at σ ob.length w (σ j) (fp j) := by
 rw [aq4] at hj
 obtain ⟨d1,d2,d3⟩:=hm.at_ j _ hj
 exact bxO_mk (N:=3) ⟨_,d1,rfl,fun k hk=>by rcases (by omega : k=0∨k=1∨k=2) with rfl|rfl|rfl<;>rfl⟩ ((d2 _).2 rfl)
end
theorem lexF (f g : Fr) : (0 < lexC (keyF f) (keyF g)) ↔ (g.1 < f.1 ∨ (f.1 = g.1 ∧ (g.2.1 < f.2.1 ∨ (f.2.1 = g.2.1 ∧ g.2.2 < f.2.2)))) := by
 have a1:=@ak6 f.1 g.1
 have a2:=@ak6 f.2.1 g.2.1
 have a3:=@ak6 f.2.2 g.2.2
 have b1:=@axd f.1 g.1
 have b2:=@axd f.2.1 g.2.1
 have b3:=@axd f.2.2 g.2.2
 unfold keyF
 simp only [lexC]
 generalize cmpI f.1 g.1=p at *
 generalize cmpI f.2.1 g.2.1=q at *
 generalize cmpI f.2.2 g.2.2=r at *
 split<;>(try split)<;>(try split)<;>omega
theorem bvm (f g : Fr) : PureX Tryz.prog 123 [.a [I f.1, I f.2.1, I f.2.2], .a [I g.1, I g.2.1, I g.2.2]] (B (decide (0 < lexC (keyF f) (keyF g)))) := by
 have e : decide (0 < lexC (keyF f) (keyF g))=decide (g.1 < f.1∨(f.1=g.1∧(g.2.1 < f.2.1∨(f.2.1=g.2.1∧g.2.2 < f.2.2)))):=decide_eq_decide.2 (lexF f g)
 rw [e]
 refine PureX.of Tryz.func123 rfl aza rfl rfl rfl (by simp [SV.wfs,SV.wf]) (by simp [SV.wfs,SV.wf]) fun w=>?_
 (conv=>whnf);repeat' (first|with_reducible exact rfl|((with_reducible refine aze (by assumption) ?_);conv=>whnf)|((with_reducible refine azd ?_ ?_)<;>(intro hb;(try simp (disch:=omega) only [hbS] at hb)<;>conv=>whnf)))
 all_goals try (exfalso;omega)
 all_goals refine azk rfl (B_eq ?_) trivial
 all_goals rw [Bool.eq_iff_iff]
 all_goals simp
 all_goals omega
theorem rGr_t {f g : Fr} (h : 0 < lexC (keyF f) (keyF g)) : PureX Tryz.prog 123 [.a [I f.1, I f.2.1, I f.2.2], .a [I g.1, I g.2.1, I g.2.2]] (B true) := by
 have:=bvm f g
 rwa [decide_eq_true h] at this
theorem rGr_f {f g : Fr} (h : ¬ 0 < lexC (keyF f) (keyF g)) : PureX Tryz.prog 123 [.a [I f.1, I f.2.1, I f.2.2], .a [I g.1, I g.2.1, I g.2.2]] (B false) := by
 have:=bvm f g
 rwa [decide_eq_false h] at this
theorem cv7 (L : List RelT) (k : Nat) (X : RelT) : (L.map encR).set k (encR X) = (L.set k X).map encR := by rw [List.map_set]
theorem avu {C : Ctx} {ob : List OB} {e sz : Nat} {A : Option Addr} {n c : Nat} {els : List (List Value)} (j : Nat) (hj : nth ob j = some (.row e sz A n c els)) : ∀ σ fp w, Mem C σ fp ob w → n ≤ c := by
 intro σ fp w hm
 obtain ⟨⟨hown,_⟩,_⟩:=akn hm hj
 rcases hown.2 with ⟨h,h0⟩|⟨g,cap,cur,hsl,_,_,hnc,_⟩
 ·simp at h
  omega
 ·simp at hsl
  omega
theorem aj3 {C : Ctx} {ob : List OB} {e sz n c : Nat} {A : Option Addr} {o : Oper} {t : TypeId} {x y : Operand} {m : Nat} {k : SV → Prop} (hT : aqc C.P C.T) (ho : o.op = .slice t x none (some y) none) (hs : avf C t = some (e, sz)) (hm : ∀ σ fp w, Mem C σ fp ob w → m ≤ c)
 (hk : k (.v (.slice A m c))) : ValX C o [.v (.slice A n c),.v (.int .i64 (m : Int))] ob k:=by
 unfold ValX
 intro σ fp w ρ hM hx
 obtain ⟨hu,hz⟩:=bz2 hT hs w
 rw [ho] at hx
 simp [Op.operands,SV.vals,SV.val] at hx
 refine ⟨_,hk,?_,trivial⟩
 simp [execOp,ho,hx.1,hx.2,Instr.sliceAt,run_underlying hu,bqm (w:=w) hu hz (hm σ fp w hM),SV.val]
set_option maxHeartbeats 8000000 in
theorem rTake_gt (b : Nat) (own : Int) (A : Option Addr) (n cA : Nat) (P : Option Addr) (d : Nat) (L : List RelT) (hL : L.length ≤ 64) (a1 a2 q p r : Int) (hx : aq1 (a1, a2, q, p, r) = true) (hc : a2 < a1) :
 CallM Tryz.prog 89 [pR b,relX (a1,a2,q,p,r)] (fun _ _=>True) [rsO b own A n cA P L.length d,.row 39 5 P L.length d (L.map encR)]
  (fun _ : Option Addr × Nat=>.t []) (fun z=>[rsO b own A n cA z.1 (insR (aqs (a1,a2,q,p,r)) L).length z.2,.row 39 5 z.1 (insR (aqs (a1,a2,q,p,r)) L).length z.2 ((insR (aqs (a1,a2,q,p,r)) L).map encR)]):=by
 obtain ⟨h1,h2,h3,h4,h5⟩:=av7 hx
 dsimp only at h1 h2 h3 h4 h5
 have ki:=bvf 1024 (q,p,r) ⟨h4.1,h4.2,h5.1,h5.2⟩ (by decide)
 have hN : aqs (a1,a2,q,p,r)=(a2,a1,((invF (q,p,r)).1 % 4,(invF (q,p,r)).2.1,(invF (q,p,r)).2.2)):=by unfold aqs;rw [if_pos hc]
 rw [hN]
 clear hN hx
 generalize invF (q,p,r)=iv at *
 obtain ⟨i1,i2,i3⟩:=iv
 dsimp only at ki ⊢
 have km:=aqu i1 4 (by decide) (by decide)
 refine CallM.of (m:=2) Tryz.func89 rfl aza rfl rfl rfl rfl (by simp [SV.wfs,SV.wf]) fun w M π _=>?_
 (conv=>whnf);repeat' (first|((with_reducible refine isC ?_);first|((first|(with_reducible refine isF 107 ?_);((with_reducible refine azb ki ?_))|(with_reducible refine isF 36 ?_);((with_reducible refine azb km ?_)));conv=>whnf))|((with_reducible refine isO ?_);first|((first|(refine azh aza rfl rfl rfl ?_);intro bN|(refine azm aza rfl rfl rfl rfl rfl ?_);intro bN);conv=>whnf))|((with_reducible refine isW ?_;first|refine azg (by omega) (by omega) ?_|refine azc ?_);conv=>whnf)|((first|refine azj aza azt ?_|refine azi (by kernel_rfl) ?_|with_reducible refine azo ?_ ?_)<;>conv=>whnf)|with_reducible exact rfl|((with_reducible refine aze (by assumption) ?_);conv=>whnf)|((with_reducible refine azd ?_ ?_)<;>(intro hb;(try simp (disch:=omega) only [hbS] at hb)<;>conv=>whnf)))
 all_goals try (exfalso;omega)
 have hat:=cke (a2,a1,i1 % 4,i2,i3) L
 generalize insR (a2,a1,i1 % 4,i2,i3) L=Z at *
 refine azr aza (α:=Nat) (fun k=>k≤L.length∧∀ j,j < k→ltR (L.getD j r0) (a2,a1,i1 % 4,i2,i3)=true) (fun k=>[(0,pR b),(3,.p 2 0),(6,I k)])
  (fun _=>[rsO b own A n cA P L.length d,.row 39 5 P L.length d (L.map encR),.box 39 [I (a2),I (a1),I (i1 % 4),I (i2),I (i3)]]) (fun k=>L.length - k) 0 [0,1,2] ⟨Nat.zero_le _,fun j hj=>by omega⟩ ?_ ?_
 ·(refine ⟨?_,?_,?_,?_⟩<;>(repeat' ((conv=>whnf);apply And.intro))<;>try (first|exact trivial|decide))
  all_goals first|rfl|exact fun _ _ h=>h|(simp [SV.wf,SV.wfs];done)|trace_state
 ·rintro k ⟨hk,hall⟩
  have hatk:=hat k hk hall
  clear hat
  by_cases hlt : k < L.length
  ·by_cases hl : ltR (L.getD k r0) (a2,a1,i1 % 4,i2,i3)=true
   ·have hnx : ∀ j,j < k + 1→ltR (L.getD j r0) (a2,a1,i1 % 4,i2,i3)=true:=fun j hj=>by
     by_cases e : j=k
     ·rw [e];exact hl
     ·exact hall j (by omega)
    clear hatk
    unfold ltR at hl
    simp at hl
    rw [show L[k]?.getD r0=L.getD k r0 by simp] at hl
    (conv=>whnf);repeat' (first|((with_reducible refine isV ?_);first|(refine axg 0 aza rfl rfl rfl rfl ?_;conv=>whnf)|((first|(with_reducible refine az1 ?_);refine az4 _ _ (r0) _ aza rfl rfl rfl (ArgSl.row 1 rfl) ?_ ?_ rfl ?_|refine az8 _ _ (r0) _ aza rfl rfl rfl (ArgSl.row 1 rfl) ?_ ?_ rfl ?_)<;>first|omega|(simp;omega)|with_reducible refine isP ?_|conv=>whnf)|((first|(with_reducible refine az1 ?_);refine az9 _ _ (r0) _ aza rfl rfl rfl (ArgSl.row 1 rfl) ?_ ?_ rfl rfl ?_|refine aqd _ _ (r0) _ aza rfl rfl rfl (ArgSl.row 1 rfl) ?_ ?_ rfl rfl ?_)<;>first|omega|with_reducible refine isP ?_|conv=>whnf)|((refine azf aza rfl (ArgSl.row 1 rfl) rfl ?_ ?_ ?_)<;>first|rfl|omega|with_reducible refine isP ?_|conv=>whnf))|((with_reducible refine isO ?_);first|((first|(refine azh aza rfl rfl rfl ?_);intro bN|(refine azm aza rfl rfl rfl rfl rfl ?_);intro bN);conv=>whnf))|((with_reducible refine isW ?_;first|refine azg (by omega) (by omega) ?_|refine azc ?_);conv=>whnf)|((first|refine azj aza azt ?_|refine azi (by kernel_rfl) ?_|with_reducible refine azo ?_ ?_)<;>conv=>whnf)|with_reducible exact rfl|((with_reducible refine aze (by assumption) ?_);conv=>whnf)|((with_reducible refine azd ?_ ?_)<;>(intro hb;(try simp (disch:=omega) only [hbS] at hb)<;>conv=>whnf)))
    all_goals try (exfalso;omega)
    all_goals refine ⟨k + 1,[0,1,2],⟨by (try dsimp only);omega,hnx⟩,?_,by (try dsimp only);omega⟩
    all_goals (refine ⟨?_,?_,?_,?_⟩<;>(repeat' ((conv=>whnf);apply And.intro))<;>try (first|exact trivial|decide))
    all_goals first|rfl|exact fun _ _ h=>h|(simp [SV.wf,SV.wfs];done)|trace_state
   ·have hlf : ltR (L.getD k r0) (a2,a1,i1 % 4,i2,i3)=false:=by simpa using hl
    have hatk:=hatk fun _=>hlf
    unfold ltR at hlf
    simp at hlf
    rw [show L[k]?.getD r0=L.getD k r0 by simp] at hlf
    by_cases he : eqR (L.getD k r0) (a2,a1,i1 % 4,i2,i3)=true
    ·rw [if_pos ⟨hlt,he⟩] at hatk
     unfold eqR at he
     simp at he
     rw [show L[k]?.getD r0=L.getD k r0 by simp] at he
     by_cases hg : 0 < lexC (keyF (i1 % 4,i2,i3)) (keyF (L.getD k r0).2.2)
     ·have kg:=rGr_t hg
      dsimp only at kg
      rw [if_pos hg] at hatk
      (conv=>whnf);repeat' (first|((with_reducible refine isC ?_);first|(((with_reducible refine isF 123 ?_);((with_reducible refine azb kg ?_)));conv=>whnf))|((with_reducible refine isV ?_);first|(refine axg 0 aza rfl rfl rfl rfl ?_;conv=>whnf)|((first|(with_reducible refine az1 ?_);refine az4 _ _ (r0) _ aza rfl rfl rfl (ArgSl.row 1 rfl) ?_ ?_ rfl ?_|refine az8 _ _ (r0) _ aza rfl rfl rfl (ArgSl.row 1 rfl) ?_ ?_ rfl ?_)<;>first|omega|(simp;omega)|with_reducible refine isP ?_|conv=>whnf)|((first|(with_reducible refine az1 ?_);refine az9 _ _ (r0) _ aza rfl rfl rfl (ArgSl.row 1 rfl) ?_ ?_ rfl rfl ?_|refine aqd _ _ (r0) _ aza rfl rfl rfl (ArgSl.row 1 rfl) ?_ ?_ rfl rfl ?_)<;>first|omega|with_reducible refine isP ?_|conv=>whnf)|((refine azf aza rfl (ArgSl.row 1 rfl) rfl ?_ ?_ ?_)<;>first|rfl|omega|with_reducible refine isP ?_|conv=>whnf))|((with_reducible refine isO ?_);first|((refine aj6 1 aza rfl rfl rfl rfl rfl rfl ?_ ?_)<;>first|omega|with_reducible refine isP ?_|conv=>whnf)|((first|(refine azh aza rfl rfl rfl ?_);intro bN|(refine azm aza rfl rfl rfl rfl rfl ?_);intro bN);conv=>whnf))|((with_reducible refine isW ?_;first|refine azg (by omega) (by omega) ?_|refine azc ?_);conv=>whnf)|((first|refine azj aza azt ?_|refine azi (by kernel_rfl) ?_|with_reducible refine azo ?_ ?_)<;>conv=>whnf)|with_reducible exact rfl|((with_reducible refine aze (by assumption) ?_);conv=>whnf)|((with_reducible refine azd ?_ ?_)<;>(intro hb;(try simp (disch:=omega) only [hbS] at hb)<;>conv=>whnf)))
      all_goals try (exfalso;omega)
      have hn : L.length=Z.length:=by rw [hatk,List.length_set]
      exact azv (P,d) [0,1] ⟨rfl,by simp [SV.wf,SV.wfs]⟩ ⟨fun _ _ h=>by rw [← hn];exact h,⟨rfl,rfl,rfl,hn,rfl,by rw [hatk];exact cv7 L k (a2,a1,i1 % 4,i2,i3)⟩,trivial⟩ (by decide) rfl
     ·have kg:=rGr_f hg
      dsimp only at kg
      rw [if_neg hg] at hatk
      rw [hatk]
      (conv=>whnf);repeat' (first|((with_reducible refine isC ?_);first|(((with_reducible refine isF 123 ?_);((with_reducible refine azb kg ?_)));conv=>whnf))|((with_reducible refine isV ?_);first|(refine axg 0 aza rfl rfl rfl rfl ?_;conv=>whnf)|((first|(with_reducible refine az1 ?_);refine az4 _ _ (r0) _ aza rfl rfl rfl (ArgSl.row 1 rfl) ?_ ?_ rfl ?_|refine az8 _ _ (r0) _ aza rfl rfl rfl (ArgSl.row 1 rfl) ?_ ?_ rfl ?_)<;>first|omega|(simp;omega)|with_reducible refine isP ?_|conv=>whnf)|((first|(with_reducible refine az1 ?_);refine az9 _ _ (r0) _ aza rfl rfl rfl (ArgSl.row 1 rfl) ?_ ?_ rfl rfl ?_|refine aqd _ _ (r0) _ aza rfl rfl rfl (ArgSl.row 1 rfl) ?_ ?_ rfl rfl ?_)<;>first|omega|with_reducible refine isP ?_|conv=>whnf)|((refine azf aza rfl (ArgSl.row 1 rfl) rfl ?_ ?_ ?_)<;>first|rfl|omega|with_reducible refine isP ?_|conv=>whnf))|((with_reducible refine isO ?_);first|((first|(refine azh aza rfl rfl rfl ?_);intro bN|(refine azm aza rfl rfl rfl rfl rfl ?_);intro bN);conv=>whnf))|((with_reducible refine isW ?_;first|refine azg (by omega) (by omega) ?_|refine azc ?_);conv=>whnf)|((first|refine azj aza azt ?_|refine azi (by kernel_rfl) ?_|with_reducible refine azo ?_ ?_)<;>conv=>whnf)|with_reducible exact rfl|((with_reducible refine aze (by assumption) ?_);conv=>whnf)|((with_reducible refine azd ?_ ?_)<;>(intro hb;(try simp (disch:=omega) only [hbS] at hb)<;>conv=>whnf)))
      all_goals try (exfalso;omega)
      exact azv (P,d) [0,1] ⟨rfl,by simp [SV.wf,SV.wfs]⟩ ⟨fun _ _ h=>h,⟨rfl,rfl,rfl,rfl,rfl,rfl⟩,trivial⟩ (by decide) rfl
    ·rw [if_neg (fun h=>he h.2)] at hatk
     unfold eqR at he
     simp at he
     rw [show L[k]?.getD r0=L.getD k r0 by simp] at he
     (conv=>whnf);repeat' (first|((with_reducible refine isV ?_);first|(refine axg 0 aza rfl rfl rfl rfl ?_;conv=>whnf)|((first|(with_reducible refine az1 ?_);refine az4 _ _ (r0) _ aza rfl rfl rfl (ArgSl.row 1 rfl) ?_ ?_ rfl ?_|refine az8 _ _ (r0) _ aza rfl rfl rfl (ArgSl.row 1 rfl) ?_ ?_ rfl ?_)<;>first|omega|(simp;omega)|with_reducible refine isP ?_|conv=>whnf)|((first|(with_reducible refine az1 ?_);refine az9 _ _ (r0) _ aza rfl rfl rfl (ArgSl.row 1 rfl) ?_ ?_ rfl rfl ?_|refine aqd _ _ (r0) _ aza rfl rfl rfl (ArgSl.row 1 rfl) ?_ ?_ rfl rfl ?_)<;>first|omega|with_reducible refine isP ?_|conv=>whnf)|((refine azf aza rfl (ArgSl.row 1 rfl) rfl ?_ ?_ ?_)<;>first|rfl|omega|with_reducible refine isP ?_|conv=>whnf)|(refine aj3 (m:=k) aza rfl rfl (fun σ fp w hm=>Nat.le_trans (by omega) (avu 1 rfl σ fp w hm)) ?_;conv=>whnf)|(refine ajs (m:=k) aza rfl rfl (aw0 1 rfl) (by omega) ?_;conv=>whnf))|((with_reducible refine isO ?_);first|((refine azz 3 aza rfl rfl rfl rfl (fun σ fp w hm=>(ArgSl.row 1 rfl σ fp w hm).take (m:=k) (by omega)) (by decide) ?_ ?_ ?_)<;>first|omega|(dsimp only;omega)|(intro A1 c1;conv=>whnf))|((refine azz 3 aza rfl rfl rfl rfl (ArgSl.row 4 rfl) (by decide) ?_ ?_ ?_)<;>first|omega|(dsimp only;omega)|(intro A2 c2;conv=>whnf))|((refine azz 3 aza rfl rfl rfl rfl (fun σ fp w hm=>(ArgSl.row 1 rfl σ fp w hm).drop (m:=k) (by omega) (avu 1 rfl σ fp w hm)) (by decide) ?_ ?_ ?_)<;>first|omega|(dsimp only;omega)|(intro A3 c3;conv=>whnf))|(refine bxb 1 3 (by decide) ?_;refine bw8 0 aza rfl rfl rfl rfl ?_;(conv=>whnf);refine ⟨_,_,_,_,_,_,rfl,rfl,?_⟩;conv=>whnf)|((first|(refine azh aza rfl rfl rfl ?_);intro bN|(refine azm aza rfl rfl rfl rfl rfl ?_);intro bN);conv=>whnf))|((with_reducible refine isW ?_;first|refine azg (by omega) (by omega) ?_|refine azc ?_);conv=>whnf)|((first|refine azj aza azt ?_|refine azi (by kernel_rfl) ?_|with_reducible refine azo ?_ ?_)<;>conv=>whnf)|with_reducible exact rfl|((with_reducible refine aze (by assumption) ?_);conv=>whnf)|((with_reducible refine azd ?_ ?_)<;>(intro hb;(try simp (disch:=omega) only [hbS] at hb)<;>conv=>whnf)))
     all_goals try (exfalso;omega)
     all_goals have hn : 0 + k + 1 + (L.length - k)=Z.length:=by rw [hatk];simp;try omega
     all_goals exact azv (A3,c3) [0,1] ⟨rfl,by simp [SV.wf,SV.wfs]⟩ ⟨fun _ _ h=>by rw [← hn];exact h,⟨rfl,rfl,rfl,hn,rfl,by rw [hatk];simp only [List.nil_append,List.map_append,List.map_cons,List.map_take,List.map_drop,List.append_assoc,List.cons_append];rfl⟩,trivial⟩ (by decide) rfl
  ·obtain rfl : k=L.length:=by omega
   have hatk:=hatk fun h=>absurd h hlt
   rw [if_neg (fun h=>hlt h.1)] at hatk
   (conv=>whnf);repeat' (first|((with_reducible refine isV ?_);first|(refine axg 0 aza rfl rfl rfl rfl ?_;conv=>whnf)|((first|(with_reducible refine az1 ?_);refine az4 _ _ (r0) _ aza rfl rfl rfl (ArgSl.row 1 rfl) ?_ ?_ rfl ?_|refine az8 _ _ (r0) _ aza rfl rfl rfl (ArgSl.row 1 rfl) ?_ ?_ rfl ?_)<;>first|omega|(simp;omega)|with_reducible refine isP ?_|conv=>whnf)|((first|(with_reducible refine az1 ?_);refine az9 _ _ (r0) _ aza rfl rfl rfl (ArgSl.row 1 rfl) ?_ ?_ rfl rfl ?_|refine aqd _ _ (r0) _ aza rfl rfl rfl (ArgSl.row 1 rfl) ?_ ?_ rfl rfl ?_)<;>first|omega|with_reducible refine isP ?_|conv=>whnf)|((refine azf aza rfl (ArgSl.row 1 rfl) rfl ?_ ?_ ?_)<;>first|rfl|omega|with_reducible refine isP ?_|conv=>whnf)|(refine aj3 (m:=L.length) aza rfl rfl (fun σ fp w hm=>Nat.le_trans (by omega) (avu 1 rfl σ fp w hm)) ?_;conv=>whnf)|(refine ajs (m:=L.length) aza rfl rfl (aw0 1 rfl) (by omega) ?_;conv=>whnf))|((with_reducible refine isO ?_);first|((refine azz 3 aza rfl rfl rfl rfl (fun σ fp w hm=>(ArgSl.row 1 rfl σ fp w hm).take (m:=L.length) (by omega)) (by decide) ?_ ?_ ?_)<;>first|omega|(dsimp only;omega)|(intro A1 c1;conv=>whnf))|((refine azz 3 aza rfl rfl rfl rfl (ArgSl.row 4 rfl) (by decide) ?_ ?_ ?_)<;>first|omega|(dsimp only;omega)|(intro A2 c2;conv=>whnf))|((refine azz 3 aza rfl rfl rfl rfl (fun σ fp w hm=>(ArgSl.row 1 rfl σ fp w hm).drop (m:=L.length) (by omega) (avu 1 rfl σ fp w hm)) (by decide) ?_ ?_ ?_)<;>first|omega|(dsimp only;omega)|(intro A3 c3;conv=>whnf))|(refine bxb 1 3 (by decide) ?_;refine bw8 0 aza rfl rfl rfl rfl ?_;(conv=>whnf);refine ⟨_,_,_,_,_,_,rfl,rfl,?_⟩;conv=>whnf)|((first|(refine azh aza rfl rfl rfl ?_);intro bN|(refine azm aza rfl rfl rfl rfl rfl ?_);intro bN);conv=>whnf))|((with_reducible refine isW ?_;first|refine azg (by omega) (by omega) ?_|refine azc ?_);conv=>whnf)|((first|refine azj aza azt ?_|refine azi (by kernel_rfl) ?_|with_reducible refine azo ?_ ?_)<;>conv=>whnf)|with_reducible exact rfl|((with_reducible refine aze (by assumption) ?_);conv=>whnf)|((with_reducible refine azd ?_ ?_)<;>(intro hb;(try simp (disch:=omega) only [hbS] at hb)<;>conv=>whnf)))
   all_goals try (exfalso;omega)
   all_goals have hn : 0 + L.length + 1 + (L.length - L.length)=Z.length:=by rw [hatk];simp;try omega
   all_goals exact azv (A3,c3) [0,1] ⟨rfl,by simp [SV.wf,SV.wfs]⟩ ⟨fun _ _ h=>by rw [← hn];exact h,⟨rfl,rfl,rfl,hn,rfl,by rw [hatk];simp only [List.nil_append,List.map_append,List.map_cons,List.map_take,List.map_drop,List.append_assoc,List.cons_append];rfl⟩,trivial⟩ (by decide) rfl
set_option maxHeartbeats 8000000 in
theorem rTake_le (b : Nat) (own : Int) (A : Option Addr) (n cA : Nat) (P : Option Addr) (d : Nat) (L : List RelT) (hL : L.length ≤ 64) (a1 a2 q p r : Int) (hx : aq1 (a1, a2, q, p, r) = true) (hc : ¬ a2 < a1) :
 CallM Tryz.prog 89 [pR b,relX (a1,a2,q,p,r)] (fun _ _=>True) [rsO b own A n cA P L.length d,.row 39 5 P L.length d (L.map encR)]
  (fun _ : Option Addr × Nat=>.t []) (fun z=>[rsO b own A n cA z.1 (insR (aqs (a1,a2,q,p,r)) L).length z.2,.row 39 5 z.1 (insR (aqs (a1,a2,q,p,r)) L).length z.2 ((insR (aqs (a1,a2,q,p,r)) L).map encR)]):=by
 obtain ⟨h1,h2,h3,h4,h5⟩:=av7 hx
 dsimp only at h1 h2 h3 h4 h5
 have hN : aqs (a1,a2,q,p,r)=(a1,a2,(q % 4,p,r)):=by unfold aqs;rw [if_neg hc]
 rw [hN]
 clear hN hx
 have ki:=True.intro
 have km:=aqu q 4 (by decide) (by decide)
 refine CallM.of (m:=2) Tryz.func89 rfl aza rfl rfl rfl rfl (by simp [SV.wfs,SV.wf]) fun w M π _=>?_
 (conv=>whnf);repeat' (first|((with_reducible refine isC ?_);first|((first|(with_reducible refine isF 107 ?_);((with_reducible refine azb ki ?_))|(with_reducible refine isF 36 ?_);((with_reducible refine azb km ?_)));conv=>whnf))|((with_reducible refine isO ?_);first|((first|(refine azh aza rfl rfl rfl ?_);intro bN|(refine azm aza rfl rfl rfl rfl rfl ?_);intro bN);conv=>whnf))|((with_reducible refine isW ?_;first|refine azg (by omega) (by omega) ?_|refine azc ?_);conv=>whnf)|((first|refine azj aza azt ?_|refine azi (by kernel_rfl) ?_|with_reducible refine azo ?_ ?_)<;>conv=>whnf)|with_reducible exact rfl|((with_reducible refine aze (by assumption) ?_);conv=>whnf)|((with_reducible refine azd ?_ ?_)<;>(intro hb;(try simp (disch:=omega) only [hbS] at hb)<;>conv=>whnf)))
 all_goals try (exfalso;omega)
 have hat:=cke (a1,a2,q % 4,p,r) L
 generalize insR (a1,a2,q % 4,p,r) L=Z at *
 refine azr aza (α:=Nat) (fun k=>k≤L.length∧∀ j,j < k→ltR (L.getD j r0) (a1,a2,q % 4,p,r)=true) (fun k=>[(0,pR b),(3,.p 2 0),(6,I k)])
  (fun _=>[rsO b own A n cA P L.length d,.row 39 5 P L.length d (L.map encR),.box 39 [I (a1),I (a2),I (q % 4),I (p),I (r)]]) (fun k=>L.length - k) 0 [0,1,2] ⟨Nat.zero_le _,fun j hj=>by omega⟩ ?_ ?_
 ·(refine ⟨?_,?_,?_,?_⟩<;>(repeat' ((conv=>whnf);apply And.intro))<;>try (first|exact trivial|decide))
  all_goals first|rfl|exact fun _ _ h=>h|(simp [SV.wf,SV.wfs];done)|trace_state
 ·rintro k ⟨hk,hall⟩
  have hatk:=hat k hk hall
  clear hat
  by_cases hlt : k < L.length
  ·by_cases hl : ltR (L.getD k r0) (a1,a2,q % 4,p,r)=true
   ·have hnx : ∀ j,j < k + 1→ltR (L.getD j r0) (a1,a2,q % 4,p,r)=true:=fun j hj=>by
     by_cases e : j=k
     ·rw [e];exact hl
     ·exact hall j (by omega)
    clear hatk
    unfold ltR at hl
    simp at hl
    rw [show L[k]?.getD r0=L.getD k r0 by simp] at hl
    (conv=>whnf);repeat' (first|((with_reducible refine isV ?_);first|(refine axg 0 aza rfl rfl rfl rfl ?_;conv=>whnf)|((first|(with_reducible refine az1 ?_);refine az4 _ _ (r0) _ aza rfl rfl rfl (ArgSl.row 1 rfl) ?_ ?_ rfl ?_|refine az8 _ _ (r0) _ aza rfl rfl rfl (ArgSl.row 1 rfl) ?_ ?_ rfl ?_)<;>first|omega|(simp;omega)|with_reducible refine isP ?_|conv=>whnf)|((first|(with_reducible refine az1 ?_);refine az9 _ _ (r0) _ aza rfl rfl rfl (ArgSl.row 1 rfl) ?_ ?_ rfl rfl ?_|refine aqd _ _ (r0) _ aza rfl rfl rfl (ArgSl.row 1 rfl) ?_ ?_ rfl rfl ?_)<;>first|omega|with_reducible refine isP ?_|conv=>whnf)|((refine azf aza rfl (ArgSl.row 1 rfl) rfl ?_ ?_ ?_)<;>first|rfl|omega|with_reducible refine isP ?_|conv=>whnf))|((with_reducible refine isO ?_);first|((first|(refine azh aza rfl rfl rfl ?_);intro bN|(refine azm aza rfl rfl rfl rfl rfl ?_);intro bN);conv=>whnf))|((with_reducible refine isW ?_;first|refine azg (by omega) (by omega) ?_|refine azc ?_);conv=>whnf)|((first|refine azj aza azt ?_|refine azi (by kernel_rfl) ?_|with_reducible refine azo ?_ ?_)<;>conv=>whnf)|with_reducible exact rfl|((with_reducible refine aze (by assumption) ?_);conv=>whnf)|((with_reducible refine azd ?_ ?_)<;>(intro hb;(try simp (disch:=omega) only [hbS] at hb)<;>conv=>whnf)))
    all_goals try (exfalso;omega)
    all_goals refine ⟨k + 1,[0,1,2],⟨by (try dsimp only);omega,hnx⟩,?_,by (try dsimp only);omega⟩
    all_goals (refine ⟨?_,?_,?_,?_⟩<;>(repeat' ((conv=>whnf);apply And.intro))<;>try (first|exact trivial|decide))
    all_goals first|rfl|exact fun _ _ h=>h|(simp [SV.wf,SV.wfs];done)|trace_state
   ·have hlf : ltR (L.getD k r0) (a1,a2,q % 4,p,r)=false:=by simpa using hl
    have hatk:=hatk fun _=>hlf
    unfold ltR at hlf
    simp at hlf
    rw [show L[k]?.getD r0=L.getD k r0 by simp] at hlf
    by_cases he : eqR (L.getD k r0) (a1,a2,q % 4,p,r)=true
    ·rw [if_pos ⟨hlt,he⟩] at hatk
     unfold eqR at he
     simp at he
     rw [show L[k]?.getD r0=L.getD k r0 by simp] at he
     by_cases hg : 0 < lexC (keyF (q % 4,p,r)) (keyF (L.getD k r0).2.2)
     ·have kg:=rGr_t hg
      dsimp only at kg
      rw [if_pos hg] at hatk
      (conv=>whnf);repeat' (first|((with_reducible refine isC ?_);first|(((with_reducible refine isF 123 ?_);((with_reducible refine azb kg ?_)));conv=>whnf))|((with_reducible refine isV ?_);first|(refine axg 0 aza rfl rfl rfl rfl ?_;conv=>whnf)|((first|(with_reducible refine az1 ?_);refine az4 _ _ (r0) _ aza rfl rfl rfl (ArgSl.row 1 rfl) ?_ ?_ rfl ?_|refine az8 _ _ (r0) _ aza rfl rfl rfl (ArgSl.row 1 rfl) ?_ ?_ rfl ?_)<;>first|omega|(simp;omega)|with_reducible refine isP ?_|conv=>whnf)|((first|(with_reducible refine az1 ?_);refine az9 _ _ (r0) _ aza rfl rfl rfl (ArgSl.row 1 rfl) ?_ ?_ rfl rfl ?_|refine aqd _ _ (r0) _ aza rfl rfl rfl (ArgSl.row 1 rfl) ?_ ?_ rfl rfl ?_)<;>first|omega|with_reducible refine isP ?_|conv=>whnf)|((refine azf aza rfl (ArgSl.row 1 rfl) rfl ?_ ?_ ?_)<;>first|rfl|omega|with_reducible refine isP ?_|conv=>whnf))|((with_reducible refine isO ?_);first|((refine aj6 1 aza rfl rfl rfl rfl rfl rfl ?_ ?_)<;>first|omega|with_reducible refine isP ?_|conv=>whnf)|((first|(refine azh aza rfl rfl rfl ?_);intro bN|(refine azm aza rfl rfl rfl rfl rfl ?_);intro bN);conv=>whnf))|((with_reducible refine isW ?_;first|refine azg (by omega) (by omega) ?_|refine azc ?_);conv=>whnf)|((first|refine azj aza azt ?_|refine azi (by kernel_rfl) ?_|with_reducible refine azo ?_ ?_)<;>conv=>whnf)|with_reducible exact rfl|((with_reducible refine aze (by assumption) ?_);conv=>whnf)|((with_reducible refine azd ?_ ?_)<;>(intro hb;(try simp (disch:=omega) only [hbS] at hb)<;>conv=>whnf)))
      all_goals try (exfalso;omega)
      have hn : L.length=Z.length:=by rw [hatk,List.length_set]
      exact azv (P,d) [0,1] ⟨rfl,by simp [SV.wf,SV.wfs]⟩ ⟨fun _ _ h=>by rw [← hn];exact h,⟨rfl,rfl,rfl,hn,rfl,by rw [hatk];exact cv7 L k (a1,a2,q % 4,p,r)⟩,trivial⟩ (by decide) rfl
     ·have kg:=rGr_f hg
      dsimp only at kg
      rw [if_neg hg] at hatk
      rw [hatk]
      (conv=>whnf);repeat' (first|((with_reducible refine isC ?_);first|(((with_reducible refine isF 123 ?_);((with_reducible refine azb kg ?_)));conv=>whnf))|((with_reducible refine isV ?_);first|(refine axg 0 aza rfl rfl rfl rfl ?_;conv=>whnf)|((first|(with_reducible refine az1 ?_);refine az4 _ _ (r0) _ aza rfl rfl rfl (ArgSl.row 1 rfl) ?_ ?_ rfl ?_|refine az8 _ _ (r0) _ aza rfl rfl rfl (ArgSl.row 1 rfl) ?_ ?_ rfl ?_)<;>first|omega|(simp;omega)|with_reducible refine isP ?_|conv=>whnf)|((first|(with_reducible refine az1 ?_);refine az9 _ _ (r0) _ aza rfl rfl rfl (ArgSl.row 1 rfl) ?_ ?_ rfl rfl ?_|refine aqd _ _ (r0) _ aza rfl rfl rfl (ArgSl.row 1 rfl) ?_ ?_ rfl rfl ?_)<;>first|omega|with_reducible refine isP ?_|conv=>whnf)|((refine azf aza rfl (ArgSl.row 1 rfl) rfl ?_ ?_ ?_)<;>first|rfl|omega|with_reducible refine isP ?_|conv=>whnf))|((with_reducible refine isO ?_);first|((first|(refine azh aza rfl rfl rfl ?_);intro bN|(refine azm aza rfl rfl rfl rfl rfl ?_);intro bN);conv=>whnf))|((with_reducible refine isW ?_;first|refine azg (by omega) (by omega) ?_|refine azc ?_);conv=>whnf)|((first|refine azj aza azt ?_|refine azi (by kernel_rfl) ?_|with_reducible refine azo ?_ ?_)<;>conv=>whnf)|with_reducible exact rfl|((with_reducible refine aze (by assumption) ?_);conv=>whnf)|((with_reducible refine azd ?_ ?_)<;>(intro hb;(try simp (disch:=omega) only [hbS] at hb)<;>conv=>whnf)))
      all_goals try (exfalso;omega)
      exact azv (P,d) [0,1] ⟨rfl,by simp [SV.wf,SV.wfs]⟩ ⟨fun _ _ h=>h,⟨rfl,rfl,rfl,rfl,rfl,rfl⟩,trivial⟩ (by decide) rfl
    ·rw [if_neg (fun h=>he h.2)] at hatk
     unfold eqR at he
     simp at he
     rw [show L[k]?.getD r0=L.getD k r0 by simp] at he
     (conv=>whnf);repeat' (first|((with_reducible refine isV ?_);first|(refine axg 0 aza rfl rfl rfl rfl ?_;conv=>whnf)|((first|(with_reducible refine az1 ?_);refine az4 _ _ (r0) _ aza rfl rfl rfl (ArgSl.row 1 rfl) ?_ ?_ rfl ?_|refine az8 _ _ (r0) _ aza rfl rfl rfl (ArgSl.row 1 rfl) ?_ ?_ rfl ?_)<;>first|omega|(simp;omega)|with_reducible refine isP ?_|conv=>whnf)|((first|(with_reducible refine az1 ?_);refine az9 _ _ (r0) _ aza rfl rfl rfl (ArgSl.row 1 rfl) ?_ ?_ rfl rfl ?_|refine aqd _ _ (r0) _ aza rfl rfl rfl (ArgSl.row 1 rfl) ?_ ?_ rfl rfl ?_)<;>first|omega|with_reducible refine isP ?_|conv=>whnf)|((refine azf aza rfl (ArgSl.row 1 rfl) rfl ?_ ?_ ?_)<;>first|rfl|omega|with_reducible refine isP ?_|conv=>whnf)|(refine aj3 (m:=k) aza rfl rfl (fun σ fp w hm=>Nat.le_trans (by omega) (avu 1 rfl σ fp w hm)) ?_;conv=>whnf)|(refine ajs (m:=k) aza rfl rfl (aw0 1 rfl) (by omega) ?_;conv=>whnf))|((with_reducible refine isO ?_);first|((refine azz 3 aza rfl rfl rfl rfl (fun σ fp w hm=>(ArgSl.row 1 rfl σ fp w hm).take (m:=k) (by omega)) (by decide) ?_ ?_ ?_)<;>first|omega|(dsimp only;omega)|(intro A1 c1;conv=>whnf))|((refine azz 3 aza rfl rfl rfl rfl (ArgSl.row 4 rfl) (by decide) ?_ ?_ ?_)<;>first|omega|(dsimp only;omega)|(intro A2 c2;conv=>whnf))|((refine azz 3 aza rfl rfl rfl rfl (fun σ fp w hm=>(ArgSl.row 1 rfl σ fp w hm).drop (m:=k) (by omega) (avu 1 rfl σ fp w hm)) (by decide) ?_ ?_ ?_)<;>first|omega|(dsimp only;omega)|(intro A3 c3;conv=>whnf))|(refine bxb 1 3 (by decide) ?_;refine bw8 0 aza rfl rfl rfl rfl ?_;(conv=>whnf);refine ⟨_,_,_,_,_,_,rfl,rfl,?_⟩;conv=>whnf)|((first|(refine azh aza rfl rfl rfl ?_);intro bN|(refine azm aza rfl rfl rfl rfl rfl ?_);intro bN);conv=>whnf))|((with_reducible refine isW ?_;first|refine azg (by omega) (by omega) ?_|refine azc ?_);conv=>whnf)|((first|refine azj aza azt ?_|refine azi (by kernel_rfl) ?_|with_reducible refine azo ?_ ?_)<;>conv=>whnf)|with_reducible exact rfl|((with_reducible refine aze (by assumption) ?_);conv=>whnf)|((with_reducible refine azd ?_ ?_)<;>(intro hb;(try simp (disch:=omega) only [hbS] at hb)<;>conv=>whnf)))
     all_goals try (exfalso;omega)
     all_goals have hn : 0 + k + 1 + (L.length - k)=Z.length:=by rw [hatk];simp;try omega
     all_goals exact azv (A3,c3) [0,1] ⟨rfl,by simp [SV.wf,SV.wfs]⟩ ⟨fun _ _ h=>by rw [← hn];exact h,⟨rfl,rfl,rfl,hn,rfl,by rw [hatk];simp only [List.nil_append,List.map_append,List.map_cons,List.map_take,List.map_drop,List.append_assoc,List.cons_append];rfl⟩,trivial⟩ (by decide) rfl
  ·obtain rfl : k=L.length:=by omega
   have hatk:=hatk fun h=>absurd h hlt
   rw [if_neg (fun h=>hlt h.1)] at hatk
   (conv=>whnf);repeat' (first|((with_reducible refine isV ?_);first|(refine axg 0 aza rfl rfl rfl rfl ?_;conv=>whnf)|((first|(with_reducible refine az1 ?_);refine az4 _ _ (r0) _ aza rfl rfl rfl (ArgSl.row 1 rfl) ?_ ?_ rfl ?_|refine az8 _ _ (r0) _ aza rfl rfl rfl (ArgSl.row 1 rfl) ?_ ?_ rfl ?_)<;>first|omega|(simp;omega)|with_reducible refine isP ?_|conv=>whnf)|((first|(with_reducible refine az1 ?_);refine az9 _ _ (r0) _ aza rfl rfl rfl (ArgSl.row 1 rfl) ?_ ?_ rfl rfl ?_|refine aqd _ _ (r0) _ aza rfl rfl rfl (ArgSl.row 1 rfl) ?_ ?_ rfl rfl ?_)<;>first|omega|with_reducible refine isP ?_|conv=>whnf)|((refine azf aza rfl (ArgSl.row 1 rfl) rfl ?_ ?_ ?_)<;>first|rfl|omega|with_reducible refine isP ?_|conv=>whnf)|(refine aj3 (m:=L.length) aza rfl rfl (fun σ fp w hm=>Nat.le_trans (by omega) (avu 1 rfl σ fp w hm)) ?_;conv=>whnf)|(refine ajs (m:=L.length) aza rfl rfl (aw0 1 rfl) (by omega) ?_;conv=>whnf))|((with_reducible refine isO ?_);first|((refine azz 3 aza rfl rfl rfl rfl (fun σ fp w hm=>(ArgSl.row 1 rfl σ fp w hm).take (m:=L.length) (by omega)) (by decide) ?_ ?_ ?_)<;>first|omega|(dsimp only;omega)|(intro A1 c1;conv=>whnf))|((refine azz 3 aza rfl rfl rfl rfl (ArgSl.row 4 rfl) (by decide) ?_ ?_ ?_)<;>first|omega|(dsimp only;omega)|(intro A2 c2;conv=>whnf))|((refine azz 3 aza rfl rfl rfl rfl (fun σ fp w hm=>(ArgSl.row 1 rfl σ fp w hm).drop (m:=L.length) (by omega) (avu 1 rfl σ fp w hm)) (by decide) ?_ ?_ ?_)<;>first|omega|(dsimp only;omega)|(intro A3 c3;conv=>whnf))|(refine bxb 1 3 (by decide) ?_;refine bw8 0 aza rfl rfl rfl rfl ?_;(conv=>whnf);refine ⟨_,_,_,_,_,_,rfl,rfl,?_⟩;conv=>whnf)|((first|(refine azh aza rfl rfl rfl ?_);intro bN|(refine azm aza rfl rfl rfl rfl rfl ?_);intro bN);conv=>whnf))|((with_reducible refine isW ?_;first|refine azg (by omega) (by omega) ?_|refine azc ?_);conv=>whnf)|((first|refine azj aza azt ?_|refine azi (by kernel_rfl) ?_|with_reducible refine azo ?_ ?_)<;>conv=>whnf)|with_reducible exact rfl|((with_reducible refine aze (by assumption) ?_);conv=>whnf)|((with_reducible refine azd ?_ ?_)<;>(intro hb;(try simp (disch:=omega) only [hbS] at hb)<;>conv=>whnf)))
   all_goals try (exfalso;omega)
   all_goals have hn : 0 + L.length + 1 + (L.length - L.length)=Z.length:=by rw [hatk];simp;try omega
   all_goals exact azv (A3,c3) [0,1] ⟨rfl,by simp [SV.wf,SV.wfs]⟩ ⟨fun _ _ h=>by rw [← hn];exact h,⟨rfl,rfl,rfl,hn,rfl,by rw [hatk];simp only [List.nil_append,List.map_append,List.map_cons,List.map_take,List.map_drop,List.append_assoc,List.cons_append];rfl⟩,trivial⟩ (by decide) rfl
theorem rTake_m (b : Nat) (own : Int) (A : Option Addr) (n cA : Nat) (P : Option Addr) (d : Nat) (L : List RelT) (hL : L.length ≤ 64) (x : RelT) (hx : aq1 x = true) :
 CallM Tryz.prog 89 [pR b,relX x] (fun _ _=>True) [rsO b own A n cA P L.length d,.row 39 5 P L.length d (L.map encR)]
  (fun _ : Option Addr × Nat=>.t []) (fun z=>[rsO b own A n cA z.1 (insR (aqs x) L).length z.2,.row 39 5 z.1 (insR (aqs x) L).length z.2 ((insR (aqs x) L).map encR)]):=by
 obtain ⟨a1,a2,q,p,r⟩:=x
 by_cases hc : a2 < a1
 ·exact rTake_gt b own A n cA P d L hL a1 a2 q p r hx hc
 ·exact rTake_le b own A n cA P d L hL a1 a2 q p r hx hc
end Go.Proofs.YtlnplelandimeaaGreat.En
end
