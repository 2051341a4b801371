import Derived.Test.YtlnplelandimeaaGreatZFleetViews38
import Derived.Test.YtlnplelandimeaaGreatZFleetViews14
import Derived.Test.YtlnplelandimeaaGreatZFleetViews22
set_option linter.all false
section
namespace Go.Proofs.YtlnplelandimeaaGreat.En
open Go.RowKit
set_option maxRecDepth 100000
theorem bvn (L : List RelT) : ∀ r ∈ ajm L, Go.Proofs.YtlnplelandimeaaGreat.RelOk r := (Go.Proofs.YtlnplelandimeaaGreat.addAll_acc L .nil).ok
set_option maxHeartbeats 8000000 in
theorem dzq (c : RcT) (D : RdT) (S : SnT) : CallM Tryz.prog 24 [pR c.b] (fun _ _ => True) [rsB c D S, rsQ c, raO c.p D.R allT, rsR D S]
 (fun q : Option Addr × Nat=>.a [.v (.slice q.1 (ax1 S).length q.2)]) (fun q=>[rsB c D S,rsQ c,raO c.p D.R allT,rsR D S,.row 39 5 q.1 (ax1 S).length q.2 ((ax1 S).map encR)]):=by
 have hl:=axu S 64
 have e1 : aqt S 64=aqj S:=rfl
 have e2 : ax1 S=ajm (aqj S):=rfl
 rw [e1] at hl
 rw [e2]
 clear e1 e2
 unfold rsB rsR
 generalize aqj S=L at *
 have hfl:=ave L
 refine CallM.of (m:=4) Tryz.func24 rfl aza rfl rfl rfl rfl (by simp [SV.wfs,SV.wf]) fun w M π _=>?_
 (conv=>whnf);repeat' (first|((with_reducible refine isW ?_;first|refine azg (by omega) (by omega) ?_|refine azc ?_);conv=>whnf)|((first|refine azj aza azt ?_|refine azi (by kernel_rfl) ?_|with_reducible refine azo ?_ ?_)<;>conv=>whnf)|with_reducible exact rfl|((with_reducible refine aze (by assumption) ?_);conv=>whnf)|((with_reducible refine azd ?_ ?_)<;>(intro hb;(try simp (disch:=omega) only [hbS] at hb)<;>conv=>whnf)))
 all_goals try (exfalso;omega)
 refine aql 39 5 ?_
 conv=>whnf
 refine azr aza (α:=(t : Nat) × (Option Addr × Nat) × {rs : List RelT // rs=ajm (L.take t)}) (fun s=>s.1≤L.length) (fun s=>[(0,pR c.b),(2,.p 4 0),(3,.p 5 0),(4,I s.1)])
  (fun s=>[rsO c.b S.me c.A 8 c.cA D.P L.length D.d,rsQ c,raO c.p D.R allT,.row 39 5 D.P L.length D.d (L.map encR),.box 59 [.v (.slice none 0 0)],.box 59 [.v (.slice s.2.1.1 s.2.2.1.length s.2.1.2)],.row 39 5 s.2.1.1 s.2.2.1.length s.2.1.2 (s.2.2.1.map encR)]) (fun s=>L.length - s.1) ⟨0,(none,0),[],rfl⟩ [0,1,2,3,4,5,6] (Nat.zero_le _) ?_ ?_
 ·(refine ⟨?_,?_,?_,?_⟩<;>(repeat' ((conv=>whnf);apply And.intro))<;>try (first|exact trivial|decide))
  all_goals first|rfl|exact fun _ _ h=>h|(simp [SV.wf,SV.wfs];done)|trace_state
 ·rintro ⟨t,⟨A,cc⟩,rs,hrs⟩ ht
  dsimp only at ht hrs ⊢
  by_cases hlt : t < L.length
  ·have hnx : (Go.Proofs.YtlnplelandimeaaGreat.addF rs (L.getD t r0)).2=ajm (L.take (t + 1)):=by rw [avt hlt,hrs]
   have hle : rs.length≤99:=by
    have:=hfl t (by omega)
    rw [hrs]
    omega
   have hok : ∀ r∈rs,Go.Proofs.YtlnplelandimeaaGreat.RelOk r:=by rw [hrs];exact bvn _
   generalize hx : L.getD t r0=x at *
   obtain ⟨a,a2,q,xx,yy⟩:=x
   have ka:=rAdd_x A cc rs a a2 q xx yy hok (by omega)
   (conv=>whnf);repeat' (first|((with_reducible refine isC ?_);first|(((with_reducible refine isF 65 ?_);(refine azl ka [] rfl trivial (by decide) (ArgN.row 6 rfl (m:=0) (fun j hj=>by omega)) ?_;intro z;rcases z with ⟨_|⟨A2,c2⟩,hq⟩));conv=>whnf))|((with_reducible refine isV ?_);first|(refine axg 0 aza rfl rfl rfl rfl ?_;conv=>whnf)|((first|refine azf aza rfl (ArgSl.row 3 rfl) rfl ?_ ?_ ?_|(with_reducible refine azq ?_);refine azw _ _ (r0) aza rfl rfl rfl rfl (ArgSl.row 3 rfl) ?_ ?_ ?_|refine azy _ _ (r0) aza rfl rfl rfl rfl (ArgSl.row 3 rfl) ?_ ?_ ?_)<;>first|rfl|omega|with_reducible refine isP ?_|conv=>whnf))|((with_reducible refine isW ?_;first|refine azg (by omega) (by omega) ?_|refine azc ?_);conv=>whnf)|(rw [hx];conv=>whnf)|((first|refine azj aza azt ?_|refine azi (by kernel_rfl) ?_|with_reducible refine azo ?_ ?_)<;>conv=>whnf)|with_reducible exact rfl|((with_reducible refine aze (by assumption) ?_);conv=>whnf)|((with_reducible refine azd ?_ ?_)<;>(intro hb;(try simp (disch:=omega) only [hbS] at hb)<;>conv=>whnf)))
   all_goals try (exfalso;omega)
   all_goals try (rw [hx];done)
   ·have hq' : (Go.Proofs.YtlnplelandimeaaGreat.addF rs (a,a2,q,xx,yy)).2=rs:=hq
    refine ⟨⟨t + 1,(A,cc),rs,by rw [← hnx,hq']⟩,[0,1,2,3,4,5,6],by (try dsimp only);omega,?_,by (try dsimp only);omega⟩
    (refine ⟨?_,?_,?_,?_⟩<;>(repeat' ((conv=>whnf);apply And.intro))<;>try (first|exact trivial|decide))
    all_goals first|rfl|exact fun _ _ h=>h|(simp [SV.wf,SV.wfs];done)|trace_state
   ·(conv=>whnf);repeat' (first|((with_reducible refine isV ?_);first|(refine axg 0 aza rfl rfl rfl rfl ?_;conv=>whnf)|((first|refine azf aza rfl (ArgSl.row 3 rfl) rfl ?_ ?_ ?_|(with_reducible refine azq ?_);refine azw _ _ (r0) aza rfl rfl rfl rfl (ArgSl.row 3 rfl) ?_ ?_ ?_|refine azy _ _ (r0) aza rfl rfl rfl rfl (ArgSl.row 3 rfl) ?_ ?_ ?_)<;>first|rfl|omega|with_reducible refine isP ?_|conv=>whnf))|((with_reducible refine isW ?_;first|refine azg (by omega) (by omega) ?_|refine azc ?_);conv=>whnf)|(rw [hx];conv=>whnf)|((first|refine azj aza azt ?_|refine azi (by kernel_rfl) ?_|with_reducible refine azo ?_ ?_)<;>conv=>whnf)|with_reducible exact rfl|((with_reducible refine aze (by assumption) ?_);conv=>whnf)|((with_reducible refine azd ?_ ?_)<;>(intro hb;(try simp (disch:=omega) only [hbS] at hb)<;>conv=>whnf)))
    all_goals try (exfalso;omega)
    all_goals try (rw [hx];done)
    refine ⟨⟨t + 1,(A2,c2),_,hnx⟩,[0,1,2,3,4,5,7],by (try dsimp only);omega,?_,by (try dsimp only);omega⟩
    (refine ⟨?_,?_,?_,?_⟩<;>(repeat' ((conv=>whnf);apply And.intro))<;>try (first|exact trivial|decide))
    all_goals first|rfl|exact fun _ _ h=>h|(simp [SV.wf,SV.wfs];done)|trace_state
  ·obtain rfl : t=L.length:=by omega
   rw [List.take_length] at hrs
   subst hrs
   (conv=>whnf);repeat' (first|((with_reducible refine isV ?_);first|(refine axg 0 aza rfl rfl rfl rfl ?_;conv=>whnf))|((with_reducible refine isW ?_;first|refine azg (by omega) (by omega) ?_|refine azc ?_);conv=>whnf)|((first|refine azj aza azt ?_|refine azi (by kernel_rfl) ?_|with_reducible refine azo ?_ ?_)<;>conv=>whnf)|with_reducible exact rfl|((with_reducible refine aze (by assumption) ?_);conv=>whnf)|((with_reducible refine azd ?_ ?_)<;>(intro hb;(try simp (disch:=omega) only [hbS] at hb)<;>conv=>whnf)))
   all_goals try (exfalso;omega)
   exact azv (A,cc) [0,1,2,3,6] ⟨rfl,by simp [SV.wf,SV.wfs]⟩ ⟨fun _ _ h=>h,⟨rfl,rfl,rfl,rfl,rfl,rfl⟩,fun _ _ h=>h,⟨rfl,rfl,rfl,rfl,rfl,rfl⟩,⟨rfl,rfl,rfl,rfl,rfl,rfl⟩,trivial⟩ (by decide) rfl
end Go.Proofs.YtlnplelandimeaaGreat.En
namespace Go.Proofs.YtlnplelandimeaaGreat.En
open Go.RowKit Go.Sort
set_option maxRecDepth 100000
def akg (ys : List EntT) (j : Nat) (x : EntT) : List EntT := ys.take j ++ x :: ys.drop j
theorem insAt_len {ys : List EntT} {j : Nat} {x : EntT} (hj : j ≤ ys.length) : (akg ys j x).length = ys.length + 1 := by
 simp [akg]
 omega
theorem czb {ys : List EntT} {j : Nat} {x : EntT} (hj : j ≤ ys.length) : (akg ys j x).getD j e0 = x := by
 simp [akg,List.getElem?_append_right,Nat.min_eq_left hj]
theorem bj3 {ys : List EntT} {j : Nat} {x : EntT} (h1 : 1 ≤ j) (hj : j ≤ ys.length) : (akg ys j x).getD (j - 1) e0 = ys.getD (j - 1) e0 := by
 simp only [akg,List.getD_eq_getElem?_getD]
 rw [List.getElem?_append_left (by simp;omega),List.getElem?_take_of_lt (by omega)]
theorem insAt_all (ys : List EntT) (x : EntT) : akg ys ys.length x = ys ++ [x] := by simp [akg]
theorem dzr {ys : List EntT} {j : Nat} {x : EntT} (h1 : 1 ≤ j) (hj : j ≤ ys.length) : ((akg ys j x).set j (ys.getD (j - 1) e0)).set (j - 1) x = akg ys (j - 1) x := by
 apply List.ext_getElem?
 intro i
 simp only [List.getElem?_set,akg,List.length_set,List.length_append,List.length_take,List.length_cons,List.length_drop,List.getElem?_append,List.getElem?_take,List.getElem?_cons,List.getElem?_drop,List.getD_eq_getElem?_getD]
 by_cases e1 : i=j - 1
 ·subst e1
  simp [Nat.min_eq_left hj,show min (j - 1) ys.length=j - 1 by omega]
  omega
 ·by_cases e2 : i=j
  ·subst e2
   have h3 : min (i - 1) ys.length=i - 1:=by omega
   have h4 : i - (i - 1)=1:=by omega
   simp [h3,h4,show ¬ i - 1=i by omega,show ¬ i < i - 1 by omega,show i - 1 < ys.length by omega]
   omega
  ·by_cases e3 : i < j - 1
   ·have h5 : min j ys.length=j:=by omega
    have h6 : min (j - 1) ys.length=j - 1:=by omega
    simp [h5,h6,show ¬ j - 1=i by omega,show ¬ j=i by omega,show i < j by omega,show i < ys.length by omega,e3]
   ·have h5 : min j ys.length=j:=by omega
    have h6 : min (j - 1) ys.length=j - 1:=by omega
    simp only [h5,h6,show ¬ j - 1=i by omega,show ¬ j=i by omega,show ¬ i < j by omega,e3,if_false,show ¬ i - j=0 by omega,show ¬ i - (j - 1)=0 by omega]
    congr 1
    omega
theorem dzs (ys : List EntT) (j : Nat) (x : EntT) : (akg ys j x).Perm (ys ++ [x]) := by
 have h1 : (akg ys j x).Perm (x :: (ys.take j ++ ys.drop j)):=List.perm_middle
 rw [List.take_append_drop] at h1
 exact h1.trans (List.perm_append_singleton x ys).symm
def wk (l : List EntT) : Prop := l.Pairwise fun a b => befB b.cell a.cell = false
theorem befB_asym {a b : azx} (h : befB a b = true) : befB b a = false := by
 rw [aw6] at h
 rw [ajf]
 omega
theorem befB_le {a b c : azx} (h1 : befB b a = false) (h2 : befB c b = false) : befB c a = false := by
 rw [ajf] at *
 omega
theorem cv8 {ys : List EntT} {j : Nat} {x : EntT} (hj : j ≤ ys.length) (hw : wk ys) (hd : ∀ y ∈ ys.drop j, befB x.cell y.cell = true) (hp : j ≠ 0 → befB x.cell (ys.getD (j - 1) e0).cell = false) : wk (akg ys j x) := by
 unfold wk akg at *
 rw [← List.take_append_drop j ys] at hw
 rw [List.pairwise_append] at hw ⊢
 obtain ⟨w1,w2,w3⟩:=hw
 refine ⟨w1,?_,?_⟩
 ·rw [List.pairwise_cons]
  exact ⟨fun y hy=>befB_asym (hd y hy),w2⟩
 ·intro a ha b hb
  rcases List.mem_cons.1 hb with rfl|hb
  ·obtain ⟨i,hi,rfl⟩:=List.getElem_of_mem ha
   have hi' : i < j:=by
    simp at hi
    omega
   have h0:=hp (by omega)
   by_cases e : i=j - 1
   ·subst e
    simpa [hj,show j - 1 < ys.length by omega] using h0
   ·have h4:=(List.pairwise_iff_getElem.1 w1) i (j - 1) hi (by simp;omega) (by omega)
    have h5 : befB b.cell ((ys.take j)[j - 1]'(by simp;omega)).cell=false:=by simpa [show j - 1 < ys.length by omega] using h0
    exact befB_le h4 h5
  ·exact w3 a ha b hb
theorem wk_get {ys : List EntT} (h : wk ys) : ∀ i k, i < k → k < ys.length → befB (ys.getD k e0).cell (ys.getD i e0).cell = false := by
 intro i k h1 h2
 have:=(List.pairwise_iff_getElem.1 h) i k (by omega) h2 h1
 simpa [h2,show i < ys.length by omega] using this
set_option maxHeartbeats 2000000 in
theorem dzt (f : FrT) (A : Option Addr) (c : Nat) (l : List EntT) {n : Nat} (hl : l.length = n) (hn : n ≤ 1000000000) :
 CallM Tryz.prog 23 [.a [I f.1,I f.2.1,I f.2.2],.v (.slice A n c)] (fun w M=>ArgN w M A n 4 (l.map encE)) []
  (fun (p : OutT f l)=>.t [.v (.slice p.1.1 p.1.2.2.length p.1.2.1),I (aju f l)]) (fun p=>[.row 89 4 p.1.1 p.1.2.2.length p.1.2.1 (p.1.2.2.map encE)]):=by
 refine CallM.of (m:=0) Tryz.func23 rfl aza rfl rfl rfl rfl (by simp [SV.wfs,SV.wf]) fun w M π hpre=>?_
 (conv=>whnf);repeat' (first|((with_reducible refine isC ?_);first|((with_reducible refine azb (bwb _ _ _) ?_)<;>first|omega|with_reducible refine isP ?_|conv=>whnf)|(refine az2 (rVE_w A c l hl (by unfold maxLen;omega)) (ArgN.mem hpre (by decide)) ?_;conv=>whnf))|((with_reducible refine isO ?_);first|((first|(refine azh aza rfl rfl rfl ?_);intro bN|(refine azm aza rfl rfl rfl rfl rfl ?_);intro bN);conv=>whnf))|((with_reducible refine isW ?_;first|refine azg (by omega) (by omega) ?_|refine azc ?_);conv=>whnf)|((first|refine azj aza azt ?_|refine azi (by kernel_rfl) ?_|with_reducible refine azo ?_ ?_)<;>conv=>whnf)|with_reducible exact rfl|((with_reducible refine aze (by assumption) ?_);conv=>whnf)|((with_reducible refine azd ?_ ?_)<;>(intro hb;(try simp (disch:=omega) only [hbS] at hb)<;>conv=>whnf)))
 ·refine az3 89 4 ?_
  have h1 : aju f l=1:=by simp only [aju,okF,hb,Bool.false_and,Bool.false_eq_true,if_false]
  exact azv ⟨(none,0,[]),akw (by omega)⟩ [1] ⟨congrArg (fun i=>SV.t [.v (.slice none 0 0),I i]) h1.symm,by simp [SV.wf,SV.wfs]⟩ ⟨⟨rfl,rfl,rfl,rfl,rfl,rfl⟩,trivial⟩ (by decide) rfl
 ·refine az3 89 4 ?_
  have h1 : aju f l=1:=by simp only [aju,okF,hb,Bool.and_false,Bool.false_eq_true,if_false]
  exact azv ⟨(none,0,[]),akw (by omega)⟩ [1] ⟨congrArg (fun i=>SV.t [.v (.slice none 0 0),I i]) h1.symm,by simp [SV.wf,SV.wfs]⟩ ⟨⟨rfl,rfl,rfl,rfl,rfl,rfl⟩,trivial⟩ (by decide) rfl
 rename_i hb1
 have hok : okF f l=true:=by simp only [okF,hb,hb1.1,hb1.2,Bool.and_self]
 have hlen : l.length≤1048576:=by
  by_cases h : l.length≤1048576
  ·exact h
  ·rw [bv9 h] at hb
   cases hb
 have h2 : aju f l=orI (bzc f l):=by simp only [aju,hok,if_true]
 have hel : (bzc f l).length=n:=by simp [bzc,hl]
 have hml : (l.map (imgE f)).length=n:=by simp [hl]
 refine aql 89 4 ?_
 conv=>whnf
 refine azr aza (α:=Nat × Option Addr × Nat × List EntT) (fun p=>p.1≤n∧p.2.2.2.length=p.1∧p.2.2.2.Perm ((l.map (imgE f)).take p.1)∧wk p.2.2.2∧∀ i,i < p.1→(bzc f l).getD i 0=0) (fun p=>[(7,I p.1),(1,.v (.slice A n c)),(2,.p 0 0),(6,.v (.slice p.2.1 p.1 p.2.2.1))]) (fun p=>[.box 37 [I f.1,I f.2.1,I f.2.2],.row 89 4 p.2.1 p.1 p.2.2.1 (p.2.2.2.map encE)]) (fun p=>n - p.1) (0,none,0,[]) [0,1] ⟨by (try dsimp only);omega,rfl,.refl _,.nil,fun i hi=>by (try dsimp only at hi);omega⟩ ?_ ?_
 ·try dsimp only
  (refine ⟨?_,?_,?_,?_⟩<;>(repeat' ((conv=>whnf);apply And.intro))<;>try (first|exact trivial|decide))
  all_goals first|rfl|exact fun _ _ h=>h|simp [SV.wf,SV.wfs]
 ·rintro ⟨k,A',c',ys⟩ hk
  try dsimp only at hk ⊢
  obtain ⟨hkn,hyl,hyp,hyw,hz⟩:=hk
  by_cases hlt : k < n
  ·have hat : (bzc f l).getD k 0=(ajt f (l.getD k e0).cell).2:=by
    simp [bzc,hl,hlt]
   (conv=>whnf);repeat' (first|((with_reducible refine isC ?_);first|((with_reducible refine azb (rCell_x f (_,_)) ?_)<;>first|omega|with_reducible refine isP ?_|conv=>whnf))|((with_reducible refine isV ?_);first|((first|refine azf aza rfl (ArgN.mem hpre (by decide)) rfl ?_ ?_ ?_|(with_reducible refine azq ?_);refine azw _ _ (e0) aza rfl rfl rfl rfl (ArgN.mem hpre (by decide)) ?_ ?_ ?_|refine azy _ _ (e0) aza rfl rfl rfl rfl (ArgN.mem hpre (by decide)) ?_ ?_ ?_)<;>first|rfl|omega|with_reducible refine isP ?_|conv=>whnf)|((first|(with_reducible refine az1 ?_);refine az9 _ _ (e0) _ aza rfl rfl rfl (ArgN.mem hpre (by decide)) ?_ ?_ rfl rfl ?_|refine aqd _ _ (e0) _ aza rfl rfl rfl (ArgN.mem hpre (by decide)) ?_ ?_ rfl rfl ?_)<;>first|omega|with_reducible refine isP ?_|conv=>whnf)|((first|(with_reducible refine az1 ?_);refine az4 _ _ (e0) _ aza rfl rfl rfl (ArgN.mem hpre (by decide)) ?_ ?_ rfl ?_|refine az8 _ _ (e0) _ aza rfl rfl rfl (ArgN.mem hpre (by decide)) ?_ ?_ rfl ?_)<;>first|omega|(simp;omega)|with_reducible refine isP ?_|conv=>whnf))|((with_reducible refine isO ?_);first|((refine azz 1 aza rfl rfl rfl rfl (ArgSl.row 4 rfl) (by decide) ?_ ?_ ?_)<;>first|omega|(dsimp only;omega)|(intro A' c';conv=>whnf))|((first|(refine azh aza rfl rfl rfl ?_);intro bN|(refine azm aza rfl rfl rfl rfl rfl ?_);intro bN);conv=>whnf))|((with_reducible refine isW ?_;first|refine azg (by omega) (by omega) ?_|refine azc ?_);conv=>whnf)|((first|refine azj aza azt ?_|refine azi (by kernel_rfl) ?_|with_reducible refine azo ?_ ?_)<;>conv=>whnf)|with_reducible exact rfl|((with_reducible refine aze (by assumption) ?_);conv=>whnf)|((with_reducible refine azd ?_ ?_)<;>(intro hb;(try simp (disch:=omega) only [hbS] at hb)<;>conv=>whnf)))
   ·refine az3 89 4 ?_
    have h1 : aju f l=(ajt f (l.getD k e0).cell).2:=by rw [h2,ck6 (by omega) hz (by rw [hat];exact hb),hat]
    have h3 : aju f l ≠ 0:=by rw [h1];exact hb
    exact azv ⟨(none,0,[]),akw h3⟩ [3] ⟨congrArg (fun i=>SV.t [.v (.slice none 0 0),I i]) h1.symm,by simp [SV.wf,SV.wfs]⟩ ⟨⟨rfl,rfl,rfl,rfl,rfl,rfl⟩,trivial⟩ (by decide) rfl
   ·have hz' : ∀ i,i < k + 1→(bzc f l).getD i 0=0:=by
     intro i hi
     by_cases e : i=k
     ·rw [e,hat]
      exact hb
     ·exact hz i (by omega)
    have ht : (l.map (imgE f)).take (k + 1)=(l.map (imgE f)).take k ++ [imgE f (l.getD k e0)]:=by
     rw [List.take_succ_eq_append_getElem (by omega)]
     simp [hl,hlt]
    obtain ⟨x,hx⟩ : ∃ x,x=imgE f (l.getD k e0):=⟨_,rfl⟩
    have hin : akg ys k x=ys ++ [imgE f (l.getD k e0)]:=by
     rw [← hx]
     subst hyl
     exact insAt_all ys x
    refine azr aza (α:=Nat) (fun j=>j≤k∧∀ y∈ys.drop j,befB x.cell y.cell=true) (fun j=>[(11,I j),(7,I k),(1,.v (.slice A n c)),(2,.p 0 0),(6,.v (.slice A' (k + 1) c'))]) (fun j=>[.box 37 [I f.1,I f.2.1,I f.2.2],.row 89 4 A' (k + 1) c' ((akg ys j x).map encE)]) (fun j=>j) k [0,1] ⟨by omega,fun y hy=>by rw [← hyl] at hy;simp at hy⟩ ?_ ?_
    ·try dsimp only
     rw [hin,List.map_append]
     (refine ⟨?_,?_,?_,?_⟩<;>(repeat' ((conv=>whnf);apply And.intro))<;>try (first|exact trivial|decide))
     all_goals first|rfl|exact fun _ _ h=>h|exact congrArg (fun i=>SV.v (Value.int .i64 i)) (show ((k + 1 : Nat) : Int) - 1=k by omega)|(simp [SV.wf,SV.wfs];done)|trace_state
    ·intro j hj
     try dsimp only at hj ⊢
     obtain ⟨hjk,hd⟩:=hj
     have hyp2 : (akg ys j x).Perm ((l.map (imgE f)).take (k + 1)):=by
      rw [ht,← hx]
      exact (dzs ys j x).trans (hyp.append_right [x])
     clear hb hx hin ht hat hz
     have hjy : j≤ys.length:=by omega
     have hil : (akg ys j x).length=k + 1:=by rw [insAt_len (by omega),hyl]
     (conv=>whnf);repeat' (first|((with_reducible refine isC ?_);first|((with_reducible refine azb (bq0 (_,_) (_,_)) ?_)<;>first|omega|with_reducible refine isP ?_|conv=>whnf))|((with_reducible refine isV ?_);first|((first|(with_reducible refine az1 ?_);refine az9 _ _ (e0) _ aza rfl rfl rfl (ArgSl.row 1 rfl) ?_ ?_ rfl rfl ?_|refine aqd _ _ (e0) _ aza rfl rfl rfl (ArgSl.row 1 rfl) ?_ ?_ rfl rfl ?_)<;>first|omega|with_reducible refine isP ?_|conv=>whnf)|((first|refine azf aza rfl (ArgSl.row 1 rfl) rfl ?_ ?_ ?_|(with_reducible refine azq ?_);refine azw _ _ (e0) aza rfl rfl rfl rfl (ArgSl.row 1 rfl) ?_ ?_ ?_|refine azy _ _ (e0) aza rfl rfl rfl rfl (ArgSl.row 1 rfl) ?_ ?_ ?_|refine azf aza rfl (ArgSl.row 1 rfl) rfl ?_ ?_ ?_)<;>first|rfl|omega|with_reducible refine isP ?_|conv=>whnf))|((with_reducible refine isO ?_);first|((refine aj6 1 aza rfl rfl rfl rfl rfl rfl ?_ ?_)<;>first|omega|with_reducible refine isP ?_|conv=>whnf)|((first|(refine azh aza rfl rfl rfl ?_);intro bN|(refine azm aza rfl rfl rfl rfl rfl ?_);intro bN);conv=>whnf))|((with_reducible refine isW ?_;first|refine azg (by omega) (by omega) ?_|refine azc ?_);conv=>whnf)|((first|refine azj aza azt ?_|refine azi (by kernel_rfl) ?_|with_reducible refine azo ?_ ?_)<;>conv=>whnf)|with_reducible exact rfl|((with_reducible refine aze (by assumption) ?_);conv=>whnf)|((with_reducible refine azd ?_ ?_)<;>(intro hb;(try simp (disch:=omega) only [hbS] at hb)<;>conv=>whnf)))
     all_goals try exact hil
     ·have hi : ((j : Int) - 1).toNat=j - 1:=by omega
      have h1j : 1≤j:=by omega
      rw [hi,czb hjy,bj3 h1j hjy] at hb
      have key : (((akg ys j x).map encE).set j (encE (ys.getD (j - 1) e0))).set (j - 1) (encE x)=(akg ys (j - 1) x).map encE:=by rw [← dzr h1j hjy,List.map_set,List.map_set]
      refine ⟨j - 1,[0,1],⟨by omega,fun y hy=>?_⟩,?_,by (try dsimp only);omega⟩
      ·rw [List.drop_eq_getElem_cons (show j - 1 < ys.length by omega),show j - 1 + 1=j by omega] at hy
       rcases List.mem_cons.1 hy with rfl|hy
       ·have e : ys.getD (j - 1) e0=ys[j - 1]:=by simp [show j - 1 < ys.length by omega]
        rw [e] at hb
        exact hb
       ·exact hd y hy
      ·try dsimp only
       rw [← key]
       try rw [hi]
       try rw [czb hjy]
       try rw [bj3 h1j hjy]
       (refine ⟨?_,?_,?_,?_⟩<;>(repeat' ((conv=>whnf);apply And.intro))<;>try (first|exact trivial|decide))
       all_goals first|rfl|exact fun _ _ h=>h|exact congrArg (fun i=>SV.v (Value.int .i64 i)) (show (j : Int) - 1=((j - 1 : Nat) : Int) by omega)|(simp [SV.wf,SV.wfs];done)|trace_state
     ·have hi : ((j : Int) - 1).toNat=j - 1:=by omega
      have h1j : 1≤j:=by omega
      rw [hi,czb hjy,bj3 h1j hjy] at hb
      refine ⟨(k + 1,A',c',akg ys j x),[0,1],⟨by (try dsimp only);omega,hil,hyp2,cv8 hjy hyw hd (fun _=>hb),hz'⟩,?_,by (try dsimp only);omega⟩
      try dsimp only
      (refine ⟨?_,?_,?_,?_⟩<;>(repeat' ((conv=>whnf);apply And.intro))<;>try (first|exact trivial|decide))
      all_goals first|rfl|exact fun _ _ h=>h|exact I_eq (wr (by omega) (by omega))|(simp [SV.wf,SV.wfs];done)|trace_state
     ·refine ⟨(k + 1,A',c',akg ys j x),[0,1],⟨by (try dsimp only);omega,hil,hyp2,cv8 hjy hyw hd (fun h0=>by omega),hz'⟩,?_,by (try dsimp only);omega⟩
      try dsimp only
      (refine ⟨?_,?_,?_,?_⟩<;>(repeat' ((conv=>whnf);apply And.intro))<;>try (first|exact trivial|decide))
      all_goals first|rfl|exact fun _ _ h=>h|exact I_eq (wr (by omega) (by omega))|(simp [SV.wf,SV.wfs];done)|trace_state
   ·exfalso
    omega
  ·obtain rfl : k=n:=by omega
   have hc0 : aju f l=0:=by
    rw [h2,av1 (k:=k) (by omega) hz,← hel]
    simp [orI]
   have htk : (l.map (imgE f)).take k=l.map (imgE f):=List.take_of_length_le (by omega)
   rw [htk] at hyp
   (conv=>whnf);repeat' (first|((with_reducible refine isO ?_);first|((first|(refine azh aza rfl rfl rfl ?_);intro bN|(refine azm aza rfl rfl rfl rfl rfl ?_);intro bN);conv=>whnf))|((with_reducible refine isW ?_;first|refine azg (by omega) (by omega) ?_|refine azc ?_);conv=>whnf)|((first|refine azj aza azt ?_|refine azi (by kernel_rfl) ?_|with_reducible refine azo ?_ ?_)<;>conv=>whnf)|with_reducible exact rfl|((with_reducible refine aze (by assumption) ?_);conv=>whnf)|((with_reducible refine azd ?_ ?_)<;>(intro hb;(try simp (disch:=omega) only [hbS] at hb)<;>conv=>whnf)))
   ·exfalso
    omega
   ·refine azv ⟨(A',c',ys),?_⟩ [1] ⟨?_,by simp [SV.wf,SV.wfs]⟩ ⟨⟨rfl,rfl,rfl,?_,rfl,rfl⟩,trivial⟩ (by decide) rfl
    ·unfold IsOut
     rw [if_pos hc0]
     exact ⟨hyp,ak3 hyp (wk_get hyw) (img_ne hc0)⟩
    ·show _=SV.t [.v (.slice A' ys.length c'),I (aju f l)]
     rw [hyl,hc0]
    ·first|exact hyl|exact hyl.symm
end Go.Proofs.YtlnplelandimeaaGreat.En
namespace Go.Proofs.YtlnplelandimeaaGreat.En
open Go.RowKit
def ajb (x e : EntT) : EntT := (e.1, e.2.1, x.2.2.1 + e.2.2.1, x.2.2.2 + e.2.2.2)
def putS (e : EntT) (s : List EntT × Bool × Bool) (x : EntT) : List EntT × Bool × Bool :=
 if s.2.1=false∧x.cell=e.cell then (if axb (ajb x e) then s.1 else s.1 ++ [ajb x e],true,aq0 (ajb x e))
 else if s.2.1=false∧befB e.cell x.cell=true then (s.1 ++ [e] ++ [x],true,s.2.2)
 else (s.1 ++ [x],s.2.1,s.2.2)
def putE (l : List EntT) (e : EntT) : List EntT × Bool :=
 let s:=l.foldl (putS e) ([],false,true)
 (if s.2.1 then s.1 else s.1 ++ [e],s.2.2)
def putR (e : EntT) : List EntT → List EntT × Bool
 | []=>([e],true)
 | x :: xs=>if x.cell=e.cell then (if axb (ajb x e) then xs else ajb x e :: xs,aq0 (ajb x e)) else if befB e.cell x.cell then (e :: x :: xs,true) else (x :: (putR e xs).1,(putR e xs).2)
theorem bj4 (e : EntT) (t : Bool) : ∀ (xs acc : List EntT), xs.foldl (putS e) (acc, true, t) = (acc ++ xs, true, t)
 | [],acc=>by simp
 | x :: xs,acc=>by
   rw [List.foldl_cons]
   have : putS e (acc,true,t) x=(acc ++ [x],true,t):=by simp [putS]
   rw [this,bj4 e t xs]
   simp
theorem putS_go (e : EntT) : ∀ (xs acc : List EntT), let s := xs.foldl (putS e) (acc, false, true); (if s.2.1 then s.1 else s.1 ++ [e]) = acc ++ (putR e xs).1 ∧ s.2.2 = (putR e xs).2
 | [],acc=>by simp [putR]
 | x :: xs,acc=>by
   dsimp only
   rw [List.foldl_cons]
   have hS : putS e (acc,false,true) x=if x.cell=e.cell then (if axb (ajb x e) then acc else acc ++ [ajb x e],true,aq0 (ajb x e)) else if befB e.cell x.cell=true then (acc ++ [e] ++ [x],true,true) else (acc ++ [x],false,true):=by
    unfold putS
    simp only [true_and]
   rw [hS]
   by_cases h1 : x.cell=e.cell
   ·rw [if_pos h1,bj4]
    simp only [putR,if_pos h1,if_true,and_true]
    by_cases h3 : axb (ajb x e)=true
    ·simp [h3]
    ·simp [h3]
   ·rw [if_neg h1]
    by_cases h2 : befB e.cell x.cell=true
    ·rw [if_pos h2,bj4]
     simp [putR,h1,h2]
    ·rw [if_neg h2]
     have ih:=putS_go e xs (acc ++ [x])
     dsimp only at ih
     rw [ih.1,ih.2]
     simp [putR,h1,h2]
theorem bj5 (l : List EntT) (e : EntT) : putE l e = putR e l := by
 obtain ⟨h1,h2⟩:=putS_go e l []
 unfold putE
 dsimp only at h1 h2 ⊢
 rw [h1,h2]
 simp
theorem rep_asc {l : List EntT} (ha : asc l) (hz : ∀ e ∈ l, axb e = false) : Rep (valT l) l :=
 ⟨ha,fun _=>⟨fun he=>⟨hz _ he,bji (avg ha) he⟩,fun ⟨h1,h2⟩=>cjy h1 h2⟩⟩
theorem akm {x : EntT} {l : List EntT} : asc (x :: l) ↔ (∀ y ∈ l, befB x.cell y.cell = true) ∧ asc l := by
 unfold asc
 rw [List.pairwise_cons]
theorem cv9 (e : EntT) : ∀ {l : List EntT} {y : EntT}, y ∈ (putR e l).1 → y.cell = e.cell ∨ y ∈ l
 | [],y,h=>by
   rw [putR,List.mem_singleton] at h
   subst h
   exact .inl rfl
 | x :: xs,y,h=>by
   rw [putR] at h
   split at h
   ·rename_i h1
    split at h
    ·exact .inr (List.mem_cons_of_mem _ h)
    ·rcases List.mem_cons.1 h with rfl|h
     ·exact .inl rfl
     ·exact .inr (List.mem_cons_of_mem _ h)
   ·split at h
    ·rcases List.mem_cons.1 h with rfl|h
     ·exact .inl rfl
     ·exact .inr h
    ·rcases List.mem_cons.1 h with rfl|h
     ·exact .inr (by simp)
     ·rcases cv9 e h with h|h
      ·exact .inl h
      ·exact .inr (List.mem_cons_of_mem _ h)
theorem bxc (e : EntT) : ∀ {l : List EntT}, asc l → asc (putR e l).1
 | [],_=>by simp [putR,asc]
 | x :: xs,h=>by
   have h0:=akm.1 h
   rw [putR]
   split
   ·rename_i h1
    dsimp only
    split
    ·exact h0.2
    ·exact akm.2 ⟨fun y hy=>by
      have:=h0.1 y hy
      rw [h1] at this
      exact this,h0.2⟩
   ·rename_i h1
    split
    ·rename_i h2
     refine akm.2 ⟨fun y hy=>?_,h⟩
     rcases List.mem_cons.1 hy with rfl|hy
     ·exact h2
     ·exact aku h2 (h0.1 y hy)
    ·rename_i h2
     refine akm.2 ⟨fun y hy=>?_,bxc e h0.2⟩
     rcases cv9 e hy with hy|hy
     ·rw [hy]
      cases h3 : befB x.cell e.cell with
      | true=>rfl
      | false=>exact (h1 (bz3 h3 (by simpa using h2))).elim
     ·exact h0.1 y hy
theorem czc (e : EntT) (c : azx) : ∀ {l : List EntT}, asc l → valT (putR e l).1 c = if c = e.cell then ((valT l c).1 + e.2.2.1, (valT l c).2 + e.2.2.2) else valT l c
 | [],_=>by
   rw [putR,axk (by simp [neT]),aq2 (L:=[]) (by simp)]
   by_cases h : c=e.cell
   ·rw [if_pos h.symm,if_pos h]
    simp
   ·rw [if_neg (fun h'=>h h'.symm),if_neg h]
 | x :: xs,h=>by
   have h0:=akm.1 h
   have hn:=avg h
   have hR:=bxc e h
   rw [putR] at hR ⊢
   split at hR
   ·rename_i h1
    rw [if_pos h1]
    dsimp only at hR ⊢
    have hx0 : ∀ c,c=e.cell→valT xs c=(0,0):=fun c hc=>aq2 fun y hy hyc=>by
     have:=h0.1 y hy
     rw [hyc,hc,h1,aj0] at this
     cases this
    rw [axk hn]
    by_cases hc : c=e.cell
    ·rw [if_pos hc,if_pos (h1.trans hc.symm)]
     split
     ·rename_i hz
      rw [hx0 c hc]
      have hz':=hz
      unfold axb ajb at hz'
      rw [Bool.and_eq_true] at hz'
      exact Prod.ext (of_decide_eq_true hz'.1).symm (of_decide_eq_true hz'.2).symm
     ·rename_i hz
      rw [if_neg hz] at hR
      rw [axk (avg hR),if_pos (show (ajb x e).cell=c from hc.symm)]
      rfl
    ·have hxc : ¬ x.cell=c:=fun h'=>hc (h'.symm.trans h1)
     rw [if_neg hc]
     split
     ·first|rfl|rw [if_neg hxc]
     ·rename_i hz
      rw [if_neg hz] at hR
      try rw [if_neg hxc]
      rw [axk (avg hR),if_neg (show ¬ (ajb x e).cell=c from fun h'=>hc h'.symm)]
   ·rename_i h1
    rw [if_neg h1]
    split at hR
    ·rename_i h2
     rw [if_pos h2]
     dsimp only at hR ⊢
     have hR0:=akm.1 hR
     rw [axk (avg hR)]
     by_cases hc : c=e.cell
     ·rw [if_pos hc.symm,if_pos hc,aq2 (L:=x :: xs) (fun y hy hyc=>by
       have:=hR0.1 y hy
       rw [hyc,hc,aj0] at this
       cases this)]
      simp
     ·rw [if_neg (fun h'=>hc h'.symm),if_neg hc]
    ·rename_i h2
     rw [if_neg h2]
     dsimp only at hR ⊢
     rw [axk (avg hR),axk hn,czc e c h0.2]
     by_cases hx : x.cell=c
     ·rw [if_pos hx,if_pos hx]
      rw [if_neg (fun h'=>h1 (hx.trans h'))]
     ·rw [if_neg hx,if_neg hx]
def okV (p : Int × Int) : Bool := szB p.1 1099511627776 && szB p.2 1099511627776
theorem cwa (e : EntT) (he : aq0 e = true) : ∀ {l : List EntT}, asc l → (putR e l).2 = okV ((valT l e.cell).1 + e.2.2.1, (valT l e.cell).2 + e.2.2.2)
 | [],_=>by
   rw [aq2 (L:=[]) (by simp)]
   simp only [putR,okV,Int.zero_add]
   exact he.symm
 | x :: xs,h=>by
   have h0:=akm.1 h
   rw [putR]
   split
   ·rename_i h1
    rw [axk (avg h),if_pos h1]
    rfl
   ·rename_i h1
    rw [axk (avg h),if_neg h1]
    split
    ·rename_i h2
     rw [aq2 (L:=xs) (fun y hy hyc=>by
      have:=aku h2 (h0.1 y hy)
      rw [hyc,aj0] at this
      cases this)]
     simp only [okV,Int.zero_add]
     exact he.symm
    ·exact cwa e he h0.2
theorem cwb {p : EntT → Prop} (e : EntT) (he : p e) (hp : ∀ x, p x → x.cell = e.cell → aq0 (ajb x e) = true → axb (ajb x e) = false → p (ajb x e)) : ∀ {l : List EntT}, (∀ x ∈ l, p x) → (putR e l).2 = true → ∀ y ∈ (putR e l).1, p y
 | [],_,_,y,hy=>by
   rw [putR,List.mem_singleton] at hy
   rw [hy]
   exact he
 | x :: xs,hl,hf,y,hy=>by
   rw [putR] at hf hy
   split at hf
   ·rename_i h1
    rw [if_pos h1] at hy
    dsimp only at hy hf
    split at hy
    ·exact hl y (List.mem_cons_of_mem _ hy)
    ·rename_i hz
     rcases List.mem_cons.1 hy with rfl|hy
     ·exact hp x (hl x (by simp)) h1 hf (by simpa using hz)
     ·exact hl y (List.mem_cons_of_mem _ hy)
   ·rename_i h1
    rw [if_neg h1] at hy
    split at hf
    ·rename_i h2
     rw [if_pos h2] at hy
     rcases List.mem_cons.1 hy with rfl|hy
     ·exact he
     ·exact hl y hy
    ·rename_i h2
     rw [if_neg h2] at hy
     rcases List.mem_cons.1 hy with rfl|hy
     ·exact hl y (by simp)
     ·exact cwb e he hp (fun z hz=>hl z (List.mem_cons_of_mem _ hz)) hf y hy
def mulE (f : Int) (x : EntT) : EntT := (x.1, x.2.1, f * x.2.2.1, f * x.2.2.2)
def sumG (f : Int) : List EntT → List EntT → List EntT × Int
 | out,[]=>if 1048576 < out.length then ([],6) else (out,0)
 | out,x :: b=>if (putE out (mulE f x)).2 then sumG f (putE out (mulE f x)).1 b else ([],2)
def cxv (f : Int) (a b : List EntT) : List EntT × Int := if vE a && vE b then sumG f a b else ([], 1)
theorem czd {f : Int} (hf : f = 1 ∨ f = -1) {x : EntT} (h : axo x = true) : axo (mulE f x) = true := by
 rcases hf with rfl|rfl
 ·have e : mulE 1 x=x:=by simp [mulE]
  rw [e]
  exact h
 ·have e : mulE (-1) x=(x.1,x.2.1,-x.2.2.1,-x.2.2.2):=by simp [mulE]
  rw [e]
  simp only [axo,aq0,szB,Bool.and_eq_true,decide_eq_true_eq,Bool.not_eq_true',Bool.and_eq_false_iff,decide_eq_false_iff_not] at h ⊢
  omega
theorem plus_good {e : EntT} (he : axo e = true) (x : EntT) (_ : axo x = true) (_ : x.cell = e.cell) (h1 : aq0 (ajb x e) = true) (h2 : axb (ajb x e) = false) : axo (ajb x e) = true := by
 simp only [axo,Bool.and_eq_true] at he ⊢
 refine ⟨⟨⟨h1,?_⟩,he.1.2⟩,he.2⟩
 rw [Bool.not_eq_true']
 exact h2
theorem good_zero {x : EntT} (h : axo x = true) : axb x = false := by
 simp only [axo,Bool.and_eq_true,Bool.not_eq_true'] at h
 exact h.1.1.2
theorem bqh {x : EntT} (h : axo x = true) : aq0 x = true := by
 simp only [axo,Bool.and_eq_true] at h
 exact h.1.1.1
theorem put_all {f : Int} (hf : f = 1 ∨ f = -1) {out : List EntT} {x : EntT} (ho : ∀ y ∈ out, axo y = true) (hx : axo x = true) (hk : (putE out (mulE f x)).2 = true) : ∀ y ∈ (putE out (mulE f x)).1, axo y = true := by
 rw [bj5] at hk ⊢
 exact cwb (p:=fun y=>axo y=true) _ (czd hf hx) (plus_good (czd hf hx)) ho hk
theorem cxw {f : Int} (hf : f = 1 ∨ f = -1) : ∀ (b out : List EntT), asc out → (∀ y ∈ out, axo y = true) → asc b → (∀ y ∈ b, axo y = true) →
 ((∀ e∈b,okV (sumV f out b e.cell)=true)→∃ L,Rep (sumV f out b) L∧sumG f out b=if 1048576 < L.length then ([],6) else (L,0))∧((∃ e∈b,okV (sumV f out b e.cell)=false)→sumG f out b=([],2))
 | [],out,ho,hg,_,_=>by
   refine ⟨fun _=>⟨out,?_,rfl⟩,fun ⟨e,he,_⟩=>by cases he⟩
   refine (rep_asc ho fun e he=>good_zero (hg e he)).congr fun c=>?_
   unfold sumV
   rw [aq2 (L:=[]) (by simp)]
   simp
 | x :: b,out,ho,hg,hb,hgb=>by
   have hb0:=akm.1 hb
   have hxg:=hgb x (by simp)
   have hmg:=czd hf hxg
   have hnb:=avg hb
   have hbx : ∀ y∈b,y.cell ≠ x.cell:=fun y hy hyc=>by
    have:=hb0.1 y hy
    rw [hyc,aj0] at this
    cases this
   have hx0 : valT b x.cell=(0,0):=aq2 hbx
   have hfit:=cwa (mulE f x) (bqh hmg) ho
   have hsx : sumV f out (x :: b) x.cell=((valT out (mulE f x).cell).1 + (mulE f x).2.2.1,(valT out (mulE f x).cell).2 + (mulE f x).2.2.2):=by
    unfold sumV
    rw [axk hnb,if_pos rfl]
    rfl
   rw [← hsx] at hfit
   have hstep : sumG f out (x :: b)=if (putE out (mulE f x)).2 then sumG f (putE out (mulE f x)).1 b else ([],2):=rfl
   have hval : ∀ c,sumV f (putR (mulE f x) out).1 b c=sumV f out (x :: b) c:=by
    intro c
    unfold sumV
    rw [czc _ _ ho,axk hnb]
    by_cases hc : c=x.cell
    ·rw [if_pos (show c=(mulE f x).cell from hc),if_pos hc.symm,hc,hx0]
     simp [mulE]
    ·rw [if_neg (show ¬ c=(mulE f x).cell from hc),if_neg (fun h=>hc h.symm)]
   rw [hstep,bj5]
   cases hk : okV (sumV f out (x :: b) x.cell) with
   | false =>
     rw [hk] at hfit
     rw [hfit]
     refine ⟨fun h=>?_,fun _=>rfl⟩
     rw [h x (by simp)] at hk
     cases hk
   | true =>
     rw [hk] at hfit
     rw [hfit,if_pos rfl]
     have hall:=put_all hf hg hxg (by rw [bj5];exact hfit)
     rw [bj5] at hall
     obtain ⟨i1,i2⟩:=cxw hf b (putR (mulE f x) out).1 (bxc _ ho) hall hb0.2 (fun y hy=>hgb y (List.mem_cons_of_mem _ hy))
     refine ⟨fun h=>?_,fun ⟨e,he,hne⟩=>?_⟩
     ·obtain ⟨L,hL,hr⟩:=i1 fun e he=>by
       rw [hval]
       exact h e (List.mem_cons_of_mem _ he)
      exact ⟨L,hL.congr fun c=>(hval c),hr⟩
     ·refine i2 ?_
      rcases List.mem_cons.1 he with rfl|he
      ·rw [hk] at hne
       cases hne
      ·exact ⟨e,he,by rw [hval];exact hne⟩
theorem rsum_eq {f : Int} (hf : f = 1 ∨ f = -1) (a b : List EntT) : cxv f a b = aqi f a b := by
 unfold cxv
 cases ha : vE a with
 | false =>
   rw [comb_inv ha]
   rfl
 | true =>
 cases hb : vE b with
 | false =>
   unfold aqi
   rw [ha,hb]
   rfl
 | true =>
 rw [bq4 ha hb]
 have hr:=bzg f ha hb
 obtain ⟨i1,i2⟩:=cxw hf b a (ajg ha) (fun y hy=>avi ha hy) (ajg hb) (fun y hy=>avi hb hy)
 have hmem : ∀ e,e∈lstF (akc f a b)↔axb e=false∧sumV f a b e.cell=(e.2.2.1,e.2.2.2):=hr.2
 show sumG f a b=_
 by_cases hall : ∀ e∈b,okV (sumV f a b e.cell)=true
 ·obtain ⟨L,hL,hs⟩:=i1 hall
  have e:=hL.unique hr fun _=>rfl
  rw [hs,e]
  have hany : ((lstF (akc f a b)).any fun e=>!aq0 e)=false:=by
   rw [List.any_eq_false]
   intro y hy
   obtain ⟨hz,hv⟩:=(hmem y).1 hy
   have h1 : okV (sumV f a b y.cell)=aq0 y:=by
    rw [hv]
    rfl
   rw [← h1]
   rcases axy (L:=b) (c:=y.cell) with ⟨h2,h3⟩|⟨_,h3⟩
   ·rw [← h3,hall _ h2]
    simp
   ·have h4 : sumV f a b y.cell=valT a y.cell:=by
     unfold sumV
     rw [aq2 h3]
     simp
    rw [h4]
    rcases axy (L:=a) (c:=y.cell) with ⟨h5,h6⟩|⟨_,h6⟩
    ·have:=bqh (avi ha h5)
     have h7 : okV (valT a y.cell)=aq0 (getT a y.cell):=rfl
     rw [h7,this]
     simp
    ·rw [aq2 h6]
     decide
  rw [hany]
  rfl
 ·have hex : ∃ e∈b,okV (sumV f a b e.cell)=false:=by
   apply Classical.byContradiction
   intro hne
   apply hall
   intro e he
   cases h : okV (sumV f a b e.cell) with
   | true=>rfl
   | false=>exact (hne ⟨e,he,h⟩).elim
  rw [i2 hex]
  obtain ⟨e,he,hk⟩:=hex
  have hz : ((lstF (akc f a b)).any fun e=>!aq0 e)=true:=by
   rw [List.any_eq_true]
   refine ⟨(e.1,e.2.1,(sumV f a b e.cell).1,(sumV f a b e.cell).2),(hmem _).2 ⟨?_,rfl⟩,?_⟩
   ·cases h0 : axb (e.1,e.2.1,(sumV f a b e.cell).1,(sumV f a b e.cell).2) with
    | false=>rfl
    | true =>
      simp only [axb,Bool.and_eq_true,decide_eq_true_eq] at h0
      rw [okV,h0.1,h0.2] at hk
      exact absurd hk (by decide)
   ·have : aq0 (e.1,e.2.1,(sumV f a b e.cell).1,(sumV f a b e.cell).2)=okV (sumV f a b e.cell):=rfl
    rw [this,hk]
    rfl
  rw [hz,if_pos rfl]
end Go.Proofs.YtlnplelandimeaaGreat.En
end
