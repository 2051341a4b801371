import Derived.Test.YtlnplelandimeaaGreatZFleetViews36
set_option linter.all false
section
namespace Go.Proofs.YtlnplelandimeaaGreat.En
open Go.RowKit
set_option maxRecDepth 100000
theorem cza (c : RcT) (me : Int) (P : Option Addr) (d : Nat) (S : SnT) (x : RelT) (hx : aq1 x = true) :
 CallM Tryz.prog 89 [pR c.b,relX x] (fun _ _=>True) [rsO c.b me c.A 8 c.cA P (aqj S).length d,.row 39 5 P (aqj S).length d ((aqj S).map encR)]
  (fun _ : Option Addr × Nat=>.t []) (fun z=>[rsO c.b me c.A 8 c.cA z.1 (aqj (axe S x)).length z.2,.row 39 5 z.1 (aqj (axe S x)).length z.2 ((aqj (axe S x)).map encR)]):=by
 rw [dzp S hx]
 exact rTake_m c.b me c.A 8 c.cA P d (aqj S) (axu S 64) x hx
theorem awt (c : RcT) (D : RdT) (S : SnT) (hD : okD S D) (x : RelT) (hx : aq1 x = true) :
 CallM Tryz.prog 49 [pR c.b,relX x] (fun _ _=>True) [rsB c D S,rsQ c,raO c.p D.R allT,rsR D S]
  (fun _ : {D' : RdT // okD (axe S x) D'}=>I 0) (fun q=>[rsB c q.1 (axe S x),rsQ c,raO c.p q.1.R allT,rsR q.1 (axe S x)]):=by
 have kr:=cka x.1 x.2.1 x.2.2.1 x.2.2.2.1 x.2.2.2.2
 rw [show aq1 (x.1,x.2.1,x.2.2.1,x.2.2.2.1,x.2.2.2.2)=true from hx] at kr
 have kt:=cza c S.me D.P D.d S x hx
 refine CallM.of (m:=4) Tryz.func49 rfl aza rfl rfl rfl rfl (by simp [SV.wfs,SV.wf]) fun w M π _=>?_
 (conv=>whnf);repeat' (first|((with_reducible refine isC ?_);first|((with_reducible refine azb (kr) ?_)<;>first|omega|with_reducible refine isP ?_|conv=>whnf)|(((with_reducible refine isF 89 ?_);(refine azl kt [0,3] rfl ⟨fun _ _ h=>h,⟨rfl,rfl,rfl,rfl,rfl,rfl⟩,trivial⟩ (by decide) (fun _ _ _ _=>trivial) ?_;intro z));conv=>whnf))|with_reducible exact rfl|((with_reducible refine aze (by assumption) ?_);conv=>whnf)|((with_reducible refine azd ?_ ?_)<;>(intro hb;(try simp (disch:=omega) only [hbS] at hb)<;>conv=>whnf)))
 all_goals try (exfalso;omega)
 exact azv ⟨⟨D.R,z.1,z.2⟩,hD⟩ [0,1,2,3] ⟨rfl,by simp [SV.wf,SV.wfs]⟩ ⟨fun _ _ h=>h,⟨rfl,rfl,rfl,rfl,rfl,rfl⟩,fun _ _ h=>h,⟨rfl,rfl,rfl,rfl,rfl,rfl⟩,trivial⟩ (by decide) rfl
theorem awu (c : RcT) (D : RdT) (S : SnT) (hD : okD S D) (x : RelT) (hx : aq1 x = false) :
 CallM Tryz.prog 49 [pR c.b,relX x] (fun _ _=>True) [rsB c D S,rsQ c,raO c.p D.R allT,rsR D S]
  (fun _ : {D' : RdT // okD S D'}=>I 1) (fun q=>[rsB c q.1 S,rsQ c,raO c.p q.1.R allT,rsR q.1 S]):=by
 have kr:=cka x.1 x.2.1 x.2.2.1 x.2.2.2.1 x.2.2.2.2
 rw [show aq1 (x.1,x.2.1,x.2.2.1,x.2.2.2.1,x.2.2.2.2)=false from hx] at kr
 refine CallM.of (m:=4) Tryz.func49 rfl aza rfl rfl rfl rfl (by simp [SV.wfs,SV.wf]) fun w M π _=>?_
 (conv=>whnf);repeat' (first|((with_reducible refine isC ?_);first|((with_reducible refine azb (kr) ?_)<;>first|omega|with_reducible refine isP ?_|conv=>whnf))|with_reducible exact rfl|((with_reducible refine aze (by assumption) ?_);conv=>whnf)|((with_reducible refine azd ?_ ?_)<;>(intro hb;(try simp (disch:=omega) only [hbS] at hb)<;>conv=>whnf)))
 all_goals try (exfalso;omega)
 exact azv ⟨D,hD⟩ [0,1,2,3] ⟨rfl,by simp [SV.wf,SV.wfs]⟩ ⟨fun _ _ h=>h,⟨rfl,rfl,rfl,rfl,rfl,rfl⟩,fun _ _ h=>h,⟨rfl,rfl,rfl,rfl,rfl,rfl⟩,trivial⟩ (by decide) rfl
set_option maxHeartbeats 8000000 in
theorem av9 (c e : RcT) (D E : RdT) (S O : SnT) (hD : okD S D) (hE : okD O E) (hO : wfS O) (hg : ∀ i, i < 8 → ajj (O.ats i)) :
 CallM Tryz.prog 50 [pR c.b,pR e.b] (fun _ _=>True) [rsB c D S,rsQ c,raO c.p D.R allT,rsR D S,rsB e E O,rsQ e,raO e.p E.R allT,rsR E O]
  (fun _ : {D' : RdT // okD (aki S O) D'}=>I 0) (fun q=>[rsB c q.1 (aki S O),rsQ c,raO c.p q.1.R allT,rsR q.1 (aki S O),rsB e E O,rsQ e,raO e.p E.R allT,rsR E O]):=by
 have hfin:=cv2 (S:=S) hO
 have hao:=fun t ht=>av8 hO (L:=aqj O) rfl (t:=t) ht
 have hl:=axu O 64
 have e1 : aqt O 64=aqj O:=rfl
 rw [e1] at hl
 clear e1
 unfold rsB rsR
 generalize aqj O=L at *
 refine CallM.of (m:=8) Tryz.func50 rfl aza rfl rfl rfl rfl (by simp [SV.wfs,SV.wf]) fun w M π _=>?_
 (conv=>whnf);repeat' (first|((with_reducible refine isO ?_);first|((first|(refine azh aza rfl rfl rfl ?_);intro bN|(refine azm aza rfl rfl rfl rfl rfl ?_);intro bN);conv=>whnf))|((with_reducible refine isW ?_;first|refine azg (by omega) (by omega) ?_|refine azc ?_);conv=>whnf)|((first|refine azj aza azt ?_|refine azi (by kernel_rfl) ?_|with_reducible refine azo ?_ ?_)<;>conv=>whnf)|with_reducible exact rfl|((with_reducible refine aze (by assumption) ?_);conv=>whnf)|((with_reducible refine azd ?_ ?_)<;>(intro hb;(try simp (disch:=omega) only [hbS] at hb)<;>conv=>whnf)))
 refine azr aza (α:=(k : Nat) × {R : Nat→RfT // ∀ i,i < 8→okR (R i)∧absR (R i)=(ax6 S O k).ats i}) (fun s=>s.1≤8) (fun s=>[(0,pR c.b),(1,pR e.b),(5,I s.1)])
  (fun s=>[rsB c D S,rsQ c,raO c.p s.2.1 allT,rsR D S,rsO e.b O.me e.A 8 e.cA E.P L.length E.d,rsQ e,raO e.p E.R allT,.row 39 5 E.P L.length E.d (L.map encR)]) (fun s=>8 - s.1) ⟨0,D.R,fun i hi=>⟨(hD i hi).1,by rw [(hD i hi).2];unfold ax6;dsimp only;rw [if_neg (by omega)]⟩⟩ [0,1,2,3,4,5,6,7] (Nat.zero_le _) ?_ ?_
 ·(refine ⟨?_,?_,?_,?_⟩<;>(repeat' ((conv=>whnf);apply And.intro))<;>try (first|exact trivial|decide))
  all_goals first|rfl|exact fun _ _ h=>h|(simp [SV.wf,SV.wfs];done)|trace_state
 ·rintro ⟨k,R,hR⟩ hk
  dsimp only at hk hR ⊢
  by_cases hlt : k < 8
  ·obtain ⟨ok1,ab1⟩:=hR k hlt
   obtain ⟨ok2,ab2⟩:=hE k hlt
   rw [cxp] at ab1
   have kj:=rJoin_m (c.p k) (e.p k) (R k) (E.R k) ok1 ok2 (by rw [ab2];exact hg k hlt)
   rw [ab1,ab2] at kj
   (conv=>whnf);repeat' (first|((with_reducible refine isV ?_);first|(refine aj2 0 aza rfl rfl rfl rfl ?_;conv=>whnf)|(refine aj2 4 aza rfl rfl rfl rfl ?_;conv=>whnf)|((first|refine azf aza rfl (ArgSl.row 1 rfl) rfl ?_ ?_ ?_|(with_reducible refine azq ?_);refine azn _ _ (0) aza rfl rfl rfl (ArgSl.row 1 rfl) ?_ ?_ ?_|refine azp _ _ (0) aza rfl rfl rfl (ArgSl.row 1 rfl) ?_ ?_ ?_|refine azf aza rfl (ArgSl.row 5 rfl) rfl ?_ ?_ ?_|(with_reducible refine azq ?_);refine azn _ _ (0) aza rfl rfl rfl (ArgSl.row 5 rfl) ?_ ?_ ?_|refine azp _ _ (0) aza rfl rfl rfl (ArgSl.row 5 rfl) ?_ ?_ ?_)<;>first|rfl|omega|with_reducible refine isP ?_|conv=>whnf))|((with_reducible refine isO ?_);first|((first|(refine azh aza rfl rfl rfl ?_);intro bN|(refine azm aza rfl rfl rfl rfl rfl ?_);intro bN);conv=>whnf))|((with_reducible refine isW ?_;first|refine azg (by omega) (by omega) ?_|refine azc ?_);conv=>whnf)|((first|refine azj aza azt ?_|refine azi (by kernel_rfl) ?_|with_reducible refine azo ?_ ?_)<;>conv=>whnf)|with_reducible exact rfl|((with_reducible refine aze (by assumption) ?_);conv=>whnf)|((with_reducible refine azd ?_ ?_)<;>(intro hb;(try simp (disch:=omega) only [hbS] at hb)<;>conv=>whnf)))
   all_goals try (exfalso;omega)
   rw [pt8 c.p hlt,pt8 e.p hlt]
   refine ajn 2 k 8 (Entr.of Tryz.func90 rfl rfl) rfl rfl hlt (ajk hlt) (by simp [SV.wf,SV.wfs]) ?_
   conv=>whnf
   refine ajn 6 k 9 (Entr.of Tryz.func90 rfl rfl) rfl rfl hlt (ajk hlt) (by simp [SV.wf,SV.wfs]) ?_
   conv=>whnf
   refine azl kj [8,9] rfl ⟨fun _ _ h=>h,fun _ _ h=>h,trivial⟩ (by decide) (fun _ _ _ _=>trivial) ?_
   intro r
   conv=>whnf
   refine ⟨E.R k,rfl,rfl,?_⟩
   rw [ajw]
   conv=>whnf
   refine ⟨r.1,rfl,rfl,?_⟩
   (conv=>whnf);repeat' (first|((with_reducible refine isO ?_);first|((first|(refine azh aza rfl rfl rfl ?_);intro bN|(refine azm aza rfl rfl rfl rfl rfl ?_);intro bN);conv=>whnf))|((with_reducible refine isW ?_;first|refine azg (by omega) (by omega) ?_|refine azc ?_);conv=>whnf)|((first|refine azj aza azt ?_|refine azi (by kernel_rfl) ?_|with_reducible refine azo ?_ ?_)<;>conv=>whnf)|with_reducible exact rfl|((with_reducible refine aze (by assumption) ?_);conv=>whnf)|((with_reducible refine azd ?_ ?_)<;>(intro hb;(try simp (disch:=omega) only [hbS] at hb)<;>conv=>whnf)))
   all_goals try (exfalso;omega)
   refine ⟨⟨k + 1,updN R k r.1,fun i hi=>?_⟩,[0,1,2,3,4,5,6,7],by (try dsimp only);omega,?_,by (try dsimp only);omega⟩
   ·unfold updN
    by_cases e : i=k
    ·rw [if_pos e,e]
     refine ⟨r.2.1,r.2.2.trans ?_⟩
     unfold ax6
     dsimp only
     rw [if_pos (by omega)]
    ·rw [if_neg e]
     refine ⟨(hR i hi).1,(hR i hi).2.trans ?_⟩
     unfold ax6
     dsimp only
     by_cases c1 : i < k
     ·rw [if_pos c1,if_pos (by omega)]
     ·rw [if_neg c1,if_neg (by omega)]
   ·(refine ⟨?_,?_,?_,?_⟩<;>(repeat' ((conv=>whnf);apply And.intro))<;>try (first|exact trivial|decide))
    all_goals first|rfl|exact fun _ _ h=>h|(simp [SV.wf,SV.wfs];done)|trace_state
  ·obtain rfl : k=8:=by omega
   (conv=>whnf);repeat' (first|((with_reducible refine isV ?_);first|(refine axg 4 aza rfl rfl rfl rfl ?_;conv=>whnf))|((with_reducible refine isO ?_);first|((refine azz 8 aza rfl rfl rfl rfl (ArgSl.row 7 rfl) (by decide) ?_ ?_ ?_)<;>first|omega|(dsimp only;omega)|(intro A' c';conv=>whnf))|((first|(refine azh aza rfl rfl rfl ?_);intro bN|(refine azm aza rfl rfl rfl rfl rfl ?_);intro bN);conv=>whnf))|((with_reducible refine isW ?_;first|refine azg (by omega) (by omega) ?_|refine azc ?_);conv=>whnf)|((first|refine azj aza azt ?_|refine azi (by kernel_rfl) ?_|with_reducible refine azo ?_ ?_)<;>conv=>whnf)|with_reducible exact rfl|((with_reducible refine aze (by assumption) ?_);conv=>whnf)|((with_reducible refine azd ?_ ?_)<;>(intro hb;(try simp (disch:=omega) only [hbS] at hb)<;>conv=>whnf)))
   all_goals try (exfalso;omega)
   rw [Nat.zero_add,List.nil_append]
   refine azr aza (α:=(t : Nat) × (Option Addr × Nat) × {S2 : SnT // S2=(L.take t).foldl axe (ax6 S O 8)}) (fun s=>s.1≤L.length) (fun s=>[(0,pR c.b),(6,.v (.slice A' L.length c')),(7,I s.1)])
    (fun s=>[rsO c.b S.me c.A 8 c.cA s.2.1.1 (aqj s.2.2.1).length s.2.1.2,rsQ c,raO c.p R allT,.row 39 5 s.2.1.1 (aqj s.2.2.1).length s.2.1.2 ((aqj s.2.2.1).map encR),rsO e.b O.me e.A 8 e.cA E.P L.length E.d,rsQ e,raO e.p E.R allT,.row 39 5 E.P L.length E.d (L.map encR),.row 39 5 A' L.length c' (L.map encR)]) (fun s=>L.length - s.1) ⟨0,(D.P,D.d),⟨ax6 S O 8,rfl⟩⟩ [0,1,2,3,4,5,6,7,8] (Nat.zero_le _) ?_ ?_
   ·(refine ⟨?_,?_,?_,?_⟩<;>(repeat' ((conv=>whnf);apply And.intro))<;>try (first|exact trivial|decide))
    all_goals first|rfl|exact fun _ _ h=>h|(simp [SV.wf,SV.wfs];done)|trace_state
   ·rintro ⟨t,⟨P2,d2⟩,S2,hS2⟩ ht
    dsimp only at ht hS2 ⊢
    by_cases hlt : t < L.length
    ·have hnx : axe S2 (L.getD t r0)=(L.take (t + 1)).foldl axe (ax6 S O 8):=by
      rw [bju hlt,List.foldl_append,hS2]
      rfl
     have kt:=cza c S.me P2 d2 S2 (L.getD t r0) (hao t hlt)
     (conv=>whnf);repeat' (first|((with_reducible refine isC ?_);first|(((with_reducible refine isF 89 ?_);((refine azl kt [0,3] rfl ⟨fun _ _ h=>h,⟨rfl,rfl,rfl,rfl,rfl,rfl⟩,trivial⟩ (by decide) (fun _ _ _ _=>trivial) ?_;intro z)));conv=>whnf))|((with_reducible refine isV ?_);first|((first|refine azf aza rfl (ArgSl.row 8 rfl) rfl ?_ ?_ ?_|(with_reducible refine azq ?_);refine azw _ _ (r0) aza rfl rfl rfl rfl (ArgSl.row 8 rfl) ?_ ?_ ?_|refine azy _ _ (r0) aza rfl rfl rfl rfl (ArgSl.row 8 rfl) ?_ ?_ ?_)<;>first|rfl|omega|with_reducible refine isP ?_|conv=>whnf))|((with_reducible refine isO ?_);first|((first|(refine azh aza rfl rfl rfl ?_);intro bN|(refine azm aza rfl rfl rfl rfl rfl ?_);intro bN);conv=>whnf))|((with_reducible refine isW ?_;first|refine azg (by omega) (by omega) ?_|refine azc ?_);conv=>whnf)|((first|refine azj aza azt ?_|refine azi (by kernel_rfl) ?_|with_reducible refine azo ?_ ?_)<;>conv=>whnf)|with_reducible exact rfl|((with_reducible refine aze (by assumption) ?_);conv=>whnf)|((with_reducible refine azd ?_ ?_)<;>(intro hb;(try simp (disch:=omega) only [hbS] at hb)<;>conv=>whnf)))
     all_goals try (exfalso;omega)
     refine ⟨⟨t + 1,z,_,hnx⟩,[0,1,2,3,4,5,6,7,8],by (try dsimp only);omega,?_,by (try dsimp only);omega⟩
     (refine ⟨?_,?_,?_,?_⟩<;>(repeat' ((conv=>whnf);apply And.intro))<;>try (first|exact trivial|decide))
     all_goals first|rfl|exact fun _ _ h=>h|(simp [SV.wf,SV.wfs];done)|trace_state
    ·obtain rfl : t=L.length:=by omega
     have hS3 : S2=aki S O:=by rw [hS2,List.take_length,hfin]
     subst hS3
     (conv=>whnf);repeat' (first|((with_reducible refine isO ?_);first|((first|(refine azh aza rfl rfl rfl ?_);intro bN|(refine azm aza rfl rfl rfl rfl rfl ?_);intro bN);conv=>whnf))|((with_reducible refine isW ?_;first|refine azg (by omega) (by omega) ?_|refine azc ?_);conv=>whnf)|((first|refine azj aza azt ?_|refine azi (by kernel_rfl) ?_|with_reducible refine azo ?_ ?_)<;>conv=>whnf)|with_reducible exact rfl|((with_reducible refine aze (by assumption) ?_);conv=>whnf)|((with_reducible refine azd ?_ ?_)<;>(intro hb;(try simp (disch:=omega) only [hbS] at hb)<;>conv=>whnf)))
     all_goals try (exfalso;omega)
     refine azv ⟨⟨R,P2,d2⟩,fun i hi=>⟨(hR i hi).1,(hR i hi).2.trans ?_⟩⟩ [0,1,2,3,4,5,6,7] ⟨rfl,by simp [SV.wf,SV.wfs]⟩ ⟨fun _ _ h=>h,⟨rfl,rfl,rfl,rfl,rfl,rfl⟩,fun _ _ h=>h,⟨rfl,rfl,rfl,rfl,rfl,rfl⟩,fun _ _ h=>h,⟨rfl,rfl,rfl,rfl,rfl,rfl⟩,fun _ _ h=>h,⟨rfl,rfl,rfl,rfl,rfl,rfl⟩,trivial⟩ (by decide) rfl
     unfold ax6
     dsimp only
     rw [if_pos hi]
     rfl
set_option maxHeartbeats 8000000 in
theorem avv (c : RcT) (D : RdT) (S : SnT) (hD : okD S D) (hS : wfS S) :
 CallM Tryz.prog 50 [pR c.b,pR c.b] (fun _ _=>True) [rsB c D S,rsQ c,raO c.p D.R allT,rsR D S]
  (fun _ : {D' : RdT // okD S D'}=>I 0) (fun q=>[rsB c q.1 S,rsQ c,raO c.p q.1.R allT,rsR q.1 S]):=by
 have hao:=fun t ht=>av8 hS (L:=aqj S) rfl (t:=t) ht
 have hown:=fun t ht=>cv4 hS (L:=aqj S) rfl (t:=t) ht
 have hl:=axu S 64
 have e1 : aqt S 64=aqj S:=rfl
 rw [e1] at hl
 clear e1
 have kt : ∀ (P2 : Option Addr) (d2 : Nat) (t : Nat),t < (aqj S).length→CallM Tryz.prog 89 [pR c.b,relX ((aqj S).getD t r0)] (fun _ _=>True) [rsO c.b S.me c.A 8 c.cA P2 (aqj S).length d2,.row 39 5 P2 (aqj S).length d2 ((aqj S).map encR)]
  (fun _ : Option Addr × Nat=>.t []) (fun z=>[rsO c.b S.me c.A 8 c.cA z.1 (aqj S).length z.2,.row 39 5 z.1 (aqj S).length z.2 ((aqj S).map encR)]):=fun P2 d2 t ht=>by
  have h:=cza c S.me P2 d2 S ((aqj S).getD t r0) (hao t ht)
  rwa [hown t ht] at h
 clear hao hown
 unfold rsB rsR
 generalize aqj S=L at *
 refine CallM.of (m:=4) Tryz.func50 rfl aza rfl rfl rfl rfl (by simp [SV.wfs,SV.wf]) fun w M π _=>?_
 (conv=>whnf);repeat' (first|((with_reducible refine isO ?_);first|((first|(refine azh aza rfl rfl rfl ?_);intro bN|(refine azm aza rfl rfl rfl rfl rfl ?_);intro bN);conv=>whnf))|((with_reducible refine isW ?_;first|refine azg (by omega) (by omega) ?_|refine azc ?_);conv=>whnf)|((first|refine azj aza azt ?_|refine azi (by kernel_rfl) ?_|with_reducible refine azo ?_ ?_)<;>conv=>whnf)|with_reducible exact rfl|((with_reducible refine aze (by assumption) ?_);conv=>whnf)|((with_reducible refine azd ?_ ?_)<;>(intro hb;(try simp (disch:=omega) only [hbS] at hb)<;>conv=>whnf)))
 refine azr aza (α:=(k : Nat) × {R : Nat→RfT // ∀ i,i < 8→okR (R i)∧absR (R i)=S.ats i}) (fun s=>s.1≤8) (fun s=>[(0,pR c.b),(1,pR c.b),(5,I s.1)])
  (fun s=>[rsO c.b S.me c.A 8 c.cA D.P L.length D.d,rsQ c,raO c.p s.2.1 allT,.row 39 5 D.P L.length D.d (L.map encR)]) (fun s=>8 - s.1) ⟨0,D.R,hD⟩ [0,1,2,3] (Nat.zero_le _) ?_ ?_
 ·(refine ⟨?_,?_,?_,?_⟩<;>(repeat' ((conv=>whnf);apply And.intro))<;>try (first|exact trivial|decide))
  all_goals first|rfl|exact fun _ _ h=>h|(simp [SV.wf,SV.wfs];done)|trace_state
 ·rintro ⟨k,R,hR⟩ hk
  dsimp only at hk hR ⊢
  by_cases hlt : k < 8
  ·obtain ⟨ok1,ab1⟩:=hR k hlt
   have kj:=ckf (c.p k) (R k) ok1
   rw [ab1] at kj
   (conv=>whnf);repeat' (first|((with_reducible refine isV ?_);first|(refine aj2 0 aza rfl rfl rfl rfl ?_;conv=>whnf)|((first|refine azf aza rfl (ArgSl.row 1 rfl) rfl ?_ ?_ ?_|(with_reducible refine azq ?_);refine azn _ _ (0) aza rfl rfl rfl (ArgSl.row 1 rfl) ?_ ?_ ?_|refine azp _ _ (0) aza rfl rfl rfl (ArgSl.row 1 rfl) ?_ ?_ ?_)<;>first|rfl|omega|with_reducible refine isP ?_|conv=>whnf))|((with_reducible refine isO ?_);first|((first|(refine azh aza rfl rfl rfl ?_);intro bN|(refine azm aza rfl rfl rfl rfl rfl ?_);intro bN);conv=>whnf))|((with_reducible refine isW ?_;first|refine azg (by omega) (by omega) ?_|refine azc ?_);conv=>whnf)|((first|refine azj aza azt ?_|refine azi (by kernel_rfl) ?_|with_reducible refine azo ?_ ?_)<;>conv=>whnf)|with_reducible exact rfl|((with_reducible refine aze (by assumption) ?_);conv=>whnf)|((with_reducible refine azd ?_ ?_)<;>(intro hb;(try simp (disch:=omega) only [hbS] at hb)<;>conv=>whnf)))
   all_goals try (exfalso;omega)
   rw [pt8 c.p hlt]
   refine ajn 2 k 4 (Entr.of Tryz.func90 rfl rfl) rfl rfl hlt (ajk hlt) (by simp [SV.wf,SV.wfs]) ?_
   conv=>whnf
   refine azl kj [4] rfl ⟨fun _ _ h=>h,trivial⟩ (by decide) (fun _ _ _ _=>trivial) ?_
   intro r
   conv=>whnf
   refine ⟨r.1,rfl,rfl,?_⟩
   (conv=>whnf);repeat' (first|((with_reducible refine isO ?_);first|((first|(refine azh aza rfl rfl rfl ?_);intro bN|(refine azm aza rfl rfl rfl rfl rfl ?_);intro bN);conv=>whnf))|((with_reducible refine isW ?_;first|refine azg (by omega) (by omega) ?_|refine azc ?_);conv=>whnf)|((first|refine azj aza azt ?_|refine azi (by kernel_rfl) ?_|with_reducible refine azo ?_ ?_)<;>conv=>whnf)|with_reducible exact rfl|((with_reducible refine aze (by assumption) ?_);conv=>whnf)|((with_reducible refine azd ?_ ?_)<;>(intro hb;(try simp (disch:=omega) only [hbS] at hb)<;>conv=>whnf)))
   all_goals try (exfalso;omega)
   refine ⟨⟨k + 1,updN R k r.1,fun i hi=>?_⟩,[0,1,2,3],by (try dsimp only);omega,?_,by (try dsimp only);omega⟩
   ·unfold updN
    by_cases e : i=k
    ·rw [if_pos e,e]
     exact r.2
    ·rw [if_neg e]
     exact hR i hi
   ·(refine ⟨?_,?_,?_,?_⟩<;>(repeat' ((conv=>whnf);apply And.intro))<;>try (first|exact trivial|decide))
    all_goals first|rfl|exact fun _ _ h=>h|(simp [SV.wf,SV.wfs];done)|trace_state
  ·obtain rfl : k=8:=by omega
   (conv=>whnf);repeat' (first|((with_reducible refine isV ?_);first|(refine axg 0 aza rfl rfl rfl rfl ?_;conv=>whnf))|((with_reducible refine isO ?_);first|((refine azz 4 aza rfl rfl rfl rfl (ArgSl.row 3 rfl) (by decide) ?_ ?_ ?_)<;>first|omega|(dsimp only;omega)|(intro A' c';conv=>whnf))|((first|(refine azh aza rfl rfl rfl ?_);intro bN|(refine azm aza rfl rfl rfl rfl rfl ?_);intro bN);conv=>whnf))|((with_reducible refine isW ?_;first|refine azg (by omega) (by omega) ?_|refine azc ?_);conv=>whnf)|((first|refine azj aza azt ?_|refine azi (by kernel_rfl) ?_|with_reducible refine azo ?_ ?_)<;>conv=>whnf)|with_reducible exact rfl|((with_reducible refine aze (by assumption) ?_);conv=>whnf)|((with_reducible refine azd ?_ ?_)<;>(intro hb;(try simp (disch:=omega) only [hbS] at hb)<;>conv=>whnf)))
   all_goals try (exfalso;omega)
   rw [Nat.zero_add,List.nil_append]
   refine azr aza (α:=(t : Nat) × (Option Addr × Nat)) (fun s=>s.1≤L.length) (fun s=>[(0,pR c.b),(6,.v (.slice A' L.length c')),(7,I s.1)])
    (fun s=>[rsO c.b S.me c.A 8 c.cA s.2.1 L.length s.2.2,rsQ c,raO c.p R allT,.row 39 5 s.2.1 L.length s.2.2 (L.map encR),.row 39 5 A' L.length c' (L.map encR)]) (fun s=>L.length - s.1) ⟨0,(D.P,D.d)⟩ [0,1,2,3,4] (Nat.zero_le _) ?_ ?_
   ·(refine ⟨?_,?_,?_,?_⟩<;>(repeat' ((conv=>whnf);apply And.intro))<;>try (first|exact trivial|decide))
    all_goals first|rfl|exact fun _ _ h=>h|(simp [SV.wf,SV.wfs];done)|trace_state
   ·rintro ⟨t,P2,d2⟩ ht
    dsimp only at ht ⊢
    by_cases hlt : t < L.length
    ·have kt:=kt P2 d2 t hlt
     (conv=>whnf);repeat' (first|((with_reducible refine isC ?_);first|(((with_reducible refine isF 89 ?_);((refine azl kt [0,3] rfl ⟨fun _ _ h=>h,⟨rfl,rfl,rfl,rfl,rfl,rfl⟩,trivial⟩ (by decide) (fun _ _ _ _=>trivial) ?_;intro z)));conv=>whnf))|((with_reducible refine isV ?_);first|((first|refine azf aza rfl (ArgSl.row 4 rfl) rfl ?_ ?_ ?_|(with_reducible refine azq ?_);refine azw _ _ (r0) aza rfl rfl rfl rfl (ArgSl.row 4 rfl) ?_ ?_ ?_|refine azy _ _ (r0) aza rfl rfl rfl rfl (ArgSl.row 4 rfl) ?_ ?_ ?_)<;>first|rfl|omega|with_reducible refine isP ?_|conv=>whnf))|((with_reducible refine isO ?_);first|((first|(refine azh aza rfl rfl rfl ?_);intro bN|(refine azm aza rfl rfl rfl rfl rfl ?_);intro bN);conv=>whnf))|((with_reducible refine isW ?_;first|refine azg (by omega) (by omega) ?_|refine azc ?_);conv=>whnf)|((first|refine azj aza azt ?_|refine azi (by kernel_rfl) ?_|with_reducible refine azo ?_ ?_)<;>conv=>whnf)|with_reducible exact rfl|((with_reducible refine aze (by assumption) ?_);conv=>whnf)|((with_reducible refine azd ?_ ?_)<;>(intro hb;(try simp (disch:=omega) only [hbS] at hb)<;>conv=>whnf)))
     all_goals try (exfalso;omega)
     refine ⟨⟨t + 1,z⟩,[0,1,2,3,4],by (try dsimp only);omega,?_,by (try dsimp only);omega⟩
     (refine ⟨?_,?_,?_,?_⟩<;>(repeat' ((conv=>whnf);apply And.intro))<;>try (first|exact trivial|decide))
     all_goals first|rfl|exact fun _ _ h=>h|(simp [SV.wf,SV.wfs];done)|trace_state
    ·obtain rfl : t=L.length:=by omega
     (conv=>whnf);repeat' (first|((with_reducible refine isO ?_);first|((first|(refine azh aza rfl rfl rfl ?_);intro bN|(refine azm aza rfl rfl rfl rfl rfl ?_);intro bN);conv=>whnf))|((with_reducible refine isW ?_;first|refine azg (by omega) (by omega) ?_|refine azc ?_);conv=>whnf)|((first|refine azj aza azt ?_|refine azi (by kernel_rfl) ?_|with_reducible refine azo ?_ ?_)<;>conv=>whnf)|with_reducible exact rfl|((with_reducible refine aze (by assumption) ?_);conv=>whnf)|((with_reducible refine azd ?_ ?_)<;>(intro hb;(try simp (disch:=omega) only [hbS] at hb)<;>conv=>whnf)))
     all_goals try (exfalso;omega)
     exact azv ⟨⟨R,P2,d2⟩,hR⟩ [0,1,2,3] ⟨rfl,by simp [SV.wf,SV.wfs]⟩ ⟨fun _ _ h=>h,⟨rfl,rfl,rfl,rfl,rfl,rfl⟩,fun _ _ h=>h,⟨rfl,rfl,rfl,rfl,rfl,rfl⟩,trivial⟩ (by decide) rfl
section
variable {C : Ctx} {ob : List OB}
theorem ckh {cd : Code} {tm : List (Nat × SV)} {K : Kx} (p : Nat → Nat) (R : Nat → RfT) (h : aqb (ob ++ [raO p R (fun i => decide (i < 0))]) fun ob => awm C cd tm ob K) : awm C cd tm ob K := by
 rw [azu] at h
 unfold awm at *
 intro σ fp a w hr
 have hm':=hr.mem.adopt (raO p R (fun i=>decide (i < 0))) 0 (fun _=>False) (raO_mk (Fs:=fun _ _=>False) ⟨fun i hi hH=>by simp at hH,fun _ _ _ _ _ x hx=>hx.elim,fun _ _ x hx=>hx.elim⟩) (fun i hi=>hi.elim)
 exact h _ _ a w ⟨hr.tm.ext (fun j hj=>by simp [show j ≠ ob.length by omega]) (by simp),hm'⟩
end
theorem rng_upd (p : Nat → Nat) (k b : Nat) : ((List.range (k + 1)).map (updN p k b)).map (fun b => [ptrV b]) = ((List.range k).map p).map (fun b => [ptrV b]) ++ [[ptrV b]] := by
 rw [List.range_succ,List.map_append,List.map_append]
 have e1 : (List.range k).map (updN p k b)=(List.range k).map p:=List.map_congr_left fun i hi=>by
  have : i < k:=by simpa using hi
  unfold updN
  rw [if_neg (by omega)]
 rw [e1]
 simp [updN]
theorem onF_lt (k : Nat) : onF (fun i => decide (i < k)) k = fun i => decide (i < k + 1) := by
 funext i
 show (if i=k then true else decide (i < k))=decide (i < k + 1)
 by_cases e : i=k
 ·rw [if_pos e,e]
  exact (decide_eq_true (by omega)).symm
 ·rw [if_neg e]
  exact decide_eq_decide.2 (by omega)
def D0 : RdT := ⟨fun _ => rf0, none, 0⟩
theorem okD0 (m : Int) : okD (sn0 m) D0 := fun _ _ => ⟨okR0, absR0⟩
set_option maxHeartbeats 4000000 in
theorem cki (m : Nat) (hm : m < 8) : CallM Tryz.prog 46 [I m] (fun _ _ => True) [] (fun c : RcT => .t [pR c.b, I 0]) (fun c => [rsB c D0 (sn0 m), rsQ c, raO c.p D0.R allT, rsR D0 (sn0 m)]) := by
 refine CallM.of (m:=0) Tryz.func46 rfl aza rfl rfl rfl rfl (by simp [SV.wfs,SV.wf]) fun w M π _=>?_
 (conv=>whnf);repeat' (first|((with_reducible refine isO ?_);first|((first|(refine azh aza rfl rfl rfl ?_);intro bN|(refine azm aza rfl rfl rfl rfl rfl ?_);intro bN);conv=>whnf))|((with_reducible refine isW ?_;first|refine azg (by omega) (by omega) ?_|refine azc ?_);conv=>whnf)|((first|refine azj aza azt ?_|refine azi (by kernel_rfl) ?_|with_reducible refine azo ?_ ?_)<;>conv=>whnf)|with_reducible exact rfl|((with_reducible refine aze (by assumption) ?_);conv=>whnf)|((with_reducible refine azd ?_ ?_)<;>(intro hb;(try simp (disch:=omega) only [hbS] at hb)<;>conv=>whnf)))
 all_goals try (exfalso;omega)
 refine bvh 0 _ (fun b=>rsO b m none 0 0 none 0 0) rfl (fun σ fp w hm=>rs_new hm rfl) ?_
 intro b
 conv=>whnf
 refine aql 101 1 ?_
 conv=>whnf
 refine ckh (fun _=>0) (fun _=>rf0) ?_
 conv=>whnf
 refine azr aza (α:=(_ : Nat) × (Nat→Nat) × (Option Addr × Nat)) (fun s=>s.1≤8) (fun s=>[(4,pR b),(5,I s.1)])
  (fun s=>[rsO b m s.2.2.1 s.1 s.2.2.2 none 0 0,.row 101 1 s.2.2.1 s.1 s.2.2.2 (((List.range s.1).map s.2.1).map fun b=>[ptrV b]),raO s.2.1 (fun _=>rf0) (fun i=>decide (i < s.1))]) (fun s=>8 - s.1) ⟨0,fun _=>0,(none,0)⟩ [0,1,2] (Nat.zero_le _) ?_ ?_
 ·(refine ⟨?_,?_,?_,?_⟩<;>(repeat' ((conv=>whnf);apply And.intro))<;>try (first|exact trivial|decide))
  all_goals first|rfl|exact fun _ _ h=>h|(simp [SV.wf,SV.wfs];done)|trace_state
 ·rintro ⟨k,p,A,cA⟩ hk
  dsimp only at hk ⊢
  by_cases hlt : k < 8
  ·(conv=>whnf);repeat' (first|((with_reducible refine isV ?_);first|(refine aj2 0 aza rfl rfl rfl rfl ?_;conv=>whnf))|((with_reducible refine isO ?_);first|((first|(refine azh aza rfl rfl rfl ?_);intro bN|(refine azm aza rfl rfl rfl rfl rfl ?_);intro bN);conv=>whnf))|((with_reducible refine isW ?_;first|refine azg (by omega) (by omega) ?_|refine azc ?_);conv=>whnf)|((first|refine azj aza azt ?_|refine azi (by kernel_rfl) ?_|with_reducible refine azo ?_ ?_)<;>conv=>whnf)|with_reducible exact rfl|((with_reducible refine aze (by assumption) ?_);conv=>whnf)|((with_reducible refine azd ?_ ?_)<;>(intro hb;(try simp (disch:=omega) only [hbS] at hb)<;>conv=>whnf)))
   all_goals try (exfalso;omega)
   refine dzo (p:=p) (R:=fun _=>rf0) (H:=fun i=>decide (i < k)) 2 k 3 (by decide) hlt (decide_eq_false (by omega)) ?_
   refine azl rNew_m [] rfl trivial (by decide) (fun _ _ _ _=>trivial) ?_
   intro b1
   conv=>whnf
   refine ⟨b1,rf0,rfl,rfl,?_⟩
   (conv=>whnf);repeat' (first|((with_reducible refine isV ?_);first|(refine aj2 0 aza rfl rfl rfl rfl ?_;conv=>whnf))|((with_reducible refine isO ?_);first|((refine azz 1 aza rfl rfl rfl rfl (ArgSl.row 4 rfl) (by decide) ?_ ?_ ?_)<;>first|omega|(dsimp only;omega)|(intro A' c';conv=>whnf))|(refine OpX_rsA 0 aza rfl rfl rfl rfl ?_;conv=>whnf)|((first|(refine azh aza rfl rfl rfl ?_);intro bN|(refine azm aza rfl rfl rfl rfl rfl ?_);intro bN);conv=>whnf))|((with_reducible refine isW ?_;first|refine azg (by omega) (by omega) ?_|refine azc ?_);conv=>whnf)|((first|refine azj aza azt ?_|refine azi (by kernel_rfl) ?_|with_reducible refine azo ?_ ?_)<;>conv=>whnf)|with_reducible exact rfl|((with_reducible refine aze (by assumption) ?_);conv=>whnf)|((with_reducible refine azd ?_ ?_)<;>(intro hb;(try simp (disch:=omega) only [hbS] at hb)<;>conv=>whnf)))
   all_goals try (exfalso;omega)
   refine ⟨⟨k + 1,updN p k b1,(A',c')⟩,[0,1,2],by (try dsimp only);omega,?_,by (try dsimp only);omega⟩
   dsimp only
   rw [rng_upd,onF_lt,ajw (fun _=>rf0) k]
   (refine ⟨?_,?_,?_,?_⟩<;>(repeat' ((conv=>whnf);apply And.intro))<;>try (first|exact trivial|decide))
   all_goals first|rfl|exact fun _ _ h=>h|(simp [SV.wf,SV.wfs];done)|trace_state
  ·obtain rfl : k=8:=by omega
   (conv=>whnf);repeat' (first|((with_reducible refine isO ?_);first|((first|(refine azh aza rfl rfl rfl ?_);intro bN|(refine azm aza rfl rfl rfl rfl rfl ?_);intro bN);conv=>whnf))|((with_reducible refine isW ?_;first|refine azg (by omega) (by omega) ?_|refine azc ?_);conv=>whnf)|((first|refine azj aza azt ?_|refine azi (by kernel_rfl) ?_|with_reducible refine azo ?_ ?_)<;>conv=>whnf)|with_reducible exact rfl|((with_reducible refine aze (by assumption) ?_);conv=>whnf)|((with_reducible refine azd ?_ ?_)<;>(intro hb;(try simp (disch:=omega) only [hbS] at hb)<;>conv=>whnf)))
   all_goals try (exfalso;omega)
   refine az3 39 5 ?_
   exact azv ⟨b,A,cA,p⟩ [0,1,2,3] ⟨rfl,by simp [SV.wf,SV.wfs]⟩ ⟨fun _ _ h=>h,⟨rfl,rfl,rfl,rfl,rfl,rfl⟩,fun _ _ h=>h,⟨rfl,rfl,rfl,rfl,rfl,rfl⟩,trivial⟩ (by decide) rfl
end Go.Proofs.YtlnplelandimeaaGreat.En
end
