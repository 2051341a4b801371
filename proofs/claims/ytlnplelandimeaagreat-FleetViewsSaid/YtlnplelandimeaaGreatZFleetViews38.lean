import Derived.Test.YtlnplelandimeaaGreatZFleetViews37
set_option linter.all false
section
namespace Go.Proofs.YtlnplelandimeaaGreat.En
open Go.RowKit
set_option maxRecDepth 100000
abbrev bj2 (A : Option Addr) (cc : Nat) (b0 b1 b2 : Nat) : OB := .row 47 1 A 3 cc ([b0, b1, b2].map fun b => [ptrV b])
def gdQ (Q : Nat → SnT) : Prop := ∀ i, i < 3 → ∀ j, j < 8 → ajj ((Q i).ats j)
theorem goodA_at0 : ajj at0 := fun _ => ⟨fun _ h => (by cases h), fun _ h => (by cases h)⟩
theorem gdQ0 : gdQ Q0 := fun _ _ _ _ => goodA_at0
theorem gdQ_do {Q : Nat → SnT} (h : gdQ Q) (o : FOp) : gdQ (doQ Q o) := by
 intro i hi j hj
 unfold doQ updN
 split
 ·have h0:=h (whoF o) (bw9 o)
  have h1:=h (froF o) (froF_lt o)
  unfold stF
  split
  ·show ajj (updN (Q (whoF o)).ats (whoF o) _ j)
   unfold updN
   split
   ·exact cxk (h0 _ (by have:=bw9 o;omega)) _ _
   ·exact h0 j hj
  ·split
   ·show ajj (updN (Q (whoF o)).ats (whoF o) _ j)
    unfold updN
    split
    ·exact cxl (h0 _ (by have:=bw9 o;omega)) _ _
    ·exact h0 j hj
   ·split
    ·split
     ·exact h0 j hj
     ·exact h0 j hj
    ·split
     ·exact h0 j hj
     ·exact bjs (h0 j hj) (h1 j hj)
 ·exact h i hi j hj
theorem gdQ_run : ∀ (l : List FOp) {Q : Nat → SnT}, gdQ Q → gdQ (runQ Q l)
 | [],_,h=>h
 | o :: l,_,h=>gdQ_run l (gdQ_do h o)
abbrev Rd3 := RdT × RdT × RdT
def okD3 (Q : Nat → SnT) (D : Rd3) : Prop := okD (Q 0) D.1 ∧ okD (Q 1) D.2.1 ∧ okD (Q 2) D.2.2
set_option maxHeartbeats 4000000 in
theorem rThree_m : CallM Tryz.prog 14 [] (fun _ _ => True) [] (fun q : (RcT × RcT × RcT) × (Option Addr × Nat) => .v (.slice q.2.1 3 q.2.2))
 (fun q=>[rsB q.1.1 D0 (Q0 0),rsQ q.1.1,raO q.1.1.p D0.R allT,rsR D0 (Q0 0),rsB q.1.2.1 D0 (Q0 1),rsQ q.1.2.1,raO q.1.2.1.p D0.R allT,rsR D0 (Q0 1),rsB q.1.2.2 D0 (Q0 2),rsQ q.1.2.2,raO q.1.2.2.p D0.R allT,rsR D0 (Q0 2),bj2 q.2.1 q.2.2 q.1.1.b q.1.2.1.b q.1.2.2.b]):=by
 have k0 : CallM Tryz.prog 46 [I 0] (fun _ _=>True) [] (fun c : RcT=>.t [pR c.b,I 0]) (fun c=>[rsB c D0 (Q0 0),rsQ c,raO c.p D0.R allT,rsR D0 (Q0 0)]):=cki 0 (by omega)
 have k1 : CallM Tryz.prog 46 [I 1] (fun _ _=>True) [] (fun c : RcT=>.t [pR c.b,I 0]) (fun c=>[rsB c D0 (Q0 1),rsQ c,raO c.p D0.R allT,rsR D0 (Q0 1)]):=cki 1 (by omega)
 have k2 : CallM Tryz.prog 46 [I 2] (fun _ _=>True) [] (fun c : RcT=>.t [pR c.b,I 0]) (fun c=>[rsB c D0 (Q0 2),rsQ c,raO c.p D0.R allT,rsR D0 (Q0 2)]):=cki 2 (by omega)
 refine CallM.of (m:=0) Tryz.func14 rfl aza rfl rfl rfl rfl (by simp [SV.wfs,SV.wf]) fun w M π _=>?_
 (conv=>whnf);repeat' (first|((with_reducible refine isO ?_);first|((first|(refine azh aza rfl rfl rfl ?_);intro bN|(refine azm aza rfl rfl rfl rfl rfl ?_);intro bN);conv=>whnf))|with_reducible exact rfl|((with_reducible refine aze (by assumption) ?_);conv=>whnf)|((with_reducible refine azd ?_ ?_)<;>(intro hb;(try simp (disch:=omega) only [hbS] at hb)<;>conv=>whnf)))
 refine azl k0 [] rfl trivial (by decide) (fun _ _ _ _=>trivial) ?_
 intro c0
 (conv=>whnf);repeat' (first|((with_reducible refine isO ?_);first|((first|(refine azh aza rfl rfl rfl ?_);intro bN|(refine azm aza rfl rfl rfl rfl rfl ?_);intro bN);conv=>whnf))|with_reducible exact rfl|((with_reducible refine aze (by assumption) ?_);conv=>whnf)|((with_reducible refine azd ?_ ?_)<;>(intro hb;(try simp (disch:=omega) only [hbS] at hb)<;>conv=>whnf)))
 refine azl k1 [] rfl trivial (by decide) (fun _ _ _ _=>trivial) ?_
 intro c1
 (conv=>whnf);repeat' (first|((with_reducible refine isO ?_);first|((first|(refine azh aza rfl rfl rfl ?_);intro bN|(refine azm aza rfl rfl rfl rfl rfl ?_);intro bN);conv=>whnf))|with_reducible exact rfl|((with_reducible refine aze (by assumption) ?_);conv=>whnf)|((with_reducible refine azd ?_ ?_)<;>(intro hb;(try simp (disch:=omega) only [hbS] at hb)<;>conv=>whnf)))
 refine azl k2 [] rfl trivial (by decide) (fun _ _ _ _=>trivial) ?_
 intro c2
 (conv=>whnf);repeat' (first|((with_reducible refine isO ?_);first|((first|(refine azh aza rfl rfl rfl ?_);intro bN|(refine azm aza rfl rfl rfl rfl rfl ?_);intro bN);conv=>whnf))|with_reducible exact rfl|((with_reducible refine aze (by assumption) ?_);conv=>whnf)|((with_reducible refine azd ?_ ?_)<;>(intro hb;(try simp (disch:=omega) only [hbS] at hb)<;>conv=>whnf)))
 exact azv ((c0,c1,c2),(some ⟨bN,0,none⟩,3)) [0,1,2,3,4,5,6,7,8,9,10,11,12] ⟨rfl,by simp [SV.wf,SV.wfs]⟩ ⟨fun _ _ h=>h,⟨rfl,rfl,rfl,rfl,rfl,rfl⟩,fun _ _ h=>h,⟨rfl,rfl,rfl,rfl,rfl,rfl⟩,fun _ _ h=>h,⟨rfl,rfl,rfl,rfl,rfl,rfl⟩,fun _ _ h=>h,⟨rfl,rfl,rfl,rfl,rfl,rfl⟩,fun _ _ h=>h,⟨rfl,rfl,rfl,rfl,rfl,rfl⟩,fun _ _ h=>h,⟨rfl,rfl,rfl,rfl,rfl,rfl⟩,⟨rfl,rfl,rfl,rfl,rfl,rfl⟩,trivial⟩ (by decide) rfl
set_option maxHeartbeats 16000000 in
theorem rDo0_m (c0 c1 c2 : RcT) (D : Rd3) (Q : Nat → SnT) (hD : okD3 Q D) (hQ : okQ Q) (hG : gdQ Q) (A : Option Addr) (cc : Nat) (o : FOp) (hw : o.2.1 % 3 = 0) (hn : o.2.2.2.2.1.2.2.length ≤ maxLen) :
 CallM Tryz.prog 16 [.v (.slice A 3 cc),foX o] (fun w M=>ArgN w M o.2.2.2.2.1.1 o.2.2.2.2.1.2.2.length 2 (o.2.2.2.2.1.2.2.map encBm)) [rsB c0 D.1 (Q 0),rsQ c0,raO c0.p D.1.R allT,rsR D.1 (Q 0),rsB c1 D.2.1 (Q 1),rsQ c1,raO c1.p D.2.1.R allT,rsR D.2.1 (Q 1),rsB c2 D.2.2 (Q 2),rsQ c2,raO c2.p D.2.2.R allT,rsR D.2.2 (Q 2),bj2 A cc c0.b c1.b c2.b]
 (fun _ : {D' : Rd3 // okD3 (doQ Q o) D'}=>I (erF o)) (fun q=>[rsB c0 q.1.1 (doQ Q o 0),rsQ c0,raO c0.p q.1.1.R allT,rsR q.1.1 (doQ Q o 0),rsB c1 q.1.2.1 (doQ Q o 1),rsQ c1,raO c1.p q.1.2.1.R allT,rsR q.1.2.1 (doQ Q o 1),rsB c2 q.1.2.2 (doQ Q o 2),rsQ c2,raO c2.p q.1.2.2.R allT,rsR q.1.2.2 (doQ Q o 2),bj2 A cc c0.b c1.b c2.b]):=by
 obtain ⟨D0,D1,D2⟩:=D
 obtain ⟨hD0,hD1,hD2⟩:=hD
 dsimp only at hD0 hD1 hD2 ⊢
 have hwh : whoF o=0:=by unfold whoF;rw [hw];rfl
 have kw : PureX Tryz.prog 36 [I o.2.1,I 3] (I 0):=by rw [← hw];exact aqu _ _ (by decide) (by decide)
 have hk4 : o.1 % 4=0∨o.1 % 4=1∨o.1 % 4=2∨o.1 % 4=3:=by omega
 have hf3 : o.2.2.1 % 3=0∨o.2.2.1 % 3=1∨o.2.2.1 % 3=2:=by omega
 have q0:=hQ 0 (by omega)
 unfold doQ
 rw [hwh]
 rcases hk4 with hk|hk|hk|hk
 ·have kk : PureX Tryz.prog 36 [I o.1,I 4] (I 0):=by rw [← hk];exact aqu _ _ (by decide) (by decide)
  have hs : stF Q o 0 (froF o)=({ Q 0 with ats:=updN (Q 0).ats 0 (putA ((Q 0).ats 0) o.2.2.2.1 o.2.2.2.2.1.2.2) } : SnT):=by simp [stF,hk]
  have he : erF o=putC o.2.2.2.1 o.2.2.2.2.1.2.2:=by simp [erF,hk]
  rw [hs,he]
  refine CallM.of (m:=13) Tryz.func16 rfl aza rfl rfl rfl rfl (by simp [SV.wfs,SV.wf]) fun w M π hpre=>?_
  (conv=>whnf);repeat' (first|((with_reducible refine isC ?_);first|(((with_reducible refine isF 36 ?_);(first|(with_reducible refine azb kw ?_)|(with_reducible refine azb kk ?_)));conv=>whnf))|((with_reducible refine isV ?_);first|((first|refine azf aza rfl (ArgSl.row 12 rfl) rfl ?_ ?_ ?_|(with_reducible refine azq ?_);refine azn _ _ (0) aza rfl rfl rfl (ArgSl.row 12 rfl) ?_ ?_ ?_|refine azp _ _ (0) aza rfl rfl rfl (ArgSl.row 12 rfl) ?_ ?_ ?_)<;>first|rfl|omega|with_reducible refine isP ?_|conv=>whnf))|with_reducible exact rfl|((with_reducible refine aze (by assumption) ?_);conv=>whnf)|((with_reducible refine azd ?_ ?_)<;>(intro hb;(try simp (disch:=omega) only [hbS] at hb)<;>conv=>whnf)))
  all_goals try (exfalso;omega)
  refine azl (ckg c0 D0 (Q 0) hD0 0 (by omega) q0.1 o.2.2.2.1 o.2.2.2.2.1.1 o.2.2.2.2.1.2.1 o.2.2.2.2.1.2.2 rfl hn) [0,1,2,3] rfl ⟨fun _ _ h=>h,⟨rfl,rfl,rfl,rfl,rfl,rfl⟩,fun _ _ h=>h,⟨rfl,rfl,rfl,rfl,rfl,rfl⟩,trivial⟩ (by decide) (ArgN.on hpre (by decide) (m:=4) (r:=[0,1,2,3]) (fun j hj=>by rcases (by omega : j=0∨j=1∨j=2∨j=3) with rfl|rfl|rfl|rfl<;>simp)) ?_
  intro z
  (conv=>whnf);repeat' (first|with_reducible exact rfl|((with_reducible refine aze (by assumption) ?_);conv=>whnf)|((with_reducible refine azd ?_ ?_)<;>(intro hb;(try simp (disch:=omega) only [hbS] at hb)<;>conv=>whnf)))
  all_goals try (exfalso;omega)
  exact azv ⟨(z.1,D1,D2),⟨z.2,hD1,hD2⟩⟩ [0,1,2,3,4,5,6,7,8,9,10,11,12] ⟨rfl,by simp [SV.wf,SV.wfs]⟩ ⟨fun _ _ h=>h,⟨rfl,rfl,rfl,rfl,rfl,rfl⟩,fun _ _ h=>h,⟨rfl,rfl,rfl,rfl,rfl,rfl⟩,fun _ _ h=>h,⟨rfl,rfl,rfl,rfl,rfl,rfl⟩,fun _ _ h=>h,⟨rfl,rfl,rfl,rfl,rfl,rfl⟩,fun _ _ h=>h,⟨rfl,rfl,rfl,rfl,rfl,rfl⟩,fun _ _ h=>h,⟨rfl,rfl,rfl,rfl,rfl,rfl⟩,⟨rfl,rfl,rfl,rfl,rfl,rfl⟩,trivial⟩ (by decide) rfl
 ·have kk : PureX Tryz.prog 36 [I o.1,I 4] (I 1):=by rw [← hk];exact aqu _ _ (by decide) (by decide)
  have hs : stF Q o 0 (froF o)=({ Q 0 with ats:=updN (Q 0).ats 0 (plcA ((Q 0).ats 0) o.2.2.2.1 o.2.2.2.2.2.1) } : SnT):=by simp [stF,hk]
  have he : erF o=plcC o.2.2.2.1 o.2.2.2.2.2.1:=by simp [erF,hk]
  rw [hs,he]
  refine CallM.of (m:=13) Tryz.func16 rfl aza rfl rfl rfl rfl (by simp [SV.wfs,SV.wf]) fun w M π hpre=>?_
  (conv=>whnf);repeat' (first|((with_reducible refine isC ?_);first|(((with_reducible refine isF 36 ?_);(first|(with_reducible refine azb kw ?_)|(with_reducible refine azb kk ?_)));conv=>whnf))|((with_reducible refine isV ?_);first|((first|refine azf aza rfl (ArgSl.row 12 rfl) rfl ?_ ?_ ?_|(with_reducible refine azq ?_);refine azn _ _ (0) aza rfl rfl rfl (ArgSl.row 12 rfl) ?_ ?_ ?_|refine azp _ _ (0) aza rfl rfl rfl (ArgSl.row 12 rfl) ?_ ?_ ?_)<;>first|rfl|omega|with_reducible refine isP ?_|conv=>whnf))|with_reducible exact rfl|((with_reducible refine aze (by assumption) ?_);conv=>whnf)|((with_reducible refine azd ?_ ?_)<;>(intro hb;(try simp (disch:=omega) only [hbS] at hb)<;>conv=>whnf)))
  all_goals try (exfalso;omega)
  refine azl (bj1 c0 D0 (Q 0) hD0 0 (by omega) q0.1 o.2.2.2.1 o.2.2.2.2.2.1) [0,1,2,3] rfl ⟨fun _ _ h=>h,⟨rfl,rfl,rfl,rfl,rfl,rfl⟩,fun _ _ h=>h,⟨rfl,rfl,rfl,rfl,rfl,rfl⟩,trivial⟩ (by decide) (fun _ _ _ _=>trivial) ?_
  intro z
  (conv=>whnf);repeat' (first|with_reducible exact rfl|((with_reducible refine aze (by assumption) ?_);conv=>whnf)|((with_reducible refine azd ?_ ?_)<;>(intro hb;(try simp (disch:=omega) only [hbS] at hb)<;>conv=>whnf)))
  all_goals try (exfalso;omega)
  exact azv ⟨(z.1,D1,D2),⟨z.2,hD1,hD2⟩⟩ [0,1,2,3,4,5,6,7,8,9,10,11,12] ⟨rfl,by simp [SV.wf,SV.wfs]⟩ ⟨fun _ _ h=>h,⟨rfl,rfl,rfl,rfl,rfl,rfl⟩,fun _ _ h=>h,⟨rfl,rfl,rfl,rfl,rfl,rfl⟩,fun _ _ h=>h,⟨rfl,rfl,rfl,rfl,rfl,rfl⟩,fun _ _ h=>h,⟨rfl,rfl,rfl,rfl,rfl,rfl⟩,fun _ _ h=>h,⟨rfl,rfl,rfl,rfl,rfl,rfl⟩,fun _ _ h=>h,⟨rfl,rfl,rfl,rfl,rfl,rfl⟩,⟨rfl,rfl,rfl,rfl,rfl,rfl⟩,trivial⟩ (by decide) rfl
 ·have kk : PureX Tryz.prog 36 [I o.1,I 4] (I 2):=by rw [← hk];exact aqu _ _ (by decide) (by decide)
  rcases Bool.eq_false_or_eq_true (aq1 o.2.2.2.2.2.2) with ha|ha
  ·have hs : stF Q o 0 (froF o)=axe (Q 0) o.2.2.2.2.2.2:=by simp [stF,hk,ha]
   have he : erF o=0:=by simp [erF,hk,ha]
   rw [hs,he]
   refine CallM.of (m:=13) Tryz.func16 rfl aza rfl rfl rfl rfl (by simp [SV.wfs,SV.wf]) fun w M π hpre=>?_
   (conv=>whnf);repeat' (first|((with_reducible refine isC ?_);first|(((with_reducible refine isF 36 ?_);(first|(with_reducible refine azb kw ?_)|(with_reducible refine azb kk ?_)));conv=>whnf))|((with_reducible refine isV ?_);first|((first|refine azf aza rfl (ArgSl.row 12 rfl) rfl ?_ ?_ ?_|(with_reducible refine azq ?_);refine azn _ _ (0) aza rfl rfl rfl (ArgSl.row 12 rfl) ?_ ?_ ?_|refine azp _ _ (0) aza rfl rfl rfl (ArgSl.row 12 rfl) ?_ ?_ ?_)<;>first|rfl|omega|with_reducible refine isP ?_|conv=>whnf))|with_reducible exact rfl|((with_reducible refine aze (by assumption) ?_);conv=>whnf)|((with_reducible refine azd ?_ ?_)<;>(intro hb;(try simp (disch:=omega) only [hbS] at hb)<;>conv=>whnf)))
   all_goals try (exfalso;omega)
   refine azl (awt c0 D0 (Q 0) hD0 o.2.2.2.2.2.2 ha) [0,1,2,3] rfl ⟨fun _ _ h=>h,⟨rfl,rfl,rfl,rfl,rfl,rfl⟩,fun _ _ h=>h,⟨rfl,rfl,rfl,rfl,rfl,rfl⟩,trivial⟩ (by decide) (fun _ _ _ _=>trivial) ?_
   intro z
   (conv=>whnf);repeat' (first|with_reducible exact rfl|((with_reducible refine aze (by assumption) ?_);conv=>whnf)|((with_reducible refine azd ?_ ?_)<;>(intro hb;(try simp (disch:=omega) only [hbS] at hb)<;>conv=>whnf)))
   all_goals try (exfalso;omega)
   exact azv ⟨(z.1,D1,D2),⟨z.2,hD1,hD2⟩⟩ [0,1,2,3,4,5,6,7,8,9,10,11,12] ⟨rfl,by simp [SV.wf,SV.wfs]⟩ ⟨fun _ _ h=>h,⟨rfl,rfl,rfl,rfl,rfl,rfl⟩,fun _ _ h=>h,⟨rfl,rfl,rfl,rfl,rfl,rfl⟩,fun _ _ h=>h,⟨rfl,rfl,rfl,rfl,rfl,rfl⟩,fun _ _ h=>h,⟨rfl,rfl,rfl,rfl,rfl,rfl⟩,fun _ _ h=>h,⟨rfl,rfl,rfl,rfl,rfl,rfl⟩,fun _ _ h=>h,⟨rfl,rfl,rfl,rfl,rfl,rfl⟩,⟨rfl,rfl,rfl,rfl,rfl,rfl⟩,trivial⟩ (by decide) rfl
  ·have hs : stF Q o 0 (froF o)=Q 0:=by simp [stF,hk,ha]
   have he : erF o=1:=by simp [erF,hk,ha]
   rw [hs,he]
   refine CallM.of (m:=13) Tryz.func16 rfl aza rfl rfl rfl rfl (by simp [SV.wfs,SV.wf]) fun w M π hpre=>?_
   (conv=>whnf);repeat' (first|((with_reducible refine isC ?_);first|(((with_reducible refine isF 36 ?_);(first|(with_reducible refine azb kw ?_)|(with_reducible refine azb kk ?_)));conv=>whnf))|((with_reducible refine isV ?_);first|((first|refine azf aza rfl (ArgSl.row 12 rfl) rfl ?_ ?_ ?_|(with_reducible refine azq ?_);refine azn _ _ (0) aza rfl rfl rfl (ArgSl.row 12 rfl) ?_ ?_ ?_|refine azp _ _ (0) aza rfl rfl rfl (ArgSl.row 12 rfl) ?_ ?_ ?_)<;>first|rfl|omega|with_reducible refine isP ?_|conv=>whnf))|with_reducible exact rfl|((with_reducible refine aze (by assumption) ?_);conv=>whnf)|((with_reducible refine azd ?_ ?_)<;>(intro hb;(try simp (disch:=omega) only [hbS] at hb)<;>conv=>whnf)))
   all_goals try (exfalso;omega)
   refine azl (awu c0 D0 (Q 0) hD0 o.2.2.2.2.2.2 ha) [0,1,2,3] rfl ⟨fun _ _ h=>h,⟨rfl,rfl,rfl,rfl,rfl,rfl⟩,fun _ _ h=>h,⟨rfl,rfl,rfl,rfl,rfl,rfl⟩,trivial⟩ (by decide) (fun _ _ _ _=>trivial) ?_
   intro z
   (conv=>whnf);repeat' (first|with_reducible exact rfl|((with_reducible refine aze (by assumption) ?_);conv=>whnf)|((with_reducible refine azd ?_ ?_)<;>(intro hb;(try simp (disch:=omega) only [hbS] at hb)<;>conv=>whnf)))
   all_goals try (exfalso;omega)
   exact azv ⟨(z.1,D1,D2),⟨z.2,hD1,hD2⟩⟩ [0,1,2,3,4,5,6,7,8,9,10,11,12] ⟨rfl,by simp [SV.wf,SV.wfs]⟩ ⟨fun _ _ h=>h,⟨rfl,rfl,rfl,rfl,rfl,rfl⟩,fun _ _ h=>h,⟨rfl,rfl,rfl,rfl,rfl,rfl⟩,fun _ _ h=>h,⟨rfl,rfl,rfl,rfl,rfl,rfl⟩,fun _ _ h=>h,⟨rfl,rfl,rfl,rfl,rfl,rfl⟩,fun _ _ h=>h,⟨rfl,rfl,rfl,rfl,rfl,rfl⟩,fun _ _ h=>h,⟨rfl,rfl,rfl,rfl,rfl,rfl⟩,⟨rfl,rfl,rfl,rfl,rfl,rfl⟩,trivial⟩ (by decide) rfl
 ·have kk : PureX Tryz.prog 36 [I o.1,I 4] (I 3):=by rw [← hk];exact aqu _ _ (by decide) (by decide)
  have he : erF o=0:=by simp [erF,hk]
  rw [he]
  rcases hf3 with hf|hf|hf
  ·have hfr : froF o=0:=by unfold froF;rw [hf];rfl
   have kj : PureX Tryz.prog 36 [I o.2.2.1,I 3] (I 0):=by rw [← hf];exact aqu _ _ (by decide) (by decide)
   have hs : stF Q o 0 (froF o)=Q 0:=by simp [stF,hk,hfr]
   rw [hs]
   refine CallM.of (m:=13) Tryz.func16 rfl aza rfl rfl rfl rfl (by simp [SV.wfs,SV.wf]) fun w M π hpre=>?_
   (conv=>whnf);repeat' (first|((with_reducible refine isC ?_);first|(((with_reducible refine isF 36 ?_);(first|(with_reducible refine azb kw ?_)|(with_reducible refine azb kk ?_)|(with_reducible refine azb kj ?_)));conv=>whnf))|((with_reducible refine isV ?_);first|((first|refine azf aza rfl (ArgSl.row 12 rfl) rfl ?_ ?_ ?_|(with_reducible refine azq ?_);refine azn _ _ (0) aza rfl rfl rfl (ArgSl.row 12 rfl) ?_ ?_ ?_|refine azp _ _ (0) aza rfl rfl rfl (ArgSl.row 12 rfl) ?_ ?_ ?_)<;>first|rfl|omega|with_reducible refine isP ?_|conv=>whnf))|with_reducible exact rfl|((with_reducible refine aze (by assumption) ?_);conv=>whnf)|((with_reducible refine azd ?_ ?_)<;>(intro hb;(try simp (disch:=omega) only [hbS] at hb)<;>conv=>whnf)))
   all_goals try (exfalso;omega)
   refine azl (avv c0 D0 (Q 0) hD0 q0.2) [0,1,2,3] rfl ⟨fun _ _ h=>h,⟨rfl,rfl,rfl,rfl,rfl,rfl⟩,fun _ _ h=>h,⟨rfl,rfl,rfl,rfl,rfl,rfl⟩,trivial⟩ (by decide) (fun _ _ _ _=>trivial) ?_
   intro z
   (conv=>whnf);repeat' (first|with_reducible exact rfl|((with_reducible refine aze (by assumption) ?_);conv=>whnf)|((with_reducible refine azd ?_ ?_)<;>(intro hb;(try simp (disch:=omega) only [hbS] at hb)<;>conv=>whnf)))
   all_goals try (exfalso;omega)
   exact azv ⟨(z.1,D1,D2),⟨z.2,hD1,hD2⟩⟩ [0,1,2,3,4,5,6,7,8,9,10,11,12] ⟨rfl,by simp [SV.wf,SV.wfs]⟩ ⟨fun _ _ h=>h,⟨rfl,rfl,rfl,rfl,rfl,rfl⟩,fun _ _ h=>h,⟨rfl,rfl,rfl,rfl,rfl,rfl⟩,fun _ _ h=>h,⟨rfl,rfl,rfl,rfl,rfl,rfl⟩,fun _ _ h=>h,⟨rfl,rfl,rfl,rfl,rfl,rfl⟩,fun _ _ h=>h,⟨rfl,rfl,rfl,rfl,rfl,rfl⟩,fun _ _ h=>h,⟨rfl,rfl,rfl,rfl,rfl,rfl⟩,⟨rfl,rfl,rfl,rfl,rfl,rfl⟩,trivial⟩ (by decide) rfl
  ·have hfr : froF o=1:=by unfold froF;rw [hf];rfl
   have kj : PureX Tryz.prog 36 [I o.2.2.1,I 3] (I 1):=by rw [← hf];exact aqu _ _ (by decide) (by decide)
   have hs : stF Q o 0 (froF o)=aki (Q 0) (Q 1):=by simp [stF,hk,hfr]
   rw [hs]
   refine CallM.of (m:=13) Tryz.func16 rfl aza rfl rfl rfl rfl (by simp [SV.wfs,SV.wf]) fun w M π hpre=>?_
   (conv=>whnf);repeat' (first|((with_reducible refine isC ?_);first|(((with_reducible refine isF 36 ?_);(first|(with_reducible refine azb kw ?_)|(with_reducible refine azb kk ?_)|(with_reducible refine azb kj ?_)));conv=>whnf))|((with_reducible refine isV ?_);first|((first|refine azf aza rfl (ArgSl.row 12 rfl) rfl ?_ ?_ ?_|(with_reducible refine azq ?_);refine azn _ _ (0) aza rfl rfl rfl (ArgSl.row 12 rfl) ?_ ?_ ?_|refine azp _ _ (0) aza rfl rfl rfl (ArgSl.row 12 rfl) ?_ ?_ ?_)<;>first|rfl|omega|with_reducible refine isP ?_|conv=>whnf))|with_reducible exact rfl|((with_reducible refine aze (by assumption) ?_);conv=>whnf)|((with_reducible refine azd ?_ ?_)<;>(intro hb;(try simp (disch:=omega) only [hbS] at hb)<;>conv=>whnf)))
   all_goals try (exfalso;omega)
   refine azl (av9 c0 c1 D0 D1 (Q 0) (Q 1) hD0 hD1 (hQ 1 (by omega)).2 (hG 1 (by omega))) [0,1,2,3,4,5,6,7] rfl ⟨fun _ _ h=>h,⟨rfl,rfl,rfl,rfl,rfl,rfl⟩,fun _ _ h=>h,⟨rfl,rfl,rfl,rfl,rfl,rfl⟩,fun _ _ h=>h,⟨rfl,rfl,rfl,rfl,rfl,rfl⟩,fun _ _ h=>h,⟨rfl,rfl,rfl,rfl,rfl,rfl⟩,trivial⟩ (by decide) (fun _ _ _ _=>trivial) ?_
   intro z
   (conv=>whnf);repeat' (first|with_reducible exact rfl|((with_reducible refine aze (by assumption) ?_);conv=>whnf)|((with_reducible refine azd ?_ ?_)<;>(intro hb;(try simp (disch:=omega) only [hbS] at hb)<;>conv=>whnf)))
   all_goals try (exfalso;omega)
   exact azv ⟨(z.1,D1,D2),⟨z.2,hD1,hD2⟩⟩ [0,1,2,3,4,5,6,7,8,9,10,11,12] ⟨rfl,by simp [SV.wf,SV.wfs]⟩ ⟨fun _ _ h=>h,⟨rfl,rfl,rfl,rfl,rfl,rfl⟩,fun _ _ h=>h,⟨rfl,rfl,rfl,rfl,rfl,rfl⟩,fun _ _ h=>h,⟨rfl,rfl,rfl,rfl,rfl,rfl⟩,fun _ _ h=>h,⟨rfl,rfl,rfl,rfl,rfl,rfl⟩,fun _ _ h=>h,⟨rfl,rfl,rfl,rfl,rfl,rfl⟩,fun _ _ h=>h,⟨rfl,rfl,rfl,rfl,rfl,rfl⟩,⟨rfl,rfl,rfl,rfl,rfl,rfl⟩,trivial⟩ (by decide) rfl
  ·have hfr : froF o=2:=by unfold froF;rw [hf];rfl
   have kj : PureX Tryz.prog 36 [I o.2.2.1,I 3] (I 2):=by rw [← hf];exact aqu _ _ (by decide) (by decide)
   have hs : stF Q o 0 (froF o)=aki (Q 0) (Q 2):=by simp [stF,hk,hfr]
   rw [hs]
   refine CallM.of (m:=13) Tryz.func16 rfl aza rfl rfl rfl rfl (by simp [SV.wfs,SV.wf]) fun w M π hpre=>?_
   (conv=>whnf);repeat' (first|((with_reducible refine isC ?_);first|(((with_reducible refine isF 36 ?_);(first|(with_reducible refine azb kw ?_)|(with_reducible refine azb kk ?_)|(with_reducible refine azb kj ?_)));conv=>whnf))|((with_reducible refine isV ?_);first|((first|refine azf aza rfl (ArgSl.row 12 rfl) rfl ?_ ?_ ?_|(with_reducible refine azq ?_);refine azn _ _ (0) aza rfl rfl rfl (ArgSl.row 12 rfl) ?_ ?_ ?_|refine azp _ _ (0) aza rfl rfl rfl (ArgSl.row 12 rfl) ?_ ?_ ?_)<;>first|rfl|omega|with_reducible refine isP ?_|conv=>whnf))|with_reducible exact rfl|((with_reducible refine aze (by assumption) ?_);conv=>whnf)|((with_reducible refine azd ?_ ?_)<;>(intro hb;(try simp (disch:=omega) only [hbS] at hb)<;>conv=>whnf)))
   all_goals try (exfalso;omega)
   refine azl (av9 c0 c2 D0 D2 (Q 0) (Q 2) hD0 hD2 (hQ 2 (by omega)).2 (hG 2 (by omega))) [0,1,2,3,8,9,10,11] rfl ⟨fun _ _ h=>h,⟨rfl,rfl,rfl,rfl,rfl,rfl⟩,fun _ _ h=>h,⟨rfl,rfl,rfl,rfl,rfl,rfl⟩,fun _ _ h=>h,⟨rfl,rfl,rfl,rfl,rfl,rfl⟩,fun _ _ h=>h,⟨rfl,rfl,rfl,rfl,rfl,rfl⟩,trivial⟩ (by decide) (fun _ _ _ _=>trivial) ?_
   intro z
   (conv=>whnf);repeat' (first|with_reducible exact rfl|((with_reducible refine aze (by assumption) ?_);conv=>whnf)|((with_reducible refine azd ?_ ?_)<;>(intro hb;(try simp (disch:=omega) only [hbS] at hb)<;>conv=>whnf)))
   all_goals try (exfalso;omega)
   exact azv ⟨(z.1,D1,D2),⟨z.2,hD1,hD2⟩⟩ [0,1,2,3,4,5,6,7,8,9,10,11,12] ⟨rfl,by simp [SV.wf,SV.wfs]⟩ ⟨fun _ _ h=>h,⟨rfl,rfl,rfl,rfl,rfl,rfl⟩,fun _ _ h=>h,⟨rfl,rfl,rfl,rfl,rfl,rfl⟩,fun _ _ h=>h,⟨rfl,rfl,rfl,rfl,rfl,rfl⟩,fun _ _ h=>h,⟨rfl,rfl,rfl,rfl,rfl,rfl⟩,fun _ _ h=>h,⟨rfl,rfl,rfl,rfl,rfl,rfl⟩,fun _ _ h=>h,⟨rfl,rfl,rfl,rfl,rfl,rfl⟩,⟨rfl,rfl,rfl,rfl,rfl,rfl⟩,trivial⟩ (by decide) rfl
set_option maxHeartbeats 16000000 in
theorem rDo1_m (c0 c1 c2 : RcT) (D : Rd3) (Q : Nat → SnT) (hD : okD3 Q D) (hQ : okQ Q) (hG : gdQ Q) (A : Option Addr) (cc : Nat) (o : FOp) (hw : o.2.1 % 3 = 1) (hn : o.2.2.2.2.1.2.2.length ≤ maxLen) :
 CallM Tryz.prog 16 [.v (.slice A 3 cc),foX o] (fun w M=>ArgN w M o.2.2.2.2.1.1 o.2.2.2.2.1.2.2.length 2 (o.2.2.2.2.1.2.2.map encBm)) [rsB c0 D.1 (Q 0),rsQ c0,raO c0.p D.1.R allT,rsR D.1 (Q 0),rsB c1 D.2.1 (Q 1),rsQ c1,raO c1.p D.2.1.R allT,rsR D.2.1 (Q 1),rsB c2 D.2.2 (Q 2),rsQ c2,raO c2.p D.2.2.R allT,rsR D.2.2 (Q 2),bj2 A cc c0.b c1.b c2.b]
 (fun _ : {D' : Rd3 // okD3 (doQ Q o) D'}=>I (erF o)) (fun q=>[rsB c0 q.1.1 (doQ Q o 0),rsQ c0,raO c0.p q.1.1.R allT,rsR q.1.1 (doQ Q o 0),rsB c1 q.1.2.1 (doQ Q o 1),rsQ c1,raO c1.p q.1.2.1.R allT,rsR q.1.2.1 (doQ Q o 1),rsB c2 q.1.2.2 (doQ Q o 2),rsQ c2,raO c2.p q.1.2.2.R allT,rsR q.1.2.2 (doQ Q o 2),bj2 A cc c0.b c1.b c2.b]):=by
 obtain ⟨D0,D1,D2⟩:=D
 obtain ⟨hD0,hD1,hD2⟩:=hD
 dsimp only at hD0 hD1 hD2 ⊢
 have hwh : whoF o=1:=by unfold whoF;rw [hw];rfl
 have kw : PureX Tryz.prog 36 [I o.2.1,I 3] (I 1):=by rw [← hw];exact aqu _ _ (by decide) (by decide)
 have hk4 : o.1 % 4=0∨o.1 % 4=1∨o.1 % 4=2∨o.1 % 4=3:=by omega
 have hf3 : o.2.2.1 % 3=0∨o.2.2.1 % 3=1∨o.2.2.1 % 3=2:=by omega
 have q1:=hQ 1 (by omega)
 unfold doQ
 rw [hwh]
 rcases hk4 with hk|hk|hk|hk
 ·have kk : PureX Tryz.prog 36 [I o.1,I 4] (I 0):=by rw [← hk];exact aqu _ _ (by decide) (by decide)
  have hs : stF Q o 1 (froF o)=({ Q 1 with ats:=updN (Q 1).ats 1 (putA ((Q 1).ats 1) o.2.2.2.1 o.2.2.2.2.1.2.2) } : SnT):=by simp [stF,hk]
  have he : erF o=putC o.2.2.2.1 o.2.2.2.2.1.2.2:=by simp [erF,hk]
  rw [hs,he]
  refine CallM.of (m:=13) Tryz.func16 rfl aza rfl rfl rfl rfl (by simp [SV.wfs,SV.wf]) fun w M π hpre=>?_
  (conv=>whnf);repeat' (first|((with_reducible refine isC ?_);first|(((with_reducible refine isF 36 ?_);(first|(with_reducible refine azb kw ?_)|(with_reducible refine azb kk ?_)));conv=>whnf))|((with_reducible refine isV ?_);first|((first|refine azf aza rfl (ArgSl.row 12 rfl) rfl ?_ ?_ ?_|(with_reducible refine azq ?_);refine azn _ _ (0) aza rfl rfl rfl (ArgSl.row 12 rfl) ?_ ?_ ?_|refine azp _ _ (0) aza rfl rfl rfl (ArgSl.row 12 rfl) ?_ ?_ ?_)<;>first|rfl|omega|with_reducible refine isP ?_|conv=>whnf))|with_reducible exact rfl|((with_reducible refine aze (by assumption) ?_);conv=>whnf)|((with_reducible refine azd ?_ ?_)<;>(intro hb;(try simp (disch:=omega) only [hbS] at hb)<;>conv=>whnf)))
  all_goals try (exfalso;omega)
  refine azl (ckg c1 D1 (Q 1) hD1 1 (by omega) q1.1 o.2.2.2.1 o.2.2.2.2.1.1 o.2.2.2.2.1.2.1 o.2.2.2.2.1.2.2 rfl hn) [4,5,6,7] rfl ⟨fun _ _ h=>h,⟨rfl,rfl,rfl,rfl,rfl,rfl⟩,fun _ _ h=>h,⟨rfl,rfl,rfl,rfl,rfl,rfl⟩,trivial⟩ (by decide) (ArgN.on hpre (by decide) (m:=4) (r:=[4,5,6,7]) (fun j hj=>by rcases (by omega : j=0∨j=1∨j=2∨j=3) with rfl|rfl|rfl|rfl<;>simp)) ?_
  intro z
  (conv=>whnf);repeat' (first|with_reducible exact rfl|((with_reducible refine aze (by assumption) ?_);conv=>whnf)|((with_reducible refine azd ?_ ?_)<;>(intro hb;(try simp (disch:=omega) only [hbS] at hb)<;>conv=>whnf)))
  all_goals try (exfalso;omega)
  exact azv ⟨(D0,z.1,D2),⟨hD0,z.2,hD2⟩⟩ [0,1,2,3,4,5,6,7,8,9,10,11,12] ⟨rfl,by simp [SV.wf,SV.wfs]⟩ ⟨fun _ _ h=>h,⟨rfl,rfl,rfl,rfl,rfl,rfl⟩,fun _ _ h=>h,⟨rfl,rfl,rfl,rfl,rfl,rfl⟩,fun _ _ h=>h,⟨rfl,rfl,rfl,rfl,rfl,rfl⟩,fun _ _ h=>h,⟨rfl,rfl,rfl,rfl,rfl,rfl⟩,fun _ _ h=>h,⟨rfl,rfl,rfl,rfl,rfl,rfl⟩,fun _ _ h=>h,⟨rfl,rfl,rfl,rfl,rfl,rfl⟩,⟨rfl,rfl,rfl,rfl,rfl,rfl⟩,trivial⟩ (by decide) rfl
 ·have kk : PureX Tryz.prog 36 [I o.1,I 4] (I 1):=by rw [← hk];exact aqu _ _ (by decide) (by decide)
  have hs : stF Q o 1 (froF o)=({ Q 1 with ats:=updN (Q 1).ats 1 (plcA ((Q 1).ats 1) o.2.2.2.1 o.2.2.2.2.2.1) } : SnT):=by simp [stF,hk]
  have he : erF o=plcC o.2.2.2.1 o.2.2.2.2.2.1:=by simp [erF,hk]
  rw [hs,he]
  refine CallM.of (m:=13) Tryz.func16 rfl aza rfl rfl rfl rfl (by simp [SV.wfs,SV.wf]) fun w M π hpre=>?_
  (conv=>whnf);repeat' (first|((with_reducible refine isC ?_);first|(((with_reducible refine isF 36 ?_);(first|(with_reducible refine azb kw ?_)|(with_reducible refine azb kk ?_)));conv=>whnf))|((with_reducible refine isV ?_);first|((first|refine azf aza rfl (ArgSl.row 12 rfl) rfl ?_ ?_ ?_|(with_reducible refine azq ?_);refine azn _ _ (0) aza rfl rfl rfl (ArgSl.row 12 rfl) ?_ ?_ ?_|refine azp _ _ (0) aza rfl rfl rfl (ArgSl.row 12 rfl) ?_ ?_ ?_)<;>first|rfl|omega|with_reducible refine isP ?_|conv=>whnf))|with_reducible exact rfl|((with_reducible refine aze (by assumption) ?_);conv=>whnf)|((with_reducible refine azd ?_ ?_)<;>(intro hb;(try simp (disch:=omega) only [hbS] at hb)<;>conv=>whnf)))
  all_goals try (exfalso;omega)
  refine azl (bj1 c1 D1 (Q 1) hD1 1 (by omega) q1.1 o.2.2.2.1 o.2.2.2.2.2.1) [4,5,6,7] rfl ⟨fun _ _ h=>h,⟨rfl,rfl,rfl,rfl,rfl,rfl⟩,fun _ _ h=>h,⟨rfl,rfl,rfl,rfl,rfl,rfl⟩,trivial⟩ (by decide) (fun _ _ _ _=>trivial) ?_
  intro z
  (conv=>whnf);repeat' (first|with_reducible exact rfl|((with_reducible refine aze (by assumption) ?_);conv=>whnf)|((with_reducible refine azd ?_ ?_)<;>(intro hb;(try simp (disch:=omega) only [hbS] at hb)<;>conv=>whnf)))
  all_goals try (exfalso;omega)
  exact azv ⟨(D0,z.1,D2),⟨hD0,z.2,hD2⟩⟩ [0,1,2,3,4,5,6,7,8,9,10,11,12] ⟨rfl,by simp [SV.wf,SV.wfs]⟩ ⟨fun _ _ h=>h,⟨rfl,rfl,rfl,rfl,rfl,rfl⟩,fun _ _ h=>h,⟨rfl,rfl,rfl,rfl,rfl,rfl⟩,fun _ _ h=>h,⟨rfl,rfl,rfl,rfl,rfl,rfl⟩,fun _ _ h=>h,⟨rfl,rfl,rfl,rfl,rfl,rfl⟩,fun _ _ h=>h,⟨rfl,rfl,rfl,rfl,rfl,rfl⟩,fun _ _ h=>h,⟨rfl,rfl,rfl,rfl,rfl,rfl⟩,⟨rfl,rfl,rfl,rfl,rfl,rfl⟩,trivial⟩ (by decide) rfl
 ·have kk : PureX Tryz.prog 36 [I o.1,I 4] (I 2):=by rw [← hk];exact aqu _ _ (by decide) (by decide)
  rcases Bool.eq_false_or_eq_true (aq1 o.2.2.2.2.2.2) with ha|ha
  ·have hs : stF Q o 1 (froF o)=axe (Q 1) o.2.2.2.2.2.2:=by simp [stF,hk,ha]
   have he : erF o=0:=by simp [erF,hk,ha]
   rw [hs,he]
   refine CallM.of (m:=13) Tryz.func16 rfl aza rfl rfl rfl rfl (by simp [SV.wfs,SV.wf]) fun w M π hpre=>?_
   (conv=>whnf);repeat' (first|((with_reducible refine isC ?_);first|(((with_reducible refine isF 36 ?_);(first|(with_reducible refine azb kw ?_)|(with_reducible refine azb kk ?_)));conv=>whnf))|((with_reducible refine isV ?_);first|((first|refine azf aza rfl (ArgSl.row 12 rfl) rfl ?_ ?_ ?_|(with_reducible refine azq ?_);refine azn _ _ (0) aza rfl rfl rfl (ArgSl.row 12 rfl) ?_ ?_ ?_|refine azp _ _ (0) aza rfl rfl rfl (ArgSl.row 12 rfl) ?_ ?_ ?_)<;>first|rfl|omega|with_reducible refine isP ?_|conv=>whnf))|with_reducible exact rfl|((with_reducible refine aze (by assumption) ?_);conv=>whnf)|((with_reducible refine azd ?_ ?_)<;>(intro hb;(try simp (disch:=omega) only [hbS] at hb)<;>conv=>whnf)))
   all_goals try (exfalso;omega)
   refine azl (awt c1 D1 (Q 1) hD1 o.2.2.2.2.2.2 ha) [4,5,6,7] rfl ⟨fun _ _ h=>h,⟨rfl,rfl,rfl,rfl,rfl,rfl⟩,fun _ _ h=>h,⟨rfl,rfl,rfl,rfl,rfl,rfl⟩,trivial⟩ (by decide) (fun _ _ _ _=>trivial) ?_
   intro z
   (conv=>whnf);repeat' (first|with_reducible exact rfl|((with_reducible refine aze (by assumption) ?_);conv=>whnf)|((with_reducible refine azd ?_ ?_)<;>(intro hb;(try simp (disch:=omega) only [hbS] at hb)<;>conv=>whnf)))
   all_goals try (exfalso;omega)
   exact azv ⟨(D0,z.1,D2),⟨hD0,z.2,hD2⟩⟩ [0,1,2,3,4,5,6,7,8,9,10,11,12] ⟨rfl,by simp [SV.wf,SV.wfs]⟩ ⟨fun _ _ h=>h,⟨rfl,rfl,rfl,rfl,rfl,rfl⟩,fun _ _ h=>h,⟨rfl,rfl,rfl,rfl,rfl,rfl⟩,fun _ _ h=>h,⟨rfl,rfl,rfl,rfl,rfl,rfl⟩,fun _ _ h=>h,⟨rfl,rfl,rfl,rfl,rfl,rfl⟩,fun _ _ h=>h,⟨rfl,rfl,rfl,rfl,rfl,rfl⟩,fun _ _ h=>h,⟨rfl,rfl,rfl,rfl,rfl,rfl⟩,⟨rfl,rfl,rfl,rfl,rfl,rfl⟩,trivial⟩ (by decide) rfl
  ·have hs : stF Q o 1 (froF o)=Q 1:=by simp [stF,hk,ha]
   have he : erF o=1:=by simp [erF,hk,ha]
   rw [hs,he]
   refine CallM.of (m:=13) Tryz.func16 rfl aza rfl rfl rfl rfl (by simp [SV.wfs,SV.wf]) fun w M π hpre=>?_
   (conv=>whnf);repeat' (first|((with_reducible refine isC ?_);first|(((with_reducible refine isF 36 ?_);(first|(with_reducible refine azb kw ?_)|(with_reducible refine azb kk ?_)));conv=>whnf))|((with_reducible refine isV ?_);first|((first|refine azf aza rfl (ArgSl.row 12 rfl) rfl ?_ ?_ ?_|(with_reducible refine azq ?_);refine azn _ _ (0) aza rfl rfl rfl (ArgSl.row 12 rfl) ?_ ?_ ?_|refine azp _ _ (0) aza rfl rfl rfl (ArgSl.row 12 rfl) ?_ ?_ ?_)<;>first|rfl|omega|with_reducible refine isP ?_|conv=>whnf))|with_reducible exact rfl|((with_reducible refine aze (by assumption) ?_);conv=>whnf)|((with_reducible refine azd ?_ ?_)<;>(intro hb;(try simp (disch:=omega) only [hbS] at hb)<;>conv=>whnf)))
   all_goals try (exfalso;omega)
   refine azl (awu c1 D1 (Q 1) hD1 o.2.2.2.2.2.2 ha) [4,5,6,7] rfl ⟨fun _ _ h=>h,⟨rfl,rfl,rfl,rfl,rfl,rfl⟩,fun _ _ h=>h,⟨rfl,rfl,rfl,rfl,rfl,rfl⟩,trivial⟩ (by decide) (fun _ _ _ _=>trivial) ?_
   intro z
   (conv=>whnf);repeat' (first|with_reducible exact rfl|((with_reducible refine aze (by assumption) ?_);conv=>whnf)|((with_reducible refine azd ?_ ?_)<;>(intro hb;(try simp (disch:=omega) only [hbS] at hb)<;>conv=>whnf)))
   all_goals try (exfalso;omega)
   exact azv ⟨(D0,z.1,D2),⟨hD0,z.2,hD2⟩⟩ [0,1,2,3,4,5,6,7,8,9,10,11,12] ⟨rfl,by simp [SV.wf,SV.wfs]⟩ ⟨fun _ _ h=>h,⟨rfl,rfl,rfl,rfl,rfl,rfl⟩,fun _ _ h=>h,⟨rfl,rfl,rfl,rfl,rfl,rfl⟩,fun _ _ h=>h,⟨rfl,rfl,rfl,rfl,rfl,rfl⟩,fun _ _ h=>h,⟨rfl,rfl,rfl,rfl,rfl,rfl⟩,fun _ _ h=>h,⟨rfl,rfl,rfl,rfl,rfl,rfl⟩,fun _ _ h=>h,⟨rfl,rfl,rfl,rfl,rfl,rfl⟩,⟨rfl,rfl,rfl,rfl,rfl,rfl⟩,trivial⟩ (by decide) rfl
 ·have kk : PureX Tryz.prog 36 [I o.1,I 4] (I 3):=by rw [← hk];exact aqu _ _ (by decide) (by decide)
  have he : erF o=0:=by simp [erF,hk]
  rw [he]
  rcases hf3 with hf|hf|hf
  ·have hfr : froF o=0:=by unfold froF;rw [hf];rfl
   have kj : PureX Tryz.prog 36 [I o.2.2.1,I 3] (I 0):=by rw [← hf];exact aqu _ _ (by decide) (by decide)
   have hs : stF Q o 1 (froF o)=aki (Q 1) (Q 0):=by simp [stF,hk,hfr]
   rw [hs]
   refine CallM.of (m:=13) Tryz.func16 rfl aza rfl rfl rfl rfl (by simp [SV.wfs,SV.wf]) fun w M π hpre=>?_
   (conv=>whnf);repeat' (first|((with_reducible refine isC ?_);first|(((with_reducible refine isF 36 ?_);(first|(with_reducible refine azb kw ?_)|(with_reducible refine azb kk ?_)|(with_reducible refine azb kj ?_)));conv=>whnf))|((with_reducible refine isV ?_);first|((first|refine azf aza rfl (ArgSl.row 12 rfl) rfl ?_ ?_ ?_|(with_reducible refine azq ?_);refine azn _ _ (0) aza rfl rfl rfl (ArgSl.row 12 rfl) ?_ ?_ ?_|refine azp _ _ (0) aza rfl rfl rfl (ArgSl.row 12 rfl) ?_ ?_ ?_)<;>first|rfl|omega|with_reducible refine isP ?_|conv=>whnf))|with_reducible exact rfl|((with_reducible refine aze (by assumption) ?_);conv=>whnf)|((with_reducible refine azd ?_ ?_)<;>(intro hb;(try simp (disch:=omega) only [hbS] at hb)<;>conv=>whnf)))
   all_goals try (exfalso;omega)
   refine azl (av9 c1 c0 D1 D0 (Q 1) (Q 0) hD1 hD0 (hQ 0 (by omega)).2 (hG 0 (by omega))) [4,5,6,7,0,1,2,3] rfl ⟨fun _ _ h=>h,⟨rfl,rfl,rfl,rfl,rfl,rfl⟩,fun _ _ h=>h,⟨rfl,rfl,rfl,rfl,rfl,rfl⟩,fun _ _ h=>h,⟨rfl,rfl,rfl,rfl,rfl,rfl⟩,fun _ _ h=>h,⟨rfl,rfl,rfl,rfl,rfl,rfl⟩,trivial⟩ (by decide) (fun _ _ _ _=>trivial) ?_
   intro z
   (conv=>whnf);repeat' (first|with_reducible exact rfl|((with_reducible refine aze (by assumption) ?_);conv=>whnf)|((with_reducible refine azd ?_ ?_)<;>(intro hb;(try simp (disch:=omega) only [hbS] at hb)<;>conv=>whnf)))
   all_goals try (exfalso;omega)
   exact azv ⟨(D0,z.1,D2),⟨hD0,z.2,hD2⟩⟩ [0,1,2,3,4,5,6,7,8,9,10,11,12] ⟨rfl,by simp [SV.wf,SV.wfs]⟩ ⟨fun _ _ h=>h,⟨rfl,rfl,rfl,rfl,rfl,rfl⟩,fun _ _ h=>h,⟨rfl,rfl,rfl,rfl,rfl,rfl⟩,fun _ _ h=>h,⟨rfl,rfl,rfl,rfl,rfl,rfl⟩,fun _ _ h=>h,⟨rfl,rfl,rfl,rfl,rfl,rfl⟩,fun _ _ h=>h,⟨rfl,rfl,rfl,rfl,rfl,rfl⟩,fun _ _ h=>h,⟨rfl,rfl,rfl,rfl,rfl,rfl⟩,⟨rfl,rfl,rfl,rfl,rfl,rfl⟩,trivial⟩ (by decide) rfl
  ·have hfr : froF o=1:=by unfold froF;rw [hf];rfl
   have kj : PureX Tryz.prog 36 [I o.2.2.1,I 3] (I 1):=by rw [← hf];exact aqu _ _ (by decide) (by decide)
   have hs : stF Q o 1 (froF o)=Q 1:=by simp [stF,hk,hfr]
   rw [hs]
   refine CallM.of (m:=13) Tryz.func16 rfl aza rfl rfl rfl rfl (by simp [SV.wfs,SV.wf]) fun w M π hpre=>?_
   (conv=>whnf);repeat' (first|((with_reducible refine isC ?_);first|(((with_reducible refine isF 36 ?_);(first|(with_reducible refine azb kw ?_)|(with_reducible refine azb kk ?_)|(with_reducible refine azb kj ?_)));conv=>whnf))|((with_reducible refine isV ?_);first|((first|refine azf aza rfl (ArgSl.row 12 rfl) rfl ?_ ?_ ?_|(with_reducible refine azq ?_);refine azn _ _ (0) aza rfl rfl rfl (ArgSl.row 12 rfl) ?_ ?_ ?_|refine azp _ _ (0) aza rfl rfl rfl (ArgSl.row 12 rfl) ?_ ?_ ?_)<;>first|rfl|omega|with_reducible refine isP ?_|conv=>whnf))|with_reducible exact rfl|((with_reducible refine aze (by assumption) ?_);conv=>whnf)|((with_reducible refine azd ?_ ?_)<;>(intro hb;(try simp (disch:=omega) only [hbS] at hb)<;>conv=>whnf)))
   all_goals try (exfalso;omega)
   refine azl (avv c1 D1 (Q 1) hD1 q1.2) [4,5,6,7] rfl ⟨fun _ _ h=>h,⟨rfl,rfl,rfl,rfl,rfl,rfl⟩,fun _ _ h=>h,⟨rfl,rfl,rfl,rfl,rfl,rfl⟩,trivial⟩ (by decide) (fun _ _ _ _=>trivial) ?_
   intro z
   (conv=>whnf);repeat' (first|with_reducible exact rfl|((with_reducible refine aze (by assumption) ?_);conv=>whnf)|((with_reducible refine azd ?_ ?_)<;>(intro hb;(try simp (disch:=omega) only [hbS] at hb)<;>conv=>whnf)))
   all_goals try (exfalso;omega)
   exact azv ⟨(D0,z.1,D2),⟨hD0,z.2,hD2⟩⟩ [0,1,2,3,4,5,6,7,8,9,10,11,12] ⟨rfl,by simp [SV.wf,SV.wfs]⟩ ⟨fun _ _ h=>h,⟨rfl,rfl,rfl,rfl,rfl,rfl⟩,fun _ _ h=>h,⟨rfl,rfl,rfl,rfl,rfl,rfl⟩,fun _ _ h=>h,⟨rfl,rfl,rfl,rfl,rfl,rfl⟩,fun _ _ h=>h,⟨rfl,rfl,rfl,rfl,rfl,rfl⟩,fun _ _ h=>h,⟨rfl,rfl,rfl,rfl,rfl,rfl⟩,fun _ _ h=>h,⟨rfl,rfl,rfl,rfl,rfl,rfl⟩,⟨rfl,rfl,rfl,rfl,rfl,rfl⟩,trivial⟩ (by decide) rfl
  ·have hfr : froF o=2:=by unfold froF;rw [hf];rfl
   have kj : PureX Tryz.prog 36 [I o.2.2.1,I 3] (I 2):=by rw [← hf];exact aqu _ _ (by decide) (by decide)
   have hs : stF Q o 1 (froF o)=aki (Q 1) (Q 2):=by simp [stF,hk,hfr]
   rw [hs]
   refine CallM.of (m:=13) Tryz.func16 rfl aza rfl rfl rfl rfl (by simp [SV.wfs,SV.wf]) fun w M π hpre=>?_
   (conv=>whnf);repeat' (first|((with_reducible refine isC ?_);first|(((with_reducible refine isF 36 ?_);(first|(with_reducible refine azb kw ?_)|(with_reducible refine azb kk ?_)|(with_reducible refine azb kj ?_)));conv=>whnf))|((with_reducible refine isV ?_);first|((first|refine azf aza rfl (ArgSl.row 12 rfl) rfl ?_ ?_ ?_|(with_reducible refine azq ?_);refine azn _ _ (0) aza rfl rfl rfl (ArgSl.row 12 rfl) ?_ ?_ ?_|refine azp _ _ (0) aza rfl rfl rfl (ArgSl.row 12 rfl) ?_ ?_ ?_)<;>first|rfl|omega|with_reducible refine isP ?_|conv=>whnf))|with_reducible exact rfl|((with_reducible refine aze (by assumption) ?_);conv=>whnf)|((with_reducible refine azd ?_ ?_)<;>(intro hb;(try simp (disch:=omega) only [hbS] at hb)<;>conv=>whnf)))
   all_goals try (exfalso;omega)
   refine azl (av9 c1 c2 D1 D2 (Q 1) (Q 2) hD1 hD2 (hQ 2 (by omega)).2 (hG 2 (by omega))) [4,5,6,7,8,9,10,11] rfl ⟨fun _ _ h=>h,⟨rfl,rfl,rfl,rfl,rfl,rfl⟩,fun _ _ h=>h,⟨rfl,rfl,rfl,rfl,rfl,rfl⟩,fun _ _ h=>h,⟨rfl,rfl,rfl,rfl,rfl,rfl⟩,fun _ _ h=>h,⟨rfl,rfl,rfl,rfl,rfl,rfl⟩,trivial⟩ (by decide) (fun _ _ _ _=>trivial) ?_
   intro z
   (conv=>whnf);repeat' (first|with_reducible exact rfl|((with_reducible refine aze (by assumption) ?_);conv=>whnf)|((with_reducible refine azd ?_ ?_)<;>(intro hb;(try simp (disch:=omega) only [hbS] at hb)<;>conv=>whnf)))
   all_goals try (exfalso;omega)
   exact azv ⟨(D0,z.1,D2),⟨hD0,z.2,hD2⟩⟩ [0,1,2,3,4,5,6,7,8,9,10,11,12] ⟨rfl,by simp [SV.wf,SV.wfs]⟩ ⟨fun _ _ h=>h,⟨rfl,rfl,rfl,rfl,rfl,rfl⟩,fun _ _ h=>h,⟨rfl,rfl,rfl,rfl,rfl,rfl⟩,fun _ _ h=>h,⟨rfl,rfl,rfl,rfl,rfl,rfl⟩,fun _ _ h=>h,⟨rfl,rfl,rfl,rfl,rfl,rfl⟩,fun _ _ h=>h,⟨rfl,rfl,rfl,rfl,rfl,rfl⟩,fun _ _ h=>h,⟨rfl,rfl,rfl,rfl,rfl,rfl⟩,⟨rfl,rfl,rfl,rfl,rfl,rfl⟩,trivial⟩ (by decide) rfl
set_option maxHeartbeats 16000000 in
theorem rDo2_m (c0 c1 c2 : RcT) (D : Rd3) (Q : Nat → SnT) (hD : okD3 Q D) (hQ : okQ Q) (hG : gdQ Q) (A : Option Addr) (cc : Nat) (o : FOp) (hw : o.2.1 % 3 = 2) (hn : o.2.2.2.2.1.2.2.length ≤ maxLen) :
 CallM Tryz.prog 16 [.v (.slice A 3 cc),foX o] (fun w M=>ArgN w M o.2.2.2.2.1.1 o.2.2.2.2.1.2.2.length 2 (o.2.2.2.2.1.2.2.map encBm)) [rsB c0 D.1 (Q 0),rsQ c0,raO c0.p D.1.R allT,rsR D.1 (Q 0),rsB c1 D.2.1 (Q 1),rsQ c1,raO c1.p D.2.1.R allT,rsR D.2.1 (Q 1),rsB c2 D.2.2 (Q 2),rsQ c2,raO c2.p D.2.2.R allT,rsR D.2.2 (Q 2),bj2 A cc c0.b c1.b c2.b]
 (fun _ : {D' : Rd3 // okD3 (doQ Q o) D'}=>I (erF o)) (fun q=>[rsB c0 q.1.1 (doQ Q o 0),rsQ c0,raO c0.p q.1.1.R allT,rsR q.1.1 (doQ Q o 0),rsB c1 q.1.2.1 (doQ Q o 1),rsQ c1,raO c1.p q.1.2.1.R allT,rsR q.1.2.1 (doQ Q o 1),rsB c2 q.1.2.2 (doQ Q o 2),rsQ c2,raO c2.p q.1.2.2.R allT,rsR q.1.2.2 (doQ Q o 2),bj2 A cc c0.b c1.b c2.b]):=by
 obtain ⟨D0,D1,D2⟩:=D
 obtain ⟨hD0,hD1,hD2⟩:=hD
 dsimp only at hD0 hD1 hD2 ⊢
 have hwh : whoF o=2:=by unfold whoF;rw [hw];rfl
 have kw : PureX Tryz.prog 36 [I o.2.1,I 3] (I 2):=by rw [← hw];exact aqu _ _ (by decide) (by decide)
 have hk4 : o.1 % 4=0∨o.1 % 4=1∨o.1 % 4=2∨o.1 % 4=3:=by omega
 have hf3 : o.2.2.1 % 3=0∨o.2.2.1 % 3=1∨o.2.2.1 % 3=2:=by omega
 have q2:=hQ 2 (by omega)
 unfold doQ
 rw [hwh]
 rcases hk4 with hk|hk|hk|hk
 ·have kk : PureX Tryz.prog 36 [I o.1,I 4] (I 0):=by rw [← hk];exact aqu _ _ (by decide) (by decide)
  have hs : stF Q o 2 (froF o)=({ Q 2 with ats:=updN (Q 2).ats 2 (putA ((Q 2).ats 2) o.2.2.2.1 o.2.2.2.2.1.2.2) } : SnT):=by simp [stF,hk]
  have he : erF o=putC o.2.2.2.1 o.2.2.2.2.1.2.2:=by simp [erF,hk]
  rw [hs,he]
  refine CallM.of (m:=13) Tryz.func16 rfl aza rfl rfl rfl rfl (by simp [SV.wfs,SV.wf]) fun w M π hpre=>?_
  (conv=>whnf);repeat' (first|((with_reducible refine isC ?_);first|(((with_reducible refine isF 36 ?_);(first|(with_reducible refine azb kw ?_)|(with_reducible refine azb kk ?_)));conv=>whnf))|((with_reducible refine isV ?_);first|((first|refine azf aza rfl (ArgSl.row 12 rfl) rfl ?_ ?_ ?_|(with_reducible refine azq ?_);refine azn _ _ (0) aza rfl rfl rfl (ArgSl.row 12 rfl) ?_ ?_ ?_|refine azp _ _ (0) aza rfl rfl rfl (ArgSl.row 12 rfl) ?_ ?_ ?_)<;>first|rfl|omega|with_reducible refine isP ?_|conv=>whnf))|with_reducible exact rfl|((with_reducible refine aze (by assumption) ?_);conv=>whnf)|((with_reducible refine azd ?_ ?_)<;>(intro hb;(try simp (disch:=omega) only [hbS] at hb)<;>conv=>whnf)))
  all_goals try (exfalso;omega)
  refine azl (ckg c2 D2 (Q 2) hD2 2 (by omega) q2.1 o.2.2.2.1 o.2.2.2.2.1.1 o.2.2.2.2.1.2.1 o.2.2.2.2.1.2.2 rfl hn) [8,9,10,11] rfl ⟨fun _ _ h=>h,⟨rfl,rfl,rfl,rfl,rfl,rfl⟩,fun _ _ h=>h,⟨rfl,rfl,rfl,rfl,rfl,rfl⟩,trivial⟩ (by decide) (ArgN.on hpre (by decide) (m:=4) (r:=[8,9,10,11]) (fun j hj=>by rcases (by omega : j=0∨j=1∨j=2∨j=3) with rfl|rfl|rfl|rfl<;>simp)) ?_
  intro z
  (conv=>whnf);repeat' (first|with_reducible exact rfl|((with_reducible refine aze (by assumption) ?_);conv=>whnf)|((with_reducible refine azd ?_ ?_)<;>(intro hb;(try simp (disch:=omega) only [hbS] at hb)<;>conv=>whnf)))
  all_goals try (exfalso;omega)
  exact azv ⟨(D0,D1,z.1),⟨hD0,hD1,z.2⟩⟩ [0,1,2,3,4,5,6,7,8,9,10,11,12] ⟨rfl,by simp [SV.wf,SV.wfs]⟩ ⟨fun _ _ h=>h,⟨rfl,rfl,rfl,rfl,rfl,rfl⟩,fun _ _ h=>h,⟨rfl,rfl,rfl,rfl,rfl,rfl⟩,fun _ _ h=>h,⟨rfl,rfl,rfl,rfl,rfl,rfl⟩,fun _ _ h=>h,⟨rfl,rfl,rfl,rfl,rfl,rfl⟩,fun _ _ h=>h,⟨rfl,rfl,rfl,rfl,rfl,rfl⟩,fun _ _ h=>h,⟨rfl,rfl,rfl,rfl,rfl,rfl⟩,⟨rfl,rfl,rfl,rfl,rfl,rfl⟩,trivial⟩ (by decide) rfl
 ·have kk : PureX Tryz.prog 36 [I o.1,I 4] (I 1):=by rw [← hk];exact aqu _ _ (by decide) (by decide)
  have hs : stF Q o 2 (froF o)=({ Q 2 with ats:=updN (Q 2).ats 2 (plcA ((Q 2).ats 2) o.2.2.2.1 o.2.2.2.2.2.1) } : SnT):=by simp [stF,hk]
  have he : erF o=plcC o.2.2.2.1 o.2.2.2.2.2.1:=by simp [erF,hk]
  rw [hs,he]
  refine CallM.of (m:=13) Tryz.func16 rfl aza rfl rfl rfl rfl (by simp [SV.wfs,SV.wf]) fun w M π hpre=>?_
  (conv=>whnf);repeat' (first|((with_reducible refine isC ?_);first|(((with_reducible refine isF 36 ?_);(first|(with_reducible refine azb kw ?_)|(with_reducible refine azb kk ?_)));conv=>whnf))|((with_reducible refine isV ?_);first|((first|refine azf aza rfl (ArgSl.row 12 rfl) rfl ?_ ?_ ?_|(with_reducible refine azq ?_);refine azn _ _ (0) aza rfl rfl rfl (ArgSl.row 12 rfl) ?_ ?_ ?_|refine azp _ _ (0) aza rfl rfl rfl (ArgSl.row 12 rfl) ?_ ?_ ?_)<;>first|rfl|omega|with_reducible refine isP ?_|conv=>whnf))|with_reducible exact rfl|((with_reducible refine aze (by assumption) ?_);conv=>whnf)|((with_reducible refine azd ?_ ?_)<;>(intro hb;(try simp (disch:=omega) only [hbS] at hb)<;>conv=>whnf)))
  all_goals try (exfalso;omega)
  refine azl (bj1 c2 D2 (Q 2) hD2 2 (by omega) q2.1 o.2.2.2.1 o.2.2.2.2.2.1) [8,9,10,11] rfl ⟨fun _ _ h=>h,⟨rfl,rfl,rfl,rfl,rfl,rfl⟩,fun _ _ h=>h,⟨rfl,rfl,rfl,rfl,rfl,rfl⟩,trivial⟩ (by decide) (fun _ _ _ _=>trivial) ?_
  intro z
  (conv=>whnf);repeat' (first|with_reducible exact rfl|((with_reducible refine aze (by assumption) ?_);conv=>whnf)|((with_reducible refine azd ?_ ?_)<;>(intro hb;(try simp (disch:=omega) only [hbS] at hb)<;>conv=>whnf)))
  all_goals try (exfalso;omega)
  exact azv ⟨(D0,D1,z.1),⟨hD0,hD1,z.2⟩⟩ [0,1,2,3,4,5,6,7,8,9,10,11,12] ⟨rfl,by simp [SV.wf,SV.wfs]⟩ ⟨fun _ _ h=>h,⟨rfl,rfl,rfl,rfl,rfl,rfl⟩,fun _ _ h=>h,⟨rfl,rfl,rfl,rfl,rfl,rfl⟩,fun _ _ h=>h,⟨rfl,rfl,rfl,rfl,rfl,rfl⟩,fun _ _ h=>h,⟨rfl,rfl,rfl,rfl,rfl,rfl⟩,fun _ _ h=>h,⟨rfl,rfl,rfl,rfl,rfl,rfl⟩,fun _ _ h=>h,⟨rfl,rfl,rfl,rfl,rfl,rfl⟩,⟨rfl,rfl,rfl,rfl,rfl,rfl⟩,trivial⟩ (by decide) rfl
 ·have kk : PureX Tryz.prog 36 [I o.1,I 4] (I 2):=by rw [← hk];exact aqu _ _ (by decide) (by decide)
  rcases Bool.eq_false_or_eq_true (aq1 o.2.2.2.2.2.2) with ha|ha
  ·have hs : stF Q o 2 (froF o)=axe (Q 2) o.2.2.2.2.2.2:=by simp [stF,hk,ha]
   have he : erF o=0:=by simp [erF,hk,ha]
   rw [hs,he]
   refine CallM.of (m:=13) Tryz.func16 rfl aza rfl rfl rfl rfl (by simp [SV.wfs,SV.wf]) fun w M π hpre=>?_
   (conv=>whnf);repeat' (first|((with_reducible refine isC ?_);first|(((with_reducible refine isF 36 ?_);(first|(with_reducible refine azb kw ?_)|(with_reducible refine azb kk ?_)));conv=>whnf))|((with_reducible refine isV ?_);first|((first|refine azf aza rfl (ArgSl.row 12 rfl) rfl ?_ ?_ ?_|(with_reducible refine azq ?_);refine azn _ _ (0) aza rfl rfl rfl (ArgSl.row 12 rfl) ?_ ?_ ?_|refine azp _ _ (0) aza rfl rfl rfl (ArgSl.row 12 rfl) ?_ ?_ ?_)<;>first|rfl|omega|with_reducible refine isP ?_|conv=>whnf))|with_reducible exact rfl|((with_reducible refine aze (by assumption) ?_);conv=>whnf)|((with_reducible refine azd ?_ ?_)<;>(intro hb;(try simp (disch:=omega) only [hbS] at hb)<;>conv=>whnf)))
   all_goals try (exfalso;omega)
   refine azl (awt c2 D2 (Q 2) hD2 o.2.2.2.2.2.2 ha) [8,9,10,11] rfl ⟨fun _ _ h=>h,⟨rfl,rfl,rfl,rfl,rfl,rfl⟩,fun _ _ h=>h,⟨rfl,rfl,rfl,rfl,rfl,rfl⟩,trivial⟩ (by decide) (fun _ _ _ _=>trivial) ?_
   intro z
   (conv=>whnf);repeat' (first|with_reducible exact rfl|((with_reducible refine aze (by assumption) ?_);conv=>whnf)|((with_reducible refine azd ?_ ?_)<;>(intro hb;(try simp (disch:=omega) only [hbS] at hb)<;>conv=>whnf)))
   all_goals try (exfalso;omega)
   exact azv ⟨(D0,D1,z.1),⟨hD0,hD1,z.2⟩⟩ [0,1,2,3,4,5,6,7,8,9,10,11,12] ⟨rfl,by simp [SV.wf,SV.wfs]⟩ ⟨fun _ _ h=>h,⟨rfl,rfl,rfl,rfl,rfl,rfl⟩,fun _ _ h=>h,⟨rfl,rfl,rfl,rfl,rfl,rfl⟩,fun _ _ h=>h,⟨rfl,rfl,rfl,rfl,rfl,rfl⟩,fun _ _ h=>h,⟨rfl,rfl,rfl,rfl,rfl,rfl⟩,fun _ _ h=>h,⟨rfl,rfl,rfl,rfl,rfl,rfl⟩,fun _ _ h=>h,⟨rfl,rfl,rfl,rfl,rfl,rfl⟩,⟨rfl,rfl,rfl,rfl,rfl,rfl⟩,trivial⟩ (by decide) rfl
  ·have hs : stF Q o 2 (froF o)=Q 2:=by simp [stF,hk,ha]
   have he : erF o=1:=by simp [erF,hk,ha]
   rw [hs,he]
   refine CallM.of (m:=13) Tryz.func16 rfl aza rfl rfl rfl rfl (by simp [SV.wfs,SV.wf]) fun w M π hpre=>?_
   (conv=>whnf);repeat' (first|((with_reducible refine isC ?_);first|(((with_reducible refine isF 36 ?_);(first|(with_reducible refine azb kw ?_)|(with_reducible refine azb kk ?_)));conv=>whnf))|((with_reducible refine isV ?_);first|((first|refine azf aza rfl (ArgSl.row 12 rfl) rfl ?_ ?_ ?_|(with_reducible refine azq ?_);refine azn _ _ (0) aza rfl rfl rfl (ArgSl.row 12 rfl) ?_ ?_ ?_|refine azp _ _ (0) aza rfl rfl rfl (ArgSl.row 12 rfl) ?_ ?_ ?_)<;>first|rfl|omega|with_reducible refine isP ?_|conv=>whnf))|with_reducible exact rfl|((with_reducible refine aze (by assumption) ?_);conv=>whnf)|((with_reducible refine azd ?_ ?_)<;>(intro hb;(try simp (disch:=omega) only [hbS] at hb)<;>conv=>whnf)))
   all_goals try (exfalso;omega)
   refine azl (awu c2 D2 (Q 2) hD2 o.2.2.2.2.2.2 ha) [8,9,10,11] rfl ⟨fun _ _ h=>h,⟨rfl,rfl,rfl,rfl,rfl,rfl⟩,fun _ _ h=>h,⟨rfl,rfl,rfl,rfl,rfl,rfl⟩,trivial⟩ (by decide) (fun _ _ _ _=>trivial) ?_
   intro z
   (conv=>whnf);repeat' (first|with_reducible exact rfl|((with_reducible refine aze (by assumption) ?_);conv=>whnf)|((with_reducible refine azd ?_ ?_)<;>(intro hb;(try simp (disch:=omega) only [hbS] at hb)<;>conv=>whnf)))
   all_goals try (exfalso;omega)
   exact azv ⟨(D0,D1,z.1),⟨hD0,hD1,z.2⟩⟩ [0,1,2,3,4,5,6,7,8,9,10,11,12] ⟨rfl,by simp [SV.wf,SV.wfs]⟩ ⟨fun _ _ h=>h,⟨rfl,rfl,rfl,rfl,rfl,rfl⟩,fun _ _ h=>h,⟨rfl,rfl,rfl,rfl,rfl,rfl⟩,fun _ _ h=>h,⟨rfl,rfl,rfl,rfl,rfl,rfl⟩,fun _ _ h=>h,⟨rfl,rfl,rfl,rfl,rfl,rfl⟩,fun _ _ h=>h,⟨rfl,rfl,rfl,rfl,rfl,rfl⟩,fun _ _ h=>h,⟨rfl,rfl,rfl,rfl,rfl,rfl⟩,⟨rfl,rfl,rfl,rfl,rfl,rfl⟩,trivial⟩ (by decide) rfl
 ·have kk : PureX Tryz.prog 36 [I o.1,I 4] (I 3):=by rw [← hk];exact aqu _ _ (by decide) (by decide)
  have he : erF o=0:=by simp [erF,hk]
  rw [he]
  rcases hf3 with hf|hf|hf
  ·have hfr : froF o=0:=by unfold froF;rw [hf];rfl
   have kj : PureX Tryz.prog 36 [I o.2.2.1,I 3] (I 0):=by rw [← hf];exact aqu _ _ (by decide) (by decide)
   have hs : stF Q o 2 (froF o)=aki (Q 2) (Q 0):=by simp [stF,hk,hfr]
   rw [hs]
   refine CallM.of (m:=13) Tryz.func16 rfl aza rfl rfl rfl rfl (by simp [SV.wfs,SV.wf]) fun w M π hpre=>?_
   (conv=>whnf);repeat' (first|((with_reducible refine isC ?_);first|(((with_reducible refine isF 36 ?_);(first|(with_reducible refine azb kw ?_)|(with_reducible refine azb kk ?_)|(with_reducible refine azb kj ?_)));conv=>whnf))|((with_reducible refine isV ?_);first|((first|refine azf aza rfl (ArgSl.row 12 rfl) rfl ?_ ?_ ?_|(with_reducible refine azq ?_);refine azn _ _ (0) aza rfl rfl rfl (ArgSl.row 12 rfl) ?_ ?_ ?_|refine azp _ _ (0) aza rfl rfl rfl (ArgSl.row 12 rfl) ?_ ?_ ?_)<;>first|rfl|omega|with_reducible refine isP ?_|conv=>whnf))|with_reducible exact rfl|((with_reducible refine aze (by assumption) ?_);conv=>whnf)|((with_reducible refine azd ?_ ?_)<;>(intro hb;(try simp (disch:=omega) only [hbS] at hb)<;>conv=>whnf)))
   all_goals try (exfalso;omega)
   refine azl (av9 c2 c0 D2 D0 (Q 2) (Q 0) hD2 hD0 (hQ 0 (by omega)).2 (hG 0 (by omega))) [8,9,10,11,0,1,2,3] rfl ⟨fun _ _ h=>h,⟨rfl,rfl,rfl,rfl,rfl,rfl⟩,fun _ _ h=>h,⟨rfl,rfl,rfl,rfl,rfl,rfl⟩,fun _ _ h=>h,⟨rfl,rfl,rfl,rfl,rfl,rfl⟩,fun _ _ h=>h,⟨rfl,rfl,rfl,rfl,rfl,rfl⟩,trivial⟩ (by decide) (fun _ _ _ _=>trivial) ?_
   intro z
   (conv=>whnf);repeat' (first|with_reducible exact rfl|((with_reducible refine aze (by assumption) ?_);conv=>whnf)|((with_reducible refine azd ?_ ?_)<;>(intro hb;(try simp (disch:=omega) only [hbS] at hb)<;>conv=>whnf)))
   all_goals try (exfalso;omega)
   exact azv ⟨(D0,D1,z.1),⟨hD0,hD1,z.2⟩⟩ [0,1,2,3,4,5,6,7,8,9,10,11,12] ⟨rfl,by simp [SV.wf,SV.wfs]⟩ ⟨fun _ _ h=>h,⟨rfl,rfl,rfl,rfl,rfl,rfl⟩,fun _ _ h=>h,⟨rfl,rfl,rfl,rfl,rfl,rfl⟩,fun _ _ h=>h,⟨rfl,rfl,rfl,rfl,rfl,rfl⟩,fun _ _ h=>h,⟨rfl,rfl,rfl,rfl,rfl,rfl⟩,fun _ _ h=>h,⟨rfl,rfl,rfl,rfl,rfl,rfl⟩,fun _ _ h=>h,⟨rfl,rfl,rfl,rfl,rfl,rfl⟩,⟨rfl,rfl,rfl,rfl,rfl,rfl⟩,trivial⟩ (by decide) rfl
  ·have hfr : froF o=1:=by unfold froF;rw [hf];rfl
   have kj : PureX Tryz.prog 36 [I o.2.2.1,I 3] (I 1):=by rw [← hf];exact aqu _ _ (by decide) (by decide)
   have hs : stF Q o 2 (froF o)=aki (Q 2) (Q 1):=by simp [stF,hk,hfr]
   rw [hs]
   refine CallM.of (m:=13) Tryz.func16 rfl aza rfl rfl rfl rfl (by simp [SV.wfs,SV.wf]) fun w M π hpre=>?_
   (conv=>whnf);repeat' (first|((with_reducible refine isC ?_);first|(((with_reducible refine isF 36 ?_);(first|(with_reducible refine azb kw ?_)|(with_reducible refine azb kk ?_)|(with_reducible refine azb kj ?_)));conv=>whnf))|((with_reducible refine isV ?_);first|((first|refine azf aza rfl (ArgSl.row 12 rfl) rfl ?_ ?_ ?_|(with_reducible refine azq ?_);refine azn _ _ (0) aza rfl rfl rfl (ArgSl.row 12 rfl) ?_ ?_ ?_|refine azp _ _ (0) aza rfl rfl rfl (ArgSl.row 12 rfl) ?_ ?_ ?_)<;>first|rfl|omega|with_reducible refine isP ?_|conv=>whnf))|with_reducible exact rfl|((with_reducible refine aze (by assumption) ?_);conv=>whnf)|((with_reducible refine azd ?_ ?_)<;>(intro hb;(try simp (disch:=omega) only [hbS] at hb)<;>conv=>whnf)))
   all_goals try (exfalso;omega)
   refine azl (av9 c2 c1 D2 D1 (Q 2) (Q 1) hD2 hD1 (hQ 1 (by omega)).2 (hG 1 (by omega))) [8,9,10,11,4,5,6,7] rfl ⟨fun _ _ h=>h,⟨rfl,rfl,rfl,rfl,rfl,rfl⟩,fun _ _ h=>h,⟨rfl,rfl,rfl,rfl,rfl,rfl⟩,fun _ _ h=>h,⟨rfl,rfl,rfl,rfl,rfl,rfl⟩,fun _ _ h=>h,⟨rfl,rfl,rfl,rfl,rfl,rfl⟩,trivial⟩ (by decide) (fun _ _ _ _=>trivial) ?_
   intro z
   (conv=>whnf);repeat' (first|with_reducible exact rfl|((with_reducible refine aze (by assumption) ?_);conv=>whnf)|((with_reducible refine azd ?_ ?_)<;>(intro hb;(try simp (disch:=omega) only [hbS] at hb)<;>conv=>whnf)))
   all_goals try (exfalso;omega)
   exact azv ⟨(D0,D1,z.1),⟨hD0,hD1,z.2⟩⟩ [0,1,2,3,4,5,6,7,8,9,10,11,12] ⟨rfl,by simp [SV.wf,SV.wfs]⟩ ⟨fun _ _ h=>h,⟨rfl,rfl,rfl,rfl,rfl,rfl⟩,fun _ _ h=>h,⟨rfl,rfl,rfl,rfl,rfl,rfl⟩,fun _ _ h=>h,⟨rfl,rfl,rfl,rfl,rfl,rfl⟩,fun _ _ h=>h,⟨rfl,rfl,rfl,rfl,rfl,rfl⟩,fun _ _ h=>h,⟨rfl,rfl,rfl,rfl,rfl,rfl⟩,fun _ _ h=>h,⟨rfl,rfl,rfl,rfl,rfl,rfl⟩,⟨rfl,rfl,rfl,rfl,rfl,rfl⟩,trivial⟩ (by decide) rfl
  ·have hfr : froF o=2:=by unfold froF;rw [hf];rfl
   have kj : PureX Tryz.prog 36 [I o.2.2.1,I 3] (I 2):=by rw [← hf];exact aqu _ _ (by decide) (by decide)
   have hs : stF Q o 2 (froF o)=Q 2:=by simp [stF,hk,hfr]
   rw [hs]
   refine CallM.of (m:=13) Tryz.func16 rfl aza rfl rfl rfl rfl (by simp [SV.wfs,SV.wf]) fun w M π hpre=>?_
   (conv=>whnf);repeat' (first|((with_reducible refine isC ?_);first|(((with_reducible refine isF 36 ?_);(first|(with_reducible refine azb kw ?_)|(with_reducible refine azb kk ?_)|(with_reducible refine azb kj ?_)));conv=>whnf))|((with_reducible refine isV ?_);first|((first|refine azf aza rfl (ArgSl.row 12 rfl) rfl ?_ ?_ ?_|(with_reducible refine azq ?_);refine azn _ _ (0) aza rfl rfl rfl (ArgSl.row 12 rfl) ?_ ?_ ?_|refine azp _ _ (0) aza rfl rfl rfl (ArgSl.row 12 rfl) ?_ ?_ ?_)<;>first|rfl|omega|with_reducible refine isP ?_|conv=>whnf))|with_reducible exact rfl|((with_reducible refine aze (by assumption) ?_);conv=>whnf)|((with_reducible refine azd ?_ ?_)<;>(intro hb;(try simp (disch:=omega) only [hbS] at hb)<;>conv=>whnf)))
   all_goals try (exfalso;omega)
   refine azl (avv c2 D2 (Q 2) hD2 q2.2) [8,9,10,11] rfl ⟨fun _ _ h=>h,⟨rfl,rfl,rfl,rfl,rfl,rfl⟩,fun _ _ h=>h,⟨rfl,rfl,rfl,rfl,rfl,rfl⟩,trivial⟩ (by decide) (fun _ _ _ _=>trivial) ?_
   intro z
   (conv=>whnf);repeat' (first|with_reducible exact rfl|((with_reducible refine aze (by assumption) ?_);conv=>whnf)|((with_reducible refine azd ?_ ?_)<;>(intro hb;(try simp (disch:=omega) only [hbS] at hb)<;>conv=>whnf)))
   all_goals try (exfalso;omega)
   exact azv ⟨(D0,D1,z.1),⟨hD0,hD1,z.2⟩⟩ [0,1,2,3,4,5,6,7,8,9,10,11,12] ⟨rfl,by simp [SV.wf,SV.wfs]⟩ ⟨fun _ _ h=>h,⟨rfl,rfl,rfl,rfl,rfl,rfl⟩,fun _ _ h=>h,⟨rfl,rfl,rfl,rfl,rfl,rfl⟩,fun _ _ h=>h,⟨rfl,rfl,rfl,rfl,rfl,rfl⟩,fun _ _ h=>h,⟨rfl,rfl,rfl,rfl,rfl,rfl⟩,fun _ _ h=>h,⟨rfl,rfl,rfl,rfl,rfl,rfl⟩,fun _ _ h=>h,⟨rfl,rfl,rfl,rfl,rfl,rfl⟩,⟨rfl,rfl,rfl,rfl,rfl,rfl⟩,trivial⟩ (by decide) rfl
theorem rDo_m (c0 c1 c2 : RcT) (D : Rd3) (Q : Nat → SnT) (hD : okD3 Q D) (hQ : okQ Q) (hG : gdQ Q) (A : Option Addr) (cc : Nat) (o : FOp) (hn : o.2.2.2.2.1.2.2.length ≤ maxLen) :
 CallM Tryz.prog 16 [.v (.slice A 3 cc),foX o] (fun w M=>ArgN w M o.2.2.2.2.1.1 o.2.2.2.2.1.2.2.length 2 (o.2.2.2.2.1.2.2.map encBm)) [rsB c0 D.1 (Q 0),rsQ c0,raO c0.p D.1.R allT,rsR D.1 (Q 0),rsB c1 D.2.1 (Q 1),rsQ c1,raO c1.p D.2.1.R allT,rsR D.2.1 (Q 1),rsB c2 D.2.2 (Q 2),rsQ c2,raO c2.p D.2.2.R allT,rsR D.2.2 (Q 2),bj2 A cc c0.b c1.b c2.b]
 (fun _ : {D' : Rd3 // okD3 (doQ Q o) D'}=>I (erF o)) (fun q=>[rsB c0 q.1.1 (doQ Q o 0),rsQ c0,raO c0.p q.1.1.R allT,rsR q.1.1 (doQ Q o 0),rsB c1 q.1.2.1 (doQ Q o 1),rsQ c1,raO c1.p q.1.2.1.R allT,rsR q.1.2.1 (doQ Q o 1),rsB c2 q.1.2.2 (doQ Q o 2),rsQ c2,raO c2.p q.1.2.2.R allT,rsR q.1.2.2 (doQ Q o 2),bj2 A cc c0.b c1.b c2.b]):=by
 rcases (by omega : o.2.1 % 3=0∨o.2.1 % 3=1∨o.2.1 % 3=2) with h|h|h
 ·exact rDo0_m c0 c1 c2 D Q hD hQ hG A cc o h hn
 ·exact rDo1_m c0 c1 c2 D Q hD hQ hG A cc o h hn
 ·exact rDo2_m c0 c1 c2 D Q hD hQ hG A cc o h hn
end Go.Proofs.YtlnplelandimeaaGreat.En
end
