import Derived.Test.YtlnplelandimeaaGreatZFleetViews32
set_option linter.all false
section
namespace Go.Proofs.YtlnplelandimeaaGreat.En
open Go.RowKit
set_option maxRecDepth 100000
def ptrV (b : Nat) : Value := .pointer (some ⟨b, 0, none⟩)
abbrev ptsO (A : Option Addr) (cc : Nat) (b0 b1 b2 : Nat) : OB := .row 45 1 A 3 cc ([b0, b1, b2].map fun b => [ptrV b])
abbrev Co3 := CoT × CoT × CoT
set_option maxHeartbeats 4000000 in
theorem three_m : CallM Tryz.prog 13 [] (fun _ _ => True) [] (fun q : (Nat × CoT) × (Nat × CoT) × (Nat × CoT) × (Option Addr × Nat) => .v (.slice q.2.2.2.1 3 q.2.2.2.2))
 (fun q=>[stO q.1.1 q.1.2 (sn0 0) allT,stO q.2.1.1 q.2.1.2 (sn0 1) allT,stO q.2.2.1.1 q.2.2.1.2 (sn0 2) allT,ptsO q.2.2.2.1 q.2.2.2.2 q.1.1 q.2.1.1 q.2.2.1.1]):=by
 have k0 : CallM Tryz.prog 40 [I 0] (fun _ _=>True) [] (fun q : Nat × CoT=>.t [pR q.1,I 0]) (fun q=>[stO q.1 q.2 (sn0 0) allT]):=cvz 0 (by omega)
 have k1 : CallM Tryz.prog 40 [I 1] (fun _ _=>True) [] (fun q : Nat × CoT=>.t [pR q.1,I 0]) (fun q=>[stO q.1 q.2 (sn0 1) allT]):=cvz 1 (by omega)
 have k2 : CallM Tryz.prog 40 [I 2] (fun _ _=>True) [] (fun q : Nat × CoT=>.t [pR q.1,I 0]) (fun q=>[stO q.1 q.2 (sn0 2) allT]):=cvz 2 (by omega)
 refine CallM.of (m:=0) Tryz.func13 rfl aza rfl rfl rfl rfl (by simp [SV.wfs,SV.wf]) fun w M π _=>?_
 (conv=>whnf);repeat' (first|((with_reducible refine isO ?_);first|((first|(refine azh aza rfl rfl rfl ?_);intro bN|(refine azm aza rfl rfl rfl rfl rfl ?_);intro bN);conv=>whnf))|with_reducible exact rfl|((with_reducible refine aze (by assumption) ?_);conv=>whnf)|((with_reducible refine azd ?_ ?_)<;>(intro hb;(try simp (disch:=omega) only [hbS] at hb)<;>conv=>whnf)))
 refine azl k0 [] rfl trivial (by decide) (fun _ _ _ _=>trivial) ?_
 rintro ⟨b0,c0⟩
 dsimp only
 (conv=>whnf);repeat' (first|((with_reducible refine isO ?_);first|((first|(refine azh aza rfl rfl rfl ?_);intro bN|(refine azm aza rfl rfl rfl rfl rfl ?_);intro bN);conv=>whnf))|with_reducible exact rfl|((with_reducible refine aze (by assumption) ?_);conv=>whnf)|((with_reducible refine azd ?_ ?_)<;>(intro hb;(try simp (disch:=omega) only [hbS] at hb)<;>conv=>whnf)))
 refine azl k1 [] rfl trivial (by decide) (fun _ _ _ _=>trivial) ?_
 rintro ⟨b1,c1⟩
 dsimp only
 (conv=>whnf);repeat' (first|((with_reducible refine isO ?_);first|((first|(refine azh aza rfl rfl rfl ?_);intro bN|(refine azm aza rfl rfl rfl rfl rfl ?_);intro bN);conv=>whnf))|with_reducible exact rfl|((with_reducible refine aze (by assumption) ?_);conv=>whnf)|((with_reducible refine azd ?_ ?_)<;>(intro hb;(try simp (disch:=omega) only [hbS] at hb)<;>conv=>whnf)))
 refine azl k2 [] rfl trivial (by decide) (fun _ _ _ _=>trivial) ?_
 rintro ⟨b2,c2⟩
 dsimp only
 (conv=>whnf);repeat' (first|((with_reducible refine isO ?_);first|((first|(refine azh aza rfl rfl rfl ?_);intro bN|(refine azm aza rfl rfl rfl rfl rfl ?_);intro bN);conv=>whnf))|with_reducible exact rfl|((with_reducible refine aze (by assumption) ?_);conv=>whnf)|((with_reducible refine azd ?_ ?_)<;>(intro hb;(try simp (disch:=omega) only [hbS] at hb)<;>conv=>whnf)))
 exact azv ((b0,c0),(b1,c1),(b2,c2),some ⟨bN,0,none⟩,3) [0,1,2,3] ⟨rfl,by simp [SV.wf,SV.wfs]⟩ ⟨fun _ _ h=>h,fun _ _ h=>h,fun _ _ h=>h,⟨rfl,rfl,rfl,rfl,rfl,rfl⟩,trivial⟩ (by decide) rfl
def stF (Q : Nat → SnT) (o : FOp) (i j : Nat) : SnT :=
 if o.1 % 4=0 then { Q i with ats:=updN (Q i).ats i (putA ((Q i).ats i) o.2.2.2.1 o.2.2.2.2.1.2.2) }
 else if o.1 % 4=1 then { Q i with ats:=updN (Q i).ats i (plcA ((Q i).ats i) o.2.2.2.1 o.2.2.2.2.2.1) }
 else if o.1 % 4=2 then (if aq1 o.2.2.2.2.2.2 then axe (Q i) o.2.2.2.2.2.2 else Q i)
 else if i=j then Q i else aki (Q i) (Q j)
def erF (o : FOp) : Int :=
 if o.1 % 4=0 then putC o.2.2.2.1 o.2.2.2.2.1.2.2 else if o.1 % 4=1 then plcC o.2.2.2.1 o.2.2.2.2.2.1 else if o.1 % 4=2 then (if aq1 o.2.2.2.2.2.2 then 0 else 1) else 0
def whoF (o : FOp) : Nat := (o.2.1 % 3).toNat
def froF (o : FOp) : Nat := (o.2.2.1 % 3).toNat
def doQ (Q : Nat → SnT) (o : FOp) : Nat → SnT := updN Q (whoF o) (stF Q o (whoF o) (froF o))
def okQ (Q : Nat → SnT) : Prop := ∀ i, i < 3 → (Q i).me = i ∧ wfS (Q i)
set_option maxHeartbeats 16000000 in
theorem do0_m (b0 b1 b2 : Nat) (c0 c1 c2 : CoT) (Q : Nat → SnT) (hQ : okQ Q) (A : Option Addr) (cc : Nat) (o : FOp) (hw : o.2.1 % 3 = 0) (hn : o.2.2.2.2.1.2.2.length ≤ maxLen) :
 CallM Tryz.prog 15 [.v (.slice A 3 cc),foX o] (fun w M=>ArgN w M o.2.2.2.2.1.1 o.2.2.2.2.1.2.2.length 2 (o.2.2.2.2.1.2.2.map encBm)) [stO b0 c0 (Q 0) allT,stO b1 c1 (Q 1) allT,stO b2 c2 (Q 2) allT,ptsO A cc b0 b1 b2]
 (fun _ : Co3=>I (erF o)) (fun cs=>[stO b0 cs.1 (doQ Q o 0) allT,stO b1 cs.2.1 (doQ Q o 1) allT,stO b2 cs.2.2 (doQ Q o 2) allT,ptsO A cc b0 b1 b2]):=by
 have hwh : whoF o=0:=by unfold whoF;rw [hw];rfl
 have kw : PureX Tryz.prog 36 [I o.2.1,I 3] (I 0):=by rw [← hw];exact aqu _ _ (by decide) (by decide)
 have hk4 : o.1 % 4=0∨o.1 % 4=1∨o.1 % 4=2∨o.1 % 4=3:=by omega
 have hf3 : o.2.2.1 % 3=0∨o.2.2.1 % 3=1∨o.2.2.1 % 3=2:=by omega
 have q0:=hQ 0 (by omega)
 unfold doQ
 rw [hwh]
 rcases hk4 with hk|hk|hk|hk
 ·have kk : PureX Tryz.prog 36 [I o.1,I 4] (I 0):=by rw [← hk];exact aqu _ _ (by decide) (by decide)
  have hs : stF Q o 0 (froF o)=({ Q 0 with ats:=updN (Q 0).ats 0 (putA ((Q 0).ats 0) o.2.2.2.1 o.2.2.2.2.1.2.2) } : SnT):=by simp [stF,hk]
  have he : erF o=putC o.2.2.2.1 o.2.2.2.2.1.2.2:=by simp [erF,hk]
  rw [hs,he]
  refine CallM.of (m:=4) Tryz.func15 rfl aza rfl rfl rfl rfl (by simp [SV.wfs,SV.wf]) fun w M π hpre=>?_
  (conv=>whnf);repeat' (first|((with_reducible refine isC ?_);first|(((with_reducible refine isF 36 ?_);(first|(with_reducible refine azb kw ?_)|(with_reducible refine azb kk ?_)));conv=>whnf))|((with_reducible refine isV ?_);first|((first|refine azf aza rfl (ArgSl.row 3 rfl) rfl ?_ ?_ ?_|(with_reducible refine azq ?_);refine azn _ _ (0) aza rfl rfl rfl (ArgSl.row 3 rfl) ?_ ?_ ?_|refine azp _ _ (0) aza rfl rfl rfl (ArgSl.row 3 rfl) ?_ ?_ ?_)<;>first|rfl|omega|with_reducible refine isP ?_|conv=>whnf))|with_reducible exact rfl|((with_reducible refine aze (by assumption) ?_);conv=>whnf)|((with_reducible refine azd ?_ ?_)<;>(intro hb;(try simp (disch:=omega) only [hbS] at hb)<;>conv=>whnf)))
  all_goals try (exfalso;omega)
  refine azl (cv0 b0 c0 (Q 0) 0 (by omega) q0.1 o.2.2.2.1 o.2.2.2.2.1.1 o.2.2.2.2.1.2.1 o.2.2.2.2.1.2.2 rfl hn) [0] rfl ⟨fun _ _ h=>h,trivial⟩ (by decide) (ArgN.on hpre (by decide) (m:=1) (r:=[0]) (fun j hj=>by rcases (by omega : j=0) with rfl;simp)) ?_
  intro rp
  (conv=>whnf);repeat' (first|with_reducible exact rfl|((with_reducible refine aze (by assumption) ?_);conv=>whnf)|((with_reducible refine azd ?_ ?_)<;>(intro hb;(try simp (disch:=omega) only [hbS] at hb)<;>conv=>whnf)))
  all_goals try (exfalso;omega)
  exact azv (c0,c1,c2) [0,1,2,3] ⟨rfl,by simp [SV.wf,SV.wfs]⟩ ⟨fun _ _ h=>h,fun _ _ h=>h,fun _ _ h=>h,⟨rfl,rfl,rfl,rfl,rfl,rfl⟩,trivial⟩ (by decide) rfl
 ·have kk : PureX Tryz.prog 36 [I o.1,I 4] (I 1):=by rw [← hk];exact aqu _ _ (by decide) (by decide)
  have hs : stF Q o 0 (froF o)=({ Q 0 with ats:=updN (Q 0).ats 0 (plcA ((Q 0).ats 0) o.2.2.2.1 o.2.2.2.2.2.1) } : SnT):=by simp [stF,hk]
  have he : erF o=plcC o.2.2.2.1 o.2.2.2.2.2.1:=by simp [erF,hk]
  rw [hs,he]
  refine CallM.of (m:=4) Tryz.func15 rfl aza rfl rfl rfl rfl (by simp [SV.wfs,SV.wf]) fun w M π hpre=>?_
  (conv=>whnf);repeat' (first|((with_reducible refine isC ?_);first|(((with_reducible refine isF 36 ?_);(first|(with_reducible refine azb kw ?_)|(with_reducible refine azb kk ?_)));conv=>whnf))|((with_reducible refine isV ?_);first|((first|refine azf aza rfl (ArgSl.row 3 rfl) rfl ?_ ?_ ?_|(with_reducible refine azq ?_);refine azn _ _ (0) aza rfl rfl rfl (ArgSl.row 3 rfl) ?_ ?_ ?_|refine azp _ _ (0) aza rfl rfl rfl (ArgSl.row 3 rfl) ?_ ?_ ?_)<;>first|rfl|omega|with_reducible refine isP ?_|conv=>whnf))|with_reducible exact rfl|((with_reducible refine aze (by assumption) ?_);conv=>whnf)|((with_reducible refine azd ?_ ?_)<;>(intro hb;(try simp (disch:=omega) only [hbS] at hb)<;>conv=>whnf)))
  all_goals try (exfalso;omega)
  refine azl (bq8 b0 c0 (Q 0) 0 (by omega) q0.1 o.2.2.2.1 o.2.2.2.2.2.1) [0] rfl ⟨fun _ _ h=>h,trivial⟩ (by decide) (fun _ _ _ _=>trivial) ?_
  intro rp
  (conv=>whnf);repeat' (first|with_reducible exact rfl|((with_reducible refine aze (by assumption) ?_);conv=>whnf)|((with_reducible refine azd ?_ ?_)<;>(intro hb;(try simp (disch:=omega) only [hbS] at hb)<;>conv=>whnf)))
  all_goals try (exfalso;omega)
  exact azv (c0,c1,c2) [0,1,2,3] ⟨rfl,by simp [SV.wf,SV.wfs]⟩ ⟨fun _ _ h=>h,fun _ _ h=>h,fun _ _ h=>h,⟨rfl,rfl,rfl,rfl,rfl,rfl⟩,trivial⟩ (by decide) rfl
 ·have kk : PureX Tryz.prog 36 [I o.1,I 4] (I 2):=by rw [← hk];exact aqu _ _ (by decide) (by decide)
  have hs : stF Q o 0 (froF o)=if aq1 o.2.2.2.2.2.2 then axe (Q 0) o.2.2.2.2.2.2 else Q 0:=by simp [stF,hk]
  have he : erF o=if aq1 o.2.2.2.2.2.2 then 0 else 1:=by simp [erF,hk]
  rw [hs,he]
  refine CallM.of (m:=4) Tryz.func15 rfl aza rfl rfl rfl rfl (by simp [SV.wfs,SV.wf]) fun w M π hpre=>?_
  (conv=>whnf);repeat' (first|((with_reducible refine isC ?_);first|(((with_reducible refine isF 36 ?_);(first|(with_reducible refine azb kw ?_)|(with_reducible refine azb kk ?_)));conv=>whnf))|((with_reducible refine isV ?_);first|((first|refine azf aza rfl (ArgSl.row 3 rfl) rfl ?_ ?_ ?_|(with_reducible refine azq ?_);refine azn _ _ (0) aza rfl rfl rfl (ArgSl.row 3 rfl) ?_ ?_ ?_|refine azp _ _ (0) aza rfl rfl rfl (ArgSl.row 3 rfl) ?_ ?_ ?_)<;>first|rfl|omega|with_reducible refine isP ?_|conv=>whnf))|with_reducible exact rfl|((with_reducible refine aze (by assumption) ?_);conv=>whnf)|((with_reducible refine azd ?_ ?_)<;>(intro hb;(try simp (disch:=omega) only [hbS] at hb)<;>conv=>whnf)))
  all_goals try (exfalso;omega)
  refine azl (bq9 b0 c0 (Q 0) o.2.2.2.2.2.2) [0] rfl ⟨fun _ _ h=>h,trivial⟩ (by decide) (fun _ _ _ _=>trivial) ?_
  intro rp
  (conv=>whnf);repeat' (first|with_reducible exact rfl|((with_reducible refine aze (by assumption) ?_);conv=>whnf)|((with_reducible refine azd ?_ ?_)<;>(intro hb;(try simp (disch:=omega) only [hbS] at hb)<;>conv=>whnf)))
  all_goals try (exfalso;omega)
  exact azv ({ c0 with rp:=rp },c1,c2) [0,1,2,3] ⟨rfl,by simp [SV.wf,SV.wfs]⟩ ⟨fun _ _ h=>h,fun _ _ h=>h,fun _ _ h=>h,⟨rfl,rfl,rfl,rfl,rfl,rfl⟩,trivial⟩ (by decide) rfl
 ·have kk : PureX Tryz.prog 36 [I o.1,I 4] (I 3):=by rw [← hk];exact aqu _ _ (by decide) (by decide)
  have he : erF o=0:=by simp [erF,hk]
  rw [he]
  rcases hf3 with hf|hf|hf
  ·have hfr : froF o=0:=by unfold froF;rw [hf];rfl
   have kj : PureX Tryz.prog 36 [I o.2.2.1,I 3] (I 0):=by rw [← hf];exact aqu _ _ (by decide) (by decide)
   have hs : stF Q o 0 (froF o)=Q 0:=by simp [stF,hk,hfr]
   rw [hs]
   refine CallM.of (m:=4) Tryz.func15 rfl aza rfl rfl rfl rfl (by simp [SV.wfs,SV.wf]) fun w M π hpre=>?_
   (conv=>whnf);repeat' (first|((with_reducible refine isC ?_);first|(((with_reducible refine isF 36 ?_);(first|(with_reducible refine azb kw ?_)|(with_reducible refine azb kk ?_)|(with_reducible refine azb kj ?_)));conv=>whnf))|((with_reducible refine isV ?_);first|((first|refine azf aza rfl (ArgSl.row 3 rfl) rfl ?_ ?_ ?_|(with_reducible refine azq ?_);refine azn _ _ (0) aza rfl rfl rfl (ArgSl.row 3 rfl) ?_ ?_ ?_|refine azp _ _ (0) aza rfl rfl rfl (ArgSl.row 3 rfl) ?_ ?_ ?_)<;>first|rfl|omega|with_reducible refine isP ?_|conv=>whnf))|with_reducible exact rfl|((with_reducible refine aze (by assumption) ?_);conv=>whnf)|((with_reducible refine azd ?_ ?_)<;>(intro hb;(try simp (disch:=omega) only [hbS] at hb)<;>conv=>whnf)))
   all_goals try (exfalso;omega)
   refine azl (bqg b0 c0 (Q 0) q0.2) [0] rfl ⟨fun _ _ h=>h,trivial⟩ (by decide) (fun _ _ _ _=>trivial) ?_
   intro rp
   (conv=>whnf);repeat' (first|with_reducible exact rfl|((with_reducible refine aze (by assumption) ?_);conv=>whnf)|((with_reducible refine azd ?_ ?_)<;>(intro hb;(try simp (disch:=omega) only [hbS] at hb)<;>conv=>whnf)))
   all_goals try (exfalso;omega)
   exact azv ({ c0 with rp:=rp },c1,c2) [0,1,2,3] ⟨rfl,by simp [SV.wf,SV.wfs]⟩ ⟨fun _ _ h=>h,fun _ _ h=>h,fun _ _ h=>h,⟨rfl,rfl,rfl,rfl,rfl,rfl⟩,trivial⟩ (by decide) rfl
  ·have hfr : froF o=1:=by unfold froF;rw [hf];rfl
   have kj : PureX Tryz.prog 36 [I o.2.2.1,I 3] (I 1):=by rw [← hf];exact aqu _ _ (by decide) (by decide)
   have hs : stF Q o 0 (froF o)=aki (Q 0) (Q 1):=by simp [stF,hk,hfr]
   rw [hs]
   refine CallM.of (m:=4) Tryz.func15 rfl aza rfl rfl rfl rfl (by simp [SV.wfs,SV.wf]) fun w M π hpre=>?_
   (conv=>whnf);repeat' (first|((with_reducible refine isC ?_);first|(((with_reducible refine isF 36 ?_);(first|(with_reducible refine azb kw ?_)|(with_reducible refine azb kk ?_)|(with_reducible refine azb kj ?_)));conv=>whnf))|((with_reducible refine isV ?_);first|((first|refine azf aza rfl (ArgSl.row 3 rfl) rfl ?_ ?_ ?_|(with_reducible refine azq ?_);refine azn _ _ (0) aza rfl rfl rfl (ArgSl.row 3 rfl) ?_ ?_ ?_|refine azp _ _ (0) aza rfl rfl rfl (ArgSl.row 3 rfl) ?_ ?_ ?_)<;>first|rfl|omega|with_reducible refine isP ?_|conv=>whnf))|with_reducible exact rfl|((with_reducible refine aze (by assumption) ?_);conv=>whnf)|((with_reducible refine azd ?_ ?_)<;>(intro hb;(try simp (disch:=omega) only [hbS] at hb)<;>conv=>whnf)))
   all_goals try (exfalso;omega)
   refine azl (bvi b0 b1 c0 c1 (Q 0) (Q 1) (hQ 1 (by omega)).2) [0,1] rfl ⟨fun _ _ h=>h,fun _ _ h=>h,trivial⟩ (by decide) (fun _ _ _ _=>trivial) ?_
   intro rp
   (conv=>whnf);repeat' (first|with_reducible exact rfl|((with_reducible refine aze (by assumption) ?_);conv=>whnf)|((with_reducible refine azd ?_ ?_)<;>(intro hb;(try simp (disch:=omega) only [hbS] at hb)<;>conv=>whnf)))
   all_goals try (exfalso;omega)
   exact azv ({ c0 with rp:=rp },c1,c2) [0,1,2,3] ⟨rfl,by simp [SV.wf,SV.wfs]⟩ ⟨fun _ _ h=>h,fun _ _ h=>h,fun _ _ h=>h,⟨rfl,rfl,rfl,rfl,rfl,rfl⟩,trivial⟩ (by decide) rfl
  ·have hfr : froF o=2:=by unfold froF;rw [hf];rfl
   have kj : PureX Tryz.prog 36 [I o.2.2.1,I 3] (I 2):=by rw [← hf];exact aqu _ _ (by decide) (by decide)
   have hs : stF Q o 0 (froF o)=aki (Q 0) (Q 2):=by simp [stF,hk,hfr]
   rw [hs]
   refine CallM.of (m:=4) Tryz.func15 rfl aza rfl rfl rfl rfl (by simp [SV.wfs,SV.wf]) fun w M π hpre=>?_
   (conv=>whnf);repeat' (first|((with_reducible refine isC ?_);first|(((with_reducible refine isF 36 ?_);(first|(with_reducible refine azb kw ?_)|(with_reducible refine azb kk ?_)|(with_reducible refine azb kj ?_)));conv=>whnf))|((with_reducible refine isV ?_);first|((first|refine azf aza rfl (ArgSl.row 3 rfl) rfl ?_ ?_ ?_|(with_reducible refine azq ?_);refine azn _ _ (0) aza rfl rfl rfl (ArgSl.row 3 rfl) ?_ ?_ ?_|refine azp _ _ (0) aza rfl rfl rfl (ArgSl.row 3 rfl) ?_ ?_ ?_)<;>first|rfl|omega|with_reducible refine isP ?_|conv=>whnf))|with_reducible exact rfl|((with_reducible refine aze (by assumption) ?_);conv=>whnf)|((with_reducible refine azd ?_ ?_)<;>(intro hb;(try simp (disch:=omega) only [hbS] at hb)<;>conv=>whnf)))
   all_goals try (exfalso;omega)
   refine azl (bvi b0 b2 c0 c2 (Q 0) (Q 2) (hQ 2 (by omega)).2) [0,2] rfl ⟨fun _ _ h=>h,fun _ _ h=>h,trivial⟩ (by decide) (fun _ _ _ _=>trivial) ?_
   intro rp
   (conv=>whnf);repeat' (first|with_reducible exact rfl|((with_reducible refine aze (by assumption) ?_);conv=>whnf)|((with_reducible refine azd ?_ ?_)<;>(intro hb;(try simp (disch:=omega) only [hbS] at hb)<;>conv=>whnf)))
   all_goals try (exfalso;omega)
   exact azv ({ c0 with rp:=rp },c1,c2) [0,1,2,3] ⟨rfl,by simp [SV.wf,SV.wfs]⟩ ⟨fun _ _ h=>h,fun _ _ h=>h,fun _ _ h=>h,⟨rfl,rfl,rfl,rfl,rfl,rfl⟩,trivial⟩ (by decide) rfl
set_option maxHeartbeats 16000000 in
theorem do1_m (b0 b1 b2 : Nat) (c0 c1 c2 : CoT) (Q : Nat → SnT) (hQ : okQ Q) (A : Option Addr) (cc : Nat) (o : FOp) (hw : o.2.1 % 3 = 1) (hn : o.2.2.2.2.1.2.2.length ≤ maxLen) :
 CallM Tryz.prog 15 [.v (.slice A 3 cc),foX o] (fun w M=>ArgN w M o.2.2.2.2.1.1 o.2.2.2.2.1.2.2.length 2 (o.2.2.2.2.1.2.2.map encBm)) [stO b0 c0 (Q 0) allT,stO b1 c1 (Q 1) allT,stO b2 c2 (Q 2) allT,ptsO A cc b0 b1 b2]
 (fun _ : Co3=>I (erF o)) (fun cs=>[stO b0 cs.1 (doQ Q o 0) allT,stO b1 cs.2.1 (doQ Q o 1) allT,stO b2 cs.2.2 (doQ Q o 2) allT,ptsO A cc b0 b1 b2]):=by
 have hwh : whoF o=1:=by unfold whoF;rw [hw];rfl
 have kw : PureX Tryz.prog 36 [I o.2.1,I 3] (I 1):=by rw [← hw];exact aqu _ _ (by decide) (by decide)
 have hk4 : o.1 % 4=0∨o.1 % 4=1∨o.1 % 4=2∨o.1 % 4=3:=by omega
 have hf3 : o.2.2.1 % 3=0∨o.2.2.1 % 3=1∨o.2.2.1 % 3=2:=by omega
 have q1:=hQ 1 (by omega)
 unfold doQ
 rw [hwh]
 rcases hk4 with hk|hk|hk|hk
 ·have kk : PureX Tryz.prog 36 [I o.1,I 4] (I 0):=by rw [← hk];exact aqu _ _ (by decide) (by decide)
  have hs : stF Q o 1 (froF o)=({ Q 1 with ats:=updN (Q 1).ats 1 (putA ((Q 1).ats 1) o.2.2.2.1 o.2.2.2.2.1.2.2) } : SnT):=by simp [stF,hk]
  have he : erF o=putC o.2.2.2.1 o.2.2.2.2.1.2.2:=by simp [erF,hk]
  rw [hs,he]
  refine CallM.of (m:=4) Tryz.func15 rfl aza rfl rfl rfl rfl (by simp [SV.wfs,SV.wf]) fun w M π hpre=>?_
  (conv=>whnf);repeat' (first|((with_reducible refine isC ?_);first|(((with_reducible refine isF 36 ?_);(first|(with_reducible refine azb kw ?_)|(with_reducible refine azb kk ?_)));conv=>whnf))|((with_reducible refine isV ?_);first|((first|refine azf aza rfl (ArgSl.row 3 rfl) rfl ?_ ?_ ?_|(with_reducible refine azq ?_);refine azn _ _ (0) aza rfl rfl rfl (ArgSl.row 3 rfl) ?_ ?_ ?_|refine azp _ _ (0) aza rfl rfl rfl (ArgSl.row 3 rfl) ?_ ?_ ?_)<;>first|rfl|omega|with_reducible refine isP ?_|conv=>whnf))|with_reducible exact rfl|((with_reducible refine aze (by assumption) ?_);conv=>whnf)|((with_reducible refine azd ?_ ?_)<;>(intro hb;(try simp (disch:=omega) only [hbS] at hb)<;>conv=>whnf)))
  all_goals try (exfalso;omega)
  refine azl (cv0 b1 c1 (Q 1) 1 (by omega) q1.1 o.2.2.2.1 o.2.2.2.2.1.1 o.2.2.2.2.1.2.1 o.2.2.2.2.1.2.2 rfl hn) [1] rfl ⟨fun _ _ h=>h,trivial⟩ (by decide) (ArgN.on hpre (by decide) (m:=1) (r:=[1]) (fun j hj=>by rcases (by omega : j=0) with rfl;simp)) ?_
  intro rp
  (conv=>whnf);repeat' (first|with_reducible exact rfl|((with_reducible refine aze (by assumption) ?_);conv=>whnf)|((with_reducible refine azd ?_ ?_)<;>(intro hb;(try simp (disch:=omega) only [hbS] at hb)<;>conv=>whnf)))
  all_goals try (exfalso;omega)
  exact azv (c0,c1,c2) [0,1,2,3] ⟨rfl,by simp [SV.wf,SV.wfs]⟩ ⟨fun _ _ h=>h,fun _ _ h=>h,fun _ _ h=>h,⟨rfl,rfl,rfl,rfl,rfl,rfl⟩,trivial⟩ (by decide) rfl
 ·have kk : PureX Tryz.prog 36 [I o.1,I 4] (I 1):=by rw [← hk];exact aqu _ _ (by decide) (by decide)
  have hs : stF Q o 1 (froF o)=({ Q 1 with ats:=updN (Q 1).ats 1 (plcA ((Q 1).ats 1) o.2.2.2.1 o.2.2.2.2.2.1) } : SnT):=by simp [stF,hk]
  have he : erF o=plcC o.2.2.2.1 o.2.2.2.2.2.1:=by simp [erF,hk]
  rw [hs,he]
  refine CallM.of (m:=4) Tryz.func15 rfl aza rfl rfl rfl rfl (by simp [SV.wfs,SV.wf]) fun w M π hpre=>?_
  (conv=>whnf);repeat' (first|((with_reducible refine isC ?_);first|(((with_reducible refine isF 36 ?_);(first|(with_reducible refine azb kw ?_)|(with_reducible refine azb kk ?_)));conv=>whnf))|((with_reducible refine isV ?_);first|((first|refine azf aza rfl (ArgSl.row 3 rfl) rfl ?_ ?_ ?_|(with_reducible refine azq ?_);refine azn _ _ (0) aza rfl rfl rfl (ArgSl.row 3 rfl) ?_ ?_ ?_|refine azp _ _ (0) aza rfl rfl rfl (ArgSl.row 3 rfl) ?_ ?_ ?_)<;>first|rfl|omega|with_reducible refine isP ?_|conv=>whnf))|with_reducible exact rfl|((with_reducible refine aze (by assumption) ?_);conv=>whnf)|((with_reducible refine azd ?_ ?_)<;>(intro hb;(try simp (disch:=omega) only [hbS] at hb)<;>conv=>whnf)))
  all_goals try (exfalso;omega)
  refine azl (bq8 b1 c1 (Q 1) 1 (by omega) q1.1 o.2.2.2.1 o.2.2.2.2.2.1) [1] rfl ⟨fun _ _ h=>h,trivial⟩ (by decide) (fun _ _ _ _=>trivial) ?_
  intro rp
  (conv=>whnf);repeat' (first|with_reducible exact rfl|((with_reducible refine aze (by assumption) ?_);conv=>whnf)|((with_reducible refine azd ?_ ?_)<;>(intro hb;(try simp (disch:=omega) only [hbS] at hb)<;>conv=>whnf)))
  all_goals try (exfalso;omega)
  exact azv (c0,c1,c2) [0,1,2,3] ⟨rfl,by simp [SV.wf,SV.wfs]⟩ ⟨fun _ _ h=>h,fun _ _ h=>h,fun _ _ h=>h,⟨rfl,rfl,rfl,rfl,rfl,rfl⟩,trivial⟩ (by decide) rfl
 ·have kk : PureX Tryz.prog 36 [I o.1,I 4] (I 2):=by rw [← hk];exact aqu _ _ (by decide) (by decide)
  have hs : stF Q o 1 (froF o)=if aq1 o.2.2.2.2.2.2 then axe (Q 1) o.2.2.2.2.2.2 else Q 1:=by simp [stF,hk]
  have he : erF o=if aq1 o.2.2.2.2.2.2 then 0 else 1:=by simp [erF,hk]
  rw [hs,he]
  refine CallM.of (m:=4) Tryz.func15 rfl aza rfl rfl rfl rfl (by simp [SV.wfs,SV.wf]) fun w M π hpre=>?_
  (conv=>whnf);repeat' (first|((with_reducible refine isC ?_);first|(((with_reducible refine isF 36 ?_);(first|(with_reducible refine azb kw ?_)|(with_reducible refine azb kk ?_)));conv=>whnf))|((with_reducible refine isV ?_);first|((first|refine azf aza rfl (ArgSl.row 3 rfl) rfl ?_ ?_ ?_|(with_reducible refine azq ?_);refine azn _ _ (0) aza rfl rfl rfl (ArgSl.row 3 rfl) ?_ ?_ ?_|refine azp _ _ (0) aza rfl rfl rfl (ArgSl.row 3 rfl) ?_ ?_ ?_)<;>first|rfl|omega|with_reducible refine isP ?_|conv=>whnf))|with_reducible exact rfl|((with_reducible refine aze (by assumption) ?_);conv=>whnf)|((with_reducible refine azd ?_ ?_)<;>(intro hb;(try simp (disch:=omega) only [hbS] at hb)<;>conv=>whnf)))
  all_goals try (exfalso;omega)
  refine azl (bq9 b1 c1 (Q 1) o.2.2.2.2.2.2) [1] rfl ⟨fun _ _ h=>h,trivial⟩ (by decide) (fun _ _ _ _=>trivial) ?_
  intro rp
  (conv=>whnf);repeat' (first|with_reducible exact rfl|((with_reducible refine aze (by assumption) ?_);conv=>whnf)|((with_reducible refine azd ?_ ?_)<;>(intro hb;(try simp (disch:=omega) only [hbS] at hb)<;>conv=>whnf)))
  all_goals try (exfalso;omega)
  exact azv (c0,{ c1 with rp:=rp },c2) [0,1,2,3] ⟨rfl,by simp [SV.wf,SV.wfs]⟩ ⟨fun _ _ h=>h,fun _ _ h=>h,fun _ _ h=>h,⟨rfl,rfl,rfl,rfl,rfl,rfl⟩,trivial⟩ (by decide) rfl
 ·have kk : PureX Tryz.prog 36 [I o.1,I 4] (I 3):=by rw [← hk];exact aqu _ _ (by decide) (by decide)
  have he : erF o=0:=by simp [erF,hk]
  rw [he]
  rcases hf3 with hf|hf|hf
  ·have hfr : froF o=0:=by unfold froF;rw [hf];rfl
   have kj : PureX Tryz.prog 36 [I o.2.2.1,I 3] (I 0):=by rw [← hf];exact aqu _ _ (by decide) (by decide)
   have hs : stF Q o 1 (froF o)=aki (Q 1) (Q 0):=by simp [stF,hk,hfr]
   rw [hs]
   refine CallM.of (m:=4) Tryz.func15 rfl aza rfl rfl rfl rfl (by simp [SV.wfs,SV.wf]) fun w M π hpre=>?_
   (conv=>whnf);repeat' (first|((with_reducible refine isC ?_);first|(((with_reducible refine isF 36 ?_);(first|(with_reducible refine azb kw ?_)|(with_reducible refine azb kk ?_)|(with_reducible refine azb kj ?_)));conv=>whnf))|((with_reducible refine isV ?_);first|((first|refine azf aza rfl (ArgSl.row 3 rfl) rfl ?_ ?_ ?_|(with_reducible refine azq ?_);refine azn _ _ (0) aza rfl rfl rfl (ArgSl.row 3 rfl) ?_ ?_ ?_|refine azp _ _ (0) aza rfl rfl rfl (ArgSl.row 3 rfl) ?_ ?_ ?_)<;>first|rfl|omega|with_reducible refine isP ?_|conv=>whnf))|with_reducible exact rfl|((with_reducible refine aze (by assumption) ?_);conv=>whnf)|((with_reducible refine azd ?_ ?_)<;>(intro hb;(try simp (disch:=omega) only [hbS] at hb)<;>conv=>whnf)))
   all_goals try (exfalso;omega)
   refine azl (bvi b1 b0 c1 c0 (Q 1) (Q 0) (hQ 0 (by omega)).2) [1,0] rfl ⟨fun _ _ h=>h,fun _ _ h=>h,trivial⟩ (by decide) (fun _ _ _ _=>trivial) ?_
   intro rp
   (conv=>whnf);repeat' (first|with_reducible exact rfl|((with_reducible refine aze (by assumption) ?_);conv=>whnf)|((with_reducible refine azd ?_ ?_)<;>(intro hb;(try simp (disch:=omega) only [hbS] at hb)<;>conv=>whnf)))
   all_goals try (exfalso;omega)
   exact azv (c0,{ c1 with rp:=rp },c2) [0,1,2,3] ⟨rfl,by simp [SV.wf,SV.wfs]⟩ ⟨fun _ _ h=>h,fun _ _ h=>h,fun _ _ h=>h,⟨rfl,rfl,rfl,rfl,rfl,rfl⟩,trivial⟩ (by decide) rfl
  ·have hfr : froF o=1:=by unfold froF;rw [hf];rfl
   have kj : PureX Tryz.prog 36 [I o.2.2.1,I 3] (I 1):=by rw [← hf];exact aqu _ _ (by decide) (by decide)
   have hs : stF Q o 1 (froF o)=Q 1:=by simp [stF,hk,hfr]
   rw [hs]
   refine CallM.of (m:=4) Tryz.func15 rfl aza rfl rfl rfl rfl (by simp [SV.wfs,SV.wf]) fun w M π hpre=>?_
   (conv=>whnf);repeat' (first|((with_reducible refine isC ?_);first|(((with_reducible refine isF 36 ?_);(first|(with_reducible refine azb kw ?_)|(with_reducible refine azb kk ?_)|(with_reducible refine azb kj ?_)));conv=>whnf))|((with_reducible refine isV ?_);first|((first|refine azf aza rfl (ArgSl.row 3 rfl) rfl ?_ ?_ ?_|(with_reducible refine azq ?_);refine azn _ _ (0) aza rfl rfl rfl (ArgSl.row 3 rfl) ?_ ?_ ?_|refine azp _ _ (0) aza rfl rfl rfl (ArgSl.row 3 rfl) ?_ ?_ ?_)<;>first|rfl|omega|with_reducible refine isP ?_|conv=>whnf))|with_reducible exact rfl|((with_reducible refine aze (by assumption) ?_);conv=>whnf)|((with_reducible refine azd ?_ ?_)<;>(intro hb;(try simp (disch:=omega) only [hbS] at hb)<;>conv=>whnf)))
   all_goals try (exfalso;omega)
   refine azl (bqg b1 c1 (Q 1) q1.2) [1] rfl ⟨fun _ _ h=>h,trivial⟩ (by decide) (fun _ _ _ _=>trivial) ?_
   intro rp
   (conv=>whnf);repeat' (first|with_reducible exact rfl|((with_reducible refine aze (by assumption) ?_);conv=>whnf)|((with_reducible refine azd ?_ ?_)<;>(intro hb;(try simp (disch:=omega) only [hbS] at hb)<;>conv=>whnf)))
   all_goals try (exfalso;omega)
   exact azv (c0,{ c1 with rp:=rp },c2) [0,1,2,3] ⟨rfl,by simp [SV.wf,SV.wfs]⟩ ⟨fun _ _ h=>h,fun _ _ h=>h,fun _ _ h=>h,⟨rfl,rfl,rfl,rfl,rfl,rfl⟩,trivial⟩ (by decide) rfl
  ·have hfr : froF o=2:=by unfold froF;rw [hf];rfl
   have kj : PureX Tryz.prog 36 [I o.2.2.1,I 3] (I 2):=by rw [← hf];exact aqu _ _ (by decide) (by decide)
   have hs : stF Q o 1 (froF o)=aki (Q 1) (Q 2):=by simp [stF,hk,hfr]
   rw [hs]
   refine CallM.of (m:=4) Tryz.func15 rfl aza rfl rfl rfl rfl (by simp [SV.wfs,SV.wf]) fun w M π hpre=>?_
   (conv=>whnf);repeat' (first|((with_reducible refine isC ?_);first|(((with_reducible refine isF 36 ?_);(first|(with_reducible refine azb kw ?_)|(with_reducible refine azb kk ?_)|(with_reducible refine azb kj ?_)));conv=>whnf))|((with_reducible refine isV ?_);first|((first|refine azf aza rfl (ArgSl.row 3 rfl) rfl ?_ ?_ ?_|(with_reducible refine azq ?_);refine azn _ _ (0) aza rfl rfl rfl (ArgSl.row 3 rfl) ?_ ?_ ?_|refine azp _ _ (0) aza rfl rfl rfl (ArgSl.row 3 rfl) ?_ ?_ ?_)<;>first|rfl|omega|with_reducible refine isP ?_|conv=>whnf))|with_reducible exact rfl|((with_reducible refine aze (by assumption) ?_);conv=>whnf)|((with_reducible refine azd ?_ ?_)<;>(intro hb;(try simp (disch:=omega) only [hbS] at hb)<;>conv=>whnf)))
   all_goals try (exfalso;omega)
   refine azl (bvi b1 b2 c1 c2 (Q 1) (Q 2) (hQ 2 (by omega)).2) [1,2] rfl ⟨fun _ _ h=>h,fun _ _ h=>h,trivial⟩ (by decide) (fun _ _ _ _=>trivial) ?_
   intro rp
   (conv=>whnf);repeat' (first|with_reducible exact rfl|((with_reducible refine aze (by assumption) ?_);conv=>whnf)|((with_reducible refine azd ?_ ?_)<;>(intro hb;(try simp (disch:=omega) only [hbS] at hb)<;>conv=>whnf)))
   all_goals try (exfalso;omega)
   exact azv (c0,{ c1 with rp:=rp },c2) [0,1,2,3] ⟨rfl,by simp [SV.wf,SV.wfs]⟩ ⟨fun _ _ h=>h,fun _ _ h=>h,fun _ _ h=>h,⟨rfl,rfl,rfl,rfl,rfl,rfl⟩,trivial⟩ (by decide) rfl
set_option maxHeartbeats 16000000 in
theorem do2_m (b0 b1 b2 : Nat) (c0 c1 c2 : CoT) (Q : Nat → SnT) (hQ : okQ Q) (A : Option Addr) (cc : Nat) (o : FOp) (hw : o.2.1 % 3 = 2) (hn : o.2.2.2.2.1.2.2.length ≤ maxLen) :
 CallM Tryz.prog 15 [.v (.slice A 3 cc),foX o] (fun w M=>ArgN w M o.2.2.2.2.1.1 o.2.2.2.2.1.2.2.length 2 (o.2.2.2.2.1.2.2.map encBm)) [stO b0 c0 (Q 0) allT,stO b1 c1 (Q 1) allT,stO b2 c2 (Q 2) allT,ptsO A cc b0 b1 b2]
 (fun _ : Co3=>I (erF o)) (fun cs=>[stO b0 cs.1 (doQ Q o 0) allT,stO b1 cs.2.1 (doQ Q o 1) allT,stO b2 cs.2.2 (doQ Q o 2) allT,ptsO A cc b0 b1 b2]):=by
 have hwh : whoF o=2:=by unfold whoF;rw [hw];rfl
 have kw : PureX Tryz.prog 36 [I o.2.1,I 3] (I 2):=by rw [← hw];exact aqu _ _ (by decide) (by decide)
 have hk4 : o.1 % 4=0∨o.1 % 4=1∨o.1 % 4=2∨o.1 % 4=3:=by omega
 have hf3 : o.2.2.1 % 3=0∨o.2.2.1 % 3=1∨o.2.2.1 % 3=2:=by omega
 have q2:=hQ 2 (by omega)
 unfold doQ
 rw [hwh]
 rcases hk4 with hk|hk|hk|hk
 ·have kk : PureX Tryz.prog 36 [I o.1,I 4] (I 0):=by rw [← hk];exact aqu _ _ (by decide) (by decide)
  have hs : stF Q o 2 (froF o)=({ Q 2 with ats:=updN (Q 2).ats 2 (putA ((Q 2).ats 2) o.2.2.2.1 o.2.2.2.2.1.2.2) } : SnT):=by simp [stF,hk]
  have he : erF o=putC o.2.2.2.1 o.2.2.2.2.1.2.2:=by simp [erF,hk]
  rw [hs,he]
  refine CallM.of (m:=4) Tryz.func15 rfl aza rfl rfl rfl rfl (by simp [SV.wfs,SV.wf]) fun w M π hpre=>?_
  (conv=>whnf);repeat' (first|((with_reducible refine isC ?_);first|(((with_reducible refine isF 36 ?_);(first|(with_reducible refine azb kw ?_)|(with_reducible refine azb kk ?_)));conv=>whnf))|((with_reducible refine isV ?_);first|((first|refine azf aza rfl (ArgSl.row 3 rfl) rfl ?_ ?_ ?_|(with_reducible refine azq ?_);refine azn _ _ (0) aza rfl rfl rfl (ArgSl.row 3 rfl) ?_ ?_ ?_|refine azp _ _ (0) aza rfl rfl rfl (ArgSl.row 3 rfl) ?_ ?_ ?_)<;>first|rfl|omega|with_reducible refine isP ?_|conv=>whnf))|with_reducible exact rfl|((with_reducible refine aze (by assumption) ?_);conv=>whnf)|((with_reducible refine azd ?_ ?_)<;>(intro hb;(try simp (disch:=omega) only [hbS] at hb)<;>conv=>whnf)))
  all_goals try (exfalso;omega)
  refine azl (cv0 b2 c2 (Q 2) 2 (by omega) q2.1 o.2.2.2.1 o.2.2.2.2.1.1 o.2.2.2.2.1.2.1 o.2.2.2.2.1.2.2 rfl hn) [2] rfl ⟨fun _ _ h=>h,trivial⟩ (by decide) (ArgN.on hpre (by decide) (m:=1) (r:=[2]) (fun j hj=>by rcases (by omega : j=0) with rfl;simp)) ?_
  intro rp
  (conv=>whnf);repeat' (first|with_reducible exact rfl|((with_reducible refine aze (by assumption) ?_);conv=>whnf)|((with_reducible refine azd ?_ ?_)<;>(intro hb;(try simp (disch:=omega) only [hbS] at hb)<;>conv=>whnf)))
  all_goals try (exfalso;omega)
  exact azv (c0,c1,c2) [0,1,2,3] ⟨rfl,by simp [SV.wf,SV.wfs]⟩ ⟨fun _ _ h=>h,fun _ _ h=>h,fun _ _ h=>h,⟨rfl,rfl,rfl,rfl,rfl,rfl⟩,trivial⟩ (by decide) rfl
 ·have kk : PureX Tryz.prog 36 [I o.1,I 4] (I 1):=by rw [← hk];exact aqu _ _ (by decide) (by decide)
  have hs : stF Q o 2 (froF o)=({ Q 2 with ats:=updN (Q 2).ats 2 (plcA ((Q 2).ats 2) o.2.2.2.1 o.2.2.2.2.2.1) } : SnT):=by simp [stF,hk]
  have he : erF o=plcC o.2.2.2.1 o.2.2.2.2.2.1:=by simp [erF,hk]
  rw [hs,he]
  refine CallM.of (m:=4) Tryz.func15 rfl aza rfl rfl rfl rfl (by simp [SV.wfs,SV.wf]) fun w M π hpre=>?_
  (conv=>whnf);repeat' (first|((with_reducible refine isC ?_);first|(((with_reducible refine isF 36 ?_);(first|(with_reducible refine azb kw ?_)|(with_reducible refine azb kk ?_)));conv=>whnf))|((with_reducible refine isV ?_);first|((first|refine azf aza rfl (ArgSl.row 3 rfl) rfl ?_ ?_ ?_|(with_reducible refine azq ?_);refine azn _ _ (0) aza rfl rfl rfl (ArgSl.row 3 rfl) ?_ ?_ ?_|refine azp _ _ (0) aza rfl rfl rfl (ArgSl.row 3 rfl) ?_ ?_ ?_)<;>first|rfl|omega|with_reducible refine isP ?_|conv=>whnf))|with_reducible exact rfl|((with_reducible refine aze (by assumption) ?_);conv=>whnf)|((with_reducible refine azd ?_ ?_)<;>(intro hb;(try simp (disch:=omega) only [hbS] at hb)<;>conv=>whnf)))
  all_goals try (exfalso;omega)
  refine azl (bq8 b2 c2 (Q 2) 2 (by omega) q2.1 o.2.2.2.1 o.2.2.2.2.2.1) [2] rfl ⟨fun _ _ h=>h,trivial⟩ (by decide) (fun _ _ _ _=>trivial) ?_
  intro rp
  (conv=>whnf);repeat' (first|with_reducible exact rfl|((with_reducible refine aze (by assumption) ?_);conv=>whnf)|((with_reducible refine azd ?_ ?_)<;>(intro hb;(try simp (disch:=omega) only [hbS] at hb)<;>conv=>whnf)))
  all_goals try (exfalso;omega)
  exact azv (c0,c1,c2) [0,1,2,3] ⟨rfl,by simp [SV.wf,SV.wfs]⟩ ⟨fun _ _ h=>h,fun _ _ h=>h,fun _ _ h=>h,⟨rfl,rfl,rfl,rfl,rfl,rfl⟩,trivial⟩ (by decide) rfl
 ·have kk : PureX Tryz.prog 36 [I o.1,I 4] (I 2):=by rw [← hk];exact aqu _ _ (by decide) (by decide)
  have hs : stF Q o 2 (froF o)=if aq1 o.2.2.2.2.2.2 then axe (Q 2) o.2.2.2.2.2.2 else Q 2:=by simp [stF,hk]
  have he : erF o=if aq1 o.2.2.2.2.2.2 then 0 else 1:=by simp [erF,hk]
  rw [hs,he]
  refine CallM.of (m:=4) Tryz.func15 rfl aza rfl rfl rfl rfl (by simp [SV.wfs,SV.wf]) fun w M π hpre=>?_
  (conv=>whnf);repeat' (first|((with_reducible refine isC ?_);first|(((with_reducible refine isF 36 ?_);(first|(with_reducible refine azb kw ?_)|(with_reducible refine azb kk ?_)));conv=>whnf))|((with_reducible refine isV ?_);first|((first|refine azf aza rfl (ArgSl.row 3 rfl) rfl ?_ ?_ ?_|(with_reducible refine azq ?_);refine azn _ _ (0) aza rfl rfl rfl (ArgSl.row 3 rfl) ?_ ?_ ?_|refine azp _ _ (0) aza rfl rfl rfl (ArgSl.row 3 rfl) ?_ ?_ ?_)<;>first|rfl|omega|with_reducible refine isP ?_|conv=>whnf))|with_reducible exact rfl|((with_reducible refine aze (by assumption) ?_);conv=>whnf)|((with_reducible refine azd ?_ ?_)<;>(intro hb;(try simp (disch:=omega) only [hbS] at hb)<;>conv=>whnf)))
  all_goals try (exfalso;omega)
  refine azl (bq9 b2 c2 (Q 2) o.2.2.2.2.2.2) [2] rfl ⟨fun _ _ h=>h,trivial⟩ (by decide) (fun _ _ _ _=>trivial) ?_
  intro rp
  (conv=>whnf);repeat' (first|with_reducible exact rfl|((with_reducible refine aze (by assumption) ?_);conv=>whnf)|((with_reducible refine azd ?_ ?_)<;>(intro hb;(try simp (disch:=omega) only [hbS] at hb)<;>conv=>whnf)))
  all_goals try (exfalso;omega)
  exact azv (c0,c1,{ c2 with rp:=rp }) [0,1,2,3] ⟨rfl,by simp [SV.wf,SV.wfs]⟩ ⟨fun _ _ h=>h,fun _ _ h=>h,fun _ _ h=>h,⟨rfl,rfl,rfl,rfl,rfl,rfl⟩,trivial⟩ (by decide) rfl
 ·have kk : PureX Tryz.prog 36 [I o.1,I 4] (I 3):=by rw [← hk];exact aqu _ _ (by decide) (by decide)
  have he : erF o=0:=by simp [erF,hk]
  rw [he]
  rcases hf3 with hf|hf|hf
  ·have hfr : froF o=0:=by unfold froF;rw [hf];rfl
   have kj : PureX Tryz.prog 36 [I o.2.2.1,I 3] (I 0):=by rw [← hf];exact aqu _ _ (by decide) (by decide)
   have hs : stF Q o 2 (froF o)=aki (Q 2) (Q 0):=by simp [stF,hk,hfr]
   rw [hs]
   refine CallM.of (m:=4) Tryz.func15 rfl aza rfl rfl rfl rfl (by simp [SV.wfs,SV.wf]) fun w M π hpre=>?_
   (conv=>whnf);repeat' (first|((with_reducible refine isC ?_);first|(((with_reducible refine isF 36 ?_);(first|(with_reducible refine azb kw ?_)|(with_reducible refine azb kk ?_)|(with_reducible refine azb kj ?_)));conv=>whnf))|((with_reducible refine isV ?_);first|((first|refine azf aza rfl (ArgSl.row 3 rfl) rfl ?_ ?_ ?_|(with_reducible refine azq ?_);refine azn _ _ (0) aza rfl rfl rfl (ArgSl.row 3 rfl) ?_ ?_ ?_|refine azp _ _ (0) aza rfl rfl rfl (ArgSl.row 3 rfl) ?_ ?_ ?_)<;>first|rfl|omega|with_reducible refine isP ?_|conv=>whnf))|with_reducible exact rfl|((with_reducible refine aze (by assumption) ?_);conv=>whnf)|((with_reducible refine azd ?_ ?_)<;>(intro hb;(try simp (disch:=omega) only [hbS] at hb)<;>conv=>whnf)))
   all_goals try (exfalso;omega)
   refine azl (bvi b2 b0 c2 c0 (Q 2) (Q 0) (hQ 0 (by omega)).2) [2,0] rfl ⟨fun _ _ h=>h,fun _ _ h=>h,trivial⟩ (by decide) (fun _ _ _ _=>trivial) ?_
   intro rp
   (conv=>whnf);repeat' (first|with_reducible exact rfl|((with_reducible refine aze (by assumption) ?_);conv=>whnf)|((with_reducible refine azd ?_ ?_)<;>(intro hb;(try simp (disch:=omega) only [hbS] at hb)<;>conv=>whnf)))
   all_goals try (exfalso;omega)
   exact azv (c0,c1,{ c2 with rp:=rp }) [0,1,2,3] ⟨rfl,by simp [SV.wf,SV.wfs]⟩ ⟨fun _ _ h=>h,fun _ _ h=>h,fun _ _ h=>h,⟨rfl,rfl,rfl,rfl,rfl,rfl⟩,trivial⟩ (by decide) rfl
  ·have hfr : froF o=1:=by unfold froF;rw [hf];rfl
   have kj : PureX Tryz.prog 36 [I o.2.2.1,I 3] (I 1):=by rw [← hf];exact aqu _ _ (by decide) (by decide)
   have hs : stF Q o 2 (froF o)=aki (Q 2) (Q 1):=by simp [stF,hk,hfr]
   rw [hs]
   refine CallM.of (m:=4) Tryz.func15 rfl aza rfl rfl rfl rfl (by simp [SV.wfs,SV.wf]) fun w M π hpre=>?_
   (conv=>whnf);repeat' (first|((with_reducible refine isC ?_);first|(((with_reducible refine isF 36 ?_);(first|(with_reducible refine azb kw ?_)|(with_reducible refine azb kk ?_)|(with_reducible refine azb kj ?_)));conv=>whnf))|((with_reducible refine isV ?_);first|((first|refine azf aza rfl (ArgSl.row 3 rfl) rfl ?_ ?_ ?_|(with_reducible refine azq ?_);refine azn _ _ (0) aza rfl rfl rfl (ArgSl.row 3 rfl) ?_ ?_ ?_|refine azp _ _ (0) aza rfl rfl rfl (ArgSl.row 3 rfl) ?_ ?_ ?_)<;>first|rfl|omega|with_reducible refine isP ?_|conv=>whnf))|with_reducible exact rfl|((with_reducible refine aze (by assumption) ?_);conv=>whnf)|((with_reducible refine azd ?_ ?_)<;>(intro hb;(try simp (disch:=omega) only [hbS] at hb)<;>conv=>whnf)))
   all_goals try (exfalso;omega)
   refine azl (bvi b2 b1 c2 c1 (Q 2) (Q 1) (hQ 1 (by omega)).2) [2,1] rfl ⟨fun _ _ h=>h,fun _ _ h=>h,trivial⟩ (by decide) (fun _ _ _ _=>trivial) ?_
   intro rp
   (conv=>whnf);repeat' (first|with_reducible exact rfl|((with_reducible refine aze (by assumption) ?_);conv=>whnf)|((with_reducible refine azd ?_ ?_)<;>(intro hb;(try simp (disch:=omega) only [hbS] at hb)<;>conv=>whnf)))
   all_goals try (exfalso;omega)
   exact azv (c0,c1,{ c2 with rp:=rp }) [0,1,2,3] ⟨rfl,by simp [SV.wf,SV.wfs]⟩ ⟨fun _ _ h=>h,fun _ _ h=>h,fun _ _ h=>h,⟨rfl,rfl,rfl,rfl,rfl,rfl⟩,trivial⟩ (by decide) rfl
  ·have hfr : froF o=2:=by unfold froF;rw [hf];rfl
   have kj : PureX Tryz.prog 36 [I o.2.2.1,I 3] (I 2):=by rw [← hf];exact aqu _ _ (by decide) (by decide)
   have hs : stF Q o 2 (froF o)=Q 2:=by simp [stF,hk,hfr]
   rw [hs]
   refine CallM.of (m:=4) Tryz.func15 rfl aza rfl rfl rfl rfl (by simp [SV.wfs,SV.wf]) fun w M π hpre=>?_
   (conv=>whnf);repeat' (first|((with_reducible refine isC ?_);first|(((with_reducible refine isF 36 ?_);(first|(with_reducible refine azb kw ?_)|(with_reducible refine azb kk ?_)|(with_reducible refine azb kj ?_)));conv=>whnf))|((with_reducible refine isV ?_);first|((first|refine azf aza rfl (ArgSl.row 3 rfl) rfl ?_ ?_ ?_|(with_reducible refine azq ?_);refine azn _ _ (0) aza rfl rfl rfl (ArgSl.row 3 rfl) ?_ ?_ ?_|refine azp _ _ (0) aza rfl rfl rfl (ArgSl.row 3 rfl) ?_ ?_ ?_)<;>first|rfl|omega|with_reducible refine isP ?_|conv=>whnf))|with_reducible exact rfl|((with_reducible refine aze (by assumption) ?_);conv=>whnf)|((with_reducible refine azd ?_ ?_)<;>(intro hb;(try simp (disch:=omega) only [hbS] at hb)<;>conv=>whnf)))
   all_goals try (exfalso;omega)
   refine azl (bqg b2 c2 (Q 2) q2.2) [2] rfl ⟨fun _ _ h=>h,trivial⟩ (by decide) (fun _ _ _ _=>trivial) ?_
   intro rp
   (conv=>whnf);repeat' (first|with_reducible exact rfl|((with_reducible refine aze (by assumption) ?_);conv=>whnf)|((with_reducible refine azd ?_ ?_)<;>(intro hb;(try simp (disch:=omega) only [hbS] at hb)<;>conv=>whnf)))
   all_goals try (exfalso;omega)
   exact azv (c0,c1,{ c2 with rp:=rp }) [0,1,2,3] ⟨rfl,by simp [SV.wf,SV.wfs]⟩ ⟨fun _ _ h=>h,fun _ _ h=>h,fun _ _ h=>h,⟨rfl,rfl,rfl,rfl,rfl,rfl⟩,trivial⟩ (by decide) rfl
end Go.Proofs.YtlnplelandimeaaGreat.En
end
