import Derived.Test.YtlnplelandimeaaGreatZFleetViews35
import Derived.Test.YtlnplelandimeaaGreatZFleetViews34
set_option linter.all false
section
namespace Go.Proofs.YtlnplelandimeaaGreat.En
open Go.RowKit
set_option maxRecDepth 100000
section
variable {α : Type} {key : α → List Int}
end
theorem normR_bd {x : RelT} (h : aq1 x = true) : ((aqs x).1.toNat < (aqs x).2.1.toNat ∧ (aqs x).2.1.toNat < 8) ∧ (0 ≤ (aqs x).2.2.1 ∧ (aqs x).2.2.1 < 4) ∧ (-1024 ≤ (aqs x).2.2.2.1 ∧ (aqs x).2.2.2.1 ≤ 1024) ∧ -1024 ≤ (aqs x).2.2.2.2 ∧ (aqs x).2.2.2.2 ≤ 1024 := by
 obtain ⟨h1,h2,h3,h4,h5⟩:=av7 h
 unfold aqs
 split
 ·have t1:=cx7 ((-x.2.2.1) % 4) (-x.2.2.2.1) (-x.2.2.2.2) 1024 (by omega) (by omega) (by omega) (by omega)
  have t2:=cx8 ((-x.2.2.1) % 4) (-x.2.2.2.1) (-x.2.2.2.2) 1024 (by omega) (by omega) (by omega) (by omega)
  unfold invF
  dsimp only
  exact ⟨by omega,by omega,t1,t2⟩
 ·dsimp only
  exact ⟨by omega,by omega,h4,h5⟩
theorem joinO_in {α : Type} {key : α → List Int} {P : α → Prop} {o p : Option α} (h1 : ∀ x, o = some x → P x) (h2 : ∀ x, p = some x → P x) : ∀ x, akp key o p = some x → P x := by
 intro x hx
 rcases awr key o p with e|e<;>rw [e] at hx
 ·exact h2 x hx
 ·exact h1 x hx
theorem wf_take {S : SnT} (h : wfS S) {x : RelT} (hx : aq1 x = true) : wfS (axe S x) := by
 obtain ⟨n1,n2,n3,n4,n5⟩:=normR_bd hx
 have hr : ∀ u v f,(axe S x).rel u v=some f→S.rel u v=some f∨(u=(aqs x).1.toNat∧v=(aqs x).2.1.toNat∧f=(aqs x).2.2):=by
  intro u v f hf
  have hf : upd2 S.rel (aqs x).1.toNat (aqs x).2.1.toNat (mxO keyF (S.rel (aqs x).1.toNat (aqs x).2.1.toNat) (aqs x).2.2) u v=some f:=hf
  unfold upd2 at hf
  split at hf
  ·rename_i e
   rcases bzo keyF (S.rel (aqs x).1.toNat (aqs x).2.1.toNat) (aqs x).2.2 with c|c<;>rw [c] at hf
   ·exact .inr ⟨e.1,e.2,(Option.some.inj hf).symm⟩
   ·exact .inl (by rw [e.1,e.2];exact hf)
  ·exact .inl hf
 refine ⟨fun u v hc=>?_,fun u v f hf=>?_,h.2.2⟩
 ·rcases ax3 ((axe S x).rel u v) with e|⟨f,e⟩
  ·exact e
  ·rcases hr u v f e with e2|⟨rfl,rfl,rfl⟩
   ·rw [h.1 u v hc] at e2
    cases e2
   ·exact absurd n1 hc
 ·rcases hr u v f hf with e2|⟨rfl,rfl,rfl⟩
  ·exact h.2.1 u v f e2
  ·exact ⟨n2,n3,n4,n5⟩
theorem wf_hear {S O : SnT} (h : wfS S) (h' : wfS O) : wfS (aki S O) := by
 refine ⟨fun u v hc=>?_,fun u v=>?_,fun i hi=>?_⟩
 ·show akp keyF (S.rel u v) (O.rel u v)=none
  rw [h.1 u v hc,h'.1 u v hc]
  rfl
 ·exact joinO_in (h.2.1 u v) (h'.2.1 u v)
 ·show bzh (S.ats i) (O.ats i)=at0
  rw [h.2.2 i hi,h'.2.2 i hi]
  rfl
theorem wf_upd {S : SnT} (h : wfS S) {i : Nat} (hi : i < 8) (a : AtT) : wfS { S with ats := updN S.ats i a } := by
 refine ⟨h.1,h.2.1,fun j hj=>?_⟩
 show updN S.ats i a j=at0
 unfold updN
 rw [if_neg (by omega)]
 exact h.2.2 j hj
theorem wf_st {Q : Nat → SnT} (hQ : okQ Q) (o : FOp) {i j : Nat} (hi : i < 3) (hj : j < 3) : (stF Q o i j).me = i ∧ wfS (stF Q o i j) := by
 obtain ⟨hm,hw⟩:=hQ i hi
 unfold stF
 split
 ·exact ⟨hm,wf_upd hw (by omega) _⟩
 ·split
  ·exact ⟨hm,wf_upd hw (by omega) _⟩
  ·split
   ·split
    ·rename_i hx
     exact ⟨hm,wf_take hw hx⟩
    ·exact ⟨hm,hw⟩
   ·split
    ·exact ⟨hm,hw⟩
    ·exact ⟨hm,wf_hear hw (hQ j hj).2⟩
theorem bw9 (o : FOp) : whoF o < 3 := by unfold whoF; omega
theorem froF_lt (o : FOp) : froF o < 3 := by unfold froF; omega
theorem okQ_do {Q : Nat → SnT} (hQ : okQ Q) (o : FOp) : okQ (doQ Q o) := by
 intro i hi
 unfold doQ updN
 split
 ·rename_i e
  subst e
  exact wf_st hQ o (bw9 o) (froF_lt o)
 ·exact hQ i hi
def Q0 : Nat → SnT := fun i => sn0 i
theorem wf_sn0 (m : Int) : wfS (sn0 m) := ⟨fun _ _ _ => rfl, fun _ _ _ h => (by cases h), fun _ _ => rfl⟩
theorem okQ0 : okQ Q0 := fun i _ => ⟨rfl, wf_sn0 i⟩
def runQ (Q : Nat → SnT) (l : List FOp) : Nat → SnT := l.foldl doQ Q
theorem okQ_run : ∀ (l : List FOp) {Q : Nat → SnT}, okQ Q → okQ (runQ Q l)
 | [],_,h=>h
 | o :: l,_,h=>okQ_run l (okQ_do h o)
theorem runQ_take {Q : Nat → SnT} {l : List FOp} {k : Nat} (hk : k < l.length) : runQ Q (l.take (k + 1)) = doQ (runQ Q (l.take k)) (l.getD k fo0) := by
 have e : l.getD k fo0=l[k]:=by simp [hk]
 unfold runQ
 rw [List.take_succ_eq_append_getElem hk,List.foldl_append,e]
 rfl
def k3 (o : FOp) : FOp := (o.1 % 3, o.2)
theorem do3_m (b0 b1 b2 : Nat) (cs : Co3) (Q : Nat → SnT) (hQ : okQ Q) (A : Option Addr) (cc : Nat) (o : FOp) (hn : o.2.2.2.2.1.2.2.length ≤ maxLen) :
 CallM Tryz.prog 15 [.v (.slice A 3 cc),foX o] (fun w M=>ArgN w M o.2.2.2.2.1.1 o.2.2.2.2.1.2.2.length 2 (o.2.2.2.2.1.2.2.map encBm)) [stO b0 cs.1 (Q 0) allT,stO b1 cs.2.1 (Q 1) allT,stO b2 cs.2.2 (Q 2) allT,ptsO A cc b0 b1 b2]
 (fun _ : Co3=>I (erF o)) (fun cs=>[stO b0 cs.1 (doQ Q o 0) allT,stO b1 cs.2.1 (doQ Q o 1) allT,stO b2 cs.2.2 (doQ Q o 2) allT,ptsO A cc b0 b1 b2]):=by
 rcases (by omega : o.2.1 % 3=0∨o.2.1 % 3=1∨o.2.1 % 3=2) with h|h|h
 ·exact do0_m b0 b1 b2 cs.1 cs.2.1 cs.2.2 Q hQ A cc o h hn
 ·exact do1_m b0 b1 b2 cs.1 cs.2.1 cs.2.2 Q hQ A cc o h hn
 ·exact do2_m b0 b1 b2 cs.1 cs.2.1 cs.2.2 Q hQ A cc o h hn
theorem fewG_len {l : List FOp} (h : fewG l = true) : l.length ≤ 16 := by
 unfold fewG at h
 simp only [Bool.and_eq_true,decide_eq_true_eq] at h
 exact h.1
set_option maxHeartbeats 2000000 in
theorem rPutOwn_m (b : Nat) (r : RfT) (i : Nat) (hi64 : i < 64) (hh : r.h i = true) (hok : okR r) :
 CallM Tryz.prog 87 [pR b,I i,.v (.slice (r.s i).1 (r.s i).2.2.length (r.s i).2.1)] (fun _ _=>True) [rfO b r] (fun _ : Unit=>I 0) (fun _=>[rfO b r]):=by
 have hv:=(hok i).1
 have hs32 : (r.s i).2.2.length≤32:=by
  have hv:=hv
  unfold aq9 at hv
  simp only [Bool.and_eq_true,decide_eq_true_eq] at hv
  exact hv.1
 have kv:=cj5 (r.s i).1 (r.s i).2.1 (r.s i).2.2 rfl (by unfold maxLen;omega)
 rw [hv] at kv
 have hi : vId (i : Int)=true:=by simp only [vId,Bool.and_eq_true,decide_eq_true_eq];omega
 have ki:=rId_x i
 rw [hi] at ki
 have kc:=bk9 (r.s i).1 (r.s i).1 (r.s i).2.1 (r.s i).2.1 (r.s i).2.2 (r.s i).2.2 rfl rfl hv hv
 rw [akb] at kc
 refine CallM.of (m:=1) Tryz.func87 rfl aza rfl rfl rfl rfl (by simp [SV.wfs,SV.wf]) fun w M π _=>?_
 (conv=>whnf);repeat' (first|((with_reducible refine isC ?_);first|(((with_reducible refine isF 119 ?_);(refine az2 kv (ArgSl.rf 0 i hi64 rfl) ?_));conv=>whnf)|((with_reducible refine azb (ki) ?_)<;>first|omega|with_reducible refine isP ?_|conv=>whnf)|(((with_reducible refine isF 120 ?_);(refine az2 kc (fun σ fp w hm=>⟨ArgSl.rf 0 i hi64 rfl σ fp w hm,ArgSl.rf 0 i hi64 rfl σ fp w hm⟩) ?_));conv=>whnf))|((with_reducible refine isV ?_);first|((refine azs (n:=64) (sz:=1) aza rfl Tryz.underlying152 rfl rfl ?_ ?_ ?_)<;>first|omega|conv=>whnf)|((refine azs (n:=64) (sz:=1) aza rfl Tryz.underlying151 rfl rfl ?_ ?_ ?_)<;>first|omega|conv=>whnf)|((refine azs (n:=64) (sz:=5) aza rfl Tryz.underlying153 rfl rfl ?_ ?_ ?_)<;>first|omega|conv=>whnf)|(refine axt 0 i true aza rfl rfl rfl rfl hi64 hh ?_;conv=>whnf)|(refine ak8 0 i (r.s i) aza rfl rfl rfl rfl hi64 rfl ?_;conv=>whnf))|((with_reducible refine isO ?_);first|((first|(refine azh aza rfl rfl rfl ?_);intro bN|(refine azm aza rfl rfl rfl rfl rfl ?_);intro bN);conv=>whnf))|((first|refine azj aza azt ?_|refine azi (by kernel_rfl) ?_|with_reducible refine azo ?_ ?_)<;>conv=>whnf)|with_reducible exact rfl|((with_reducible refine aze (by assumption) ?_);conv=>whnf)|((with_reducible refine azd ?_ ?_)<;>(intro hb;(try simp (disch:=omega) only [hbS] at hb)<;>conv=>whnf)))
 all_goals try (exfalso;omega)
 exact azv () [0] ⟨rfl,by simp [SV.wf,SV.wfs]⟩ ⟨fun _ _ h=>h,trivial⟩ (by decide) rfl
theorem plc_own {r : RfT} {i : Nat} (h : ¬ (r.p i).1 = 0) : plcA (absR r) i (r.p i) = absR r := by
 unfold plcA
 split
 ·have e : (absR r).2 (i : Int)=some (r.p i):=by
   show (if (r.p i).1=0 then none else some (r.p i))=some (r.p i)
   rw [if_neg h]
  have hx : mxO keyP ((absR r).2 i) (r.p i)=(absR r).2 i:=by
   rw [e]
   exact cv3 keyP _
  rw [hx,av5]
 ·rfl
set_option maxHeartbeats 4000000 in
theorem ckf (b : Nat) (r0' : RfT) (h0 : okR r0') : CallM Tryz.prog 90 [pR b, pR b] (fun _ _ => True) [rfO b r0'] (fun _ : RfI (absR r0') => I 0) (fun r => [rfO b r.1]) := by
 refine CallM.of (m:=1) Tryz.func90 rfl aza rfl rfl rfl rfl (by simp [SV.wfs,SV.wf]) fun w M π _=>?_
 (conv=>whnf);repeat' (first|((with_reducible refine isW ?_;first|refine azg (by omega) (by omega) ?_|refine azc ?_);conv=>whnf)|with_reducible exact rfl|((with_reducible refine aze (by assumption) ?_);conv=>whnf)|((with_reducible refine azd ?_ ?_)<;>(intro hb;(try simp (disch:=omega) only [hbS] at hb)<;>conv=>whnf)))
 refine azr aza (α:=(t : Nat) × RfI (absR r0')) (fun s=>s.1≤64) (fun s=>[(0,pR b),(1,pR b),(5,I s.1)]) (fun s=>[rfO b s.2.1]) (fun s=>64 - s.1) ⟨0,⟨r0',h0,rfl⟩⟩ [0] (Nat.zero_le _) ?_ ?_
 ·(refine ⟨?_,?_,?_,?_⟩<;>(repeat' ((conv=>whnf);apply And.intro))<;>try (first|exact trivial|decide))
  all_goals first|rfl|exact fun _ _ h=>h|(simp [SV.wf,SV.wfs];done)|trace_state
 ·rintro ⟨t,⟨r,hok,hab⟩⟩ ht
  dsimp only at ht hok ⊢
  by_cases hlt : t < 64
  ·have hz:=(hok t).2.2.2.1
   have hnn:=(hok t).2.2.1
   rcases Bool.eq_false_or_eq_true (r.h t) with hh|hh
   ·have kput:=rPutOwn_m b r t hlt hh hok
    by_cases hp : (r.p t).1=0
    ·(conv=>whnf);repeat' (first|((with_reducible refine isC ?_);first|(((with_reducible refine isF 87 ?_);(refine azl kput [0] rfl ⟨fun _ _ h=>h,trivial⟩ (by decide) (fun _ _ _ _=>trivial) ?_;intro q));conv=>whnf))|((with_reducible refine isV ?_);first|((refine azs (n:=64) (sz:=1) aza rfl Tryz.underlying152 rfl rfl ?_ ?_ ?_)<;>first|omega|conv=>whnf)|((refine azs (n:=64) (sz:=1) aza rfl Tryz.underlying151 rfl rfl ?_ ?_ ?_)<;>first|omega|conv=>whnf)|((refine azs (n:=64) (sz:=5) aza rfl Tryz.underlying153 rfl rfl ?_ ?_ ?_)<;>first|omega|conv=>whnf)|(refine axt 0 t true aza rfl rfl rfl rfl hlt hh ?_;conv=>whnf)|(refine ak8 0 t (r.s t) aza rfl rfl rfl rfl hlt rfl ?_;conv=>whnf)|(refine aj1 0 t (r.p t).1 aza rfl rfl rfl rfl hlt rfl ?_;conv=>whnf))|((with_reducible refine isW ?_;first|refine azg (by omega) (by omega) ?_|refine azc ?_);conv=>whnf)|with_reducible exact rfl|((with_reducible refine aze (by assumption) ?_);conv=>whnf)|((with_reducible refine azd ?_ ?_)<;>(intro hb;(try simp (disch:=omega) only [hbS] at hb)<;>conv=>whnf)))
     all_goals try (exfalso;omega)
     refine ⟨⟨t + 1,r,hok,hab⟩,[0],by (try dsimp only);omega,?_,by (try dsimp only);omega⟩
     (refine ⟨?_,?_,?_,?_⟩<;>(repeat' ((conv=>whnf);apply And.intro))<;>try (first|exact trivial|decide))
     all_goals first|rfl|exact fun _ _ h=>h|(simp [SV.wf,SV.wfs];done)|trace_state
    ·have kpl:=bzj b r t (r.p t) hok
     have hpl:=plc_own hp
     (conv=>whnf);repeat' (first|((with_reducible refine isC ?_);first|((first|(with_reducible refine isF 87 ?_);(refine azl kput [0] rfl ⟨fun _ _ h=>h,trivial⟩ (by decide) (fun _ _ _ _=>trivial) ?_;intro q)|(with_reducible refine isF 88 ?_);(refine azl kpl [0] rfl ⟨fun _ _ h=>h,trivial⟩ (by decide) (fun _ _ _ _=>trivial) ?_;intro q2));conv=>whnf))|((with_reducible refine isV ?_);first|((refine azs (n:=64) (sz:=1) aza rfl Tryz.underlying152 rfl rfl ?_ ?_ ?_)<;>first|omega|conv=>whnf)|((refine azs (n:=64) (sz:=1) aza rfl Tryz.underlying151 rfl rfl ?_ ?_ ?_)<;>first|omega|conv=>whnf)|((refine azs (n:=64) (sz:=5) aza rfl Tryz.underlying153 rfl rfl ?_ ?_ ?_)<;>first|omega|conv=>whnf)|(refine axt 0 t true aza rfl rfl rfl rfl hlt hh ?_;conv=>whnf)|(refine ak8 0 t (r.s t) aza rfl rfl rfl rfl hlt rfl ?_;conv=>whnf)|(refine aj1 0 t (r.p t).1 aza rfl rfl rfl rfl hlt rfl ?_;conv=>whnf)|(refine av6 0 t (r.p t) aza rfl rfl rfl rfl rfl hlt rfl ?_;conv=>whnf))|((with_reducible refine isW ?_;first|refine azg (by omega) (by omega) ?_|refine azc ?_);conv=>whnf)|with_reducible exact rfl|((with_reducible refine aze (by assumption) ?_);conv=>whnf)|((with_reducible refine azd ?_ ?_)<;>(intro hb;(try simp (disch:=omega) only [hbS] at hb)<;>conv=>whnf)))
     all_goals try (exfalso;omega)
     refine ⟨⟨t + 1,q2.1,q2.2.1,by rw [q2.2.2,hpl,hab]⟩,[0],by (try dsimp only);omega,?_,by (try dsimp only);omega⟩
     (refine ⟨?_,?_,?_,?_⟩<;>(repeat' ((conv=>whnf);apply And.intro))<;>try (first|exact trivial|decide))
     all_goals first|rfl|exact fun _ _ h=>h|(simp [SV.wf,SV.wfs];done)|trace_state
   ·by_cases hp : (r.p t).1=0
    ·(conv=>whnf);repeat' (first|((with_reducible refine isV ?_);first|((refine azs (n:=64) (sz:=1) aza rfl Tryz.underlying152 rfl rfl ?_ ?_ ?_)<;>first|omega|conv=>whnf)|((refine azs (n:=64) (sz:=1) aza rfl Tryz.underlying151 rfl rfl ?_ ?_ ?_)<;>first|omega|conv=>whnf)|((refine azs (n:=64) (sz:=5) aza rfl Tryz.underlying153 rfl rfl ?_ ?_ ?_)<;>first|omega|conv=>whnf)|(refine axt 0 t false aza rfl rfl rfl rfl hlt hh ?_;conv=>whnf)|(refine aj1 0 t (r.p t).1 aza rfl rfl rfl rfl hlt rfl ?_;conv=>whnf))|((with_reducible refine isW ?_;first|refine azg (by omega) (by omega) ?_|refine azc ?_);conv=>whnf)|with_reducible exact rfl|((with_reducible refine aze (by assumption) ?_);conv=>whnf)|((with_reducible refine azd ?_ ?_)<;>(intro hb;(try simp (disch:=omega) only [hbS] at hb)<;>conv=>whnf)))
     all_goals try (exfalso;omega)
     refine ⟨⟨t + 1,r,hok,hab⟩,[0],by (try dsimp only);omega,?_,by (try dsimp only);omega⟩
     (refine ⟨?_,?_,?_,?_⟩<;>(repeat' ((conv=>whnf);apply And.intro))<;>try (first|exact trivial|decide))
     all_goals first|rfl|exact fun _ _ h=>h|(simp [SV.wf,SV.wfs];done)|trace_state
    ·have kpl:=bzj b r t (r.p t) hok
     have hpl:=plc_own hp
     (conv=>whnf);repeat' (first|((with_reducible refine isC ?_);first|(((with_reducible refine isF 88 ?_);(refine azl kpl [0] rfl ⟨fun _ _ h=>h,trivial⟩ (by decide) (fun _ _ _ _=>trivial) ?_;intro q2));conv=>whnf))|((with_reducible refine isV ?_);first|((refine azs (n:=64) (sz:=1) aza rfl Tryz.underlying152 rfl rfl ?_ ?_ ?_)<;>first|omega|conv=>whnf)|((refine azs (n:=64) (sz:=1) aza rfl Tryz.underlying151 rfl rfl ?_ ?_ ?_)<;>first|omega|conv=>whnf)|((refine azs (n:=64) (sz:=5) aza rfl Tryz.underlying153 rfl rfl ?_ ?_ ?_)<;>first|omega|conv=>whnf)|(refine axt 0 t false aza rfl rfl rfl rfl hlt hh ?_;conv=>whnf)|(refine aj1 0 t (r.p t).1 aza rfl rfl rfl rfl hlt rfl ?_;conv=>whnf)|(refine av6 0 t (r.p t) aza rfl rfl rfl rfl rfl hlt rfl ?_;conv=>whnf))|((with_reducible refine isW ?_;first|refine azg (by omega) (by omega) ?_|refine azc ?_);conv=>whnf)|with_reducible exact rfl|((with_reducible refine aze (by assumption) ?_);conv=>whnf)|((with_reducible refine azd ?_ ?_)<;>(intro hb;(try simp (disch:=omega) only [hbS] at hb)<;>conv=>whnf)))
     all_goals try (exfalso;omega)
     refine ⟨⟨t + 1,q2.1,q2.2.1,by rw [q2.2.2,hpl,hab]⟩,[0],by (try dsimp only);omega,?_,by (try dsimp only);omega⟩
     (refine ⟨?_,?_,?_,?_⟩<;>(repeat' ((conv=>whnf);apply And.intro))<;>try (first|exact trivial|decide))
     all_goals first|rfl|exact fun _ _ h=>h|(simp [SV.wf,SV.wfs];done)|trace_state
  ·obtain rfl : t=64:=by omega
   (conv=>whnf);repeat' (first|((with_reducible refine isW ?_;first|refine azg (by omega) (by omega) ?_|refine azc ?_);conv=>whnf)|with_reducible exact rfl|((with_reducible refine aze (by assumption) ?_);conv=>whnf)|((with_reducible refine azd ?_ ?_)<;>(intro hb;(try simp (disch:=omega) only [hbS] at hb)<;>conv=>whnf)))
   all_goals try (exfalso;omega)
   exact azv ⟨r,hok,hab⟩ [0] ⟨rfl,by simp [SV.wf,SV.wfs]⟩ ⟨fun _ _ h=>h,trivial⟩ (by decide) rfl
structure RcT where
 b : Nat
 A : Option Addr
 cA : Nat
 p : Nat→Nat
structure RdT where
 R : Nat→RfT
 P : Option Addr
 d : Nat
abbrev ptsL8 (p : Nat → Nat) : List Nat := (List.range 8).map p
abbrev rsB (c : RcT) (D : RdT) (S : SnT) : OB := rsO c.b S.me c.A 8 c.cA D.P (aqj S).length D.d
abbrev rsQ (c : RcT) : OB := .row 101 1 c.A 8 c.cA ((ptsL8 c.p).map fun b => [ptrV b])
abbrev rsR (D : RdT) (S : SnT) : OB := .row 39 5 D.P (aqj S).length D.d ((aqj S).map encR)
def okD (S : SnT) (D : RdT) : Prop := ∀ i, i < 8 → okR (D.R i) ∧ absR (D.R i) = S.ats i
theorem pt8 (p : Nat → Nat) {i : Nat} (h : i < 8) : (ptsL8 p).getD i 0 = p i := by simp [ptsL8, h]
theorem okD_upd {S : SnT} {D : RdT} (h : okD S D) {i : Nat} (a : AtT) (r : RfI a) (S' : SnT) (hS : S'.ats = updN S.ats i a) : ∀ k, k < 8 → okR (updN D.R i r.1 k) ∧ absR (updN D.R i r.1 k) = S'.ats k := by
 intro k hk
 rw [hS]
 unfold updN
 by_cases e : k=i
 ·rw [if_pos e,if_pos e]
  exact r.2
 ·rw [if_neg e,if_neg e]
  exact h k hk
set_option maxHeartbeats 2000000 in
theorem ckg (c : RcT) (D : RdT) (S : SnT) (hD : okD S D) (i : Nat) (hi : i < 8) (hme : S.me = i) (k : Int) (A : Option Addr) (cc : Nat) (s : BmsT) {n : Nat} (hl : s.length = n) (hn : n ≤ maxLen) :
 CallM Tryz.prog 47 [pR c.b,I k,.v (.slice A n cc)] (fun w M=>ArgN w M A n 2 (s.map encBm)) [rsB c D S,rsQ c,raO c.p D.R allT,rsR D S]
  (fun _ : {D' : RdT // okD { S with ats:=updN S.ats i (putA (S.ats i) k s) } D'}=>I (putC k s)) (fun q=>[rsB c q.1 { S with ats:=updN S.ats i (putA (S.ats i) k s) },rsQ c,raO c.p q.1.R allT,rsR q.1 { S with ats:=updN S.ats i (putA (S.ats i) k s) }]):=by
 obtain ⟨ok,ab⟩:=hD i hi
 have kp:=rPut_m (c.p i) (D.R i) k A cc s hl hn ok
 rw [ab] at kp
 refine CallM.of (m:=4) Tryz.func47 rfl aza rfl rfl rfl rfl (by simp [SV.wfs,SV.wf]) fun w M π hpre=>?_
 (conv=>whnf);repeat' (first|((with_reducible refine isV ?_);first|(refine bvl 0 i aza rfl rfl rfl rfl hme ?_;conv=>whnf)|(refine aj2 0 aza rfl rfl rfl rfl ?_;conv=>whnf)|((first|refine azf aza rfl (ArgSl.row 1 rfl) rfl ?_ ?_ ?_|(with_reducible refine azq ?_);refine azn _ _ (0) aza rfl rfl rfl (ArgSl.row 1 rfl) ?_ ?_ ?_|refine azp _ _ (0) aza rfl rfl rfl (ArgSl.row 1 rfl) ?_ ?_ ?_)<;>first|rfl|omega|with_reducible refine isP ?_|conv=>whnf))|((first|refine azj aza azt ?_|refine azi (by kernel_rfl) ?_|with_reducible refine azo ?_ ?_)<;>conv=>whnf)|with_reducible exact rfl|((with_reducible refine aze (by assumption) ?_);conv=>whnf)|((with_reducible refine azd ?_ ?_)<;>(intro hb;(try simp (disch:=omega) only [hbS] at hb)<;>conv=>whnf)))
 all_goals try (exfalso;omega)
 rw [pt8 c.p hi]
 refine ajn 2 i 4 (Entr.of Tryz.func87 rfl rfl) rfl rfl hi (ajk hi) (by simp [SV.wf,SV.wfs]) ?_
 conv=>whnf
 refine azl kp [4] rfl ⟨fun _ _ h=>h,trivial⟩ (by decide) (ArgN.on hpre (by decide) (m:=1) (r:=[4]) (fun j hj=>by rcases (by omega : j=0) with rfl;simp)) ?_
 intro r
 conv=>whnf
 refine ⟨r.1,rfl,rfl,?_⟩
 (conv=>whnf);repeat' (first|((first|refine azj aza azt ?_|refine azi (by kernel_rfl) ?_|with_reducible refine azo ?_ ?_)<;>conv=>whnf)|with_reducible exact rfl|((with_reducible refine aze (by assumption) ?_);conv=>whnf)|((with_reducible refine azd ?_ ?_)<;>(intro hb;(try simp (disch:=omega) only [hbS] at hb)<;>conv=>whnf)))
 all_goals try (exfalso;omega)
 exact azv ⟨⟨updN D.R i r.1,D.P,D.d⟩,okD_upd hD _ r _ rfl⟩ [0,1,2,3] ⟨rfl,by simp [SV.wf,SV.wfs]⟩ ⟨fun _ _ h=>h,⟨rfl,rfl,rfl,rfl,rfl,rfl⟩,fun _ _ h=>h,⟨rfl,rfl,rfl,rfl,rfl,rfl⟩,trivial⟩ (by decide) rfl
set_option maxHeartbeats 2000000 in
theorem bj1 (c : RcT) (D : RdT) (S : SnT) (hD : okD S D) (i : Nat) (hi : i < 8) (hme : S.me = i) (k : Int) (x : PlT) :
 CallM Tryz.prog 48 [pR c.b,I k,plX x] (fun _ _=>True) [rsB c D S,rsQ c,raO c.p D.R allT,rsR D S]
  (fun _ : {D' : RdT // okD { S with ats:=updN S.ats i (plcA (S.ats i) k x) } D'}=>I (plcC k x)) (fun q=>[rsB c q.1 { S with ats:=updN S.ats i (plcA (S.ats i) k x) },rsQ c,raO c.p q.1.R allT,rsR q.1 { S with ats:=updN S.ats i (plcA (S.ats i) k x) }]):=by
 obtain ⟨ok,ab⟩:=hD i hi
 have kp:=bzj (c.p i) (D.R i) k x ok
 rw [ab] at kp
 refine CallM.of (m:=4) Tryz.func48 rfl aza rfl rfl rfl rfl (by simp [SV.wfs,SV.wf]) fun w M π hpre=>?_
 (conv=>whnf);repeat' (first|((with_reducible refine isV ?_);first|(refine bvl 0 i aza rfl rfl rfl rfl hme ?_;conv=>whnf)|(refine aj2 0 aza rfl rfl rfl rfl ?_;conv=>whnf)|((first|refine azf aza rfl (ArgSl.row 1 rfl) rfl ?_ ?_ ?_|(with_reducible refine azq ?_);refine azn _ _ (0) aza rfl rfl rfl (ArgSl.row 1 rfl) ?_ ?_ ?_|refine azp _ _ (0) aza rfl rfl rfl (ArgSl.row 1 rfl) ?_ ?_ ?_)<;>first|rfl|omega|with_reducible refine isP ?_|conv=>whnf))|((first|refine azj aza azt ?_|refine azi (by kernel_rfl) ?_|with_reducible refine azo ?_ ?_)<;>conv=>whnf)|with_reducible exact rfl|((with_reducible refine aze (by assumption) ?_);conv=>whnf)|((with_reducible refine azd ?_ ?_)<;>(intro hb;(try simp (disch:=omega) only [hbS] at hb)<;>conv=>whnf)))
 all_goals try (exfalso;omega)
 rw [pt8 c.p hi]
 refine ajn 2 i 5 (Entr.of Tryz.func88 rfl rfl) rfl rfl hi (ajk hi) (by simp [SV.wf,SV.wfs]) ?_
 conv=>whnf
 refine azl kp [5] rfl ⟨fun _ _ h=>h,trivial⟩ (by decide) (fun _ _ _ _=>trivial) ?_
 intro r
 conv=>whnf
 refine ⟨r.1,rfl,rfl,?_⟩
 (conv=>whnf);repeat' (first|((first|refine azj aza azt ?_|refine azi (by kernel_rfl) ?_|with_reducible refine azo ?_ ?_)<;>conv=>whnf)|with_reducible exact rfl|((with_reducible refine aze (by assumption) ?_);conv=>whnf)|((with_reducible refine azd ?_ ?_)<;>(intro hb;(try simp (disch:=omega) only [hbS] at hb)<;>conv=>whnf)))
 all_goals try (exfalso;omega)
 exact azv ⟨⟨updN D.R i r.1,D.P,D.d⟩,okD_upd hD _ r _ rfl⟩ [0,1,2,3] ⟨rfl,by simp [SV.wf,SV.wfs]⟩ ⟨fun _ _ h=>h,⟨rfl,rfl,rfl,rfl,rfl,rfl⟩,fun _ _ h=>h,⟨rfl,rfl,rfl,rfl,rfl,rfl⟩,trivial⟩ (by decide) rfl
end Go.Proofs.YtlnplelandimeaaGreat.En
end
