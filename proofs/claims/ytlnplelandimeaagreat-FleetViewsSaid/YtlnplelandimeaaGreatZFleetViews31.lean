import Derived.Test.YtlnplelandimeaaGreatZFleetViews30
import Derived.Test.YtlnplelandimeaaGreatZFleetViews14
import Derived.Test.YtlnplelandimeaaGreatZFleetViews23
set_option linter.all false
section
namespace Go.Proofs.YtlnplelandimeaaGreat.En
open Go.RowKit
set_option maxRecDepth 100000
theorem av8 {O : SnT} (h : wfS O) {L : List RelT} (hL : L = aqj O) {t : Nat} (ht : t < L.length) : aq1 (L.getD t r0) = true := by
 subst hL
 have hm : (aqj O).getD t r0∈aqj O:=by simp [ht]
 unfold aqj aqt at hm
 obtain ⟨n,_,hn⟩:=List.mem_filterMap.1 hm
 obtain ⟨f,hf,he,_⟩:=prs_ok h hn
 unfold aqj aqt
 rw [he]
 exact (bjt (S:=O) h hf).2
theorem bju {L : List RelT} {t : Nat} (ht : t < L.length) : L.take (t + 1) = L.take t ++ [L.getD t r0] := by
 rw [List.take_succ]
 simp [ht]
def ax6 (S O : SnT) (k : Nat) : SnT := { S with ats := fun i => if i < k then bzh (S.ats i) (O.ats i) else S.ats i }
theorem ckc (S O : SnT) (k : Nat) : { ax6 S O k with ats := updN (ax6 S O k).ats k (bzh (S.ats k) (O.ats k)) } = ax6 S O (k + 1) := by
 unfold ax6
 dsimp only
 congr 1
 funext i
 unfold updN
 by_cases e : i=k
 ·rw [if_pos e,if_pos (by omega),e]
 ·rw [if_neg e]
  dsimp only
  by_cases c : i < k
  ·rw [if_pos c,if_pos (by omega)]
  ·rw [if_neg c,if_neg (by omega)]
theorem cxp (S O : SnT) (k : Nat) : (ax6 S O k).ats k = S.ats k := by
 unfold ax6
 dsimp only
 rw [if_neg (by omega)]
theorem cv2 {S O : SnT} (hO : wfS O) : (aqj O).foldl axe (ax6 S O 8) = aki S O := by
 rw [dzm hO]
 unfold joinR ax6 aki
 dsimp only
 congr 1
 funext i
 by_cases c : i < 8
 ·rw [if_pos c]
 ·rw [if_neg c,hO.2.2 i (by omega)]
  rfl
set_option maxHeartbeats 8000000 in
theorem bvi (b1 b2 : Nat) (c1 c2 : CoT) (S O : SnT) (hO : wfS O) : CallM Tryz.prog 33 [pR b1, pR b2] (fun _ _ => True) [stO b1 c1 S allT, stO b2 c2 O allT]
 (fun _ : Nat→Nat→Nat=>I 0) (fun rp=>[stO b1 { c1 with rp:=rp } (aki S O) allT,stO b2 c2 O allT]):=by
 have k2:=avd b2 c2 O allT
 have hfin:=cv2 (S:=S) hO
 have hao:=fun t ht=>av8 hO (L:=aqj O) rfl (t:=t) ht
 have hl:=axu O 64
 have e1 : aqt O 64=aqj O:=rfl
 rw [e1] at hl
 clear e1
 generalize aqj O=L at *
 refine CallM.of (m:=2) Tryz.func33 rfl aza rfl rfl rfl rfl (by simp [SV.wfs,SV.wf]) fun w M π _=>?_
 (conv=>whnf);repeat' (first|((with_reducible refine isV ?_);first|(refine bqf 0 aza rfl rfl rfl rfl rfl ?_;conv=>whnf))|((with_reducible refine isW ?_;first|refine azg (by omega) (by omega) ?_|refine azc ?_);conv=>whnf)|with_reducible exact rfl|((with_reducible refine aze (by assumption) ?_);conv=>whnf)|((with_reducible refine azd ?_ ?_)<;>(intro hb;(try simp (disch:=omega) only [hbS] at hb)<;>conv=>whnf)))
 have hj0 : ax6 S O 0=S:=by
  unfold ax6
  have : (fun i=>if i < 0 then bzh (S.ats i) (O.ats i) else S.ats i)=S.ats:=by
   funext i
   rw [if_neg (by omega)]
  rw [this]
 refine azr aza (α:=(k : Nat) × {S' : SnT // S' = ax6 S O k}) (fun s=>s.1≤8) (fun s=>[(0,pR b1),(1,pR b2),(18,.a ((ptsL c1).map .v)),(19,I s.1)]) (fun s=>[stO b1 c1 s.2.1 allT,stO b2 c2 O allT]) (fun s=>8 - s.1) ⟨0,S,hj0.symm⟩ [0,1] (Nat.zero_le _) ?_ ?_
 ·(refine ⟨?_,?_,?_,?_⟩<;>(repeat' ((conv=>whnf);apply And.intro))<;>try (first|exact trivial|decide))
  all_goals first|rfl|exact fun _ _ h=>h|(simp [SV.wf,SV.wfs];done)|trace_state
 ·rintro ⟨k,S',hS'⟩ hk
  dsimp only at hk hS' ⊢
  by_cases hlt : k < 8
  ·have hat : S'.ats k=S.ats k:=by rw [hS',cxp]
   have hnx : { S' with ats:=updN S'.ats k (bzh (S'.ats k) (O.ats k)) } = ax6 S O (k + 1):=by
    rw [hat,hS']
    exact ckc S O k
   (conv=>whnf);repeat' (first|((with_reducible refine isV ?_);first|(refine akd (sz:=1) (vs:=ptsL c1) (.v (.pointer (ptP c1 k))) aza rfl Tryz.underlying94 rfl rfl (by omega) (by omega) rfl (by (try dsimp only);rw [Int.toNat_natCast,cv1 c1 hlt];rfl) ?_;conv=>whnf)|((refine azs (n:=8) (sz:=1) aza rfl Tryz.underlying94 rfl rfl ?_ ?_ ?_)<;>first|omega|conv=>whnf)|((refine azs (n:=8) (sz:=8) aza rfl Tryz.underlying97 rfl rfl ?_ ?_ ?_)<;>first|omega|conv=>whnf)|((refine azs (n:=8) (sz:=1) aza rfl Tryz.underlying96 rfl rfl ?_ ?_ ?_)<;>first|omega|conv=>whnf)|(refine avr 1 k _ aza rfl rfl rfl rfl hlt rfl ?_;conv=>whnf))|((with_reducible refine isW ?_;first|refine azg (by omega) (by omega) ?_|refine azc ?_);conv=>whnf)|with_reducible exact rfl|((with_reducible refine aze (by assumption) ?_);conv=>whnf)|((with_reducible refine azd ?_ ?_)<;>(intro hb;(try simp (disch:=omega) only [hbS] at hb)<;>conv=>whnf)))
   all_goals try (exfalso;omega)
   (refine ajl (b:=b1) (c:=c1) (S:=S') [.p 2 0,.v (.pointer (ptP c2 k))] 0 k 2 ?_ ?_ ?_ hlt (ajk hlt) ?_ ?_ ?_);(focus (exact Entr.of Tryz.func77 rfl rfl));(focus rfl);(focus rfl);(focus (simp [SV.wf,SV.wfs]));(focus (intro σ h;simp [SV.vals,SV.val,ptP,h]))
   intro x1 x2 m1 q1 ok1 ab1 hg1
   conv=>whnf
   (refine ajl (b:=b2) (c:=c2) (S:=O) [.p 2 0,.p 5 0] 1 k 5 ?_ ?_ ?_ hlt (ajk hlt) ?_ ?_ ?_);(focus (exact Entr.of Tryz.func77 rfl rfl));(focus rfl);(focus rfl);(focus (simp [SV.wf,SV.wfs]));(focus (intro σ h;simp [SV.vals,SV.val,ptP,h]))
   intro y1 y2 m2 q2 ok2 ab2 hg2
   conv=>whnf
   refine azl (Join_m x1 x2 y1 y2 m1 m2 q1 q2 ok1 ok2 (by rw [ab2];exact hg2)) [2,3,4,5,6,7] rfl ⟨⟨rfl,rfl,by simp [SV.wf,SV.wfs]⟩,fun _ _ h=>h,fun _ _ h=>h,⟨rfl,rfl,by simp [SV.wf,SV.wfs]⟩,fun _ _ h=>h,fun _ _ h=>h,trivial⟩ (by decide) (fun _ _ _ _=>trivial) ?_
   rintro ⟨⟨m3,q3⟩,ok3,ab3⟩
   dsimp only at ok3 ⊢
   have ab3 : absM (m3,q3)=bzh (S'.ats k) (O.ats k):=ab3.trans (by rw [ab1,ab2])
   conv=>whnf
   refine ⟨y1,y2,m2,q2,rfl,rfl,rfl,rfl,ok2,by rw [ab2];exact hg2,?_⟩
   rw [ab2,ajw]
   conv=>whnf
   refine ⟨x1,x2,m3,q3,rfl,rfl,rfl,rfl,ok3,by rw [ab3];exact bjs hg1 hg2,?_⟩
   rw [ab3]
   (conv=>whnf);repeat' (first|((with_reducible refine isW ?_;first|refine azg (by omega) (by omega) ?_|refine azc ?_);conv=>whnf)|with_reducible exact rfl|((with_reducible refine aze (by assumption) ?_);conv=>whnf)|((with_reducible refine azd ?_ ?_)<;>(intro hb;(try simp (disch:=omega) only [hbS] at hb)<;>conv=>whnf)))
   all_goals try (exfalso;omega)
   refine ⟨⟨k + 1,_,hnx⟩,[0,1],by (try dsimp only);omega,?_,by (try dsimp only);omega⟩
   (refine ⟨?_,?_,?_,?_⟩<;>(repeat' ((conv=>whnf);apply And.intro))<;>try (first|exact trivial|decide))
   all_goals first|rfl|exact fun _ _ h=>h|(simp [SV.wf,SV.wfs];done)|trace_state
  ·obtain rfl : k=8:=by omega
   (conv=>whnf);repeat' (first|((with_reducible refine isC ?_);first|(((with_reducible refine isF 35 ?_);((refine azl k2 [1] rfl ⟨fun _ _ h=>h,trivial⟩ (by decide) (fun _ _ _ _=>trivial) ?_;intro q2;obtain ⟨A2,d2⟩:=q2)));conv=>whnf))|((with_reducible refine isW ?_;first|refine azg (by omega) (by omega) ?_|refine azc ?_);conv=>whnf)|with_reducible exact rfl|((with_reducible refine aze (by assumption) ?_);conv=>whnf)|((with_reducible refine azd ?_ ?_)<;>(intro hb;(try simp (disch:=omega) only [hbS] at hb)<;>conv=>whnf)))
   all_goals try (exfalso;omega)
   refine azr aza (α:=(t : Nat) × (Nat→Nat→Nat) × {S2 : SnT // S2=(L.take t).foldl axe S'}) (fun s=>s.1≤L.length) (fun s=>[(0,pR b1),(33,.v (.slice A2 L.length d2)),(34,I L.length),(35,I s.1)])
    (fun s=>[stO b1 { c1 with rp:=s.2.1 } s.2.2.1 allT,stO b2 c2 O allT,.row 39 5 A2 L.length d2 (L.map encR)]) (fun s=>L.length - s.1) ⟨0,c1.rp,S',rfl⟩ [0,1,2] (Nat.zero_le _) ?_ ?_
   ·(refine ⟨?_,?_,?_,?_⟩<;>(repeat' ((conv=>whnf);apply And.intro))<;>try (first|exact trivial|decide))
    all_goals first|rfl|exact fun _ _ h=>h|(simp [SV.wf,SV.wfs];done)|trace_state
   ·rintro ⟨t,rp,S2,hS2⟩ ht
    dsimp only at ht hS2 ⊢
    by_cases hlt : t < L.length
    ·have hnx : axe S2 (L.getD t r0)=(L.take (t + 1)).foldl axe S':=by
      rw [bju hlt,List.foldl_append,hS2]
      rfl
     have kt:=bw6 b1 { c1 with rp:=rp } S2 (L.getD t r0) (hao t hlt)
     (conv=>whnf);repeat' (first|((with_reducible refine isC ?_);first|(((with_reducible refine isF 76 ?_);((refine azl kt [0] rfl ⟨fun _ _ h=>h,trivial⟩ (by decide) (fun _ _ _ _=>trivial) ?_;intro rp2)));conv=>whnf))|((with_reducible refine isV ?_);first|((first|refine azf aza rfl (ArgSl.row 2 rfl) rfl ?_ ?_ ?_|(with_reducible refine azq ?_);refine azw _ _ (r0) aza rfl rfl rfl rfl (ArgSl.row 2 rfl) ?_ ?_ ?_|refine azy _ _ (r0) aza rfl rfl rfl rfl (ArgSl.row 2 rfl) ?_ ?_ ?_)<;>first|rfl|omega|with_reducible refine isP ?_|conv=>whnf))|((with_reducible refine isW ?_;first|refine azg (by omega) (by omega) ?_|refine azc ?_);conv=>whnf)|with_reducible exact rfl|((with_reducible refine aze (by assumption) ?_);conv=>whnf)|((with_reducible refine azd ?_ ?_)<;>(intro hb;(try simp (disch:=omega) only [hbS] at hb)<;>conv=>whnf)))
     all_goals try (exfalso;omega)
     refine ⟨⟨t + 1,rp2,_,hnx⟩,[0,1,2],by (try dsimp only);omega,?_,by (try dsimp only);omega⟩
     (refine ⟨?_,?_,?_,?_⟩<;>(repeat' ((conv=>whnf);apply And.intro))<;>try (first|exact trivial|decide))
     all_goals first|rfl|exact fun _ _ h=>h|(simp [SV.wf,SV.wfs];done)|trace_state
    ·obtain rfl : t=L.length:=by omega
     have hS3 : S2=aki S O:=by rw [hS2,List.take_length,hS',hfin]
     (conv=>whnf);repeat' (first|((with_reducible refine isW ?_;first|refine azg (by omega) (by omega) ?_|refine azc ?_);conv=>whnf)|with_reducible exact rfl|((with_reducible refine aze (by assumption) ?_);conv=>whnf)|((with_reducible refine azd ?_ ?_)<;>(intro hb;(try simp (disch:=omega) only [hbS] at hb)<;>conv=>whnf)))
     all_goals try (exfalso;omega)
     exact azv rp [0,1] ⟨rfl,by simp [SV.wf,SV.wfs]⟩ ⟨fun _ _ h=>cvx hS3 rfl h,fun _ _ h=>h,trivial⟩ (by decide) rfl
theorem cv3 {α : Type} (key : α → List Int) (v : α) : mxO key (some v) v = some v := by
 unfold mxO
 dsimp only
 rw [akb,if_neg (by omega)]
theorem cv4 {S : SnT} (h : wfS S) {L : List RelT} (hL : L = aqj S) {t : Nat} (ht : t < L.length) : axe S (L.getD t r0) = S := by
 subst hL
 have hm : (aqj S).getD t r0∈aqj S:=by simp [ht]
 unfold aqj aqt at hm
 obtain ⟨n,_,hn⟩:=List.mem_filterMap.1 hm
 obtain ⟨f,hf,he,_⟩:=prs_ok h hn
 unfold aqj aqt
 rw [he,(bjt h hf).1]
 unfold setR
 rw [hf,cv3,← hf,cxm]
set_option maxHeartbeats 8000000 in
theorem bqg (b1 : Nat) (c1 : CoT) (S : SnT) (hS : wfS S) : CallM Tryz.prog 33 [pR b1, pR b1] (fun _ _ => True) [stO b1 c1 S allT] (fun _ : Nat → Nat → Nat => I 0) (fun rp => [stO b1 { c1 with rp := rp } S allT]) := by
 have k2:=avd b1 c1 S allT
 have hao:=fun t ht=>av8 hS (L:=aqj S) rfl (t:=t) ht
 have hown:=fun t ht=>cv4 hS (L:=aqj S) rfl (t:=t) ht
 have hl:=axu S 64
 have e1 : aqt S 64=aqj S:=rfl
 rw [e1] at hl
 clear e1
 generalize aqj S=L at *
 refine CallM.of (m:=1) Tryz.func33 rfl aza rfl rfl rfl rfl (by simp [SV.wfs,SV.wf]) fun w M π _=>?_
 (conv=>whnf);repeat' (first|((with_reducible refine isV ?_);first|(refine bqf 0 aza rfl rfl rfl rfl rfl ?_;conv=>whnf))|((with_reducible refine isW ?_;first|refine azg (by omega) (by omega) ?_|refine azc ?_);conv=>whnf)|with_reducible exact rfl|((with_reducible refine aze (by assumption) ?_);conv=>whnf)|((with_reducible refine azd ?_ ?_)<;>(intro hb;(try simp (disch:=omega) only [hbS] at hb)<;>conv=>whnf)))
 refine azr aza (α:=Nat) (fun s=>s≤8) (fun s=>[(0,pR b1),(1,pR b1),(18,.a ((ptsL c1).map .v)),(19,I s)]) (fun s=>[stO b1 c1 S allT]) (fun s=>8 - s) 0 [0] (Nat.zero_le _) ?_ ?_
 ·(refine ⟨?_,?_,?_,?_⟩<;>(repeat' ((conv=>whnf);apply And.intro))<;>try (first|exact trivial|decide))
  all_goals first|rfl|exact fun _ _ h=>h|(simp [SV.wf,SV.wfs];done)|trace_state
 ·intro k hk
  by_cases hlt : k < 8
  ·(conv=>whnf);repeat' (first|((with_reducible refine isV ?_);first|(refine akd (sz:=1) (vs:=ptsL c1) (.v (.pointer (ptP c1 k))) aza rfl Tryz.underlying94 rfl rfl (by omega) (by omega) rfl (by (try dsimp only);rw [Int.toNat_natCast,cv1 c1 hlt];rfl) ?_;conv=>whnf)|((refine azs (n:=8) (sz:=1) aza rfl Tryz.underlying94 rfl rfl ?_ ?_ ?_)<;>first|omega|conv=>whnf)|((refine azs (n:=8) (sz:=8) aza rfl Tryz.underlying97 rfl rfl ?_ ?_ ?_)<;>first|omega|conv=>whnf)|((refine azs (n:=8) (sz:=1) aza rfl Tryz.underlying96 rfl rfl ?_ ?_ ?_)<;>first|omega|conv=>whnf)|(refine avr 0 k _ aza rfl rfl rfl rfl hlt rfl ?_;conv=>whnf))|((with_reducible refine isW ?_;first|refine azg (by omega) (by omega) ?_|refine azc ?_);conv=>whnf)|with_reducible exact rfl|((with_reducible refine aze (by assumption) ?_);conv=>whnf)|((with_reducible refine azd ?_ ?_)<;>(intro hb;(try simp (disch:=omega) only [hbS] at hb)<;>conv=>whnf)))
   all_goals try (exfalso;omega)
   (refine ajl (b:=b1) (c:=c1) (S:=S) [.p 1 0,.p 1 0] 0 k 1 ?_ ?_ ?_ hlt (ajk hlt) ?_ ?_ ?_);(focus (exact Entr.of Tryz.func77 rfl rfl));(focus rfl);(focus rfl);(focus (simp [SV.wf,SV.wfs]));(focus (intro σ h;simp [SV.vals,SV.val,ptP,h]))
   intro x1 x2 m1 q1 ok1 ab1 hg1
   conv=>whnf
   refine azl (dzd x1 x2 m1 q1 ok1 (by rw [ab1];exact hg1)) [1,2,3] rfl ⟨⟨rfl,rfl,by simp [SV.wf,SV.wfs]⟩,fun _ _ h=>h,fun _ _ h=>h,trivial⟩ (by decide) (fun _ _ _ _=>trivial) ?_
   rintro ⟨q3,hq3⟩
   have ab3 : absM (m1,q3)=S.ats k:=by
    rw [← ab1]
    unfold absM
    dsimp only
    rw [hq3]
   conv=>whnf
   refine ⟨x1,x2,m1,q3,rfl,rfl,rfl,rfl,ok1,by rw [ab3];exact hg1,?_⟩
   rw [ab3,ajw]
   (conv=>whnf);repeat' (first|((with_reducible refine isW ?_;first|refine azg (by omega) (by omega) ?_|refine azc ?_);conv=>whnf)|with_reducible exact rfl|((with_reducible refine aze (by assumption) ?_);conv=>whnf)|((with_reducible refine azd ?_ ?_)<;>(intro hb;(try simp (disch:=omega) only [hbS] at hb)<;>conv=>whnf)))
   all_goals try (exfalso;omega)
   refine ⟨k + 1,[0],by (try dsimp only);omega,?_,by (try dsimp only);omega⟩
   (refine ⟨?_,?_,?_,?_⟩<;>(repeat' ((conv=>whnf);apply And.intro))<;>try (first|exact trivial|decide))
   all_goals first|rfl|exact fun _ _ h=>h|(simp [SV.wf,SV.wfs];done)|trace_state
  ·obtain rfl : k=8:=by omega
   (conv=>whnf);repeat' (first|((with_reducible refine isC ?_);first|(((with_reducible refine isF 35 ?_);((refine azl k2 [0] rfl ⟨fun _ _ h=>h,trivial⟩ (by decide) (fun _ _ _ _=>trivial) ?_;intro q2;obtain ⟨A2,d2⟩:=q2)));conv=>whnf))|((with_reducible refine isW ?_;first|refine azg (by omega) (by omega) ?_|refine azc ?_);conv=>whnf)|with_reducible exact rfl|((with_reducible refine aze (by assumption) ?_);conv=>whnf)|((with_reducible refine azd ?_ ?_)<;>(intro hb;(try simp (disch:=omega) only [hbS] at hb)<;>conv=>whnf)))
   all_goals try (exfalso;omega)
   refine azr aza (α:=Nat × (Nat→Nat→Nat)) (fun s=>s.1≤L.length) (fun s=>[(0,pR b1),(33,.v (.slice A2 L.length d2)),(34,I L.length),(35,I s.1)])
    (fun s=>[stO b1 { c1 with rp:=s.2 } S allT,.row 39 5 A2 L.length d2 (L.map encR)]) (fun s=>L.length - s.1) (0,c1.rp) [0,1] (Nat.zero_le _) ?_ ?_
   ·(refine ⟨?_,?_,?_,?_⟩<;>(repeat' ((conv=>whnf);apply And.intro))<;>try (first|exact trivial|decide))
    all_goals first|rfl|exact fun _ _ h=>h|(simp [SV.wf,SV.wfs];done)|trace_state
   ·rintro ⟨t,rp⟩ ht
    dsimp only at ht ⊢
    by_cases hlt : t < L.length
    ·have kt:=bw6 b1 { c1 with rp:=rp } S (L.getD t r0) (hao t hlt)
     rw [hown t hlt] at kt
     (conv=>whnf);repeat' (first|((with_reducible refine isC ?_);first|(((with_reducible refine isF 76 ?_);((refine azl kt [0] rfl ⟨fun _ _ h=>h,trivial⟩ (by decide) (fun _ _ _ _=>trivial) ?_;intro rp2)));conv=>whnf))|((with_reducible refine isV ?_);first|((first|refine azf aza rfl (ArgSl.row 1 rfl) rfl ?_ ?_ ?_|(with_reducible refine azq ?_);refine azw _ _ (r0) aza rfl rfl rfl rfl (ArgSl.row 1 rfl) ?_ ?_ ?_|refine azy _ _ (r0) aza rfl rfl rfl rfl (ArgSl.row 1 rfl) ?_ ?_ ?_)<;>first|rfl|omega|with_reducible refine isP ?_|conv=>whnf))|((with_reducible refine isW ?_;first|refine azg (by omega) (by omega) ?_|refine azc ?_);conv=>whnf)|with_reducible exact rfl|((with_reducible refine aze (by assumption) ?_);conv=>whnf)|((with_reducible refine azd ?_ ?_)<;>(intro hb;(try simp (disch:=omega) only [hbS] at hb)<;>conv=>whnf)))
     all_goals try (exfalso;omega)
     refine ⟨(t + 1,rp2),[0,1],by (try dsimp only);omega,?_,by (try dsimp only);omega⟩
     (refine ⟨?_,?_,?_,?_⟩<;>(repeat' ((conv=>whnf);apply And.intro))<;>try (first|exact trivial|decide))
     all_goals first|rfl|exact fun _ _ h=>h|(simp [SV.wf,SV.wfs];done)|trace_state
    ·obtain rfl : t=L.length:=by omega
     (conv=>whnf);repeat' (first|((with_reducible refine isW ?_;first|refine azg (by omega) (by omega) ?_|refine azc ?_);conv=>whnf)|with_reducible exact rfl|((with_reducible refine aze (by assumption) ?_);conv=>whnf)|((with_reducible refine azd ?_ ?_)<;>(intro hb;(try simp (disch:=omega) only [hbS] at hb)<;>conv=>whnf)))
     all_goals try (exfalso;omega)
     exact azv rp [0] ⟨rfl,by simp [SV.wf,SV.wfs]⟩ ⟨fun _ _ h=>h,trivial⟩ (by decide) rfl
def ajm (L : List RelT) : List RelT := L.foldl (fun rs x => (Go.Proofs.YtlnplelandimeaaGreat.addF rs x).2) []
def ax1 (S : SnT) : List RelT := ajm (aqj S)
theorem avt {L : List RelT} {t : Nat} (ht : t < L.length) : ajm (L.take (t + 1)) = (Go.Proofs.YtlnplelandimeaaGreat.addF (ajm (L.take t)) (L.getD t r0)).2 := by
 unfold ajm
 rw [bju ht,List.foldl_append]
 rfl
theorem cvu (rs : List RelT) (x : RelT) : (Go.Proofs.YtlnplelandimeaaGreat.addF rs x).2.length ≤ rs.length + 1 := by
 unfold Go.Proofs.YtlnplelandimeaaGreat.addF
 split
 ·split
  ·simp
  ·split<;>simp
 ·simp
theorem ave (L : List RelT) : ∀ t, t ≤ L.length → (ajm (L.take t)).length ≤ t
 | 0,_=>by simp [ajm]
 | t + 1,h=>by
   rw [avt (by omega)]
   exact Nat.le_trans (cvu _ _) (by have:=ave L t (by omega);omega)
set_option maxHeartbeats 4000000 in
theorem cv5 (b : Nat) (c : CoT) (S : SnT) : CallM Tryz.prog 21 [pR b] (fun _ _ => True) [stO b c S allT] (fun rb : Nat => pR rb) (fun rb => [stO b c S allT, relO rb (ax1 S)]) := by
 have k2:=avd b c S allT
 have hl:=axu S 64
 have e1 : aqt S 64=aqj S:=rfl
 have e2 : ax1 S=ajm (aqj S):=rfl
 rw [e1] at hl
 rw [e2]
 clear e1 e2
 generalize aqj S=L at *
 have hfl:=ave L
 refine CallM.of (m:=1) Tryz.func21 rfl aza rfl rfl rfl rfl (by simp [SV.wfs,SV.wf]) fun w M π _=>?_
 (conv=>whnf);repeat' (first|((with_reducible refine isC ?_);first|((first|(with_reducible refine isF 57 ?_);(refine CallX_New rfl ?_;intro rb)|(with_reducible refine isF 35 ?_);((refine azl k2 [0] rfl ⟨fun _ _ h=>h,trivial⟩ (by decide) (fun _ _ _ _=>trivial) ?_;intro q2;obtain ⟨A2,d2⟩:=q2)));conv=>whnf))|((with_reducible refine isW ?_;first|refine azg (by omega) (by omega) ?_|refine azc ?_);conv=>whnf)|with_reducible exact rfl|((with_reducible refine aze (by assumption) ?_);conv=>whnf)|((with_reducible refine azd ?_ ?_)<;>(intro hb;(try simp (disch:=omega) only [hbS] at hb)<;>conv=>whnf)))
 refine azr aza (α:=(t : Nat) × {rs : List RelT // rs=ajm (L.take t)}) (fun s=>s.1≤L.length) (fun s=>[(3,pR rb),(10,.v (.slice A2 L.length d2)),(11,I L.length),(12,I s.1)])
  (fun s=>[stO b c S allT,relO rb s.2.1,.row 39 5 A2 L.length d2 (L.map encR)]) (fun s=>L.length - s.1) ⟨0,[],rfl⟩ [0,1,2] (Nat.zero_le _) ?_ ?_
 ·(refine ⟨?_,?_,?_,?_⟩<;>(repeat' ((conv=>whnf);apply And.intro))<;>try (first|exact trivial|decide))
  all_goals first|rfl|exact fun _ _ h=>h|(simp [SV.wf,SV.wfs];done)|trace_state
 ·rintro ⟨t,rs,hrs⟩ ht
  dsimp only at ht hrs ⊢
  by_cases hlt : t < L.length
  ·have hnx : (Go.Proofs.YtlnplelandimeaaGreat.addF rs (L.getD t r0)).2=ajm (L.take (t + 1)):=by rw [avt hlt,hrs]
   have hle : rs.length≤99:=by
    have:=hfl t (by omega)
    rw [hrs]
    omega
   generalize hx : L.getD t r0=x at *
   obtain ⟨a,a2,q,xx,yy⟩:=x
   (conv=>whnf);repeat' (first|((with_reducible refine isC ?_);first|(((with_reducible refine isF 58 ?_);((rw [hx];refine CallX_Add 1 rfl rfl hle ?_)));conv=>whnf))|((with_reducible refine isV ?_);first|((first|refine azf aza rfl (ArgSl.row 2 rfl) rfl ?_ ?_ ?_|(with_reducible refine azq ?_);refine azw _ _ (r0) aza rfl rfl rfl rfl (ArgSl.row 2 rfl) ?_ ?_ ?_|refine azy _ _ (r0) aza rfl rfl rfl rfl (ArgSl.row 2 rfl) ?_ ?_ ?_)<;>first|rfl|omega|with_reducible refine isP ?_|conv=>whnf))|((with_reducible refine isW ?_;first|refine azg (by omega) (by omega) ?_|refine azc ?_);conv=>whnf)|with_reducible exact rfl|((with_reducible refine aze (by assumption) ?_);conv=>whnf)|((with_reducible refine azd ?_ ?_)<;>(intro hb;(try simp (disch:=omega) only [hbS] at hb)<;>conv=>whnf)))
   all_goals try (exfalso;omega)
   refine ⟨⟨t + 1,_,hnx⟩,[0,1,2],by (try dsimp only);omega,?_,by (try dsimp only);omega⟩
   (refine ⟨?_,?_,?_,?_⟩<;>(repeat' ((conv=>whnf);apply And.intro))<;>try (first|exact trivial|decide))
   all_goals first|rfl|exact fun _ _ h=>h|(simp [SV.wf,SV.wfs];done)|trace_state
  ·obtain rfl : t=L.length:=by omega
   rw [List.take_length] at hrs
   subst hrs
   (conv=>whnf);repeat' (first|((with_reducible refine isW ?_;first|refine azg (by omega) (by omega) ?_|refine azc ?_);conv=>whnf)|with_reducible exact rfl|((with_reducible refine aze (by assumption) ?_);conv=>whnf)|((with_reducible refine azd ?_ ?_)<;>(intro hb;(try simp (disch:=omega) only [hbS] at hb)<;>conv=>whnf)))
   all_goals try (exfalso;omega)
   exact azv rb [0,1] ⟨rfl,by simp [SV.wf,SV.wfs]⟩ ⟨fun _ _ h=>h,fun _ _ h=>h,trivial⟩ (by decide) rfl
noncomputable def outL (f : Fr) (l : List EntT) : List EntT := @Classical.epsilon (List EntT) ⟨[]⟩ (fun ys => IsOut f l ys)
theorem bjv {f : Fr} {l ys : List EntT} (h : IsOut f l ys) : outL f l = ys := by
 have : IsOut f l (outL f l):=@Classical.epsilon_spec (List EntT) (fun ys=>IsOut f l ys) ⟨ys,h⟩
 exact this.unique h
theorem cxq {f : Fr} {l ys : List EntT} (h : IsOut f l ys) : ys.length ≤ l.length := by
 unfold IsOut at h
 split at h
 ·have:=h.1.length_eq
  simp at this
  omega
 ·rw [h];simp
def mapA (a : AtT) : List EntT := mapF a (idsF (hasA a) 64)
noncomputable def akq (S : SnT) (n : Int) : Nat → List EntT
 | 0=>[]
 | k + 1=>match btF (ax1 S) n k with
   | some f=>(aqi 1 (akq S n k) (outL f (mapA (S.ats k)))).1
   | none=>akq S n k
noncomputable def akj (S : SnT) (n : Int) : List EntT := akq S n 8
theorem combE_le (a b : List EntT) : (aqi 1 a b).1.length ≤ 1048576 := by
 unfold aqi
 split
 ·split
  ·simp
  ·split
   ·simp
   ·rename_i h
    simpa using h
 ·simp
theorem bxa (S : SnT) (n : Int) : ∀ k, (akq S n k).length ≤ 1048576
 | 0=>by simp [akq]
 | k + 1=>by
   unfold akq
   split
   ·exact combE_le _ _
   ·exact bxa S n k
theorem bjw (S : SnT) : (ax1 S).length ≤ 64 := by
 have:=ave (aqj S) (aqj S).length (Nat.le_refl _)
 rw [List.take_length] at this
 exact Nat.le_trans this (axu S 64)
set_option maxHeartbeats 8000000 in
theorem cv6 (b : Nat) (c : CoT) (S : SnT) (n : Int) (hn : rbB n = true) : CallM Tryz.prog 18 [pR b, I n] (fun _ _ => True) [stO b c S allT]
 (fun q : Option Addr × Nat=>.v (.slice q.1 (akj S n).length q.2)) (fun q=>[stO b c S allT,.row 89 4 q.1 (akj S n).length q.2 ((akj S n).map encE)]):=by
 have kr:=akf n
 rw [hn] at kr
 have kf:=cv5 b c S
 have hfl:=bjw S
 have hvl:=bxa S n
 have h0 : akq S n 0=[]:=rfl
 have hv : akj S n=akq S n 8:=rfl
 have hnx : ∀ k,akq S n (k + 1)=match btF (ax1 S) n k with
  | some f=>(aqi 1 (akq S n k) (outL f (mapA (S.ats k)))).1
  | none=>akq S n k:=fun k=>rfl
 rw [hv]
 clear hv
 generalize ax1 S=fs at *
 generalize akq S n=vk at *
 refine CallM.of (m:=1) Tryz.func18 rfl aza rfl rfl rfl rfl (by simp [SV.wfs,SV.wf]) fun w M π _=>?_
 (conv=>whnf);repeat' (first|((with_reducible refine isC ?_);first|((with_reducible refine azb (kr) ?_)<;>first|omega|with_reducible refine isP ?_|conv=>whnf)|(((with_reducible refine isF 21 ?_);((refine azl kf [0] rfl ⟨fun _ _ h=>h,trivial⟩ (by decide) (fun _ _ _ _=>trivial) ?_;intro rb)));conv=>whnf))|((with_reducible refine isV ?_);first|(refine bqf 0 aza rfl rfl rfl rfl rfl ?_;conv=>whnf))|((with_reducible refine isW ?_;first|refine azg (by omega) (by omega) ?_|refine azc ?_);conv=>whnf)|((first|refine azj aza azt ?_|refine azi (by kernel_rfl) ?_|with_reducible refine azo ?_ ?_)<;>conv=>whnf)|with_reducible exact rfl|((with_reducible refine aze (by assumption) ?_);conv=>whnf)|((with_reducible refine azd ?_ ?_)<;>(intro hb;(try simp (disch:=omega) only [hbS] at hb)<;>conv=>whnf)))
 refine aql 89 4 ?_
 conv=>whnf
 refine azr aza (α:=Nat × Option Addr × Nat) (fun s=>s.1≤8) (fun s=>[(1,I n),(5,.v (.slice s.2.1 (vk s.1).length s.2.2)),(6,pR rb),(25,.a ((ptsL c).map .v)),(26,I s.1)])
  (fun s=>[stO b c S allT,relO rb fs,.row 89 4 s.2.1 (vk s.1).length s.2.2 ((vk s.1).map encE)]) (fun s=>8 - s.1) (0,none,0) [0,1,2] (by decide) ?_ ?_
 ·dsimp only
  rw [h0]
  (refine ⟨?_,?_,?_,?_⟩<;>(repeat' ((conv=>whnf);apply And.intro))<;>try (first|exact trivial|decide))
  all_goals first|rfl|exact fun _ _ h=>h|(simp [SV.wf,SV.wfs];done)|trace_state
 ·rintro ⟨k,A,cc⟩ hk
  dsimp only at hk ⊢
  by_cases hlt : k < 8
  ·have hnk:=hnx k
   have hvk:=hvl k
   have hbt:=@ak9
   rcases ax3 (btF fs n k) with hb0|⟨f,hf⟩
   ·rw [hb0] at hnk
    dsimp only at hnk
    generalize vk k=o at *
    (conv=>whnf);repeat' (first|((with_reducible refine isC ?_);first|(((with_reducible refine isF 22 ?_);((refine ak9 1 rfl rfl (by omega) ?_;rw [hb0])));conv=>whnf))|((with_reducible refine isV ?_);first|(refine akd (sz:=1) (vs:=ptsL c) (.v (.pointer (ptP c k))) aza rfl Tryz.underlying94 rfl rfl (by omega) (by omega) rfl (by (try dsimp only);rw [Int.toNat_natCast,cv1 c hlt];rfl) ?_;conv=>whnf))|((with_reducible refine isW ?_;first|refine azg (by omega) (by omega) ?_|refine azc ?_);conv=>whnf)|((first|refine azj aza azt ?_|refine azi (by kernel_rfl) ?_|with_reducible refine azo ?_ ?_)<;>conv=>whnf)|with_reducible exact rfl|((with_reducible refine aze (by assumption) ?_);conv=>whnf)|((with_reducible refine azd ?_ ?_)<;>(intro hb;(try simp (disch:=omega) only [hbS] at hb)<;>conv=>whnf)))
    all_goals try (exfalso;omega)
    refine ⟨(k + 1,A,cc),[0,1,2],by (try dsimp only);omega,?_,by (try dsimp only);omega⟩
    dsimp only
    rw [hnk]
    (refine ⟨?_,?_,?_,?_⟩<;>(repeat' ((conv=>whnf);apply And.intro))<;>try (first|exact trivial|decide))
    all_goals first|rfl|exact fun _ _ h=>h|(simp [SV.wf,SV.wfs];done)|trace_state
   ·rw [hf] at hnk
    dsimp only at hnk
    generalize vk k=o at *
    (conv=>whnf);repeat' (first|((with_reducible refine isC ?_);first|(((with_reducible refine isF 22 ?_);((refine ak9 1 rfl rfl (by omega) ?_;rw [hf])));conv=>whnf))|((with_reducible refine isV ?_);first|(refine akd (sz:=1) (vs:=ptsL c) (.v (.pointer (ptP c k))) aza rfl Tryz.underlying94 rfl rfl (by omega) (by omega) rfl (by (try dsimp only);rw [Int.toNat_natCast,cv1 c hlt];rfl) ?_;conv=>whnf))|((with_reducible refine isW ?_;first|refine azg (by omega) (by omega) ?_|refine azc ?_);conv=>whnf)|((first|refine azj aza azt ?_|refine azi (by kernel_rfl) ?_|with_reducible refine azo ?_ ?_)<;>conv=>whnf)|with_reducible exact rfl|((with_reducible refine aze (by assumption) ?_);conv=>whnf)|((with_reducible refine azd ?_ ?_)<;>(intro hb;(try simp (disch:=omega) only [hbS] at hb)<;>conv=>whnf)))
    all_goals try (exfalso;omega)
    (refine ajl (b:=b) (c:=c) (S:=S) [.p 4 0] 0 k 4 ?_ ?_ ?_ hlt (ajk hlt) ?_ ?_ ?_);(focus (exact Entr.of Tryz.func53 rfl rfl));(focus rfl);(focus rfl);(focus (simp [SV.wf,SV.wfs]));(focus (intro σ h;simp [SV.vals,SV.val,ptP,h]))
    intro x1 x2 m1 q1 ok1 ab1 hg1
    have kmap:=Map_m x1 x2 m1 q1 ok1 (idsF (hasM m1 q1) 64) rfl
    have hma : mapF (absM (m1,q1)) (idsF (hasM m1 q1) 64)=mapA (S.ats k):=by
     rw [cj0]
     show mapF (absM (m1,q1)) (idsF (hasA (absM (m1,q1))) 64)=_
     rw [ab1]
     rfl
    have hml:=bw1 (absM (m1,q1)) (idsF (hasM m1 q1) 64)
    rw [hma] at kmap hml
    generalize mapA (S.ats k)=l at *
    conv=>whnf
    refine azl kmap [4,5,6] rfl ⟨⟨rfl,rfl,by simp [SV.wf,SV.wfs]⟩,fun _ _ h=>h,fun _ _ h=>h,trivial⟩ (by decide) (fun _ _ _ _=>trivial) ?_
    rintro ⟨A3,c3⟩
    dsimp only
    conv=>whnf
    refine ⟨x1,x2,m1,q1,rfl,rfl,rfl,rfl,ok1,by rw [ab1];exact hg1,?_⟩
    rw [ab1,ajw]
    (conv=>whnf);repeat' (first|((with_reducible refine isC ?_);first|(((with_reducible refine isF 52 ?_);((refine azl (Entries_m f A3 c3 l rfl (by omega)) [] rfl trivial (by decide) (ArgN.row 7 rfl (m:=0) (fun j hj=>by omega)) ?_;rintro ⟨⟨A4,c4,ys⟩,hys⟩;dsimp only;dsimp only at hys)));conv=>whnf))|((with_reducible refine isW ?_;first|refine azg (by omega) (by omega) ?_|refine azc ?_);conv=>whnf)|((first|refine azj aza azt ?_|refine azi (by kernel_rfl) ?_|with_reducible refine azo ?_ ?_)<;>conv=>whnf)|with_reducible exact rfl|((with_reducible refine aze (by assumption) ?_);conv=>whnf)|((with_reducible refine azd ?_ ?_)<;>(intro hb;(try simp (disch:=omega) only [hbS] at hb)<;>conv=>whnf)))
    all_goals try (exfalso;omega)
    have hyl:=cxq hys
    rw [bjv hys] at hnk
    (conv=>whnf);repeat' (first|((with_reducible refine isC ?_);first|(((with_reducible refine isF 54 ?_);((refine azl (Add_m A A4 cc c4 o ys rfl rfl (by unfold maxLen;omega) (by unfold maxLen;omega)) [] rfl trivial (by decide) (fun σ fp w hm=>⟨ArgN.row 2 rfl (m:=0) (fun j hj=>by omega) σ fp w hm,ArgN.row 8 rfl (m:=0) (fun j hj=>by omega) σ fp w hm⟩) ?_;rintro ⟨A5,c5⟩;dsimp only)));conv=>whnf))|((with_reducible refine isW ?_;first|refine azg (by omega) (by omega) ?_|refine azc ?_);conv=>whnf)|((first|refine azj aza azt ?_|refine azi (by kernel_rfl) ?_|with_reducible refine azo ?_ ?_)<;>conv=>whnf)|with_reducible exact rfl|((with_reducible refine aze (by assumption) ?_);conv=>whnf)|((with_reducible refine azd ?_ ?_)<;>(intro hb;(try simp (disch:=omega) only [hbS] at hb)<;>conv=>whnf)))
    all_goals try (exfalso;omega)
    refine ⟨(k + 1,A5,c5),[0,1,9],by (try dsimp only);omega,?_,by (try dsimp only);omega⟩
    dsimp only
    rw [hnk]
    (refine ⟨?_,?_,?_,?_⟩<;>(repeat' ((conv=>whnf);apply And.intro))<;>try (first|exact trivial|decide))
    all_goals first|rfl|exact fun _ _ h=>h|(simp [SV.wf,SV.wfs];done)|trace_state
  ·obtain rfl : k=8:=by omega
   (conv=>whnf);repeat' (first|((with_reducible refine isW ?_;first|refine azg (by omega) (by omega) ?_|refine azc ?_);conv=>whnf)|((first|refine azj aza azt ?_|refine azi (by kernel_rfl) ?_|with_reducible refine azo ?_ ?_)<;>conv=>whnf)|with_reducible exact rfl|((with_reducible refine aze (by assumption) ?_);conv=>whnf)|((with_reducible refine azd ?_ ?_)<;>(intro hb;(try simp (disch:=omega) only [hbS] at hb)<;>conv=>whnf)))
   all_goals try (exfalso;omega)
   exact azv (A,cc) [0,2] ⟨rfl,by simp [SV.wf,SV.wfs]⟩ ⟨fun _ _ h=>h,⟨rfl,rfl,rfl,rfl,rfl,rfl⟩,trivial⟩ (by decide) rfl
theorem bw7 (b : Nat) (c : CoT) (S : SnT) (n : Int) (hme : S.me = n) (hn : rbB n = true) : CallM Tryz.prog 20 [pR b] (fun _ _ => True) [stO b c S allT]
 (fun q : Option Addr × Nat=>.v (.slice q.1 (akj S n).length q.2)) (fun q=>[stO b c S allT,.row 89 4 q.1 (akj S n).length q.2 ((akj S n).map encE)]):=by
 have kv:=cv6 b c S n hn
 generalize akj S n=V at *
 refine CallM.of (m:=1) Tryz.func20 rfl aza rfl rfl rfl rfl (by simp [SV.wfs,SV.wf]) fun w M π _=>?_
 (conv=>whnf);repeat' (first|((with_reducible refine isC ?_);first|(((with_reducible refine isF 18 ?_);((refine azl kv [0] rfl ⟨fun _ _ h=>h,trivial⟩ (by decide) (fun _ _ _ _=>trivial) ?_;rintro ⟨A,cc⟩;dsimp only)));conv=>whnf))|((with_reducible refine isV ?_);first|(refine bzm 0 n aza rfl rfl rfl rfl hme ?_;conv=>whnf))|with_reducible exact rfl|((with_reducible refine aze (by assumption) ?_);conv=>whnf)|((with_reducible refine azd ?_ ?_)<;>(intro hb;(try simp (disch:=omega) only [hbS] at hb)<;>conv=>whnf)))
 exact azv (A,cc) [0,1] ⟨rfl,by simp [SV.wf,SV.wfs]⟩ ⟨fun _ _ h=>h,⟨rfl,rfl,rfl,rfl,rfl,rfl⟩,trivial⟩ (by decide) rfl
theorem nMap34_x : PureX Tryz.prog 20 [nilP] nilS := by
 refine PureX.of Tryz.func20 rfl aza rfl rfl rfl (by simp [SV.wfs,SV.wf]) (by simp [SV.wfs,SV.wf]) fun w=>?_
 (conv=>whnf);repeat' (first|with_reducible exact rfl|((with_reducible refine aze (by assumption) ?_);conv=>whnf)|((with_reducible refine azd ?_ ?_)<;>(intro hb;(try simp (disch:=omega) only [hbS] at hb)<;>conv=>whnf)))
 exact azk rfl rfl trivial
theorem dzn : PureX Tryz.prog 32 [nilP] nilP := by
 refine PureX.of Tryz.func32 rfl aza rfl rfl rfl (by simp [SV.wfs,SV.wf]) (by simp [SV.wfs,SV.wf]) fun w=>?_
 (conv=>whnf);repeat' (first|((with_reducible refine isW ?_;first|refine azg (by omega) (by omega) ?_|refine azc ?_);conv=>whnf)|((first|refine azj aza azt ?_|refine azi (by kernel_rfl) ?_|with_reducible refine azo ?_ ?_)<;>conv=>whnf)|with_reducible exact rfl|((with_reducible refine aze (by assumption) ?_);conv=>whnf)|((with_reducible refine azd ?_ ?_)<;>(intro hb;(try simp (disch:=omega) only [hbS] at hb)<;>conv=>whnf)))
 exact azk rfl rfl trivial
def aw1 : SnT := axe (sn0 2) (3, 1, 1, 2, 0)
def aw2 : SnT := axe aw1 (1, 3, 2, 5, 5)
def aw3 : SnT := { aw2 with ats := updN aw2.ats 2 (putA (aw2.ats 2) 0 [(0, 100)]) }
def aw4 : SnT := { aw3 with ats := updN aw3.ats 2 (plcA (aw3.ats 2) 0 (1, false, 32, 32, 0)) }
def aw5 : SnT := axe aw4 (5, 2, 0, 1, 0)
theorem aw_pairs : aqj aw4 = [(1, 3, 3, 0, 2)] := by decide +kernel
theorem aw_of3 : (ofE (32, 32, 0) [(0, 100)]).1 = [(0, 0, 0, 1), (1, 0, 0, 1), (2, 0, 1, 0)] := (ofE_of (at_ := (32, 32, 0)) (s := [(0, 100)]) (ys := [(0, 0, 0, 1), (1, 0, 0, 1), (2, 0, 1, 0)]) (by
 unfold IsOf
 rw [if_pos (by decide +kernel)]
 exact ⟨by decide +kernel,by unfold asc;decide +kernel⟩)).symm
theorem bjx {a : List EntT} (ha : vE a = true) : aqi 1 [] a = (a, 0) := by rw [comb_sym, bq5 ha]
theorem aw_map : mapA (aw4.ats 2) = [(0, 0, 0, 1), (1, 0, 0, 1), (2, 0, 1, 0)] := by
 have hi : idsF (hasA (aw4.ats 2)) 64=[0]:=by decide +kernel
 unfold mapA
 rw [hi]
 show (aqi 1 [] (ajy (aw4.ats 2) 0)).1=_
 have hp : ajy (aw4.ats 2) 0=(ofE (32,32,0) [(0,100)]).1:=rfl
 rw [hp,aw_of3,bjx (by decide +kernel)]
theorem aw_none : mapA at0 = [] := by decide +kernel
theorem aw_bt : ((List.range 8).map fun k : Nat => btF [(1, 3, 3, 0, 2)] 2 k) = [none, none, some (0, 0, 0), none, none, none, none, none] := by decide +kernel
theorem aw_bt5 : ((List.range 8).map fun k : Nat => btF [(1, 3, 3, 0, 2)] 5 k) = [none, none, none, none, none, some (0, 0, 0), none, none] := by decide +kernel
theorem aw_bt6 : ((List.range 8).map fun k : Nat => btF [(1, 3, 3, 0, 2), (2, 5, 0, -1, 0)] 5 k) = [none, none, some (0, 1, 0), none, none, some (0, 0, 0), none, none] := by decide +kernel
theorem aw_fr4 : ax1 aw4 = [(1, 3, 3, 0, 2)] := by decide +kernel
theorem aw_fr5 : ax1 aw5 = [(1, 3, 3, 0, 2), (2, 5, 0, -1, 0)] := by decide +kernel
theorem aw_at {rs : List RelT} {n : Int} {L : List (Option Fr)} (h : ((List.range 8).map fun k : Nat => btF rs n k) = L) (k : Nat) (hk : k < 8) : btF rs n k = L.getD k none := by
 rw [← h]
 simp [hk]
theorem aw_out0 : outL (0, 0, 0) [] = [] := bjv (by
 unfold IsOut
 rw [if_pos (by decide +kernel)]
 exact ⟨List.Perm.refl _,List.Pairwise.nil⟩)
theorem aw_out1 : outL (0, 0, 0) [(0, 0, 0, 1), (1, 0, 0, 1), (2, 0, 1, 0)] = [(0, 0, 0, 1), (1, 0, 0, 1), (2, 0, 1, 0)] := bjv (by
 unfold IsOut
 rw [if_pos (by decide +kernel)]
 refine ⟨?_,by unfold asc;decide +kernel⟩
 rw [show ([(0,0,0,1),(1,0,0,1),(2,0,1,0)] : List EntT).map (imgE (0,0,0))=[(0,0,0,1),(1,0,0,1),(2,0,1,0)] by decide +kernel])
theorem aw_out2 : outL (0, 1, 0) [(0, 0, 0, 1), (1, 0, 0, 1), (2, 0, 1, 0)] = [(1, 0, 0, 1), (2, 0, 0, 1), (3, 0, 1, 0)] := bjv (by
 unfold IsOut
 rw [if_pos (by decide +kernel)]
 refine ⟨?_,by unfold asc;decide +kernel⟩
 rw [show ([(0,0,0,1),(1,0,0,1),(2,0,1,0)] : List EntT).map (imgE (0,1,0))=[(1,0,0,1),(2,0,0,1),(3,0,1,0)] by decide +kernel])
theorem aw_ats4 (k : Nat) (h : k ≠ 2) : aw4.ats k = at0 := by
 unfold aw4 aw3 aw2 aw1 updN axe setR sn0
 dsimp only
 rw [if_neg h,if_neg h]
theorem aw_view4 : akj aw4 2 = [(0, 0, 0, 1), (1, 0, 0, 1), (2, 0, 1, 0)] := by
 have b:=aw_at aw_bt
 unfold akj
 simp only [akq,aw_fr4]
 rw [b 0 (by decide),b 1 (by decide),b 2 (by decide),b 3 (by decide),b 4 (by decide),b 5 (by decide),b 6 (by decide),b 7 (by decide)]
 simp only [List.getD_cons_zero,List.getD_cons_succ]
 rw [aw_map,aw_out1,bjx (by decide +kernel)]
theorem aw_view5 : akj aw4 5 = [] := by
 have b:=aw_at aw_bt5
 unfold akj
 simp only [akq,aw_fr4]
 rw [b 0 (by decide),b 1 (by decide),b 2 (by decide),b 3 (by decide),b 4 (by decide),b 5 (by decide),b 6 (by decide),b 7 (by decide)]
 simp only [List.getD_cons_zero,List.getD_cons_succ]
 rw [aw_ats4 5 (by decide),aw_none,aw_out0,bq5 (by decide +kernel)]
theorem aw_view6 : akj aw5 5 = [(1, 0, 0, 1), (2, 0, 0, 1), (3, 0, 1, 0)] := by
 have b:=aw_at aw_bt6
 unfold akj
 simp only [akq,aw_fr5]
 rw [b 0 (by decide),b 1 (by decide),b 2 (by decide),b 3 (by decide),b 4 (by decide),b 5 (by decide),b 6 (by decide),b 7 (by decide)]
 simp only [List.getD_cons_zero,List.getD_cons_succ]
 rw [show aw5.ats 5=at0 from aw_ats4 5 (by decide),show aw5.ats 2=aw4.ats 2 from rfl,aw_map,aw_none,aw_out0,aw_out2,bjx (by decide +kernel)]
 dsimp only
 rw [bq5 (by decide +kernel)]
theorem aw_ids34 : idsF (hasA (aw5.ats 2)) 64 = [0] := by decide +kernel
end Go.Proofs.YtlnplelandimeaaGreat.En
end
