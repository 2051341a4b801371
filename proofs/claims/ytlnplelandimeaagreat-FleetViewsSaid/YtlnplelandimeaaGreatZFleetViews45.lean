import Derived.Test.YtlnplelandimeaaGreatZFleetViews26
import Derived.Test.YtlnplelandimeaaGreatZFleetViews44
import Derived.Test.YtlnplelandimeaaGreatZFleetViews39
import Derived.Test.YtlnplelandimeaaGreatZFleetViews40
set_option linter.all false
section
namespace Go.Proofs.YtlnplelandimeaaGreat.En
open Go.RowKit
set_option maxRecDepth 100000
set_option maxHeartbeats 2000000 in
theorem rPart_m (b : Nat) (r : RfT) (k : Int) (hok : okR r) :
 CallM Tryz.prog 100 [pR b,I k] (fun _ _=>True) [rfO b r]
  (fun q : Option Addr × Nat=>.v (.slice q.1 (ajy (absR r) k).length q.2)) (fun q=>[rfO b r,.row 89 4 q.1 (ajy (absR r) k).length q.2 ((ajy (absR r) k).map encE)]):=by
 have ks:=rScan_m b r k hok
 have kw:=rWhere_m b r k hok
 have hread:=fun {C : Ctx} {ob : List OB} (h : nth ob 0=some (rfO b r))=>rs_read hok (C:=C) (ob:=ob) 0 k h
 have h32 : (rsOf r k).2.2.length≤32:=by
  unfold rsOf
  split
  ·have:=(hok k).1
   unfold aq9 at this
   simp only [Bool.and_eq_true,decide_eq_true_eq] at this
   omega
  ·simp
 have hp : ajy (absR r) k=if r.h k && rpB r k && !(r.p k).2.1 then (ofE (r.p k).2.2 (rsOf r k).2.2).1 else []:=by
  unfold ajy absR rpB rsOf
  dsimp only
  cases hh : r.h k with
  | false=>rfl
  | true =>
    by_cases h0 : (r.p k).1=0
    ·rw [if_pos h0,decide_eq_true h0]
     rfl
    ·rw [if_neg h0,decide_eq_false h0]
     show (if (r.p k).2.1=true then [] else (ofE (r.p k).2.2 (r.s k).2.2).1)=if (true && !false && !(r.p k).2.1)=true then (ofE (r.p k).2.2 (r.s k).2.2).1 else []
     rcases Bool.eq_false_or_eq_true (r.p k).2.1 with hg|hg<;>rw [hg]<;>rfl
 have hl:=cj4 (r.p k).2.2 (rsOf r k).2.2
 rw [hp]
 have hof:=fun (A : Option Addr) (c : Nat)=>rOf_m (r.p k).2.2 A c (rsOf r k).2.2 rfl (by unfold maxLen;omega)
 clear hp
 generalize rpB r k=had at *
 generalize r.h k=has at *
 generalize hsv : rsOf r k=s at *
 obtain ⟨A0,c0,bs⟩:=s
 generalize r.p k=p at *
 obtain ⟨v,g,pose⟩:=p
 dsimp only at *
 refine CallM.of (m:=1) Tryz.func100 rfl aza rfl rfl rfl rfl (by simp [SV.wfs,SV.wf]) fun w M π _=>?_
 generalize ofE pose bs=e at *
 rcases Bool.eq_false_or_eq_true has with h1|h1
 rotate_left
 ·subst h1
  (conv=>whnf);repeat' (first|((with_reducible refine isC ?_);first|((first|(with_reducible refine isF 69 ?_);((refine azl ks [0] rfl ⟨fun _ _ h=>h,trivial⟩ (by decide) (fun _ _ _ _=>trivial) ?_;intro r1))|(with_reducible refine isF 71 ?_);((refine azl kw [0] rfl ⟨fun _ _ h=>h,trivial⟩ (by decide) (fun _ _ _ _=>trivial) ?_;intro r3)));conv=>whnf))|with_reducible exact rfl|((with_reducible refine aze (by assumption) ?_);conv=>whnf)|((with_reducible refine azd ?_ ?_)<;>(intro hb;(try simp (disch:=omega) only [hbS] at hb)<;>conv=>whnf)))
  refine az3 89 4 ?_
  exact azv (none,0) [0,2] ⟨rfl,by simp [SV.wf,SV.wfs]⟩ ⟨fun _ _ h=>h,⟨rfl,rfl,rfl,rfl,rfl,rfl⟩,trivial⟩ (by decide) rfl
 ·subst h1
  rcases Bool.eq_false_or_eq_true had with h2|h2
  rotate_left
  ·subst h2
   (conv=>whnf);repeat' (first|((with_reducible refine isC ?_);first|((first|(with_reducible refine isF 69 ?_);((refine azl ks [0] rfl ⟨fun _ _ h=>h,trivial⟩ (by decide) (fun _ _ _ _=>trivial) ?_;intro r1))|(with_reducible refine isF 71 ?_);((refine azl kw [0] rfl ⟨fun _ _ h=>h,trivial⟩ (by decide) (fun _ _ _ _=>trivial) ?_;intro r3)));conv=>whnf))|with_reducible exact rfl|((with_reducible refine aze (by assumption) ?_);conv=>whnf)|((with_reducible refine azd ?_ ?_)<;>(intro hb;(try simp (disch:=omega) only [hbS] at hb)<;>conv=>whnf)))
   refine az3 89 4 ?_
   exact azv (none,0) [0,2] ⟨rfl,by simp [SV.wf,SV.wfs]⟩ ⟨fun _ _ h=>h,⟨rfl,rfl,rfl,rfl,rfl,rfl⟩,trivial⟩ (by decide) rfl
  ·subst h2
   rcases Bool.eq_false_or_eq_true g with h3|h3
   ·subst h3
    (conv=>whnf);repeat' (first|((with_reducible refine isC ?_);first|((first|(with_reducible refine isF 69 ?_);((refine azl ks [0] rfl ⟨fun _ _ h=>h,trivial⟩ (by decide) (fun _ _ _ _=>trivial) ?_;intro r1))|(with_reducible refine isF 71 ?_);((refine azl kw [0] rfl ⟨fun _ _ h=>h,trivial⟩ (by decide) (fun _ _ _ _=>trivial) ?_;intro r3)));conv=>whnf))|with_reducible exact rfl|((with_reducible refine aze (by assumption) ?_);conv=>whnf)|((with_reducible refine azd ?_ ?_)<;>(intro hb;(try simp (disch:=omega) only [hbS] at hb)<;>conv=>whnf)))
    refine az3 89 4 ?_
    exact azv (none,0) [0,2] ⟨rfl,by simp [SV.wf,SV.wfs]⟩ ⟨fun _ _ h=>h,⟨rfl,rfl,rfl,rfl,rfl,rfl⟩,trivial⟩ (by decide) rfl
   ·subst h3
    (conv=>whnf);repeat' (first|((with_reducible refine isC ?_);first|((first|(with_reducible refine isF 69 ?_);((refine azl ks [0] rfl ⟨fun _ _ h=>h,trivial⟩ (by decide) (fun _ _ _ _=>trivial) ?_;intro r1))|(with_reducible refine isF 71 ?_);((refine azl kw [0] rfl ⟨fun _ _ h=>h,trivial⟩ (by decide) (fun _ _ _ _=>trivial) ?_;intro r3))|(with_reducible refine isF 136 ?_);((refine azl (hof A0 c0) [] rfl trivial (by decide) (fun σ fp w hm=>ArgN.of0 (hread rfl σ fp w hm) _) ?_;intro r4;obtain ⟨B2,d2⟩:=r4)));conv=>whnf))|with_reducible exact rfl|((with_reducible refine aze (by assumption) ?_);conv=>whnf)|((with_reducible refine azd ?_ ?_)<;>(intro hb;(try simp (disch:=omega) only [hbS] at hb)<;>conv=>whnf)))
    exact azv (B2,d2) [0,2] ⟨rfl,by simp [SV.wf,SV.wfs]⟩ ⟨fun _ _ h=>h,⟨rfl,rfl,rfl,rfl,rfl,rfl⟩,trivial⟩ (by decide) rfl
def mapT (a : AtT) (t : Nat) : List EntT := mapF a ((List.range t).map fun i : Nat => (i : Int))
theorem mapT_succ (a : AtT) (t : Nat) : mapT a (t + 1) = (aqi 1 (mapT a t) (ajy a t)).1 := by
 unfold mapT mapF
 rw [List.range_succ,List.map_append,List.foldl_append]
 rfl
theorem comb_vE1 (o p : List EntT) : vE (aqi 1 o p).1 = true := by
 by_cases h : (aqi 1 o p).2=0
 ·exact comb_vE h
 ·rw [comb_bad h]
  exact vE_nil
theorem dzu {a : AtT} {k : Int} (h : hasA a k = false) : ajy a k = [] := by
 unfold hasA at h
 simp only [Bool.or_eq_false_iff,Option.isSome_eq_false_iff,Option.isNone_iff_eq_none] at h
 unfold ajy
 rw [h.1]
theorem mapT_all (a : AtT) : mapT a 64 = mapF a (idsF (hasA a) 64) := by
 have key : ∀ (l : List Nat) (o : List EntT),vE o=true→(l.map fun i : Nat=>(i : Int)).foldl (fun o k=>(aqi 1 o (ajy a k)).1) o=((l.filter fun i : Nat=>hasA a i).map fun i : Nat=>(i : Int)).foldl (fun o k=>(aqi 1 o (ajy a k)).1) o:=by
  intro l
  induction l with
  | nil=>exact fun o _=>rfl
  | cons k l ih =>
    intro o ho
    rw [List.filter_cons]
    rcases Bool.eq_false_or_eq_true (hasA a k) with h|h
    ·rw [h,if_pos rfl]
     simp only [List.map_cons,List.foldl_cons]
     exact ih _ (comb_vE1 _ _)
    ·rw [h,if_neg (by simp)]
     simp only [List.map_cons,List.foldl_cons]
     rw [dzu h,bq5 ho]
     exact ih o ho
 exact key (List.range 64) [] vE_nil
set_option maxHeartbeats 2000000 in
theorem rMap_m (b : Nat) (r : RfT) (hok : okR r) :
 CallM Tryz.prog 55 [pR b] (fun _ _=>True) [rfO b r]
  (fun q : Option Addr × Nat=>.v (.slice q.1 (mapT (absR r) 64).length q.2)) (fun q=>[rfO b r,.row 89 4 q.1 (mapT (absR r) 64).length q.2 ((mapT (absR r) 64).map encE)]):=by
 have kp:=fun k=>rPart_m b r k hok
 have hpl:=fun k=>cvo (absR r) k
 have hml : ∀ t,(mapT (absR r) t).length≤1048576:=fun t=>bw1 _ _
 have hnx:=mapT_succ (absR r)
 have h0 : mapT (absR r) 0=[]:=rfl
 generalize ajy (absR r)=pt at *
 generalize mapT (absR r)=mp at *
 refine CallM.of (m:=1) Tryz.func55 rfl aza rfl rfl rfl rfl (by simp [SV.wfs,SV.wf]) fun w M π _=>?_
 (conv=>whnf);repeat' (first|((with_reducible refine isW ?_;first|refine azg (by omega) (by omega) ?_|refine azc ?_);conv=>whnf)|with_reducible exact rfl|((with_reducible refine aze (by assumption) ?_);conv=>whnf)|((with_reducible refine azd ?_ ?_)<;>(intro hb;(try simp (disch:=omega) only [hbS] at hb)<;>conv=>whnf)))
 refine aql 89 4 ?_
 conv=>whnf
 refine azr aza (α:=Nat × Option Addr × Nat) (fun s=>s.1≤64) (fun s=>[(0,pR b),(3,.v (.slice s.2.1 (mp s.1).length s.2.2)),(4,I s.1)])
  (fun s=>[rfO b r,.row 89 4 s.2.1 (mp s.1).length s.2.2 ((mp s.1).map encE)]) (fun s=>64 - s.1) (0,none,0) [0,1] (by decide) ?_ ?_
 ·dsimp only
  rw [h0]
  (refine ⟨?_,?_,?_,?_⟩<;>(repeat' ((conv=>whnf);apply And.intro))<;>try (first|exact trivial|decide))
  all_goals first|rfl|exact fun _ _ h=>h|(simp [SV.wf,SV.wfs];done)|trace_state
 ·rintro ⟨t,A,c⟩ ht
  dsimp only at ht ⊢
  by_cases hlt : t < 64
  ·have kpt:=kp t
   have hpt:=hpl t
   have hnt:=hnx t
   have hmt:=hml t
   clear kp hpl hnx hml h0
   generalize hq : pt t=p at *
   generalize mp t=o at *
   (conv=>whnf);repeat' (first|((with_reducible refine isC ?_);first|((first|(with_reducible refine isF 100 ?_);((refine azl kpt [0] rfl ⟨fun _ _ h=>h,trivial⟩ (by decide) (fun _ _ _ _=>trivial) ?_;intro r3;obtain ⟨A3,c3⟩:=r3))|(with_reducible refine isF 56 ?_);((refine azl (rAdd_m A A3 c c3 o p rfl rfl (by unfold maxLen;omega) (by unfold maxLen;omega)) [] rfl trivial (by decide) (fun σ fp w hm=>⟨ArgN.row 1 rfl (m:=0) (fun j hj=>by omega) σ fp w hm,ArgN.row 2 rfl (m:=0) (fun j hj=>by omega) σ fp w hm⟩) ?_;intro r4;obtain ⟨A4,c4⟩:=r4)));conv=>whnf))|((with_reducible refine isW ?_;first|refine azg (by omega) (by omega) ?_|refine azc ?_);conv=>whnf)|with_reducible exact rfl|((with_reducible refine aze (by assumption) ?_);conv=>whnf)|((with_reducible refine azd ?_ ?_)<;>(intro hb;(try simp (disch:=omega) only [hbS] at hb)<;>conv=>whnf)))
   all_goals try (exfalso;omega)
   refine ⟨(t + 1,A4,c4),[0,3],by (try dsimp only);omega,?_,by (try dsimp only);omega⟩
   dsimp only
   rw [hnt]
   (refine ⟨?_,?_,?_,?_⟩<;>(repeat' ((conv=>whnf);apply And.intro))<;>try (first|exact trivial|decide))
   all_goals first|rfl|exact fun _ _ h=>h|(simp [SV.wf,SV.wfs];done)|trace_state
  ·obtain rfl : t=64:=by omega
   (conv=>whnf);repeat' (first|((with_reducible refine isW ?_;first|refine azg (by omega) (by omega) ?_|refine azc ?_);conv=>whnf)|with_reducible exact rfl|((with_reducible refine aze (by assumption) ?_);conv=>whnf)|((with_reducible refine azd ?_ ?_)<;>(intro hb;(try simp (disch:=omega) only [hbS] at hb)<;>conv=>whnf)))
   all_goals try (exfalso;omega)
   exact azv (A,c) [0,1] ⟨rfl,by simp [SV.wf,SV.wfs]⟩ ⟨fun _ _ h=>h,⟨rfl,rfl,rfl,rfl,rfl,rfl⟩,trivial⟩ (by decide) rfl
set_option maxHeartbeats 8000000 in
theorem rsView_m (c : RcT) (D : RdT) (S : SnT) (hD : okD S D) (n : Int) (hn : rbB n = true) : CallM Tryz.prog 19 [pR c.b, I n] (fun _ _ => True) [rsB c D S, rsQ c, raO c.p D.R allT, rsR D S]
 (fun q : Option Addr × Nat=>.v (.slice q.1 (akj S n).length q.2)) (fun q=>[rsB c D S,rsQ c,raO c.p D.R allT,rsR D S,.row 89 4 q.1 (akj S n).length q.2 ((akj S n).map encE)]):=by
 have kf:=dzq c D S
 have hfl:=bjw S
 have hok : ∀ r∈ax1 S,Go.Proofs.YtlnplelandimeaaGreat.RelOk r:=bvn _
 have hvl:=bxa S n
 have h0 : akq S n 0=[]:=rfl
 have hv : akj S n=akq S n 8:=rfl
 have hnx : ∀ k,akq S n (k + 1)=match btF (ax1 S) n k with
  | some f=>(aqi 1 (akq S n k) (outL f (mapA (S.ats k)))).1
  | none=>akq S n k:=fun k=>rfl
 rw [hv]
 clear hv
 generalize ax1 S=fs at *
 generalize akq S n=vk at *
 unfold rbB at hn
 simp only [decide_eq_true_eq] at hn
 refine CallM.of (m:=4) Tryz.func19 rfl aza rfl rfl rfl rfl (by simp [SV.wfs,SV.wf]) fun w M π _=>?_
 (conv=>whnf);repeat' (first|((with_reducible refine isC ?_);first|(((with_reducible refine isF 24 ?_);((refine azl kf [0,1,2,3] rfl ⟨fun _ _ h=>h,⟨rfl,rfl,rfl,rfl,rfl,rfl⟩,fun _ _ h=>h,⟨rfl,rfl,rfl,rfl,rfl,rfl⟩,trivial⟩ (by decide) (fun _ _ _ _=>trivial) ?_;intro q1;obtain ⟨A1,c1⟩:=q1)));conv=>whnf))|((with_reducible refine isW ?_;first|refine azg (by omega) (by omega) ?_|refine azc ?_);conv=>whnf)|((first|refine azj aza azt ?_|refine azi (by kernel_rfl) ?_|with_reducible refine azo ?_ ?_)<;>conv=>whnf)|with_reducible exact rfl|((with_reducible refine aze (by assumption) ?_);conv=>whnf)|((with_reducible refine azd ?_ ?_)<;>(intro hb;(try simp (disch:=omega) only [hbS] at hb)<;>conv=>whnf)))
 all_goals try (exfalso;omega)
 refine aql 89 4 ?_
 conv=>whnf
 refine azr aza (α:=Nat × Option Addr × Nat) (fun s=>s.1≤8) (fun s=>[(0,pR c.b),(1,I n),(5,.v (.slice s.2.1 (vk s.1).length s.2.2)),(6,.p 5 0),(7,I s.1)])
  (fun s=>[rsB c D S,rsQ c,raO c.p D.R allT,rsR D S,.row 39 5 A1 fs.length c1 (fs.map encR),.box 59 [.v (.slice A1 fs.length c1)],.row 89 4 s.2.1 (vk s.1).length s.2.2 ((vk s.1).map encE)]) (fun s=>8 - s.1) (0,none,0) [0,1,2,3,4,5,6] (by decide) ?_ ?_
 ·dsimp only
  rw [h0]
  (refine ⟨?_,?_,?_,?_⟩<;>(repeat' ((conv=>whnf);apply And.intro))<;>try (first|exact trivial|decide))
  all_goals first|rfl|exact fun _ _ h=>h|(simp [SV.wf,SV.wfs];done)|trace_state
 ·rintro ⟨k,A,cc⟩ hk
  dsimp only at hk ⊢
  by_cases hlt : k < 8
  ·have hnk:=hnx k
   have hvk:=hvl k
   have kb:=bvg A1 c1 fs n k hok (by omega)
   unfold frS at kb
   rcases ax3 (btF fs n k) with hb0|⟨f,hf⟩
   ·rw [hb0] at hnk kb
    dsimp only at hnk
    generalize vk k=o at *
    (conv=>whnf);repeat' (first|((with_reducible refine isC ?_);first|(((with_reducible refine isF 25 ?_);((refine az2 kb (ArgSl.row 4 rfl) ?_)));conv=>whnf))|((with_reducible refine isW ?_;first|refine azg (by omega) (by omega) ?_|refine azc ?_);conv=>whnf)|((first|refine azj aza azt ?_|refine azi (by kernel_rfl) ?_|with_reducible refine azo ?_ ?_)<;>conv=>whnf)|with_reducible exact rfl|((with_reducible refine aze (by assumption) ?_);conv=>whnf)|((with_reducible refine azd ?_ ?_)<;>(intro hb;(try simp (disch:=omega) only [hbS] at hb)<;>conv=>whnf)))
    all_goals try (exfalso;omega)
    refine ⟨(k + 1,A,cc),[0,1,2,3,4,5,6],by (try dsimp only);omega,?_,by (try dsimp only);omega⟩
    dsimp only
    rw [hnk]
    (refine ⟨?_,?_,?_,?_⟩<;>(repeat' ((conv=>whnf);apply And.intro))<;>try (first|exact trivial|decide))
    all_goals first|rfl|exact fun _ _ h=>h|(simp [SV.wf,SV.wfs];done)|trace_state
   ·rw [hf] at hnk kb
    dsimp only at hnk
    obtain ⟨ok1,ab1⟩:=hD k hlt
    have kmap:=rMap_m (c.p k) (D.R k) ok1
    rw [ab1,mapT_all] at kmap
    have hml : (mapA (S.ats k)).length≤1048576:=bw1 _ _
    have hma : mapF (S.ats k) (idsF (hasA (S.ats k)) 64)=mapA (S.ats k):=rfl
    rw [hma] at kmap
    generalize mapA (S.ats k)=l at *
    generalize vk k=o at *
    (conv=>whnf);repeat' (first|((with_reducible refine isC ?_);first|(((with_reducible refine isF 25 ?_);((refine az2 kb (ArgSl.row 4 rfl) ?_)));conv=>whnf))|((with_reducible refine isV ?_);first|(refine aj2 0 aza rfl rfl rfl rfl ?_;conv=>whnf)|((first|refine azf aza rfl (ArgSl.row 1 rfl) rfl ?_ ?_ ?_|(with_reducible refine azq ?_);refine azn _ _ (0) aza rfl rfl rfl (ArgSl.row 1 rfl) ?_ ?_ ?_|refine azp _ _ (0) aza rfl rfl rfl (ArgSl.row 1 rfl) ?_ ?_ ?_)<;>first|rfl|omega|with_reducible refine isP ?_|conv=>whnf))|((with_reducible refine isW ?_;first|refine azg (by omega) (by omega) ?_|refine azc ?_);conv=>whnf)|((first|refine azj aza azt ?_|refine azi (by kernel_rfl) ?_|with_reducible refine azo ?_ ?_)<;>conv=>whnf)|with_reducible exact rfl|((with_reducible refine aze (by assumption) ?_);conv=>whnf)|((with_reducible refine azd ?_ ?_)<;>(intro hb;(try simp (disch:=omega) only [hbS] at hb)<;>conv=>whnf)))
    all_goals try (exfalso;omega)
    rw [pt8 c.p hlt]
    refine ajn 2 k 8 (Entr.of Tryz.func55 rfl rfl) rfl rfl hlt (ajk hlt) (by simp [SV.wf,SV.wfs]) ?_
    conv=>whnf
    refine azl kmap [8] rfl ⟨fun _ _ h=>h,trivial⟩ (by decide) (fun _ _ _ _=>trivial) ?_
    rintro ⟨A3,c3⟩
    dsimp only
    conv=>whnf
    refine ⟨D.R k,rfl,rfl,?_⟩
    rw [ajw]
    (conv=>whnf);repeat' (first|((with_reducible refine isC ?_);first|(((with_reducible refine isF 23 ?_);((refine azl (dzt f A3 c3 l rfl (by omega)) [] rfl trivial (by decide) (ArgN.row 9 rfl (m:=0) (fun j hj=>by omega)) ?_;rintro ⟨⟨A4,c4,ys⟩,hys⟩;dsimp only;dsimp only at hys)));conv=>whnf))|((with_reducible refine isV ?_);first|(refine aj2 0 aza rfl rfl rfl rfl ?_;conv=>whnf)|((first|refine azf aza rfl (ArgSl.row 1 rfl) rfl ?_ ?_ ?_|(with_reducible refine azq ?_);refine azn _ _ (0) aza rfl rfl rfl (ArgSl.row 1 rfl) ?_ ?_ ?_|refine azp _ _ (0) aza rfl rfl rfl (ArgSl.row 1 rfl) ?_ ?_ ?_)<;>first|rfl|omega|with_reducible refine isP ?_|conv=>whnf))|((with_reducible refine isW ?_;first|refine azg (by omega) (by omega) ?_|refine azc ?_);conv=>whnf)|(rw [pt8 c.p hlt];conv=>whnf)|((first|refine azj aza azt ?_|refine azi (by kernel_rfl) ?_|with_reducible refine azo ?_ ?_)<;>conv=>whnf)|with_reducible exact rfl|((with_reducible refine aze (by assumption) ?_);conv=>whnf)|((with_reducible refine azd ?_ ?_)<;>(intro hb;(try simp (disch:=omega) only [hbS] at hb)<;>conv=>whnf)))
    all_goals try (exfalso;omega)
    all_goals try (rw [pt8 c.p hlt];done)
    have hyl:=cxq hys
    rw [bjv hys] at hnk
    (conv=>whnf);repeat' (first|((with_reducible refine isC ?_);first|(((with_reducible refine isF 56 ?_);((refine azl (rAdd_m A A4 cc c4 o ys rfl rfl (by unfold maxLen;omega) (by unfold maxLen;omega)) [] rfl trivial (by decide) (fun σ fp w hm=>⟨ArgN.row 6 rfl (m:=0) (fun j hj=>by omega) σ fp w hm,ArgN.row 10 rfl (m:=0) (fun j hj=>by omega) σ fp w hm⟩) ?_;rintro ⟨A5,c5⟩;dsimp only)));conv=>whnf))|((with_reducible refine isW ?_;first|refine azg (by omega) (by omega) ?_|refine azc ?_);conv=>whnf)|((first|refine azj aza azt ?_|refine azi (by kernel_rfl) ?_|with_reducible refine azo ?_ ?_)<;>conv=>whnf)|with_reducible exact rfl|((with_reducible refine aze (by assumption) ?_);conv=>whnf)|((with_reducible refine azd ?_ ?_)<;>(intro hb;(try simp (disch:=omega) only [hbS] at hb)<;>conv=>whnf)))
    all_goals try (exfalso;omega)
    refine ⟨(k + 1,A5,c5),[0,1,2,3,4,5,11],by (try dsimp only);omega,?_,by (try dsimp only);omega⟩
    dsimp only
    rw [hnk]
    (refine ⟨?_,?_,?_,?_⟩<;>(repeat' ((conv=>whnf);apply And.intro))<;>try (first|exact trivial|decide))
    all_goals first|rfl|exact fun _ _ h=>h|(simp [SV.wf,SV.wfs];done)|trace_state
  ·obtain rfl : k=8:=by omega
   (conv=>whnf);repeat' (first|((with_reducible refine isW ?_;first|refine azg (by omega) (by omega) ?_|refine azc ?_);conv=>whnf)|((first|refine azj aza azt ?_|refine azi (by kernel_rfl) ?_|with_reducible refine azo ?_ ?_)<;>conv=>whnf)|with_reducible exact rfl|((with_reducible refine aze (by assumption) ?_);conv=>whnf)|((with_reducible refine azd ?_ ?_)<;>(intro hb;(try simp (disch:=omega) only [hbS] at hb)<;>conv=>whnf)))
   all_goals try (exfalso;omega)
   exact azv (A,cc) [0,1,2,3,6] ⟨rfl,by simp [SV.wf,SV.wfs]⟩ ⟨fun _ _ h=>h,⟨rfl,rfl,rfl,rfl,rfl,rfl⟩,fun _ _ h=>h,⟨rfl,rfl,rfl,rfl,rfl,rfl⟩,⟨rfl,rfl,rfl,rfl,rfl,rfl⟩,trivial⟩ (by decide) rfl
noncomputable def vwS (S : SnT) (n : Int) : List EntT := if rbB n = true then akj S n else []
theorem vwS_le (S : SnT) (n : Int) : (vwS S n).length ≤ 1048576 := by
 unfold vwS
 split
 ·exact bxa S n 8
 ·simp
theorem view_any (b : Nat) (c : CoT) (S : SnT) (n : Int) : CallM Tryz.prog 18 [pR b, I n] (fun _ _ => True) [stO b c S allT]
 (fun q : Option Addr × Nat=>.v (.slice q.1 (vwS S n).length q.2)) (fun q=>[stO b c S allT,.row 89 4 q.1 (vwS S n).length q.2 ((vwS S n).map encE)]):=by
 unfold vwS
 rcases Bool.eq_false_or_eq_true (rbB n) with h|h
 ·rw [if_pos h]
  exact cv6 b c S n h
 ·rw [if_neg (by rw [h];simp)]
  have kr:=akf n
  rw [h] at kr
  refine CallM.of (m:=1) Tryz.func18 rfl aza rfl rfl rfl rfl (by simp [SV.wfs,SV.wf]) fun w M π _=>?_
  (conv=>whnf);repeat' (first|((with_reducible refine isC ?_);first|((with_reducible refine azb (kr) ?_)<;>first|omega|with_reducible refine isP ?_|conv=>whnf))|((with_reducible refine isW ?_;first|refine azg (by omega) (by omega) ?_|refine azc ?_);conv=>whnf)|((first|refine azj aza azt ?_|refine azi (by kernel_rfl) ?_|with_reducible refine azo ?_ ?_)<;>conv=>whnf)|with_reducible exact rfl|((with_reducible refine aze (by assumption) ?_);conv=>whnf)|((with_reducible refine azd ?_ ?_)<;>(intro hb;(try simp (disch:=omega) only [hbS] at hb)<;>conv=>whnf)))
  refine az3 89 4 ?_
  exact azv (none,0) [0,1] ⟨rfl,by simp [SV.wf,SV.wfs]⟩ ⟨fun _ _ h=>h,⟨rfl,rfl,rfl,rfl,rfl,rfl⟩,trivial⟩ (by decide) rfl
theorem bqk (c : RcT) (D : RdT) (S : SnT) (hD : okD S D) (n : Int) : CallM Tryz.prog 19 [pR c.b, I n] (fun _ _ => True) [rsB c D S, rsQ c, raO c.p D.R allT, rsR D S]
 (fun q : Option Addr × Nat=>.v (.slice q.1 (vwS S n).length q.2)) (fun q=>[rsB c D S,rsQ c,raO c.p D.R allT,rsR D S,.row 89 4 q.1 (vwS S n).length q.2 ((vwS S n).map encE)]):=by
 unfold vwS
 rcases Bool.eq_false_or_eq_true (rbB n) with hn|hn
 ·rw [if_pos hn]
  exact rsView_m c D S hD n hn
 ·rw [if_neg (by rw [hn];simp)]
  unfold rbB at hn
  simp only [decide_eq_false_iff_not] at hn
  refine CallM.of (m:=4) Tryz.func19 rfl aza rfl rfl rfl rfl (by simp [SV.wfs,SV.wf]) fun w M π _=>?_
  (conv=>whnf);repeat' (first|((with_reducible refine isW ?_;first|refine azg (by omega) (by omega) ?_|refine azc ?_);conv=>whnf)|((first|refine azj aza azt ?_|refine azi (by kernel_rfl) ?_|with_reducible refine azo ?_ ?_)<;>conv=>whnf)|with_reducible exact rfl|((with_reducible refine aze (by assumption) ?_);conv=>whnf)|((with_reducible refine azd ?_ ?_)<;>(intro hb;(try simp (disch:=omega) only [hbS] at hb)<;>conv=>whnf)))
  all_goals try (exfalso;omega)
  all_goals refine az3 89 4 ?_
  all_goals exact azv (none,0) [0,1,2,3,4] ⟨rfl,by simp [SV.wf,SV.wfs]⟩ ⟨fun _ _ h=>h,⟨rfl,rfl,rfl,rfl,rfl,rfl⟩,fun _ _ h=>h,⟨rfl,rfl,rfl,rfl,rfl,rfl⟩,⟨rfl,rfl,rfl,rfl,rfl,rfl⟩,trivial⟩ (by decide) rfl
set_option maxHeartbeats 16000000 in
theorem fviews_x (A : Option Addr) (c : Nat) (l : List FOp) (rb : Int) {n : Nat} (hl : l.length = n) (hn : n ≤ maxLen) :
 CallW Tryz.prog 3 [.v (.slice A n c),I rb] (fun w=>opsF w A n l) (B true):=by
 have kf:=few34_w A c l hl hn
 rcases Bool.eq_false_or_eq_true (fewG l) with hf|hf
 rotate_left
 ·rw [hf] at kf
  refine CallW.of Tryz.func3 rfl aza rfl rfl rfl (by simp [SV.wfs,SV.wf]) (by simp [SV.wfs,SV.wf]) fun w hpre=>?_
  (conv=>whnf);repeat' (first|((with_reducible refine isC ?_);first|((with_reducible refine azb (cxr) ?_)<;>first|omega|with_reducible refine isP ?_|conv=>whnf)|(((with_reducible refine isF 12 ?_;refine az2 (kf) ?_ ?_);(focus exact hpre.few rfl));conv=>whnf))|((with_reducible refine isW ?_;first|refine azg (by omega) (by omega) ?_|refine azc ?_);conv=>whnf)|((first|refine azj aza azt ?_|refine azi (by kernel_rfl) ?_|with_reducible refine azo ?_ ?_)<;>conv=>whnf)|with_reducible exact rfl|((with_reducible refine aze (by assumption) ?_);conv=>whnf)|((with_reducible refine azd ?_ ?_)<;>(intro hb;(try simp (disch:=omega) only [hbS] at hb)<;>conv=>whnf)))
  exact azk rfl rfl trivial
 ·rw [hf] at kf
  have hfl:=fewG_len hf
  refine CallW.of Tryz.func3 rfl aza rfl rfl rfl (by simp [SV.wfs,SV.wf]) (by simp [SV.wfs,SV.wf]) fun w hpre=>?_
  (conv=>whnf);repeat' (first|((with_reducible refine isC ?_);first|((with_reducible refine azb (cxr) ?_)<;>first|omega|with_reducible refine isP ?_|conv=>whnf)|(((with_reducible refine isF 12 ?_;refine az2 (kf) ?_ ?_);(focus exact hpre.few rfl));conv=>whnf))|((with_reducible refine isW ?_;first|refine azg (by omega) (by omega) ?_|refine azc ?_);conv=>whnf)|((first|refine azj aza azt ?_|refine azi (by kernel_rfl) ?_|with_reducible refine azo ?_ ?_)<;>conv=>whnf)|with_reducible exact rfl|((with_reducible refine aze (by assumption) ?_);conv=>whnf)|((with_reducible refine azd ?_ ?_)<;>(intro hb;(try simp (disch:=omega) only [hbS] at hb)<;>conv=>whnf)))
  refine azl three_m [] rfl trivial (by decide) (fun _ _ _ _=>trivial) ?_
  rintro ⟨⟨b0,d0⟩,⟨b1,d1⟩,⟨b2,d2⟩,A1,e1⟩
  dsimp only
  (conv=>whnf);repeat' (first|((with_reducible refine isW ?_;first|refine azg (by omega) (by omega) ?_|refine azc ?_);conv=>whnf)|((first|refine azj aza azt ?_|refine azi (by kernel_rfl) ?_|with_reducible refine azo ?_ ?_)<;>conv=>whnf)|with_reducible exact rfl|((with_reducible refine aze (by assumption) ?_);conv=>whnf)|((with_reducible refine azd ?_ ?_)<;>(intro hb;(try simp (disch:=omega) only [hbS] at hb)<;>conv=>whnf)))
  refine azl rThree_m [] rfl trivial (by decide) (fun _ _ _ _=>trivial) ?_
  rintro ⟨⟨c0,c1,c2⟩,A2,e2⟩
  dsimp only
  (conv=>whnf);repeat' (first|((with_reducible refine isW ?_;first|refine azg (by omega) (by omega) ?_|refine azc ?_);conv=>whnf)|((first|refine azj aza azt ?_|refine azi (by kernel_rfl) ?_|with_reducible refine azo ?_ ?_)<;>conv=>whnf)|with_reducible exact rfl|((with_reducible refine aze (by assumption) ?_);conv=>whnf)|((with_reducible refine azd ?_ ?_)<;>(intro hb;(try simp (disch:=omega) only [hbS] at hb)<;>conv=>whnf)))
  clear kf
  refine azr aza (α:=(k : Nat) × Co3 × {Q : Nat→SnT // Q=runQ Q0 (l.take k)} × Rd3) (fun s=>s.1≤n∧okD3 s.2.2.1.1 s.2.2.2) (fun s=>[(0,.v (.slice A n c)),(1,I rb),(5,.v (.slice A1 3 e1)),(6,.v (.slice A2 3 e2)),(7,I s.1)])
   (fun s=>[stO b0 s.2.1.1 (s.2.2.1.1 0) allT,stO b1 s.2.1.2.1 (s.2.2.1.1 1) allT,stO b2 s.2.1.2.2 (s.2.2.1.1 2) allT,ptsO A1 e1 b0 b1 b2,rsB c0 s.2.2.2.1 (s.2.2.1.1 0),rsQ c0,raO c0.p s.2.2.2.1.R allT,rsR s.2.2.2.1 (s.2.2.1.1 0),rsB c1 s.2.2.2.2.1 (s.2.2.1.1 1),rsQ c1,raO c1.p s.2.2.2.2.1.R allT,rsR s.2.2.2.2.1 (s.2.2.1.1 1),rsB c2 s.2.2.2.2.2 (s.2.2.1.1 2),rsQ c2,raO c2.p s.2.2.2.2.2.R allT,rsR s.2.2.2.2.2 (s.2.2.1.1 2),bj2 A2 e2 c0.b c1.b c2.b]) (fun s=>n - s.1) ⟨0,(d0,d1,d2),⟨Q0,rfl⟩,(D0,D0,D0)⟩ [0,1,2,3,4,5,6,7,8,9,10,11,12,13,14,15,16] ⟨Nat.zero_le _,okD0 _,okD0 _,okD0 _⟩ ?_ ?_
  ·(refine ⟨?_,?_,?_,?_⟩<;>(repeat' ((conv=>whnf);apply And.intro))<;>try (first|exact trivial|decide))
   all_goals first|rfl|exact fun _ _ h=>h|(simp [SV.wf,SV.wfs];done)|trace_state
  ·rintro ⟨k,cs,⟨Q,hQ⟩,D⟩ ⟨hk,hD⟩
   dsimp only at hk hQ hD ⊢
   have hokQ : okQ Q:=by rw [hQ];exact okQ_run _ okQ0
   have hgd : gdQ Q:=by rw [hQ];exact gdQ_run _ gdQ0
   by_cases hlt : k < n
   ·have hmem : l.getD k fo0∈l:=by simp [show k < l.length by omega]
    have hop:=hpre.op hmem
    have hol:=(hpre.2 _ hmem).2
    have hnx : doQ Q (l.getD k fo0)=runQ Q0 (l.take (k + 1)):=by rw [runQ_take (by omega),hQ]
    have hd:=do3_m b0 b1 b2 cs Q hokQ A1 e1 (l.getD k fo0) hol
    have hr:=rDo_m c0 c1 c2 D Q hD hokQ hgd A2 e2 (l.getD k fo0) hol
    (conv=>whnf);repeat' (first|((with_reducible refine isC ?_);first|((first|(with_reducible refine isF 15 ?_);(refine azl hd [0,1,2,3] rfl ⟨fun _ _ h=>h,fun _ _ h=>h,fun _ _ h=>h,⟨rfl,rfl,rfl,rfl,rfl,rfl⟩,trivial⟩ (by decide) (ArgN.on hop (by decide) (m:=4) (r:=[0,1,2,3]) (fun j hj=>by rcases (by omega : j=0∨j=1∨j=2∨j=3) with rfl|rfl|rfl|rfl<;>simp)) ?_;intro q)|(with_reducible refine isF 16 ?_);(refine azl hr [4,5,6,7,8,9,10,11,12,13,14,15,16] rfl ⟨fun _ _ h=>h,⟨rfl,rfl,rfl,rfl,rfl,rfl⟩,fun _ _ h=>h,⟨rfl,rfl,rfl,rfl,rfl,rfl⟩,fun _ _ h=>h,⟨rfl,rfl,rfl,rfl,rfl,rfl⟩,fun _ _ h=>h,⟨rfl,rfl,rfl,rfl,rfl,rfl⟩,fun _ _ h=>h,⟨rfl,rfl,rfl,rfl,rfl,rfl⟩,fun _ _ h=>h,⟨rfl,rfl,rfl,rfl,rfl,rfl⟩,⟨rfl,rfl,rfl,rfl,rfl,rfl⟩,trivial⟩ (by decide) (ArgN.on hop (by decide) (m:=13) (r:=[4,5,6,7,8,9,10,11,12,13,14,15,16]) (fun j hj=>by rcases (by omega : j=0∨j=1∨j=2∨j=3∨j=4∨j=5∨j=6∨j=7∨j=8∨j=9∨j=10∨j=11∨j=12) with rfl|rfl|rfl|rfl|rfl|rfl|rfl|rfl|rfl|rfl|rfl|rfl|rfl<;>simp)) ?_;intro q2));conv=>whnf))|((with_reducible refine isV ?_);first|((first|refine azf aza rfl (hpre.1.mem (by decide) rfl) rfl ?_ ?_ ?_|(with_reducible refine azq ?_);refine azw _ _ (fo0) aza rfl rfl rfl rfl (hpre.1.mem (by decide) rfl) ?_ ?_ ?_|refine azy _ _ (fo0) aza rfl rfl rfl rfl (hpre.1.mem (by decide) rfl) ?_ ?_ ?_)<;>first|rfl|omega|with_reducible refine isP ?_|conv=>whnf))|((with_reducible refine isW ?_;first|refine azg (by omega) (by omega) ?_|refine azc ?_);conv=>whnf)|((first|refine azj aza azt ?_|refine azi (by kernel_rfl) ?_|with_reducible refine azo ?_ ?_)<;>conv=>whnf)|with_reducible exact rfl|((with_reducible refine aze (by assumption) ?_);conv=>whnf)|((with_reducible refine azd ?_ ?_)<;>(intro hb;(try simp (disch:=omega) only [hbS] at hb)<;>conv=>whnf)))
    all_goals try (exfalso;omega)
    refine ⟨⟨k + 1,q,⟨_,hnx⟩,q2.1⟩,[0,1,2,3,4,5,6,7,8,9,10,11,12,13,14,15,16],⟨by (try dsimp only);omega,q2.2⟩,?_,by (try dsimp only);omega⟩
    (refine ⟨?_,?_,?_,?_⟩<;>(repeat' ((conv=>whnf);apply And.intro))<;>try (first|exact trivial|decide))
    all_goals first|rfl|exact fun _ _ h=>h|(simp [SV.wf,SV.wfs];done)|trace_state
   ·obtain rfl : k=n:=by omega
    (conv=>whnf);repeat' (first|((with_reducible refine isW ?_;first|refine azg (by omega) (by omega) ?_|refine azc ?_);conv=>whnf)|((first|refine azj aza azt ?_|refine azi (by kernel_rfl) ?_|with_reducible refine azo ?_ ?_)<;>conv=>whnf)|with_reducible exact rfl|((with_reducible refine aze (by assumption) ?_);conv=>whnf)|((with_reducible refine azd ?_ ?_)<;>(intro hb;(try simp (disch:=omega) only [hbS] at hb)<;>conv=>whnf)))
    all_goals try (exfalso;omega)
    have hvl:=vwS_le
    have kvs:=view_any
    have km0:=bw7 b0 cs.1 (Q 0) 0 (hokQ 0 (by omega)).1 (by decide)
    have km1:=bw7 b1 cs.2.1 (Q 1) 1 (hokQ 1 (by omega)).1 (by decide)
    have km2:=bw7 b2 cs.2.2 (Q 2) 2 (hokQ 2 (by omega)).1 (by decide)
    have e0 : akj (Q 0) 0=vwS (Q 0) 0:=rfl
    have e1' : akj (Q 1) 1=vwS (Q 1) 1:=rfl
    have e2' : akj (Q 2) 2=vwS (Q 2) 2:=rfl
    rw [e0] at km0
    rw [e1'] at km1
    rw [e2'] at km2
    have kr0:=bqk c0 D.1 (Q 0) hD.1 rb
    have kr1:=bqk c1 D.2.1 (Q 1) hD.2.1 rb
    have kr2:=bqk c2 D.2.2 (Q 2) hD.2.2 rb
    generalize vwS=VW at *
    refine azr aza (α:=Nat) (fun i=>i≤3) (fun i=>[(1,I rb),(5,.v (.slice A1 3 e1)),(6,.v (.slice A2 3 e2)),(8,I i)])
     (fun _=>[stO b0 cs.1 (Q 0) allT,stO b1 cs.2.1 (Q 1) allT,stO b2 cs.2.2 (Q 2) allT,ptsO A1 e1 b0 b1 b2,rsB c0 D.1 (Q 0),rsQ c0,raO c0.p D.1.R allT,rsR D.1 (Q 0),rsB c1 D.2.1 (Q 1),rsQ c1,raO c1.p D.2.1.R allT,rsR D.2.1 (Q 1),rsB c2 D.2.2 (Q 2),rsQ c2,raO c2.p D.2.2.R allT,rsR D.2.2 (Q 2),bj2 A2 e2 c0.b c1.b c2.b]) (fun i=>3 - i) 0 [0,1,2,3,4,5,6,7,8,9,10,11,12,13,14,15,16] (Nat.zero_le _) ?_ ?_
    ·(refine ⟨?_,?_,?_,?_⟩<;>(repeat' ((conv=>whnf);apply And.intro))<;>try (first|exact trivial|decide))
     all_goals first|rfl|exact fun _ _ h=>h|(simp [SV.wf,SV.wfs];done)|trace_state
    ·intro i hi
     by_cases hlt2 : i < 3
     ·rcases (by omega : i=0∨i=1∨i=2) with rfl|rfl|rfl
      ·have hl1:=hvl (Q 0) rb
       have hl2:=hvl (Q 0) 0
       have kv2:=kvs b0 cs.1 (Q 0) 0
       have kv:=kvs b0 cs.1 (Q 0) rb
       generalize VW (Q 0) rb=V1 at *
       generalize VW (Q 0) 0=V2 at *
       (conv=>whnf);repeat' (first|((with_reducible refine isC ?_);first|((first|(with_reducible refine isF 19 ?_;refine azl (kr0) [4,5,6,7] ?_ ?_ ?_ ?_ ?_);(focus exact rfl);(focus exact ⟨fun _ _ h=>h,⟨rfl,rfl,rfl,rfl,rfl,rfl⟩,fun _ _ h=>h,⟨rfl,rfl,rfl,rfl,rfl,rfl⟩,trivial⟩);(focus decide);(focus exact (fun _ _ _ _=>trivial));intro q2;obtain ⟨A4,c4⟩:=q2;dsimp only|(with_reducible refine isF 18 ?_;refine azl (kv) [0] ?_ ?_ ?_ ?_ ?_);(focus exact rfl);(focus exact ⟨fun _ _ h=>h,trivial⟩);(focus decide);(focus exact (fun _ _ _ _=>trivial));intro q1;obtain ⟨A3,c3⟩:=q1;dsimp only;clear kv|(with_reducible refine isF 18 ?_;refine azl (kv2) [0] ?_ ?_ ?_ ?_ ?_);(focus exact rfl);(focus exact ⟨fun _ _ h=>h,trivial⟩);(focus decide);(focus exact (fun _ _ _ _=>trivial));intro q4;obtain ⟨A6,c6⟩:=q4;dsimp only|(with_reducible refine isF 20 ?_;refine azl (km0) [0] ?_ ?_ ?_ ?_ ?_);(focus exact rfl);(focus exact ⟨fun _ _ h=>h,trivial⟩);(focus decide);(focus exact (fun _ _ _ _=>trivial));intro q3;obtain ⟨A5,c5⟩:=q3;dsimp only|(with_reducible refine isF 17 ?_;refine az2 (aky A3 A4 c3 c4 V1 V1 rfl rfl rfl (by omega) (by omega)) ?_ ?_);(focus exact (fun σ fp w hm=>⟨ArgSl.row 17 rfl σ fp w hm,ArgSl.row 18 rfl σ fp w hm⟩))|(with_reducible refine isF 17 ?_;refine az2 (aky A5 A6 c5 c6 V2 V2 rfl rfl rfl (by omega) (by omega)) ?_ ?_);(focus exact (fun σ fp w hm=>⟨ArgSl.row 19 rfl σ fp w hm,ArgSl.row 20 rfl σ fp w hm⟩)));conv=>whnf))|((with_reducible refine isV ?_);first|((first|refine azf aza rfl (ArgSl.row 3 rfl) rfl ?_ ?_ ?_|(with_reducible refine azq ?_);refine azn _ _ (0) aza rfl rfl rfl (ArgSl.row 3 rfl) ?_ ?_ ?_|refine azp _ _ (0) aza rfl rfl rfl (ArgSl.row 3 rfl) ?_ ?_ ?_|refine azf aza rfl (ArgSl.row 16 rfl) rfl ?_ ?_ ?_|(with_reducible refine azq ?_);refine azn _ _ (0) aza rfl rfl rfl (ArgSl.row 16 rfl) ?_ ?_ ?_|refine azp _ _ (0) aza rfl rfl rfl (ArgSl.row 16 rfl) ?_ ?_ ?_)<;>first|rfl|omega|with_reducible refine isP ?_|conv=>whnf))|((with_reducible refine isW ?_;first|refine azg (by omega) (by omega) ?_|refine azc ?_);conv=>whnf)|((first|refine azj aza azt ?_|refine azi (by kernel_rfl) ?_|with_reducible refine azo ?_ ?_)<;>conv=>whnf)|with_reducible exact rfl|((with_reducible refine aze (by assumption) ?_);conv=>whnf)|((with_reducible refine azd ?_ ?_)<;>(intro hb;(try simp (disch:=omega) only [hbS] at hb)<;>conv=>whnf)))
       all_goals try (exfalso;omega)
       refine ⟨1,[0,1,2,3,4,5,6,7,8,9,10,11,12,13,14,15,16],by (try dsimp only);omega,?_,by (try dsimp only);omega⟩
       (refine ⟨?_,?_,?_,?_⟩<;>(repeat' ((conv=>whnf);apply And.intro))<;>try (first|exact trivial|decide))
       all_goals first|rfl|exact fun _ _ h=>h|(simp [SV.wf,SV.wfs];done)|trace_state
      ·have hl1:=hvl (Q 1) rb
       have hl2:=hvl (Q 1) 1
       have kv2:=kvs b1 cs.2.1 (Q 1) 1
       have kv:=kvs b1 cs.2.1 (Q 1) rb
       generalize VW (Q 1) rb=V1 at *
       generalize VW (Q 1) 1=V2 at *
       (conv=>whnf);repeat' (first|((with_reducible refine isC ?_);first|((first|(with_reducible refine isF 19 ?_;refine azl (kr1) [8,9,10,11] ?_ ?_ ?_ ?_ ?_);(focus exact rfl);(focus exact ⟨fun _ _ h=>h,⟨rfl,rfl,rfl,rfl,rfl,rfl⟩,fun _ _ h=>h,⟨rfl,rfl,rfl,rfl,rfl,rfl⟩,trivial⟩);(focus decide);(focus exact (fun _ _ _ _=>trivial));intro q2;obtain ⟨A4,c4⟩:=q2;dsimp only|(with_reducible refine isF 18 ?_;refine azl (kv) [1] ?_ ?_ ?_ ?_ ?_);(focus exact rfl);(focus exact ⟨fun _ _ h=>h,trivial⟩);(focus decide);(focus exact (fun _ _ _ _=>trivial));intro q1;obtain ⟨A3,c3⟩:=q1;dsimp only;clear kv|(with_reducible refine isF 18 ?_;refine azl (kv2) [1] ?_ ?_ ?_ ?_ ?_);(focus exact rfl);(focus exact ⟨fun _ _ h=>h,trivial⟩);(focus decide);(focus exact (fun _ _ _ _=>trivial));intro q4;obtain ⟨A6,c6⟩:=q4;dsimp only|(with_reducible refine isF 20 ?_;refine azl (km1) [1] ?_ ?_ ?_ ?_ ?_);(focus exact rfl);(focus exact ⟨fun _ _ h=>h,trivial⟩);(focus decide);(focus exact (fun _ _ _ _=>trivial));intro q3;obtain ⟨A5,c5⟩:=q3;dsimp only|(with_reducible refine isF 17 ?_;refine az2 (aky A3 A4 c3 c4 V1 V1 rfl rfl rfl (by omega) (by omega)) ?_ ?_);(focus exact (fun σ fp w hm=>⟨ArgSl.row 17 rfl σ fp w hm,ArgSl.row 18 rfl σ fp w hm⟩))|(with_reducible refine isF 17 ?_;refine az2 (aky A5 A6 c5 c6 V2 V2 rfl rfl rfl (by omega) (by omega)) ?_ ?_);(focus exact (fun σ fp w hm=>⟨ArgSl.row 19 rfl σ fp w hm,ArgSl.row 20 rfl σ fp w hm⟩)));conv=>whnf))|((with_reducible refine isV ?_);first|((first|refine azf aza rfl (ArgSl.row 3 rfl) rfl ?_ ?_ ?_|(with_reducible refine azq ?_);refine azn _ _ (0) aza rfl rfl rfl (ArgSl.row 3 rfl) ?_ ?_ ?_|refine azp _ _ (0) aza rfl rfl rfl (ArgSl.row 3 rfl) ?_ ?_ ?_|refine azf aza rfl (ArgSl.row 16 rfl) rfl ?_ ?_ ?_|(with_reducible refine azq ?_);refine azn _ _ (0) aza rfl rfl rfl (ArgSl.row 16 rfl) ?_ ?_ ?_|refine azp _ _ (0) aza rfl rfl rfl (ArgSl.row 16 rfl) ?_ ?_ ?_)<;>first|rfl|omega|with_reducible refine isP ?_|conv=>whnf))|((with_reducible refine isW ?_;first|refine azg (by omega) (by omega) ?_|refine azc ?_);conv=>whnf)|((first|refine azj aza azt ?_|refine azi (by kernel_rfl) ?_|with_reducible refine azo ?_ ?_)<;>conv=>whnf)|with_reducible exact rfl|((with_reducible refine aze (by assumption) ?_);conv=>whnf)|((with_reducible refine azd ?_ ?_)<;>(intro hb;(try simp (disch:=omega) only [hbS] at hb)<;>conv=>whnf)))
       all_goals try (exfalso;omega)
       refine ⟨2,[0,1,2,3,4,5,6,7,8,9,10,11,12,13,14,15,16],by (try dsimp only);omega,?_,by (try dsimp only);omega⟩
       (refine ⟨?_,?_,?_,?_⟩<;>(repeat' ((conv=>whnf);apply And.intro))<;>try (first|exact trivial|decide))
       all_goals first|rfl|exact fun _ _ h=>h|(simp [SV.wf,SV.wfs];done)|trace_state
      ·have hl1:=hvl (Q 2) rb
       have hl2:=hvl (Q 2) 2
       have kv2:=kvs b2 cs.2.2 (Q 2) 2
       have kv:=kvs b2 cs.2.2 (Q 2) rb
       generalize VW (Q 2) rb=V1 at *
       generalize VW (Q 2) 2=V2 at *
       (conv=>whnf);repeat' (first|((with_reducible refine isC ?_);first|((first|(with_reducible refine isF 19 ?_;refine azl (kr2) [12,13,14,15] ?_ ?_ ?_ ?_ ?_);(focus exact rfl);(focus exact ⟨fun _ _ h=>h,⟨rfl,rfl,rfl,rfl,rfl,rfl⟩,fun _ _ h=>h,⟨rfl,rfl,rfl,rfl,rfl,rfl⟩,trivial⟩);(focus decide);(focus exact (fun _ _ _ _=>trivial));intro q2;obtain ⟨A4,c4⟩:=q2;dsimp only|(with_reducible refine isF 18 ?_;refine azl (kv) [2] ?_ ?_ ?_ ?_ ?_);(focus exact rfl);(focus exact ⟨fun _ _ h=>h,trivial⟩);(focus decide);(focus exact (fun _ _ _ _=>trivial));intro q1;obtain ⟨A3,c3⟩:=q1;dsimp only;clear kv|(with_reducible refine isF 18 ?_;refine azl (kv2) [2] ?_ ?_ ?_ ?_ ?_);(focus exact rfl);(focus exact ⟨fun _ _ h=>h,trivial⟩);(focus decide);(focus exact (fun _ _ _ _=>trivial));intro q4;obtain ⟨A6,c6⟩:=q4;dsimp only|(with_reducible refine isF 20 ?_;refine azl (km2) [2] ?_ ?_ ?_ ?_ ?_);(focus exact rfl);(focus exact ⟨fun _ _ h=>h,trivial⟩);(focus decide);(focus exact (fun _ _ _ _=>trivial));intro q3;obtain ⟨A5,c5⟩:=q3;dsimp only|(with_reducible refine isF 17 ?_;refine az2 (aky A3 A4 c3 c4 V1 V1 rfl rfl rfl (by omega) (by omega)) ?_ ?_);(focus exact (fun σ fp w hm=>⟨ArgSl.row 17 rfl σ fp w hm,ArgSl.row 18 rfl σ fp w hm⟩))|(with_reducible refine isF 17 ?_;refine az2 (aky A5 A6 c5 c6 V2 V2 rfl rfl rfl (by omega) (by omega)) ?_ ?_);(focus exact (fun σ fp w hm=>⟨ArgSl.row 19 rfl σ fp w hm,ArgSl.row 20 rfl σ fp w hm⟩)));conv=>whnf))|((with_reducible refine isV ?_);first|((first|refine azf aza rfl (ArgSl.row 3 rfl) rfl ?_ ?_ ?_|(with_reducible refine azq ?_);refine azn _ _ (0) aza rfl rfl rfl (ArgSl.row 3 rfl) ?_ ?_ ?_|refine azp _ _ (0) aza rfl rfl rfl (ArgSl.row 3 rfl) ?_ ?_ ?_|refine azf aza rfl (ArgSl.row 16 rfl) rfl ?_ ?_ ?_|(with_reducible refine azq ?_);refine azn _ _ (0) aza rfl rfl rfl (ArgSl.row 16 rfl) ?_ ?_ ?_|refine azp _ _ (0) aza rfl rfl rfl (ArgSl.row 16 rfl) ?_ ?_ ?_)<;>first|rfl|omega|with_reducible refine isP ?_|conv=>whnf))|((with_reducible refine isW ?_;first|refine azg (by omega) (by omega) ?_|refine azc ?_);conv=>whnf)|((first|refine azj aza azt ?_|refine azi (by kernel_rfl) ?_|with_reducible refine azo ?_ ?_)<;>conv=>whnf)|with_reducible exact rfl|((with_reducible refine aze (by assumption) ?_);conv=>whnf)|((with_reducible refine azd ?_ ?_)<;>(intro hb;(try simp (disch:=omega) only [hbS] at hb)<;>conv=>whnf)))
       all_goals try (exfalso;omega)
       refine ⟨3,[0,1,2,3,4,5,6,7,8,9,10,11,12,13,14,15,16],by (try dsimp only);omega,?_,by (try dsimp only);omega⟩
       (refine ⟨?_,?_,?_,?_⟩<;>(repeat' ((conv=>whnf);apply And.intro))<;>try (first|exact trivial|decide))
       all_goals first|rfl|exact fun _ _ h=>h|(simp [SV.wf,SV.wfs];done)|trace_state
     ·obtain rfl : i=3:=by omega
      (conv=>whnf);repeat' (first|((with_reducible refine isW ?_;first|refine azg (by omega) (by omega) ?_|refine azc ?_);conv=>whnf)|((first|refine azj aza azt ?_|refine azi (by kernel_rfl) ?_|with_reducible refine azo ?_ ?_)<;>conv=>whnf)|with_reducible exact rfl|((with_reducible refine aze (by assumption) ?_);conv=>whnf)|((with_reducible refine azd ?_ ?_)<;>(intro hb;(try simp (disch:=omega) only [hbS] at hb)<;>conv=>whnf)))
      all_goals try (exfalso;omega)
      exact azk rfl rfl trivial
theorem fviews_walk (A0 : Option Addr) (n0 c0 : Nat) (l0 : List FOp) (a1 : Int) (w : World) (h0 : l0.length = n0) (o0 : opsF w A0 n0 l0) (g0 : n0 ≤ c0) (k0 : c0 ≤ maxLen) :
 Calls Tryz.prog 3 #[.slice A0 n0 c0,.int .i64 a1] w fun e w'=>e = .returned (.bool true)∧Below w.heap.size w w' :=
 (fviews_x A0 c0 l0 a1 h0 (by omega)).2.2 (fun _=>0) w o0
end Go.Proofs.YtlnplelandimeaaGreat.En
end
