import Derived.Test.YtlnplelandimeaaGreatZFleetViews21
import Derived.Test.YtlnplelandimeaaGreatZFleetViews22
import Derived.Test.YtlnplelandimeaaGreatZFleetViews18
import Derived.Test.YtlnplelandimeaaGreatZFleetViews09
set_option linter.all false
section
namespace Go.Proofs.YtlnplelandimeaaGreat.En
open Go.RowKit
set_option maxRecDepth 100000
theorem Ints_w (A1 A2 : Option Addr) (c1 c2 : Nat) (l : List Int) {n : Nat} (hl : l.length = n) (hn : n ≤ 1000000000) :
 CallW Tryz.prog 26 [.v (.slice A1 n c1),.v (.slice A2 n c2)] (fun w=>ArgSl w A1 n 1 (l.map fun x=>[encI x])∧ArgSl w A2 n 1 (l.map fun x=>[encI x])) (B true):=by
 refine CallW.of Tryz.func26 rfl aza rfl rfl rfl (by simp [SV.wfs,SV.wf]) (by simp [SV.wfs,SV.wf]) fun w hpre=>?_
 obtain ⟨h1,h2⟩:=hpre
 (conv=>whnf);repeat' (first|((with_reducible refine isW ?_;first|refine azg (by omega) (by omega) ?_|refine azc ?_);conv=>whnf)|((first|refine azj aza azt ?_|refine azi (by kernel_rfl) ?_|with_reducible refine azo ?_ ?_)<;>conv=>whnf)|with_reducible exact rfl|((with_reducible refine aze (by assumption) ?_);conv=>whnf)|((with_reducible refine azd ?_ ?_)<;>(intro hb;(try simp (disch:=omega) only [hbS] at hb)<;>conv=>whnf)))
 all_goals try (exfalso;omega)
 refine azr aza (α:=Nat) (fun k=>k≤n) (fun k=>[(0,.v (.slice A1 n c1)),(1,.v (.slice A2 n c2)),(5,I k)]) (fun _=>[]) (fun k=>n - k) 0 [] (Nat.zero_le _) ?_ ?_
 ·(refine ⟨?_,?_,?_,?_⟩<;>(repeat' ((conv=>whnf);apply And.intro))<;>try (first|exact trivial|decide))
  all_goals first|rfl|exact fun _ _ h=>h|simp [SV.wf,SV.wfs]
 ·intro k hk
  by_cases hlt : k < n
  ·(conv=>whnf);repeat' (first|((with_reducible refine isV ?_);first|((first|refine azf aza rfl (h1.mem (by decide) rfl) rfl ?_ ?_ ?_|(with_reducible refine azq ?_);refine azn _ _ (0) aza rfl rfl rfl (h1.mem (by decide) rfl) ?_ ?_ ?_|refine azp _ _ (0) aza rfl rfl rfl (h1.mem (by decide) rfl) ?_ ?_ ?_|refine azf aza rfl (h2.mem (by decide) rfl) rfl ?_ ?_ ?_|(with_reducible refine azq ?_);refine azn _ _ (0) aza rfl rfl rfl (h2.mem (by decide) rfl) ?_ ?_ ?_|refine azp _ _ (0) aza rfl rfl rfl (h2.mem (by decide) rfl) ?_ ?_ ?_)<;>first|rfl|omega|with_reducible refine isP ?_|conv=>whnf))|((with_reducible refine isW ?_;first|refine azg (by omega) (by omega) ?_|refine azc ?_);conv=>whnf)|((first|refine azj aza azt ?_|refine azi (by kernel_rfl) ?_|with_reducible refine azo ?_ ?_)<;>conv=>whnf)|with_reducible exact rfl|((with_reducible refine aze (by assumption) ?_);conv=>whnf)|((with_reducible refine azd ?_ ?_)<;>(intro hb;(try simp (disch:=omega) only [hbS] at hb)<;>conv=>whnf)))
   all_goals try (exfalso;omega)
   refine ⟨k + 1,[],by (try dsimp only);omega,?_,by (try dsimp only);omega⟩
   (refine ⟨?_,?_,?_,?_⟩<;>(repeat' ((conv=>whnf);apply And.intro))<;>try (first|exact trivial|decide))
   all_goals first|rfl|exact fun _ _ h=>h|(simp [SV.wf,SV.wfs];done)|trace_state
  ·(conv=>whnf);repeat' (first|((with_reducible refine isW ?_;first|refine azg (by omega) (by omega) ?_|refine azc ?_);conv=>whnf)|((first|refine azj aza azt ?_|refine azi (by kernel_rfl) ?_|with_reducible refine azo ?_ ?_)<;>conv=>whnf)|with_reducible exact rfl|((with_reducible refine aze (by assumption) ?_);conv=>whnf)|((with_reducible refine azd ?_ ?_)<;>(intro hb;(try simp (disch:=omega) only [hbS] at hb)<;>conv=>whnf)))
   all_goals try (exfalso;omega)
   exact azk rfl rfl trivial
def ajy (a : AtT) (k : Int) : List EntT := match a.1 k, a.2 k with
 | some s,some p=>if p.2.1 then [] else (ofE p.2.2 s).1
 | _,_=>[]
set_option maxHeartbeats 2000000 in
theorem Part_m (b1 b2 : Nat) (m : List (Int × SlT)) (q : List (Int × PlT)) (k : Int) (hok : okS m) :
 CallM Tryz.prog 98 [.p 0 0,I k] (fun _ _=>True) [atB b1 b2,scO b1 m,plO b2 q]
  (fun r : Option Addr × Nat=>.v (.slice r.1 (ajy (absM (m,q)) k).length r.2)) (fun r=>[atB b1 b2,scO b1 m,plO b2 q,.row 89 4 r.1 (ajy (absM (m,q)) k).length r.2 ((ajy (absM (m,q)) k).map encE)]):=by
 have ks:=Scan_m b1 b2 m q k hok
 have kw:=Where_m b1 b2 m q k
 have ho:=hok.of k
 have hp : ajy (absM (m,q)) k=if (lkI m k).isSome && (lkI q k).isSome && !(plOf q k).2.1 then (ofE (plOf q k).2.2 (slOf m k).2.2).1 else []:=by
  unfold ajy absM semS plOf slOf
  cases hi : lkI m k with
  | none=>simp [hi]
  | some v =>
    cases hj : lkI q k with
    | none=>simp [hi,hj]
    | some p =>
      simp only [hi,hj,Option.map_some,Option.getD_some,Option.isSome_some,Bool.and_self,Bool.true_and]
      cases p.2.1<;>rfl
 have hl:=cj4 (plOf q k).2.2 (slOf m k).2.2
 rw [hp]
 generalize hs : (lkI m k).isSome=has at *
 generalize hq : (lkI q k).isSome=had at *
 generalize hbs : (slOf m k).2.2=bs at *
 generalize hpv : plOf q k=p at *
 obtain ⟨v,g,pose⟩:=p
 clear hs hq hp
 refine CallM.of (m:=3) Tryz.func98 rfl aza rfl rfl rfl rfl (by simp [SV.wfs,SV.wf]) fun w M π _=>?_
 have hof:=fun (A : Option Addr) (c : Nat)=>ofE_m pose A c bs _ rfl rfl (by unfold maxLen;omega)
 dsimp only at hl ⊢
 generalize ofE pose bs=r at *
 cases has with
 | false =>
   (conv=>whnf);repeat' (first|((with_reducible refine isC ?_);first|((first|(with_reducible refine isF 68 ?_);((refine azl ks [0,1,2] rfl ⟨⟨rfl,rfl,by simp [SV.wf,SV.wfs]⟩,fun _ _ h=>h,fun _ _ h=>h,trivial⟩ (by decide) (fun _ _ _ _=>trivial) ?_;intro r1;obtain ⟨B1,d1⟩:=r1))|(with_reducible refine isF 70 ?_);((refine azl kw [0,1,2] rfl ⟨⟨rfl,rfl,by simp [SV.wf,SV.wfs]⟩,fun _ _ h=>h,fun _ _ h=>h,trivial⟩ (by decide) (fun _ _ _ _=>trivial) ?_;intro r3)));conv=>whnf))|with_reducible exact rfl|((with_reducible refine aze (by assumption) ?_);conv=>whnf)|((with_reducible refine azd ?_ ?_)<;>(intro hb;(try simp (disch:=omega) only [hbS] at hb)<;>conv=>whnf)))
   refine az3 89 4 ?_
   exact azv (none,0) [0,1,2,5] ⟨rfl,by simp [SV.wf,SV.wfs]⟩ ⟨⟨rfl,rfl,by simp [SV.wf,SV.wfs]⟩,fun _ _ h=>h,fun _ _ h=>h,⟨rfl,rfl,rfl,rfl,rfl,rfl⟩,trivial⟩ (by decide) rfl
 | true =>
   cases had with
   | false =>
     (conv=>whnf);repeat' (first|((with_reducible refine isC ?_);first|((first|(with_reducible refine isF 68 ?_);((refine azl ks [0,1,2] rfl ⟨⟨rfl,rfl,by simp [SV.wf,SV.wfs]⟩,fun _ _ h=>h,fun _ _ h=>h,trivial⟩ (by decide) (fun _ _ _ _=>trivial) ?_;intro r1;obtain ⟨B1,d1⟩:=r1))|(with_reducible refine isF 70 ?_);((refine azl kw [0,1,2] rfl ⟨⟨rfl,rfl,by simp [SV.wf,SV.wfs]⟩,fun _ _ h=>h,fun _ _ h=>h,trivial⟩ (by decide) (fun _ _ _ _=>trivial) ?_;intro r3)));conv=>whnf))|with_reducible exact rfl|((with_reducible refine aze (by assumption) ?_);conv=>whnf)|((with_reducible refine azd ?_ ?_)<;>(intro hb;(try simp (disch:=omega) only [hbS] at hb)<;>conv=>whnf)))
     refine az3 89 4 ?_
     exact azv (none,0) [0,1,2,5] ⟨rfl,by simp [SV.wf,SV.wfs]⟩ ⟨⟨rfl,rfl,by simp [SV.wf,SV.wfs]⟩,fun _ _ h=>h,fun _ _ h=>h,⟨rfl,rfl,rfl,rfl,rfl,rfl⟩,trivial⟩ (by decide) rfl
   | true =>
     cases g with
     | true =>
       (conv=>whnf);repeat' (first|((with_reducible refine isC ?_);first|((first|(with_reducible refine isF 68 ?_);((refine azl ks [0,1,2] rfl ⟨⟨rfl,rfl,by simp [SV.wf,SV.wfs]⟩,fun _ _ h=>h,fun _ _ h=>h,trivial⟩ (by decide) (fun _ _ _ _=>trivial) ?_;intro r1;obtain ⟨B1,d1⟩:=r1))|(with_reducible refine isF 70 ?_);((refine azl kw [0,1,2] rfl ⟨⟨rfl,rfl,by simp [SV.wf,SV.wfs]⟩,fun _ _ h=>h,fun _ _ h=>h,trivial⟩ (by decide) (fun _ _ _ _=>trivial) ?_;intro r3)));conv=>whnf))|with_reducible exact rfl|((with_reducible refine aze (by assumption) ?_);conv=>whnf)|((with_reducible refine azd ?_ ?_)<;>(intro hb;(try simp (disch:=omega) only [hbS] at hb)<;>conv=>whnf)))
       refine az3 89 4 ?_
       exact azv (none,0) [0,1,2,5] ⟨rfl,by simp [SV.wf,SV.wfs]⟩ ⟨⟨rfl,rfl,by simp [SV.wf,SV.wfs]⟩,fun _ _ h=>h,fun _ _ h=>h,⟨rfl,rfl,rfl,rfl,rfl,rfl⟩,trivial⟩ (by decide) rfl
     | false =>
       (conv=>whnf);repeat' (first|((with_reducible refine isC ?_);first|((first|(with_reducible refine isF 68 ?_);((refine azl ks [0,1,2] rfl ⟨⟨rfl,rfl,by simp [SV.wf,SV.wfs]⟩,fun _ _ h=>h,fun _ _ h=>h,trivial⟩ (by decide) (fun _ _ _ _=>trivial) ?_;intro r1;obtain ⟨B1,d1⟩:=r1))|(with_reducible refine isF 70 ?_);((refine azl kw [0,1,2] rfl ⟨⟨rfl,rfl,by simp [SV.wf,SV.wfs]⟩,fun _ _ h=>h,fun _ _ h=>h,trivial⟩ (by decide) (fun _ _ _ _=>trivial) ?_;intro r3))|(with_reducible refine isF 130 ?_);((refine azl (hof B1 d1) [] rfl trivial (by decide) (fun σ fp w hm=>ArgN.of0 (ArgSl.bm (s:=(B1,d1,bs)) 3 rfl σ fp w hm) _) ?_;intro r4;obtain ⟨B2,d2⟩:=r4)));conv=>whnf))|with_reducible exact rfl|((with_reducible refine aze (by assumption) ?_);conv=>whnf)|((with_reducible refine azd ?_ ?_)<;>(intro hb;(try simp (disch:=omega) only [hbS] at hb)<;>conv=>whnf)))
       exact azv (B2,d2) [0,1,2,5] ⟨rfl,by simp [SV.wf,SV.wfs]⟩ ⟨⟨rfl,rfl,by simp [SV.wf,SV.wfs]⟩,fun _ _ h=>h,fun _ _ h=>h,⟨rfl,rfl,rfl,rfl,rfl,rfl⟩,trivial⟩ (by decide) rfl
def akp {α : Type} (key : α → List Int) (o p : Option α) : Option α := match p with
 | none=>o
 | some v=>mxO key o v
def bzh (a b : AtT) : AtT := (fun k => akp keyS (a.1 k) (b.1 k), fun k => akp keyP (a.2 k) (b.2 k))
def ajj (b : AtT) : Prop := ∀ k, (∀ s, b.1 k = some s → aq9 s = true ∧ vId k = true) ∧ ∀ p, b.2 k = some p → vPl p = true ∧ vId k = true
def akz (b : AtT) (x : AtT) (k : Int) : AtT := ((match b.1 k with
 | some s=>updF x.1 k (mxO keyS (x.1 k) s)
 | none=>x.1),match b.2 k with
 | some p=>updF x.2 k (mxO keyP (x.2 k) p)
 | none=>x.2)
theorem jStep_at (b x : AtT) (k i : Int) : (akz b x k).1 i = (if i = k then akp keyS (x.1 i) (b.1 i) else x.1 i) ∧ (akz b x k).2 i = (if i = k then akp keyP (x.2 i) (b.2 i) else x.2 i) := by
 unfold akz akp
 constructor
 ·dsimp only
  by_cases h : i=k
  ·subst h
   rw [if_pos rfl]
   cases b.1 i with
   | none=>rfl
   | some s=>simp [updF]
  ·rw [if_neg h]
   cases b.1 k with
   | none=>rfl
   | some s=>simp [updF,h]
 ·dsimp only
  by_cases h : i=k
  ·subst h
   rw [if_pos rfl]
   cases b.2 i with
   | none=>rfl
   | some s=>simp [updF]
  ·rw [if_neg h]
   cases b.2 k with
   | none=>rfl
   | some s=>simp [updF,h]
theorem bzi (b : AtT) (i : Int) : ∀ (ids : List Int) (a : AtT), ids.Nodup → (ids.foldl (akz b) a).1 i = (if i ∈ ids then akp keyS (a.1 i) (b.1 i) else a.1 i) ∧ (ids.foldl (akz b) a).2 i = (if i ∈ ids then akp keyP (a.2 i) (b.2 i) else a.2 i)
 | [],a,_=>by simp
 | k :: ids,a,hn=>by
   rw [List.nodup_cons] at hn
   obtain ⟨h1,h2⟩:=bzi b i ids (akz b a k) hn.2
   obtain ⟨j1,j2⟩:=jStep_at b a k i
   rw [List.foldl_cons,h1,h2,j1,j2]
   by_cases h : i=k
   ·subst h
    simp [hn.1]
   ·simp [h]
theorem idsF_mem (s : Int → Bool) (k : Int) : k ∈ idsF s 64 ↔ vId k = true ∧ s k = true := by
 unfold idsF vId
 simp only [List.mem_map,List.mem_filter,List.mem_range,Bool.and_eq_true,decide_eq_true_eq]
 constructor
 ·rintro ⟨i,⟨h1,h2⟩,rfl⟩
  exact ⟨by omega,h2⟩
 ·rintro ⟨⟨h1,h2⟩,h3⟩
  exact ⟨k.toNat,⟨by omega,by rw [Int.toNat_of_nonneg h1];exact h3⟩,Int.toNat_of_nonneg h1⟩
theorem bk8 (s : Int → Bool) (n : Nat) : (idsF s n).Nodup := by
 unfold idsF List.Nodup
 rw [List.pairwise_map]
 refine List.Pairwise.imp (fun {a b} h e=>h (by omega)) ((List.nodup_range (n:=n)).filter _)
theorem join_all {a b : AtT} (h : ajj b) : (idsF (hasA b) 64).foldl (akz b) a = bzh a b := by
 have key : ∀ i,¬ i∈idsF (hasA b) 64→b.1 i=none∧b.2 i=none:=by
  intro i hi
  rw [idsF_mem] at hi
  constructor
  ·cases hb : b.1 i with
   | none=>rfl
   | some s=>exact (hi ⟨((h i).1 s hb).2,by unfold hasA;rw [hb];rfl⟩).elim
  ·cases hb : b.2 i with
   | none=>rfl
   | some s=>exact (hi ⟨((h i).2 s hb).2,by unfold hasA;rw [hb];simp⟩).elim
 refine Prod.ext (funext fun i=>?_) (funext fun i=>?_)
 ·rw [(bzi b i _ a (bk8 _ _)).1]
  split
  ·rfl
  ·rename_i hi
   show a.1 i=akp keyS (a.1 i) (b.1 i)
   rw [(key i hi).1]
   rfl
 ·rw [(bzi b i _ a (bk8 _ _)).2]
  split
  ·rfl
  ·rename_i hi
   show a.2 i=akp keyP (a.2 i) (b.2 i)
   rw [(key i hi).2]
   rfl
theorem ArgN.sc {C : Ctx} {ob : List OB} {b : Nat} {m : List (Int × SlT)} (j : Nat) (k : Int) (h : nth ob j = some (scO b m)) {n : Nat} {r : List Nat} (hr : ∀ i, i < n → r.getD i 0 < ob.length ∧ r.getD i 0 ≠ j) :
 ∀ σ fp w,Mem C σ fp ob w→ArgN w (MOf n fun i=>fp (r.getD i 0)) (slOf m k).1 (slOf m k).2.2.length 2 ((slOf m k).2.2.map encBm):=by
 intro σ fp w hm
 refine ⟨ArgSl.sc j k h σ fp w hm,?_⟩
 rintro hn c o hA ⟨i,hi,hb⟩
 obtain ⟨_,hs,hjl⟩:=cqx hm h
 obtain ⟨h6,h7⟩:=hr i hi
 unfold slOf at hn hA
 cases hl : lkI m k with
 | none=>rw [hl] at hn;exact hn rfl
 | some v =>
   rw [hl] at hn hA
   exact hm.disj _ j h6 hjl h7 c hb ((hs _ (cjt hl)).2 hn c o none hA)
set_option maxHeartbeats 4000000 in
theorem Join_m (a1 a2 b1 b2 : Nat) (m1 m2 : List (Int × SlT)) (q1 q2 : List (Int × PlT)) (h1 : okS m1) (h2 : okS m2) (hg : ajj (absM (m2, q2))) :
 CallM Tryz.prog 77 [.p 0 0,.p 3 0] (fun _ _=>True) [atB a1 a2,scO a1 m1,plO a2 q1,atB b1 b2,scO b1 m2,plO b2 q2]
  (fun _ : StI (bzh (absM (m1,q1)) (absM (m2,q2)))=>I 0) (fun r=>[atB a1 a2,scO a1 r.1.1,plO a2 r.1.2,atB b1 b2,scO b1 m2,plO b2 q2]):=by
 refine CallM.of (m:=6) Tryz.func77 rfl aza rfl rfl rfl rfl (by simp [SV.wfs,SV.wf]) fun w M π _=>?_
 have k2:=Ids_m b1 b2 m2 q2
 have hids : idsF (hasM m2 q2) 64=idsF (hasA (absM (m2,q2))) 64:=by rw [cj0];rfl
 have hall:=join_all (a:=absM (m1,q1)) hg
 rw [← hids] at hall
 have hlen:=bzf (hasM m2 q2) 64
 generalize idsF (hasM m2 q2) 64=L at *
 rw [← hall]
 clear hall hids
 (conv=>whnf);repeat' (first|((with_reducible refine isC ?_);first|(((with_reducible refine isF 45 ?_);((refine azl k2 [3,4,5] rfl ⟨⟨rfl,rfl,by simp [SV.wf,SV.wfs]⟩,fun _ _ h=>h,fun _ _ h=>h,trivial⟩ (by decide) (fun _ _ _ _=>trivial) ?_;intro r2;obtain ⟨A2,c2⟩:=r2)));conv=>whnf))|((with_reducible refine isW ?_;first|refine azg (by omega) (by omega) ?_|refine azc ?_);conv=>whnf)|with_reducible exact rfl|((with_reducible refine aze (by assumption) ?_);conv=>whnf)|((with_reducible refine azd ?_ ?_)<;>(intro hb;(try simp (disch:=omega) only [hbS] at hb)<;>conv=>whnf)))
 clear k2
 refine azr aza (α:=(t : Nat) × StI ((L.take t).foldl (akz (absM (m2,q2))) (absM (m1,q1)))) (fun s=>s.1≤L.length) (fun s=>[(0,.p 0 0),(1,.p 3 0),(18,.v (.slice A2 L.length c2)),(19,I L.length),(20,I s.1)])
  (fun s=>[atB a1 a2,scO a1 s.2.1.1,plO a2 s.2.1.2,atB b1 b2,scO b1 m2,plO b2 q2,.row 3 1 A2 L.length c2 (L.map fun x=>[encI x])]) (fun s=>L.length - s.1) ⟨0,⟨(m1,q1),h1,rfl⟩⟩ [0,1,2,3,4,5,6] (Nat.zero_le _) ?_ ?_
 ·(refine ⟨?_,?_,?_,?_⟩<;>(repeat' ((conv=>whnf);apply And.intro))<;>try (first|exact trivial|decide))
  all_goals first|rfl|exact fun _ _ h=>h|(simp [SV.wf,SV.wfs];done)|trace_state
 ·rintro ⟨t,⟨m,q⟩,hok,hab⟩ ht
  dsimp only at ht hok ⊢
  by_cases hlt : t < L.length
  ·have hst : (L.take (t + 1)).foldl (akz (absM (m2,q2))) (absM (m1,q1))=akz (absM (m2,q2)) (absM (m,q)) (L.getD t 0):=by
    rw [axj (akz (absM (m2,q2))) (absM (m1,q1)) (d:=0) hlt,hab]
   have ho:=h2.of (L.getD t 0)
   have hgk:=hg (L.getD t 0)
   generalize hid : L.getD t 0=id at *
   have hl0 : lkI m2 id=none∧semS m2 id=none∨∃ v,lkI m2 id=some v∧semS m2 id=some v.2.2∧slOf m2 id=v:=by
    rcases ax3 (lkI m2 id) with h|⟨v,h⟩
    ·exact .inl ⟨h,by unfold semS;rw [h];rfl⟩
    ·exact .inr ⟨v,h,by unfold semS;rw [h];rfl,by unfold slOf;rw [h];rfl⟩
   rcases hl0 with ⟨hl,hsm⟩|⟨v,hl,hsm,hso⟩
   ·rcases ax3 (lkI q2 id) with hp|⟨p,hp⟩
    ·have hfin : absM (m,q)=(L.take (t + 1)).foldl (akz (absM (m2,q2))) (absM (m1,q1)):=by
      rw [hst]
      show absM (m,q)=((match semS m2 id with
       | some s=>updF (semS m) id (mxO keyS (semS m id) s)
       | none=>semS m),match lkI q2 id with
       | some p=>updF (lkI q) id (mxO keyP (lkI q id) p)
       | none=>lkI q)
      rw [hsm,hp]
      rfl
     (conv=>whnf);repeat' (first|((with_reducible refine isV ?_);first|((first|refine azf aza rfl (ArgSl.row 6 rfl) rfl ?_ ?_ ?_|(with_reducible refine azq ?_);refine azn _ _ (0) aza rfl rfl rfl (ArgSl.row 6 rfl) ?_ ?_ ?_|refine azp _ _ (0) aza rfl rfl rfl (ArgSl.row 6 rfl) ?_ ?_ ?_)<;>first|rfl|omega|with_reducible refine isP ?_|conv=>whnf)|(rw [hid];refine axa 4 (slOf m2 id) false rfl rfl rfl rfl (by rw [hl];rfl) ?_;conv=>whnf)|(refine aqw 5 (plOf q2 id) false rfl rfl rfl rfl (by rw [hp];rfl) ?_;conv=>whnf))|((with_reducible refine isW ?_;first|refine azg (by omega) (by omega) ?_|refine azc ?_);conv=>whnf)|with_reducible exact rfl|((with_reducible refine aze (by assumption) ?_);conv=>whnf)|((with_reducible refine azd ?_ ?_)<;>(intro hb;(try simp (disch:=omega) only [hbS] at hb)<;>conv=>whnf)))
     all_goals try (exfalso;omega)
     refine ⟨⟨t + 1,(m,q),hok,hfin⟩,[0,1,2,3,4,5,6],by (try dsimp only);omega,?_,by (try dsimp only);omega⟩
     (refine ⟨?_,?_,?_,?_⟩<;>(repeat' ((conv=>whnf);apply And.intro))<;>try (first|exact trivial|decide))
     all_goals first|rfl|exact fun _ _ h=>h|(simp [SV.wf,SV.wfs];done)|trace_state
    ·have hpo : plOf q2 id=p:=by unfold plOf;rw [hp];rfl
     have hv:=hgk.2 p hp
     have hfin : ∀ r3 : PlcI q id p,absM (m,r3.1)=(L.take (t + 1)).foldl (akz (absM (m2,q2))) (absM (m1,q1)):=by
      intro r3
      rw [hst]
      show (semS m,lkI r3.1)=((match semS m2 id with
       | some s=>updF (semS m) id (mxO keyS (semS m id) s)
       | none=>semS m),match lkI q2 id with
       | some p=>updF (lkI q) id (mxO keyP (lkI q id) p)
       | none=>lkI q)
      rw [hsm,hp]
      rw [r3.2,hv.1,hv.2]
      rfl
     (conv=>whnf);repeat' (first|((with_reducible refine isC ?_);first|(((with_reducible refine isF 84 ?_);(refine azl (bjj a1 a2 m q id p) [0,1,2] rfl ⟨⟨rfl,rfl,by simp [SV.wf,SV.wfs]⟩,fun _ _ h=>h,fun _ _ h=>h,trivial⟩ (by decide) (fun _ _ _ _=>trivial) ?_;intro r3));conv=>whnf))|((with_reducible refine isV ?_);first|((first|refine azf aza rfl (ArgSl.row 6 rfl) rfl ?_ ?_ ?_|(with_reducible refine azq ?_);refine azn _ _ (0) aza rfl rfl rfl (ArgSl.row 6 rfl) ?_ ?_ ?_|refine azp _ _ (0) aza rfl rfl rfl (ArgSl.row 6 rfl) ?_ ?_ ?_)<;>first|rfl|omega|with_reducible refine isP ?_|conv=>whnf)|(rw [hid];refine axa 4 (slOf m2 id) false rfl rfl rfl rfl (by rw [hl];rfl) ?_;conv=>whnf)|(refine aqw 5 p true rfl rfl rfl hpo (by rw [hp];rfl) ?_;conv=>whnf))|((with_reducible refine isW ?_;first|refine azg (by omega) (by omega) ?_|refine azc ?_);conv=>whnf)|with_reducible exact rfl|((with_reducible refine aze (by assumption) ?_);conv=>whnf)|((with_reducible refine azd ?_ ?_)<;>(intro hb;(try simp (disch:=omega) only [hbS] at hb)<;>conv=>whnf)))
     all_goals try (exfalso;omega)
     refine ⟨⟨t + 1,(m,r3.1),hok,hfin r3⟩,[0,1,2,3,4,5,6],by (try dsimp only);omega,?_,by (try dsimp only);omega⟩
     (refine ⟨?_,?_,?_,?_⟩<;>(repeat' ((conv=>whnf);apply And.intro))<;>try (first|exact trivial|decide))
     all_goals first|rfl|exact fun _ _ h=>h|(simp [SV.wf,SV.wfs];done)|trace_state
   ·subst hso
    have hs:=hgk.1 _ hsm
    rcases ax3 (lkI q2 id) with hp|⟨p,hp⟩
    ·have hfin : ∀ r1 : PutI m id (slOf m2 id).2.2,absM (r1.1,q)=(L.take (t + 1)).foldl (akz (absM (m2,q2))) (absM (m1,q1)):=by
      intro r1
      rw [hst]
      show (semS r1.1,lkI q)=((match semS m2 id with
       | some s=>updF (semS m) id (mxO keyS (semS m id) s)
       | none=>semS m),match lkI q2 id with
       | some p=>updF (lkI q) id (mxO keyP (lkI q id) p)
       | none=>lkI q)
      rw [hsm,hp]
      rw [r1.2.2,hs.1,hs.2]
      rfl
     (conv=>whnf);repeat' (first|((with_reducible refine isC ?_);first|(((with_reducible refine isF 38 ?_);(refine azl (Put_m a1 a2 m q id (slOf m2 id).1 (slOf m2 id).2.1 (slOf m2 id).2.2 rfl (by unfold maxLen;omega) hok) [0,1,2] rfl ⟨⟨rfl,rfl,by simp [SV.wf,SV.wfs]⟩,fun _ _ h=>h,fun _ _ h=>h,trivial⟩ (by decide) (ArgN.sc 4 id rfl (n:=3) (r:=[0,1,2]) (fun j hj=>by rcases (by omega : j=0∨j=1∨j=2) with rfl|rfl|rfl<;>simp)) ?_;intro r1));conv=>whnf))|((with_reducible refine isV ?_);first|((first|refine azf aza rfl (ArgSl.row 6 rfl) rfl ?_ ?_ ?_|(with_reducible refine azq ?_);refine azn _ _ (0) aza rfl rfl rfl (ArgSl.row 6 rfl) ?_ ?_ ?_|refine azp _ _ (0) aza rfl rfl rfl (ArgSl.row 6 rfl) ?_ ?_ ?_)<;>first|rfl|omega|with_reducible refine isP ?_|conv=>whnf)|(rw [hid];refine axa 4 (slOf m2 id) true rfl rfl rfl rfl (by rw [hl];rfl) ?_;conv=>whnf)|(refine aqw 5 (plOf q2 id) false rfl rfl rfl rfl (by rw [hp];rfl) ?_;conv=>whnf))|((with_reducible refine isW ?_;first|refine azg (by omega) (by omega) ?_|refine azc ?_);conv=>whnf)|with_reducible exact rfl|((with_reducible refine aze (by assumption) ?_);conv=>whnf)|((with_reducible refine azd ?_ ?_)<;>(intro hb;(try simp (disch:=omega) only [hbS] at hb)<;>conv=>whnf)))
     all_goals try (exfalso;omega)
     refine ⟨⟨t + 1,(r1.1,q),r1.2.1,hfin r1⟩,[0,1,2,3,4,5,6],by (try dsimp only);omega,?_,by (try dsimp only);omega⟩
     (refine ⟨?_,?_,?_,?_⟩<;>(repeat' ((conv=>whnf);apply And.intro))<;>try (first|exact trivial|decide))
     all_goals first|rfl|exact fun _ _ h=>h|(simp [SV.wf,SV.wfs];done)|trace_state
    ·have hpo : plOf q2 id=p:=by unfold plOf;rw [hp];rfl
     have hv:=hgk.2 p hp
     have hfin : ∀ (r1 : PutI m id (slOf m2 id).2.2) (r3 : PlcI q id p),absM (r1.1,r3.1)=(L.take (t + 1)).foldl (akz (absM (m2,q2))) (absM (m1,q1)):=by
      intro r1 r3
      rw [hst]
      show (semS r1.1,lkI r3.1)=((match semS m2 id with
       | some s=>updF (semS m) id (mxO keyS (semS m id) s)
       | none=>semS m),match lkI q2 id with
       | some p=>updF (lkI q) id (mxO keyP (lkI q id) p)
       | none=>lkI q)
      rw [hsm,hp]
      rw [r1.2.2,r3.2,hs.1,hs.2,hv.1]
      rfl
     (conv=>whnf);repeat' (first|((with_reducible refine isC ?_);first|((first|(with_reducible refine isF 38 ?_);(refine azl (Put_m a1 a2 m q id (slOf m2 id).1 (slOf m2 id).2.1 (slOf m2 id).2.2 rfl (by unfold maxLen;omega) hok) [0,1,2] rfl ⟨⟨rfl,rfl,by simp [SV.wf,SV.wfs]⟩,fun _ _ h=>h,fun _ _ h=>h,trivial⟩ (by decide) (ArgN.sc 4 id rfl (n:=3) (r:=[0,1,2]) (fun j hj=>by rcases (by omega : j=0∨j=1∨j=2) with rfl|rfl|rfl<;>simp)) ?_;intro r1)|(with_reducible refine isF 84 ?_);(refine azl (bjj a1 a2 r1.1 q id p) [0,1,2] rfl ⟨⟨rfl,rfl,by simp [SV.wf,SV.wfs]⟩,fun _ _ h=>h,fun _ _ h=>h,trivial⟩ (by decide) (fun _ _ _ _=>trivial) ?_;intro r3));conv=>whnf))|((with_reducible refine isV ?_);first|((first|refine azf aza rfl (ArgSl.row 6 rfl) rfl ?_ ?_ ?_|(with_reducible refine azq ?_);refine azn _ _ (0) aza rfl rfl rfl (ArgSl.row 6 rfl) ?_ ?_ ?_|refine azp _ _ (0) aza rfl rfl rfl (ArgSl.row 6 rfl) ?_ ?_ ?_)<;>first|rfl|omega|with_reducible refine isP ?_|conv=>whnf)|(rw [hid];refine axa 4 (slOf m2 id) true rfl rfl rfl rfl (by rw [hl];rfl) ?_;conv=>whnf)|(refine aqw 5 p true rfl rfl rfl hpo (by rw [hp];rfl) ?_;conv=>whnf))|((with_reducible refine isW ?_;first|refine azg (by omega) (by omega) ?_|refine azc ?_);conv=>whnf)|with_reducible exact rfl|((with_reducible refine aze (by assumption) ?_);conv=>whnf)|((with_reducible refine azd ?_ ?_)<;>(intro hb;(try simp (disch:=omega) only [hbS] at hb)<;>conv=>whnf)))
     all_goals try (exfalso;omega)
     refine ⟨⟨t + 1,(r1.1,r3.1),r1.2.1,hfin r1 r3⟩,[0,1,2,3,4,5,6],by (try dsimp only);omega,?_,by (try dsimp only);omega⟩
     (refine ⟨?_,?_,?_,?_⟩<;>(repeat' ((conv=>whnf);apply And.intro))<;>try (first|exact trivial|decide))
     all_goals first|rfl|exact fun _ _ h=>h|(simp [SV.wf,SV.wfs];done)|trace_state
  ·obtain rfl : t=L.length:=by omega
   (conv=>whnf);repeat' (first|((with_reducible refine isW ?_;first|refine azg (by omega) (by omega) ?_|refine azc ?_);conv=>whnf)|with_reducible exact rfl|((with_reducible refine aze (by assumption) ?_);conv=>whnf)|((with_reducible refine azd ?_ ?_)<;>(intro hb;(try simp (disch:=omega) only [hbS] at hb)<;>conv=>whnf)))
   all_goals try (exfalso;omega)
   exact azv ⟨(m,q),hok,by rw [hab,List.take_length]⟩ [0,1,2,3,4,5] ⟨rfl,by simp [SV.wf,SV.wfs]⟩ ⟨⟨rfl,rfl,by simp [SV.wf,SV.wfs]⟩,fun _ _ h=>h,fun _ _ h=>h,⟨rfl,rfl,by simp [SV.wf,SV.wfs]⟩,fun _ _ h=>h,fun _ _ h=>h,trivial⟩ (by decide) rfl
def mapF (a : AtT) (ids : List Int) : List EntT := ids.foldl (fun o k => (aqi 1 o (ajy a k)).1) []
theorem cvo (a : AtT) (k : Int) : (ajy a k).length ≤ 1048576 := by
 unfold ajy
 split
 ·split
  ·simp
  ·exact cj4 _ _
 ·simp
theorem bw1 (a : AtT) (ids : List Int) : (mapF a ids).length ≤ 1048576 := by
 unfold mapF
 have : ∀ (ids : List Int) (o : List EntT),o.length≤1048576→(ids.foldl (fun o k=>(aqi 1 o (ajy a k)).1) o).length≤1048576:=by
  intro ids
  induction ids with
  | nil=>exact fun o h=>h
  | cons k ids ih=>exact fun o _=>ih _ (comb_len 1 _ _)
 exact this ids [] (by simp)
set_option maxHeartbeats 2000000 in
theorem Map_m (b1 b2 : Nat) (m : List (Int × SlT)) (q : List (Int × PlT)) (hok : okS m) (L : List Int) (hL : idsF (hasM m q) 64 = L) :
 CallM Tryz.prog 53 [.p 0 0] (fun _ _=>True) [atB b1 b2,scO b1 m,plO b2 q]
  (fun r : Option Addr × Nat=>.v (.slice r.1 (mapF (absM (m,q)) L).length r.2)) (fun r=>[atB b1 b2,scO b1 m,plO b2 q,.row 89 4 r.1 (mapF (absM (m,q)) L).length r.2 ((mapF (absM (m,q)) L).map encE)]):=by
 have ki:=Ids_m b1 b2 m q
 have hlen:=bzf (hasM m q) 64
 rw [hL] at ki hlen
 have kp:=fun k=>Part_m b1 b2 m q k hok
 have hpl:=fun k=>cvo (absM (m,q)) k
 have hml : ∀ t,(mapF (absM (m,q)) (L.take t)).length≤1048576:=fun t=>bw1 _ _
 have hnx : ∀ t,t < L.length→mapF (absM (m,q)) (L.take (t + 1))=(aqi 1 (mapF (absM (m,q)) (L.take t)) (ajy (absM (m,q)) (L.getD t 0))).1:=fun t ht=>axj (fun o k=>(aqi 1 o (ajy (absM (m,q)) k)).1) [] (d:=0) ht
 have hend : mapF (absM (m,q)) (L.take L.length)=mapF (absM (m,q)) L:=by rw [List.take_length]
 have h0 : mapF (absM (m,q)) (L.take 0)=[]:=rfl
 rw [← hend]
 generalize ajy (absM (m,q))=pt at *
 generalize mapF (absM (m,q))=mp at *
 refine CallM.of (m:=3) Tryz.func53 rfl aza rfl rfl rfl rfl (by simp [SV.wfs,SV.wf]) fun w M π _=>?_
 (conv=>whnf);repeat' (first|((with_reducible refine isC ?_);first|(((with_reducible refine isF 45 ?_);((refine azl ki [0,1,2] rfl ⟨⟨rfl,rfl,by simp [SV.wf,SV.wfs]⟩,fun _ _ h=>h,fun _ _ h=>h,trivial⟩ (by decide) (fun _ _ _ _=>trivial) ?_;intro r2;obtain ⟨A2,c2⟩:=r2)));conv=>whnf))|((with_reducible refine isW ?_;first|refine azg (by omega) (by omega) ?_|refine azc ?_);conv=>whnf)|with_reducible exact rfl|((with_reducible refine aze (by assumption) ?_);conv=>whnf)|((with_reducible refine azd ?_ ?_)<;>(intro hb;(try simp (disch:=omega) only [hbS] at hb)<;>conv=>whnf)))
 refine aql 89 4 ?_
 conv=>whnf
 refine azr aza (α:=Nat × Option Addr × Nat) (fun s=>s.1≤L.length) (fun s=>[(0,.p 0 0),(3,.v (.slice s.2.1 (mp (L.take s.1)).length s.2.2)),(7,.v (.slice A2 L.length c2)),(8,I L.length),(9,I s.1)])
  (fun s=>[atB b1 b2,scO b1 m,plO b2 q,.row 3 1 A2 L.length c2 (L.map fun x=>[encI x]),.row 89 4 s.2.1 (mp (L.take s.1)).length s.2.2 ((mp (L.take s.1)).map encE)]) (fun s=>L.length - s.1) (0,none,0) [0,1,2,3,4] (Nat.zero_le _) ?_ ?_
 ·dsimp only
  rw [h0]
  (refine ⟨?_,?_,?_,?_⟩<;>(repeat' ((conv=>whnf);apply And.intro))<;>try (first|exact trivial|decide))
  all_goals first|rfl|exact fun _ _ h=>h|(simp [SV.wf,SV.wfs];done)|trace_state
 ·rintro ⟨t,A,c⟩ ht
  dsimp only at ht ⊢
  by_cases hlt : t < L.length
  ·have kpt:=kp (L.getD t 0)
   have hpt:=hpl (L.getD t 0)
   have hnt:=hnx t hlt
   have hmt:=hml t
   clear kp hpl hnx hml hend h0 ki
   generalize hq : pt (L.getD t 0)=p at *
   generalize mp (L.take t)=o at *
   (conv=>whnf);repeat' (first|((with_reducible refine isC ?_);first|((first|(with_reducible refine isF 98 ?_);((refine azl kpt [0,1,2] rfl ⟨⟨rfl,rfl,by simp [SV.wf,SV.wfs]⟩,fun _ _ h=>h,fun _ _ h=>h,trivial⟩ (by decide) (fun _ _ _ _=>trivial) ?_;intro r3;obtain ⟨A3,c3⟩:=r3))|(with_reducible refine isF 54 ?_);((refine azl (Add_m A A3 c c3 o p rfl rfl (by unfold maxLen;omega) (by unfold maxLen;omega)) [] rfl trivial (by decide) (fun σ fp w hm=>⟨ArgN.row 4 rfl (m:=0) (fun j hj=>by omega) σ fp w hm,ArgN.row 5 rfl (m:=0) (fun j hj=>by omega) σ fp w hm⟩) ?_;intro r4;obtain ⟨A4,c4⟩:=r4)));conv=>whnf))|((with_reducible refine isV ?_);first|((first|refine azf aza rfl (ArgSl.row 3 rfl) rfl ?_ ?_ ?_|(with_reducible refine azq ?_);refine azn _ _ (0) aza rfl rfl rfl (ArgSl.row 3 rfl) ?_ ?_ ?_|refine azp _ _ (0) aza rfl rfl rfl (ArgSl.row 3 rfl) ?_ ?_ ?_)<;>first|rfl|omega|with_reducible refine isP ?_|conv=>whnf))|((with_reducible refine isW ?_;first|refine azg (by omega) (by omega) ?_|refine azc ?_);conv=>whnf)|with_reducible exact rfl|((with_reducible refine aze (by assumption) ?_);conv=>whnf)|((with_reducible refine azd ?_ ?_)<;>(intro hb;(try simp (disch:=omega) only [hbS] at hb)<;>conv=>whnf)))
   all_goals try (exfalso;omega)
   refine ⟨(t + 1,A4,c4),[0,1,2,3,6],by (try dsimp only);omega,?_,by (try dsimp only);omega⟩
   dsimp only
   rw [hnt]
   (refine ⟨?_,?_,?_,?_⟩<;>(repeat' ((conv=>whnf);apply And.intro))<;>try (first|exact trivial|decide))
   all_goals first|rfl|exact fun _ _ h=>h|(simp [SV.wf,SV.wfs];done)|trace_state
  ·obtain rfl : t=L.length:=by omega
   (conv=>whnf);repeat' (first|((with_reducible refine isW ?_;first|refine azg (by omega) (by omega) ?_|refine azc ?_);conv=>whnf)|with_reducible exact rfl|((with_reducible refine aze (by assumption) ?_);conv=>whnf)|((with_reducible refine azd ?_ ?_)<;>(intro hb;(try simp (disch:=omega) only [hbS] at hb)<;>conv=>whnf)))
   all_goals try (exfalso;omega)
   exact azv (A,c) [0,1,2,4] ⟨rfl,by simp [SV.wf,SV.wfs]⟩ ⟨⟨rfl,rfl,by simp [SV.wf,SV.wfs]⟩,fun _ _ h=>h,fun _ _ h=>h,⟨rfl,rfl,rfl,rfl,rfl,rfl⟩,trivial⟩ (by decide) rfl
theorem clip_cmp (a b : Int) : clipI (a - b) (-1) 1 = cmpI a b := by
 unfold clipI cmpI
 repeat' split
 all_goals omega
theorem avq (a b : Int) (ha : -4611686018427387904 ≤ a ∧ a ≤ 4611686018427387904) (hb0 : -4611686018427387904 < b ∧ b ≤ 4611686018427387904) : PureD Tryz.prog 142 [I a, I b] (I (cmpI a b)) := by
 have hc : PureD Tryz.prog 171 [I (a - b),I (-1),I 1] (I (cmpI a b)):=by
  rw [← clip_cmp]
  refine PureD.of Tryz.func171 rfl aza rfl rfl rfl (by simp [SV.wfs,SV.wf]) (by simp [SV.wfs,SV.wf]) fun w=>?_
  (conv=>whnf);repeat' (first|with_reducible exact rfl|((with_reducible refine aze (by assumption) ?_);conv=>whnf)|((with_reducible refine azd ?_ ?_)<;>(intro hb;(try simp (disch:=omega) only [hbS] at hb)<;>conv=>whnf)))
  exact ajx rfl rfl rfl trivial
 refine PureD.of Tryz.func142 rfl aza rfl rfl rfl (by simp [SV.wfs,SV.wf]) (by simp [SV.wfs,SV.wf]) fun w=>?_
 (conv=>whnf);repeat' (first|((with_reducible refine isC ?_);first|((with_reducible refine aq3 (hc) ?_)<;>first|omega|with_reducible refine isP ?_|conv=>whnf))|((with_reducible refine isW ?_;first|refine azg (by omega) (by omega) ?_|refine azc ?_);conv=>whnf)|with_reducible exact rfl|((with_reducible refine aze (by assumption) ?_);conv=>whnf)|((with_reducible refine azd ?_ ?_)<;>(intro hb;(try simp (disch:=omega) only [hbS] at hb)<;>conv=>whnf)))
 exact ajx rfl rfl rfl trivial
theorem gone_d (p : PlT) : PureD Tryz.prog 145 [plX p] (I (if p.2.1 then 1 else 0)) := by
 obtain ⟨v,g,x,y,h⟩:=p
 cases g with
 | true =>
   refine PureD.of Tryz.func145 rfl aza rfl rfl rfl (by simp [SV.wfs,SV.wf]) (by simp [SV.wfs,SV.wf]) fun w=>?_
   (conv=>whnf);repeat' (first|with_reducible exact rfl|((with_reducible refine aze (by assumption) ?_);conv=>whnf)|((with_reducible refine azd ?_ ?_)<;>(intro hb;(try simp (disch:=omega) only [hbS] at hb)<;>conv=>whnf)))
   exact ajx rfl rfl rfl trivial
 | false =>
   refine PureD.of Tryz.func145 rfl aza rfl rfl rfl (by simp [SV.wfs,SV.wf]) (by simp [SV.wfs,SV.wf]) fun w=>?_
   (conv=>whnf);repeat' (first|with_reducible exact rfl|((with_reducible refine aze (by assumption) ?_);conv=>whnf)|((with_reducible refine azd ?_ ?_)<;>(intro hb;(try simp (disch:=omega) only [hbS] at hb)<;>conv=>whnf)))
   exact ajx rfl rfl rfl trivial
theorem first_v (A : Option Addr) (c : Nat) (xs : List Int) {n : Nat} (hx : xs.length = n) (hn : n ≤ 1000000) :
 CallV Tryz.prog 143 [.v (.slice A n c)] (fun w=>ArgSl w A n 1 (xs.map fun x=>[encI x])) (I (orI xs)):=by
 refine CallV.of Tryz.func143 rfl aza rfl rfl rfl (by simp [SV.wfs,SV.wf]) (by simp [SV.wfs,SV.wf]) fun w hpre=>?_
 (conv=>whnf);repeat' (first|((with_reducible refine isW ?_;first|refine azg (by omega) (by omega) ?_|refine azc ?_);conv=>whnf)|with_reducible exact rfl|((with_reducible refine aze (by assumption) ?_);conv=>whnf)|((with_reducible refine azd ?_ ?_)<;>(intro hb;(try simp (disch:=omega) only [hbS] at hb)<;>conv=>whnf)))
 refine azr aza (α:=Nat) (fun k=>k≤n∧∀ i,i < k→xs.getD i 0=0) (fun k=>[(0,.v (.slice A n c)),(3,I k)]) (fun _=>[]) (fun k=>n - k) 0 [] ⟨Nat.zero_le _,fun i hi=>by omega⟩ ?_ ?_
 ·(refine ⟨?_,?_,?_,?_⟩<;>(repeat' ((conv=>whnf);apply And.intro))<;>try (first|exact trivial|decide))
  all_goals first|rfl|exact fun _ _ h=>h|simp [SV.wf,SV.wfs]
 ·rintro k ⟨hk,hz⟩
  (conv=>whnf);repeat' (first|((with_reducible refine isV ?_);first|((first|refine azf aza rfl (hpre.mem (by decide) rfl) rfl ?_ ?_ ?_|(with_reducible refine azq ?_);refine azn _ _ (0) aza rfl rfl rfl (hpre.mem (by decide) rfl) ?_ ?_ ?_|refine azp _ _ (0) aza rfl rfl rfl (hpre.mem (by decide) rfl) ?_ ?_ ?_)<;>first|rfl|omega|with_reducible refine isP ?_|conv=>whnf))|((with_reducible refine isW ?_;first|refine azg (by omega) (by omega) ?_|refine azc ?_);conv=>whnf)|with_reducible exact rfl|((with_reducible refine aze (by assumption) ?_);conv=>whnf)|((with_reducible refine azd ?_ ?_)<;>(intro hb;(try simp (disch:=omega) only [hbS] at hb)<;>conv=>whnf)))
  ·refine ajx rfl rfl ?_ trivial
   exact I_eq (ck6 (by omega) hz hb).symm
  ·refine ⟨k + 1,[],⟨by omega,fun i hi=>?_⟩,?_,by (try dsimp only);omega⟩
   ·by_cases e : i=k
    ·rw [e];exact hb
    ·exact hz i (by omega)
   ·(refine ⟨?_,?_,?_,?_⟩<;>(repeat' ((conv=>whnf);apply And.intro))<;>try (first|exact trivial|decide))
    all_goals first|rfl|exact fun _ _ h=>h|simp [SV.wf,SV.wfs]
  ·refine ajx rfl rfl ?_ trivial
   refine I_eq ?_
   rw [av1 (k:=k) (by omega) hz,List.drop_eq_nil_of_le (by omega)]
   rfl
def smP (p : PlT) : Prop := (-1099511627776 ≤ p.1 ∧ p.1 ≤ 1099511627776) ∧ (-1099511627776 ≤ p.2.2.1 ∧ p.2.2.1 ≤ 1099511627776) ∧ (-1099511627776 ≤ p.2.2.2.1 ∧ p.2.2.2.1 ≤ 1099511627776) ∧ (-1099511627776 ≤ p.2.2.2.2 ∧ p.2.2.2.2 ≤ 1099511627776)
theorem vPl_sm {p : PlT} (h : vPl p = true) : smP p := by
 unfold vPl at h
 unfold smP
 simp only [Bool.and_eq_true,decide_eq_true_eq] at h
 obtain ⟨⟨h1,h2⟩,h3⟩:=h
 cases hg : p.2.1 with
 | true =>
   rw [hg] at h3
   simp only [if_true,Bool.and_eq_true,decide_eq_true_eq] at h3
   omega
 | false =>
   rw [hg] at h3
   simp only [Bool.false_eq_true,if_false,szB,Bool.and_eq_true,decide_eq_true_eq] at h3
   omega
theorem smP0 : smP (0, false, 0, 0, 0) := by
 unfold smP
 decide
theorem rLater_d (p q : PlT) (hp : smP p) (hq : smP q) : PureD Tryz.prog 122 [plX p, plX q] (I (lexC (keyP p) (keyP q))) := by
 have e : lexC (keyP p) (keyP q)=orI [cmpI p.1 q.1,cmpI (if p.2.1 then 1 else 0) (if q.2.1 then 1 else 0),cmpI p.2.2.1 q.2.2.1,cmpI p.2.2.2.1 q.2.2.2.1,cmpI p.2.2.2.2 q.2.2.2.2]:=rfl
 rw [e]
 unfold smP at hp hq
 have o1:=avq p.1 q.1 (by omega) (by omega)
 have o2:=avq (if p.2.1 then 1 else 0) (if q.2.1 then 1 else 0) (by cases p.2.1<;>simp) (by cases q.2.1<;>simp)
 have o3:=avq p.2.2.1 q.2.2.1 (by omega) (by omega)
 have o4:=avq p.2.2.2.1 q.2.2.2.1 (by omega) (by omega)
 have o5:=avq p.2.2.2.2 q.2.2.2.2 (by omega) (by omega)
 refine PureD.of Tryz.func122 rfl aza rfl rfl rfl (by simp [SV.wfs,SV.wf]) (by simp [SV.wfs,SV.wf]) fun w=>?_
 (conv=>whnf);repeat' (first|((with_reducible refine isC ?_);first|((first|with_reducible refine aq3 (o1) ?_|with_reducible refine aq3 (o2) ?_|with_reducible refine aq3 (o3) ?_|with_reducible refine aq3 (o4) ?_|with_reducible refine aq3 (o5) ?_|with_reducible refine aq3 (gone_d _) ?_)<;>first|omega|with_reducible refine isP ?_|conv=>whnf)|(((with_reducible refine isF 143 ?_);(refine aje (first_v _ _ [cmpI p.1 q.1,cmpI (if p.2.1 then 1 else 0) (if q.2.1 then 1 else 0),cmpI p.2.2.1 q.2.2.1,cmpI p.2.2.2.1 q.2.2.2.1,cmpI p.2.2.2.2 q.2.2.2.2] rfl (by decide)) (ArgSl.row 2 rfl) ?_));conv=>whnf))|((with_reducible refine isO ?_);first|((first|(refine azh aza rfl rfl rfl ?_);intro bN|(refine azm aza rfl rfl rfl rfl rfl ?_);intro bN);conv=>whnf))|((first|refine azj aza azt ?_|refine azi (by kernel_rfl) ?_|with_reducible refine azo ?_ ?_)<;>conv=>whnf)|with_reducible exact rfl|((with_reducible refine aze (by assumption) ?_);conv=>whnf)|((with_reducible refine azd ?_ ?_)<;>(intro hb;(try simp (disch:=omega) only [hbS] at hb)<;>conv=>whnf)))
 exact ajx rfl rfl rfl trivial
theorem bPose17_x (p : Int × Int × Int) : PureX Tryz.prog 144 [.a [I p.1, I p.2.1, I p.2.2]] (B (szB p.1 1048576 && szB p.2.1 1048576 && decide (0 ≤ p.2.2) && decide (p.2.2 < 256))) := by
 refine PureX.of Tryz.func144 rfl aza rfl rfl rfl (by simp [SV.wfs,SV.wf]) (by simp [SV.wfs,SV.wf]) fun w=>?_
 (conv=>whnf);repeat' (first|((with_reducible refine isC ?_);first|((with_reducible refine azb (ajz _ _ ?_ ?_) ?_)<;>first|omega|with_reducible refine isP ?_|conv=>whnf))|with_reducible exact rfl|((with_reducible refine aze (by assumption) ?_);conv=>whnf)|((with_reducible refine azd ?_ ?_)<;>(intro hb;(try simp (disch:=omega) only [hbS] at hb)<;>conv=>whnf)))
 all_goals refine azk rfl (B_eq ?_) trivial
 all_goals first|(simp [*];done)|(simp [*];omega)
theorem cq7 (p : PlT) : PureX Tryz.prog 121 [plX p] (B (vPl p)) := by
 obtain ⟨v,g,x,y,h⟩:=p
 cases g with
 | true =>
   refine PureX.of Tryz.func121 rfl aza rfl rfl rfl (by simp [SV.wfs,SV.wf]) (by simp [SV.wfs,SV.wf]) fun w=>?_
   (conv=>whnf);repeat' (first|with_reducible exact rfl|((with_reducible refine aze (by assumption) ?_);conv=>whnf)|((with_reducible refine azd ?_ ?_)<;>(intro hb;(try simp (disch:=omega) only [hbS] at hb)<;>conv=>whnf)))
   all_goals refine azk rfl (B_eq ?_) trivial
   all_goals first|(simp [vPl];done)|(simp [vPl];omega)|(unfold vPl;rw [Bool.eq_iff_iff];simp;omega)
 | false =>
   have hx : (szB x 1048576 && szB y 1048576 && decide (0≤h) && decide (h < 256) && szB x 262144 && szB y 262144)=(szB x 262144 && szB y 262144 && decide (0≤h) && decide (h < 256)):=by
    rw [Bool.eq_iff_iff]
    simp only [szB,Bool.and_eq_true,decide_eq_true_eq]
    omega
   have kp:=bPose17_x (x,y,h)
   dsimp only at kp
   have hv : vPl (v,false,x,y,h)=(decide (1≤v) && decide (v≤1073741824) && (szB x 1048576 && szB y 1048576 && decide (0≤h) && decide (h < 256) && szB x 262144 && szB y 262144)):=by
    rw [hx]
    rfl
   rw [hv]
   clear hv hx
   generalize (szB x 1048576 && szB y 1048576 && decide (0≤h) && decide (h < 256))=b at *
   refine PureX.of Tryz.func121 rfl aza rfl rfl rfl (by simp [SV.wfs,SV.wf]) (by simp [SV.wfs,SV.wf]) fun w=>?_
   (conv=>whnf);repeat' (first|((with_reducible refine isC ?_);first|((first|with_reducible refine azb (ajz _ _ ?_ ?_) ?_|with_reducible refine azb (kp) ?_)<;>first|omega|with_reducible refine isP ?_|conv=>whnf))|with_reducible exact rfl|((with_reducible refine aze (by assumption) ?_);conv=>whnf)|((with_reducible refine azd ?_ ?_)<;>(intro hb;(try simp (disch:=omega) only [hbS] at hb)<;>conv=>whnf)))
   all_goals refine azk rfl (B_eq ?_) trivial
   all_goals first|(simp [*];done)|(simp [*];omega)|(simp;omega)|trace_state
end Go.Proofs.YtlnplelandimeaaGreat.En
end
