import Derived.Test.YtlnplelandimeaaGreatZFleetViews25
import Derived.Test.YtlnplelandimeaaGreatZFleetViews23
import Derived.Test.YtlnplelandimeaaGreatZFleetViews08
import Derived.Test.YtlnplelandimeaaGreatZFleetViews07
import Derived.Test.YtlnplelandimeaaGreatZFleetViews11
import Derived.Test.YtlnplelandimeaaGreatZFleetViews09
import Derived.Test.YtlnplelandimeaaGreatZFleetViews10
set_option linter.all false
section
namespace Go.Proofs.YtlnplelandimeaaGreat.En
open Go.RowKit
set_option maxRecDepth 100000
section
variable {C : Ctx} {ob : List OB} {A : Option Addr} {n c sz e : Nat} {els : List (List Value)}
end
theorem rs_read {r : RfT} (hr : okR r) {b : Nat} {C : Ctx} {ob : List OB} (j : Nat) (k : Int) (h3 : nth ob j = some (rfO b r)) : ∀ σ fp w, Mem C σ fp ob w → ArgSl w (rsOf r k).1 (rsOf r k).2.2.length 2 ((rsOf r k).2.2.map encBm) := by
 intro σ fp w hm
 unfold rsOf
 rcases Bool.eq_false_or_eq_true (r.h k) with hh|hh
 ·have hv : vId k=true:=by
   rcases Bool.eq_false_or_eq_true (vId k) with hv|hv
   ·exact hv
   ·rw [((hr k).2.2.2.2 hv).1] at hh
    cases hh
  simp only [vId,Bool.and_eq_true,decide_eq_true_eq] at hv
  obtain ⟨i,rfl⟩:=Int.eq_ofNat_of_zero_le hv.1
  rw [hh]
  exact ArgSl.rf j i (by omega) h3 σ fp w hm
 ·rw [hh]
  exact ⟨rfl,by simp,by simp,fun h=>(h rfl).elim⟩
theorem okR_32 {r : RfT} (h : okR r) (k : Int) : (rsOf r k).2.2.length ≤ 32 := by
 unfold rsOf
 split
 ·have:=(h k).1
  unfold aq9 at this
  simp only [Bool.and_eq_true,decide_eq_true_eq] at this
  exact this.1
 ·simp
theorem ArgN.rf {C : Ctx} {ob : List OB} {b : Nat} {r : RfT} (j i : Nat) (hi : i < 64) (h : nth ob j = some (rfO b r)) {n : Nat} {q : List Nat} (hq : ∀ i, i < n → q.getD i 0 < ob.length ∧ q.getD i 0 ≠ j) :
 ∀ σ fp w,Mem C σ fp ob w→ArgN w (MOf n fun i=>fp (q.getD i 0)) (r.s i).1 (r.s i).2.2.length 2 ((r.s i).2.2.map encBm):=by
 intro σ fp w hm
 refine ⟨ArgSl.rf j i hi h σ fp w hm,?_⟩
 rintro hn c o hA ⟨t,ht,hb⟩
 obtain ⟨_,hs,hjl⟩:=bjm hm h
 obtain ⟨h6,h7⟩:=hq t ht
 exact hm.disj _ j h6 hjl h7 c hb ((hs i hi).2 hn c o none hA).1
theorem jStep_def (b x : AtT) (k : Int) : akz b x k = ((match b.1 k with
 | some s=>updF x.1 k (mxO keyS (x.1 k) s)
 | none=>x.1),match b.2 k with
 | some p=>updF x.2 k (mxO keyP (x.2 k) p)
 | none=>x.2):=rfl
def awk (t : Nat) : List Int := (List.range t).map fun i : Nat => (i : Int)
theorem cj7 (t : Nat) : awk (t + 1) = awk t ++ [(t : Int)] := by
 unfold awk
 rw [List.range_succ,List.map_append]
 rfl
theorem bqp : (awk 64).Nodup := by decide +kernel
theorem dzb (k : Int) : k ∈ awk 64 ↔ vId k = true := by
 unfold awk vId
 simp only [List.mem_map,List.mem_range,Bool.and_eq_true,decide_eq_true_eq]
 constructor
 ·rintro ⟨i,h1,rfl⟩
  omega
 ·rintro ⟨h1,h2⟩
  exact ⟨k.toNat,by omega,Int.toNat_of_nonneg h1⟩
theorem dzc {a b : AtT} (h : ajj b) : (awk 64).foldl (akz b) a = bzh a b := by
 have key : ∀ i,¬ i∈awk 64→b.1 i=none∧b.2 i=none:=by
  intro i hi
  rw [dzb] at hi
  constructor
  ·cases hb : b.1 i with
   | none=>rfl
   | some s=>exact (hi ((h i).1 s hb).2).elim
  ·cases hb : b.2 i with
   | none=>rfl
   | some s=>exact (hi ((h i).2 s hb).2).elim
 refine Prod.ext (funext fun i=>?_) (funext fun i=>?_)
 ·rw [(bzi b i _ a bqp).1]
  split
  ·rfl
  ·rename_i hi
   show a.1 i=akp keyS (a.1 i) (b.1 i)
   rw [(key i hi).1]
   rfl
 ·rw [(bzi b i _ a bqp).2]
  split
  ·rfl
  ·rename_i hi
   show a.2 i=akp keyP (a.2 i) (b.2 i)
   rw [(key i hi).2]
   rfl
set_option maxHeartbeats 4000000 in
theorem rJoin_m (b1 b2 : Nat) (r1 r2 : RfT) (h1 : okR r1) (h2 : okR r2) (hg : ajj (absR r2)) :
 CallM Tryz.prog 90 [pR b1,pR b2] (fun _ _=>True) [rfO b1 r1,rfO b2 r2] (fun _ : RfI (bzh (absR r1) (absR r2))=>I 0) (fun r=>[rfO b1 r.1,rfO b2 r2]):=by
 have hall:=dzc (a:=absR r1) hg
 rw [← hall]
 clear hall
 refine CallM.of (m:=2) Tryz.func90 rfl aza rfl rfl rfl rfl (by simp [SV.wfs,SV.wf]) fun w M π _=>?_
 (conv=>whnf);repeat' (first|((with_reducible refine isW ?_;first|refine azg (by omega) (by omega) ?_|refine azc ?_);conv=>whnf)|with_reducible exact rfl|((with_reducible refine aze (by assumption) ?_);conv=>whnf)|((with_reducible refine azd ?_ ?_)<;>(intro hb;(try simp (disch:=omega) only [hbS] at hb)<;>conv=>whnf)))
 refine azr aza (α:=(t : Nat) × RfI ((awk t).foldl (akz (absR r2)) (absR r1))) (fun s=>s.1≤64) (fun s=>[(0,pR b1),(1,pR b2),(5,I s.1)]) (fun s=>[rfO b1 s.2.1,rfO b2 r2]) (fun s=>64 - s.1) ⟨0,⟨r1,h1,rfl⟩⟩ [0,1] (Nat.zero_le _) ?_ ?_
 ·(refine ⟨?_,?_,?_,?_⟩<;>(repeat' ((conv=>whnf);apply And.intro))<;>try (first|exact trivial|decide))
  all_goals first|rfl|exact fun _ _ h=>h|(simp [SV.wf,SV.wfs];done)|trace_state
 ·rintro ⟨t,⟨r,hok,hab⟩⟩ ht
  dsimp only at ht hok ⊢
  by_cases hlt : t < 64
  ·have hst : (awk (t + 1)).foldl (akz (absR r2)) (absR r1)=akz (absR r2) (absR r) t:=by
    rw [cj7,List.foldl_append,hab]
    rfl
   have hgk:=hg t
   have hv : vId (t : Int)=true:=by simp only [vId,Bool.and_eq_true,decide_eq_true_eq];omega
   have hl:=okR_32 h2 t
   have hz:=(h2 t).2.2.2.1
   have hnn:=(h2 t).2.2.1
   have es : (absR r2).1 (t : Int)=if r2.h t then some (r2.s t).2.2 else none:=rfl
   have ep : (absR r2).2 (t : Int)=if (r2.p t).1=0 then none else some (r2.p t):=rfl
   have hj:=jStep_def (absR r2) (absR r) t
   rcases Bool.eq_false_or_eq_true (r2.h t) with hh|hh
   ·rw [hh,if_pos rfl] at es
    have hsc:=(hgk.1 _ es).1
    have hl : (r2.s t).2.2.length≤32:=by unfold rsOf at hl;rw [hh] at hl;exact hl
    have kput:=rPut_m b1 r t (r2.s t).1 (r2.s t).2.1 (r2.s t).2.2 rfl (by unfold maxLen;omega) hok
    by_cases hp : (r2.p t).1=0
    ·rw [if_pos hp] at ep
     rw [es,ep] at hj
     dsimp only at hj
     (conv=>whnf);repeat' (first|((with_reducible refine isC ?_);first|(((with_reducible refine isF 87 ?_);(refine azl kput [0] rfl ⟨fun _ _ h=>h,trivial⟩ (by decide) (ArgN.rf 1 t hlt rfl (n:=1) (q:=[0]) (fun j hj=>by rcases (by omega : j=0) with rfl;simp)) ?_;intro q));conv=>whnf))|((with_reducible refine isV ?_);first|((refine azs (n:=64) (sz:=1) aza rfl Tryz.underlying152 rfl rfl ?_ ?_ ?_)<;>first|omega|conv=>whnf)|((refine azs (n:=64) (sz:=1) aza rfl Tryz.underlying151 rfl rfl ?_ ?_ ?_)<;>first|omega|conv=>whnf)|((refine azs (n:=64) (sz:=5) aza rfl Tryz.underlying153 rfl rfl ?_ ?_ ?_)<;>first|omega|conv=>whnf)|(refine axt 1 t true aza rfl rfl rfl rfl hlt hh ?_;conv=>whnf)|(refine ak8 1 t (r2.s t) aza rfl rfl rfl rfl hlt rfl ?_;conv=>whnf)|(refine aj1 1 t (r2.p t).1 aza rfl rfl rfl rfl hlt rfl ?_;conv=>whnf))|((with_reducible refine isW ?_;first|refine azg (by omega) (by omega) ?_|refine azc ?_);conv=>whnf)|with_reducible exact rfl|((with_reducible refine aze (by assumption) ?_);conv=>whnf)|((with_reducible refine azd ?_ ?_)<;>(intro hb;(try simp (disch:=omega) only [hbS] at hb)<;>conv=>whnf)))
     all_goals try (exfalso;omega)
     refine ⟨⟨t + 1,q.1,q.2.1,?_⟩,[0,1],by (try dsimp only);omega,?_,by (try dsimp only);omega⟩
     ·rw [hst,hj,q.2.2]
      unfold putA
      rw [hsc,hv]
      rfl
     ·(refine ⟨?_,?_,?_,?_⟩<;>(repeat' ((conv=>whnf);apply And.intro))<;>try (first|exact trivial|decide))
      all_goals first|rfl|exact fun _ _ h=>h|(simp [SV.wf,SV.wfs];done)|trace_state
    ·rw [if_neg hp] at ep
     rw [es,ep] at hj
     dsimp only at hj
     have hvp:=(hgk.2 _ ep).1
     (conv=>whnf);repeat' (first|((with_reducible refine isC ?_);first|((first|(with_reducible refine isF 87 ?_);(refine azl kput [0] rfl ⟨fun _ _ h=>h,trivial⟩ (by decide) (ArgN.rf 1 t hlt rfl (n:=1) (q:=[0]) (fun j hj=>by rcases (by omega : j=0) with rfl;simp)) ?_;intro q)|(with_reducible refine isF 88 ?_);(refine azl (bzj b1 q.1 t (r2.p t) q.2.1) [0] rfl ⟨fun _ _ h=>h,trivial⟩ (by decide) (fun _ _ _ _=>trivial) ?_;intro q2));conv=>whnf))|((with_reducible refine isV ?_);first|((refine azs (n:=64) (sz:=1) aza rfl Tryz.underlying152 rfl rfl ?_ ?_ ?_)<;>first|omega|conv=>whnf)|((refine azs (n:=64) (sz:=1) aza rfl Tryz.underlying151 rfl rfl ?_ ?_ ?_)<;>first|omega|conv=>whnf)|((refine azs (n:=64) (sz:=5) aza rfl Tryz.underlying153 rfl rfl ?_ ?_ ?_)<;>first|omega|conv=>whnf)|(refine axt 1 t true aza rfl rfl rfl rfl hlt hh ?_;conv=>whnf)|(refine ak8 1 t (r2.s t) aza rfl rfl rfl rfl hlt rfl ?_;conv=>whnf)|(refine aj1 1 t (r2.p t).1 aza rfl rfl rfl rfl hlt rfl ?_;conv=>whnf)|(refine av6 1 t (r2.p t) aza rfl rfl rfl rfl rfl hlt rfl ?_;conv=>whnf))|((with_reducible refine isW ?_;first|refine azg (by omega) (by omega) ?_|refine azc ?_);conv=>whnf)|with_reducible exact rfl|((with_reducible refine aze (by assumption) ?_);conv=>whnf)|((with_reducible refine azd ?_ ?_)<;>(intro hb;(try simp (disch:=omega) only [hbS] at hb)<;>conv=>whnf)))
     all_goals try (exfalso;omega)
     refine ⟨⟨t + 1,q2.1,q2.2.1,?_⟩,[0,1],by (try dsimp only);omega,?_,by (try dsimp only);omega⟩
     ·rw [hst,hj,q2.2.2,q.2.2]
      unfold plcA putA
      rw [hsc,hv,hvp]
      rfl
     ·(refine ⟨?_,?_,?_,?_⟩<;>(repeat' ((conv=>whnf);apply And.intro))<;>try (first|exact trivial|decide))
      all_goals first|rfl|exact fun _ _ h=>h|(simp [SV.wf,SV.wfs];done)|trace_state
   ·rw [hh,if_neg (by simp)] at es
    by_cases hp : (r2.p t).1=0
    ·rw [if_pos hp] at ep
     rw [es,ep] at hj
     dsimp only at hj
     (conv=>whnf);repeat' (first|((with_reducible refine isV ?_);first|((refine azs (n:=64) (sz:=1) aza rfl Tryz.underlying152 rfl rfl ?_ ?_ ?_)<;>first|omega|conv=>whnf)|((refine azs (n:=64) (sz:=1) aza rfl Tryz.underlying151 rfl rfl ?_ ?_ ?_)<;>first|omega|conv=>whnf)|((refine azs (n:=64) (sz:=5) aza rfl Tryz.underlying153 rfl rfl ?_ ?_ ?_)<;>first|omega|conv=>whnf)|(refine axt 1 t false aza rfl rfl rfl rfl hlt hh ?_;conv=>whnf)|(refine aj1 1 t (r2.p t).1 aza rfl rfl rfl rfl hlt rfl ?_;conv=>whnf))|((with_reducible refine isW ?_;first|refine azg (by omega) (by omega) ?_|refine azc ?_);conv=>whnf)|with_reducible exact rfl|((with_reducible refine aze (by assumption) ?_);conv=>whnf)|((with_reducible refine azd ?_ ?_)<;>(intro hb;(try simp (disch:=omega) only [hbS] at hb)<;>conv=>whnf)))
     all_goals try (exfalso;omega)
     refine ⟨⟨t + 1,r,hok,?_⟩,[0,1],by (try dsimp only);omega,?_,by (try dsimp only);omega⟩
     ·rw [hst,hj]
     ·(refine ⟨?_,?_,?_,?_⟩<;>(repeat' ((conv=>whnf);apply And.intro))<;>try (first|exact trivial|decide))
      all_goals first|rfl|exact fun _ _ h=>h|(simp [SV.wf,SV.wfs];done)|trace_state
    ·rw [if_neg hp] at ep
     rw [es,ep] at hj
     dsimp only at hj
     have hvp:=(hgk.2 _ ep).1
     (conv=>whnf);repeat' (first|((with_reducible refine isC ?_);first|(((with_reducible refine isF 88 ?_);(refine azl (bzj b1 r t (r2.p t) hok) [0] rfl ⟨fun _ _ h=>h,trivial⟩ (by decide) (fun _ _ _ _=>trivial) ?_;intro q2));conv=>whnf))|((with_reducible refine isV ?_);first|((refine azs (n:=64) (sz:=1) aza rfl Tryz.underlying152 rfl rfl ?_ ?_ ?_)<;>first|omega|conv=>whnf)|((refine azs (n:=64) (sz:=1) aza rfl Tryz.underlying151 rfl rfl ?_ ?_ ?_)<;>first|omega|conv=>whnf)|((refine azs (n:=64) (sz:=5) aza rfl Tryz.underlying153 rfl rfl ?_ ?_ ?_)<;>first|omega|conv=>whnf)|(refine axt 1 t false aza rfl rfl rfl rfl hlt hh ?_;conv=>whnf)|(refine aj1 1 t (r2.p t).1 aza rfl rfl rfl rfl hlt rfl ?_;conv=>whnf)|(refine av6 1 t (r2.p t) aza rfl rfl rfl rfl rfl hlt rfl ?_;conv=>whnf))|((with_reducible refine isW ?_;first|refine azg (by omega) (by omega) ?_|refine azc ?_);conv=>whnf)|with_reducible exact rfl|((with_reducible refine aze (by assumption) ?_);conv=>whnf)|((with_reducible refine azd ?_ ?_)<;>(intro hb;(try simp (disch:=omega) only [hbS] at hb)<;>conv=>whnf)))
     all_goals try (exfalso;omega)
     refine ⟨⟨t + 1,q2.1,q2.2.1,?_⟩,[0,1],by (try dsimp only);omega,?_,by (try dsimp only);omega⟩
     ·rw [hst,hj,q2.2.2]
      unfold plcA
      rw [hv,hvp]
      rfl
     ·(refine ⟨?_,?_,?_,?_⟩<;>(repeat' ((conv=>whnf);apply And.intro))<;>try (first|exact trivial|decide))
      all_goals first|rfl|exact fun _ _ h=>h|(simp [SV.wf,SV.wfs];done)|trace_state
  ·obtain rfl : t=64:=by omega
   (conv=>whnf);repeat' (first|((with_reducible refine isW ?_;first|refine azg (by omega) (by omega) ?_|refine azc ?_);conv=>whnf)|with_reducible exact rfl|((with_reducible refine aze (by assumption) ?_);conv=>whnf)|((with_reducible refine azd ?_ ?_)<;>(intro hb;(try simp (disch:=omega) only [hbS] at hb)<;>conv=>whnf)))
   all_goals try (exfalso;omega)
   exact azv ⟨r,hok,hab⟩ [0,1] ⟨rfl,by simp [SV.wf,SV.wfs]⟩ ⟨fun _ _ h=>h,fun _ _ h=>h,trivial⟩ (by decide) rfl
set_option maxHeartbeats 2000000 in
theorem PutOwn_m (b1 b2 : Nat) (m : List (Int × SlT)) (p : List (Int × PlT)) (k : Int) (v : SlT) (hlk : lkI m k = some v) (hs : aq9 v.2.2 = true) (hk : vId k = true) :
 CallM Tryz.prog 38 [.p 0 0,I k,.v (.slice v.1 v.2.2.length v.2.1)] (fun _ _=>True) [atB b1 b2,scO b1 m,plO b2 p] (fun _ : Unit=>I 0) (fun _=>[atB b1 b2,scO b1 m,plO b2 p]):=by
 have hs32 : v.2.2.length≤32:=by
  unfold aq9 at hs
  simp only [Bool.and_eq_true,decide_eq_true_eq] at hs
  exact hs.1
 have kv:=bjf v.1 v.2.1 v.2.2 rfl (by unfold maxLen;omega)
 have ki:=bjg k
 have kc:=awj v.1 v.1 v.2.1 v.2.1 v.2.2 v.2.2 rfl rfl (by omega) (by omega)
 rw [akb] at kc
 rw [hs] at kv
 rw [hk] at ki
 have hso : slOf m k=v:=by unfold slOf;rw [hlk];rfl
 have hargs : ∀ {C : Ctx} {ob : List OB},nth ob 1=some (scO b1 m)→∀ σ fp w,Mem C σ fp ob w→ArgSl w v.1 v.2.2.length 2 (v.2.2.map encB):=by
  intro C ob h1 σ fp w hm
  have:=ArgSl.sc 1 k h1 σ fp w hm
  rw [hso] at this
  exact this
 refine CallM.of (m:=3) Tryz.func38 rfl aza rfl rfl rfl rfl (by simp [SV.wfs,SV.wf]) fun w M π _=>?_
 (conv=>whnf);repeat' (first|((with_reducible refine isC ?_);first|(((with_reducible refine isF 78 ?_;refine az2 (kv) ?_ ?_);(focus exact hargs rfl));conv=>whnf)|((with_reducible refine azb (ki) ?_)<;>first|omega|with_reducible refine isP ?_|conv=>whnf)|(((with_reducible refine isF 80 ?_);(refine az2 kc (fun σ fp w hm=>⟨hargs rfl σ fp w hm,hargs rfl σ fp w hm⟩) ?_));conv=>whnf))|((with_reducible refine isV ?_);first|(refine av3 1 rfl rfl Tryz.underlying129 Tryz.underlying3 (fun w=>by kernel_rfl) rfl ?_;rw [hlk,hso];conv=>whnf))|((first|refine azj aza azt ?_|refine azi (by kernel_rfl) ?_|with_reducible refine azo ?_ ?_)<;>conv=>whnf)|with_reducible exact rfl|((with_reducible refine aze (by assumption) ?_);conv=>whnf)|((with_reducible refine azd ?_ ?_)<;>(intro hb;(try simp (disch:=omega) only [hbS] at hb)<;>conv=>whnf)))
 exact azv () [0,1,2] ⟨rfl,by simp [SV.wf,SV.wfs]⟩ ⟨⟨rfl,rfl,by simp [SV.wf,SV.wfs]⟩,fun _ _ h=>h,fun _ _ h=>h,trivial⟩ (by decide) rfl
theorem cvq {q : List (Int × PlT)} {k : Int} {p : PlT} (h : lkI q k = some p) (r : PlcI q k p) : lkI r.1 = lkI q := by
 rw [r.2]
 split
 ·rw [h]
  have : mxO keyP (some p) p=some p:=by
   unfold mxO
   dsimp only
   rw [akb,if_neg (by omega)]
  rw [this,← h,av5]
 ·rfl
set_option maxHeartbeats 4000000 in
theorem dzd (a1 a2 : Nat) (m : List (Int × SlT)) (q0 : List (Int × PlT)) (h1 : okS m) (hg : ajj (absM (m, q0))) :
 CallM Tryz.prog 77 [.p 0 0,.p 0 0] (fun _ _=>True) [atB a1 a2,scO a1 m,plO a2 q0]
  (fun _ : {q : List (Int × PlT) // lkI q=lkI q0}=>I 0) (fun r=>[atB a1 a2,scO a1 m,plO a2 r.1]):=by
 refine CallM.of (m:=3) Tryz.func77 rfl aza rfl rfl rfl rfl (by simp [SV.wfs,SV.wf]) fun w M π _=>?_
 have k2:=Ids_m a1 a2 m q0
 have hlen:=bzf (hasM m q0) 64
 generalize idsF (hasM m q0) 64=L at *
 (conv=>whnf);repeat' (first|((with_reducible refine isC ?_);first|(((with_reducible refine isF 45 ?_);((refine azl k2 [0,1,2] rfl ⟨⟨rfl,rfl,by simp [SV.wf,SV.wfs]⟩,fun _ _ h=>h,fun _ _ h=>h,trivial⟩ (by decide) (fun _ _ _ _=>trivial) ?_;intro r2;obtain ⟨A2,c2⟩:=r2)));conv=>whnf))|((with_reducible refine isW ?_;first|refine azg (by omega) (by omega) ?_|refine azc ?_);conv=>whnf)|with_reducible exact rfl|((with_reducible refine aze (by assumption) ?_);conv=>whnf)|((with_reducible refine azd ?_ ?_)<;>(intro hb;(try simp (disch:=omega) only [hbS] at hb)<;>conv=>whnf)))
 clear k2
 refine azr aza (α:=Nat × {q : List (Int × PlT) // lkI q=lkI q0}) (fun s=>s.1≤L.length) (fun s=>[(0,.p 0 0),(1,.p 0 0),(18,.v (.slice A2 L.length c2)),(19,I L.length),(20,I s.1)])
  (fun s=>[atB a1 a2,scO a1 m,plO a2 s.2.1,.row 3 1 A2 L.length c2 (L.map fun x=>[encI x])]) (fun s=>L.length - s.1) (0,⟨q0,rfl⟩) [0,1,2,3] (Nat.zero_le _) ?_ ?_
 ·(refine ⟨?_,?_,?_,?_⟩<;>(repeat' ((conv=>whnf);apply And.intro))<;>try (first|exact trivial|decide))
  all_goals first|rfl|exact fun _ _ h=>h|(simp [SV.wf,SV.wfs];done)|trace_state
 ·rintro ⟨t,⟨q,hq⟩⟩ ht
  dsimp only at ht ⊢
  by_cases hlt : t < L.length
  ·have ho:=h1.of (L.getD t 0)
   have hgk:=hg (L.getD t 0)
   have hqi : lkI q (L.getD t 0)=lkI q0 (L.getD t 0):=by rw [hq]
   generalize hid : L.getD t 0=id at *
   rcases ax3 (lkI m id) with hl|⟨v,hl⟩
   ·rcases ax3 (lkI q0 id) with hp|⟨p,hp⟩
    ·(conv=>whnf);repeat' (first|((with_reducible refine isV ?_);first|((first|refine azf aza rfl (ArgSl.row 3 rfl) rfl ?_ ?_ ?_|(with_reducible refine azq ?_);refine azn _ _ (0) aza rfl rfl rfl (ArgSl.row 3 rfl) ?_ ?_ ?_|refine azp _ _ (0) aza rfl rfl rfl (ArgSl.row 3 rfl) ?_ ?_ ?_)<;>first|rfl|omega|with_reducible refine isP ?_|conv=>whnf)|(rw [hid];refine axa 1 (slOf m id) false rfl rfl rfl rfl (by rw [hl];rfl) ?_;conv=>whnf)|(refine aqw 2 (plOf q id) false rfl rfl rfl rfl (by rw [hqi,hp];rfl) ?_;conv=>whnf))|((with_reducible refine isW ?_;first|refine azg (by omega) (by omega) ?_|refine azc ?_);conv=>whnf)|with_reducible exact rfl|((with_reducible refine aze (by assumption) ?_);conv=>whnf)|((with_reducible refine azd ?_ ?_)<;>(intro hb;(try simp (disch:=omega) only [hbS] at hb)<;>conv=>whnf)))
     all_goals try (exfalso;omega)
     refine ⟨(t + 1,⟨q,hq⟩),[0,1,2,3],by (try dsimp only);omega,?_,by (try dsimp only);omega⟩
     (refine ⟨?_,?_,?_,?_⟩<;>(repeat' ((conv=>whnf);apply And.intro))<;>try (first|exact trivial|decide))
     all_goals first|rfl|exact fun _ _ h=>h|(simp [SV.wf,SV.wfs];done)|trace_state
    ·have hpo : plOf q id=p:=by unfold plOf;rw [hqi,hp];rfl
     (conv=>whnf);repeat' (first|((with_reducible refine isC ?_);first|(((with_reducible refine isF 84 ?_);(refine azl (bjj a1 a2 m q id p) [0,1,2] rfl ⟨⟨rfl,rfl,by simp [SV.wf,SV.wfs]⟩,fun _ _ h=>h,fun _ _ h=>h,trivial⟩ (by decide) (fun _ _ _ _=>trivial) ?_;intro r3));conv=>whnf))|((with_reducible refine isV ?_);first|((first|refine azf aza rfl (ArgSl.row 3 rfl) rfl ?_ ?_ ?_|(with_reducible refine azq ?_);refine azn _ _ (0) aza rfl rfl rfl (ArgSl.row 3 rfl) ?_ ?_ ?_|refine azp _ _ (0) aza rfl rfl rfl (ArgSl.row 3 rfl) ?_ ?_ ?_)<;>first|rfl|omega|with_reducible refine isP ?_|conv=>whnf)|(rw [hid];refine axa 1 (slOf m id) false rfl rfl rfl rfl (by rw [hl];rfl) ?_;conv=>whnf)|(refine aqw 2 p true rfl rfl rfl hpo (by rw [hqi,hp];rfl) ?_;conv=>whnf))|((with_reducible refine isW ?_;first|refine azg (by omega) (by omega) ?_|refine azc ?_);conv=>whnf)|with_reducible exact rfl|((with_reducible refine aze (by assumption) ?_);conv=>whnf)|((with_reducible refine azd ?_ ?_)<;>(intro hb;(try simp (disch:=omega) only [hbS] at hb)<;>conv=>whnf)))
     all_goals try (exfalso;omega)
     refine ⟨(t + 1,⟨r3.1,(cvq (hqi.trans hp) r3).trans hq⟩),[0,1,2,3],by (try dsimp only);omega,?_,by (try dsimp only);omega⟩
     (refine ⟨?_,?_,?_,?_⟩<;>(repeat' ((conv=>whnf);apply And.intro))<;>try (first|exact trivial|decide))
     all_goals first|rfl|exact fun _ _ h=>h|(simp [SV.wf,SV.wfs];done)|trace_state
   ·have hso : slOf m id=v:=by unfold slOf;rw [hl];rfl
    have hsm : semS m id=some v.2.2:=by unfold semS;rw [hl];rfl
    have hs:=hgk.1 _ hsm
    have kput:=fun q=>PutOwn_m a1 a2 m q id v hl hs.1 hs.2
    rcases ax3 (lkI q0 id) with hp|⟨p,hp⟩
    ·(conv=>whnf);repeat' (first|((with_reducible refine isC ?_);first|(((with_reducible refine isF 38 ?_);(refine azl (kput q) [0,1,2] rfl ⟨⟨rfl,rfl,by simp [SV.wf,SV.wfs]⟩,fun _ _ h=>h,fun _ _ h=>h,trivial⟩ (by decide) (fun _ _ _ _=>trivial) ?_;intro r1));conv=>whnf))|((with_reducible refine isV ?_);first|((first|refine azf aza rfl (ArgSl.row 3 rfl) rfl ?_ ?_ ?_|(with_reducible refine azq ?_);refine azn _ _ (0) aza rfl rfl rfl (ArgSl.row 3 rfl) ?_ ?_ ?_|refine azp _ _ (0) aza rfl rfl rfl (ArgSl.row 3 rfl) ?_ ?_ ?_)<;>first|rfl|omega|with_reducible refine isP ?_|conv=>whnf)|(rw [hid];refine axa 1 v true rfl rfl rfl hso (by rw [hl];rfl) ?_;conv=>whnf)|(refine aqw 2 (plOf q id) false rfl rfl rfl rfl (by rw [hqi,hp];rfl) ?_;conv=>whnf))|((with_reducible refine isW ?_;first|refine azg (by omega) (by omega) ?_|refine azc ?_);conv=>whnf)|with_reducible exact rfl|((with_reducible refine aze (by assumption) ?_);conv=>whnf)|((with_reducible refine azd ?_ ?_)<;>(intro hb;(try simp (disch:=omega) only [hbS] at hb)<;>conv=>whnf)))
     all_goals try (exfalso;omega)
     refine ⟨(t + 1,⟨q,hq⟩),[0,1,2,3],by (try dsimp only);omega,?_,by (try dsimp only);omega⟩
     (refine ⟨?_,?_,?_,?_⟩<;>(repeat' ((conv=>whnf);apply And.intro))<;>try (first|exact trivial|decide))
     all_goals first|rfl|exact fun _ _ h=>h|(simp [SV.wf,SV.wfs];done)|trace_state
    ·have hpo : plOf q id=p:=by unfold plOf;rw [hqi,hp];rfl
     (conv=>whnf);repeat' (first|((with_reducible refine isC ?_);first|((first|(with_reducible refine isF 38 ?_);(refine azl (kput q) [0,1,2] rfl ⟨⟨rfl,rfl,by simp [SV.wf,SV.wfs]⟩,fun _ _ h=>h,fun _ _ h=>h,trivial⟩ (by decide) (fun _ _ _ _=>trivial) ?_;intro r1)|(with_reducible refine isF 84 ?_);(refine azl (bjj a1 a2 m q id p) [0,1,2] rfl ⟨⟨rfl,rfl,by simp [SV.wf,SV.wfs]⟩,fun _ _ h=>h,fun _ _ h=>h,trivial⟩ (by decide) (fun _ _ _ _=>trivial) ?_;intro r3));conv=>whnf))|((with_reducible refine isV ?_);first|((first|refine azf aza rfl (ArgSl.row 3 rfl) rfl ?_ ?_ ?_|(with_reducible refine azq ?_);refine azn _ _ (0) aza rfl rfl rfl (ArgSl.row 3 rfl) ?_ ?_ ?_|refine azp _ _ (0) aza rfl rfl rfl (ArgSl.row 3 rfl) ?_ ?_ ?_)<;>first|rfl|omega|with_reducible refine isP ?_|conv=>whnf)|(rw [hid];refine axa 1 v true rfl rfl rfl hso (by rw [hl];rfl) ?_;conv=>whnf)|(refine aqw 2 p true rfl rfl rfl hpo (by rw [hqi,hp];rfl) ?_;conv=>whnf))|((with_reducible refine isW ?_;first|refine azg (by omega) (by omega) ?_|refine azc ?_);conv=>whnf)|with_reducible exact rfl|((with_reducible refine aze (by assumption) ?_);conv=>whnf)|((with_reducible refine azd ?_ ?_)<;>(intro hb;(try simp (disch:=omega) only [hbS] at hb)<;>conv=>whnf)))
     all_goals try (exfalso;omega)
     refine ⟨(t + 1,⟨r3.1,(cvq (hqi.trans hp) r3).trans hq⟩),[0,1,2,3],by (try dsimp only);omega,?_,by (try dsimp only);omega⟩
     (refine ⟨?_,?_,?_,?_⟩<;>(repeat' ((conv=>whnf);apply And.intro))<;>try (first|exact trivial|decide))
     all_goals first|rfl|exact fun _ _ h=>h|(simp [SV.wf,SV.wfs];done)|trace_state
  ·obtain rfl : t=L.length:=by omega
   (conv=>whnf);repeat' (first|((with_reducible refine isW ?_;first|refine azg (by omega) (by omega) ?_|refine azc ?_);conv=>whnf)|with_reducible exact rfl|((with_reducible refine aze (by assumption) ?_);conv=>whnf)|((with_reducible refine azd ?_ ?_)<;>(intro hb;(try simp (disch:=omega) only [hbS] at hb)<;>conv=>whnf)))
   all_goals try (exfalso;omega)
   exact azv ⟨q,hq⟩ [0,1,2] ⟨rfl,by simp [SV.wf,SV.wfs]⟩ ⟨⟨rfl,rfl,by simp [SV.wf,SV.wfs]⟩,fun _ _ h=>h,fun _ _ h=>h,trivial⟩ (by decide) rfl
theorem dze (a : AtT) : bzh at0 a = a := by
 unfold bzh at0
 refine Prod.ext (funext fun k=>?_) (funext fun k=>?_)
 ·dsimp only
  cases a.1 k<;>rfl
 ·dsimp only
  cases a.2 k<;>rfl
set_option maxHeartbeats 2000000 in
theorem AClone_m (a1 a2 : Nat) (m : List (Int × SlT)) (q : List (Int × PlT)) (h1 : okS m) (hg : ajj (absM (m, q))) :
 CallM Tryz.prog 75 [.p 0 0] (fun _ _=>True) [atB a1 a2,scO a1 m,plO a2 q]
  (fun _ : (Nat × Nat) × StI (absM (m,q))=>.p 3 0) (fun r=>[atB a1 a2,scO a1 m,plO a2 q,atB r.1.1 r.1.2,scO r.1.1 r.2.1.1,plO r.1.2 r.2.1.2]):=by
 have hok0 : okS []:=by intro e he;cases he
 refine CallM.of (m:=3) Tryz.func75 rfl aza rfl rfl rfl rfl (by simp [SV.wfs,SV.wf]) fun w M π _=>?_
 (conv=>whnf);repeat' (first|((with_reducible refine isC ?_);first|((first|(with_reducible refine isF 82 ?_);(refine azl New_m [] rfl trivial (by decide) (fun _ _ _ _=>trivial) ?_;intro b;obtain ⟨b1,b2⟩:=b)|(with_reducible refine isF 77 ?_);(refine azl (Join_m b1 b2 a1 a2 [] m [] q hok0 h1 hg) [3,4,5,0,1,2] rfl ⟨⟨rfl,rfl,by simp [SV.wf,SV.wfs]⟩,fun _ _ h=>h,fun _ _ h=>h,⟨rfl,rfl,by simp [SV.wf,SV.wfs]⟩,fun _ _ h=>h,fun _ _ h=>h,trivial⟩ (by decide) (fun _ _ _ _=>trivial) ?_;intro r));conv=>whnf))|with_reducible exact rfl|((with_reducible refine aze (by assumption) ?_);conv=>whnf)|((with_reducible refine azd ?_ ?_)<;>(intro hb;(try simp (disch:=omega) only [hbS] at hb)<;>conv=>whnf)))
 exact azv ⟨(b1,b2),r.1,r.2.1,r.2.2.trans (dze _)⟩ [0,1,2,3,4,5] ⟨rfl,by simp [SV.wf,SV.wfs]⟩ ⟨⟨rfl,rfl,by simp [SV.wf,SV.wfs]⟩,fun _ _ h=>h,fun _ _ h=>h,⟨rfl,rfl,by simp [SV.wf,SV.wfs]⟩,fun _ _ h=>h,fun _ _ h=>h,trivial⟩ (by decide) rfl
abbrev nilP : SV := .v (.pointer none)
abbrev nilS : SV := .v (.slice none 0 0)
abbrev RelT := Go.Proofs.YtlnplelandimeaaGreat.Rel
def relO (rb : Nat) (rs : List RelT) : OB := .res fun w F => ∃ q, RObj w rb q rs ∧ ∀ i, F i ↔ (i = rb ∨ q = some i)
theorem relO_at {σ : Nat → Nat} {n : Nat} {w : World} {b rb : Nat} {q : Option Nat} {rs : List RelT} (h : RObj w rb q rs) : (relO rb rs).at σ n w b (fun i => i = rb ∨ q = some i) :=
 ⟨⟨q,h,fun _=>Iff.rfl⟩,fun w' hw=>⟨q,h.keep (hw rb (.inl rfl)) (fun g hg=>hw g (.inr hg)),fun _=>Iff.rfl⟩⟩
theorem nth_rel {C : Ctx} {σ : Nat → Nat} {fp : Nat → Nat → Prop} {ob : List OB} {w : World} {j rb : Nat} {rs : List RelT} (hm : Mem C σ fp ob w) (h : nth ob j = some (relO rb rs)) : (∃ q, RObj w rb q rs ∧ ∀ i, fp j i ↔ (i = rb ∨ q = some i)) ∧ j < ob.length := by
 rw [aq4] at h
 exact ⟨(hm.at_ j _ h).1,(List.getElem?_eq_some_iff.1 h).1⟩
section
variable {C : Ctx} {ob : List OB} {k : SV → List OB → Prop}
theorem CallX_New (hP : C.P = Tryz.prog) (hk : ∀ rb, aqb (ob ++ [relO rb []]) fun ob => k (.v (.pointer (some ⟨rb, 0, none⟩))) ob) (hd : C.d = false := by rfl) : aqy C 57 [] ob k := by
 simp only [azu] at hk
 unfold aqy
 rw [hP]
 refine ⟨Entr.of Tryz.func57 rfl rfl,fun σ fp w hm=>(New_any w).mono ?_⟩
 rintro e w' ⟨rfl,rfl⟩
 have hb : Below w.heap.size w (w.alloc (.cells #[.slice none 0 0] 143)):=(Below.refl _ _).alloc (Nat.le_refl _) _
 exact ⟨_,rfl,.v (.pointer (some ⟨w.heap.size,0,none⟩)),_,_,_,hk _,fun j hj=>by simp [show j ≠ ob.length by omega],by simp,rfl,trivial,
  hm.pushO hb (relO w.heap.size []) 0 _ (relO_at (RObj.new w)) (by rintro i (rfl|h);exact ⟨Nat.le_refl _,by simp⟩;cases h) (fun h=>by rw [hd] at h;cases h),Frm.pushed hb (by simp) (by rintro i (rfl|h);exact Nat.le_refl _;cases h)⟩
theorem CallX_Add (j : Nat) {rb : Nat} {rs : List RelT} {a b q x y : Int} (hP : C.P = Tryz.prog) (hj : nth ob j = some (relO rb rs)) (hn : rs.length ≤ 99) (hk : aqb (setN ob j (relO rb (addF rs (a, b, q, x, y)).2)) fun ob => k (I (addF rs (a, b, q, x, y)).1) ob) (hd : C.d = false := by rfl) :
 aqy C 58 [.v (.pointer (some ⟨rb,0,none⟩)),.a [I a,I b,I q,I x,I y]] ob k:=by
 unfold aqy
 rw [hP]
 refine ⟨Entr.of Tryz.func58 rfl rfl,fun σ fp w hm=>?_⟩
 obtain ⟨⟨o,hr,hF⟩,hjl⟩:=nth_rel hm hj
 refine (Add_any rb o rs (a,b,q,x,y) w hr hn).mono ?_
 rintro e w' ⟨rfl,o',hr',hloc,honly⟩
 rw [azu,aqm] at hk
 have hin : ∀ i,(i=rb∨o' = some i)→fp j i∨w.heap.size≤i:=by
  rintro i (rfl|h)
  ·exact .inl ((hF i).2 (.inl rfl))
  ·rcases hloc with rfl|⟨g,rfl,hg⟩
   ·exact .inl ((hF i).2 (.inr h))
   ·simp at h;subst h;exact .inr hg
 have hsame : ∀ i,i < w.heap.size→¬ fp j i→w'.heap[i]? = w.heap[i]?:=by
  intro i hi hni
  exact honly.block i hi (fun h=>hni ((hF i).2 (.inl h))) (fun h=>hni ((hF i).2 (.inr h.symm)))
 refine ⟨_,rfl,_,_,σ,_,hk,fun _ _=>rfl,by simp,rfl,trivial,hm.change hjl (relO rb _) (fun i=>i=rb∨o' = some i) (relO_at hr') hin ?_ honly.os honly.tape honly.output honly.size hsame (fun h=>by rw [hd] at h;cases h),Frm.changed hjl (by simp) hin honly.size hsame⟩
 rintro i (rfl|h)
 ·exact hr'.lt.1
 ·exact hr'.lt.2 i h
def frS (f : Fr) : SV := .a [I f.1, I f.2.1, I f.2.2]
theorem ak9 (j : Nat) {rb : Nat} {rs : List RelT} {a b : Int} (hP : C.P = Tryz.prog) (hj : nth ob j = some (relO rb rs)) (hn : rs.length ≤ 100)
 (hk : k (.t [.a [I ((btF rs a b).getD (0,0,0)).1,I ((btF rs a b).getD (0,0,0)).2.1,I ((btF rs a b).getD (0,0,0)).2.2],B (btF rs a b).isSome]) ob) (hd : C.d=false:=by rfl) : aqy C 22 [.v (.pointer (some ⟨rb,0,none⟩)),I a,I b] ob k:=by
 unfold aqy
 rw [hP]
 refine ⟨Entr.of Tryz.func22 rfl rfl,fun σ fp w hm=>?_⟩
 obtain ⟨⟨o,hr,hF⟩,hjl⟩:=nth_rel hm hj
 refine (ajh rb o rs a b w hr hn).mono ?_
 rintro e w' ⟨rfl,hb⟩
 refine ⟨_,rfl,_,ob,σ,fp,hk,fun _ _=>rfl,Nat.le_refl _,?_,by simp [SV.wf,SV.wfs],hm.below hb (fun h=>by rw [hd] at h;cases h),Frm.below hb⟩
 cases btF rs a b<;>simp [btV,frV,SV.val,SV.vals]
end
end Go.Proofs.YtlnplelandimeaaGreat.En
end
section
namespace Go.Proofs.YtlnplelandimeaaGreat
open Go.RowKit
section
variable {P : Program} {ops : Array Oper} {md : Region.Mode} {S : World → Prop}
end
end Go.Proofs.YtlnplelandimeaaGreat
end
section
namespace Go.Proofs.YtlnplelandimeaaGreat
open Go.RowKit
def FrOk (f : Fr) : Prop := 0 ≤ f.1 ∧ f.1 < 4
theorem turn4 {q : Int} (h0 : 0 ≤ q) (h1 : q < 4) : q = 0 ∨ q = 1 ∨ q = 2 ∨ q = 3 := by omega
theorem ax4 (f g h : Fr) (hf : FrOk f) (hg : FrOk g) : cmpF (cmpF f g) h = cmpF f (cmpF g h) := by
 obtain ⟨fq,fx,fy⟩:=f
 obtain ⟨gq,gx,gy⟩:=g
 obtain ⟨hq,hx,hy⟩:=h
 obtain ⟨f0,f1⟩:=hf
 obtain ⟨g0,g1⟩:=hg
 simp only at f0 f1 g0 g1
 rcases turn4 f0 f1 with rfl|rfl|rfl|rfl<;>rcases turn4 g0 g1 with rfl|rfl|rfl|rfl<;>simp [cmpF,tX,tY]<;>omega
theorem bjn (f : Fr) (hf : FrOk f) : cmpF f (0, 0, 0) = f := by
 obtain ⟨fq,fx,fy⟩:=f
 obtain ⟨f0,f1⟩:=hf
 simp only at f0 f1
 rcases turn4 f0 f1 with rfl|rfl|rfl|rfl<;>simp [cmpF,tX,tY]
theorem cq9 (f : Fr) (hf : FrOk f) : cmpF (0, 0, 0) f = f := by
 obtain ⟨fq,fx,fy⟩:=f
 obtain ⟨f0,f1⟩:=hf
 simp only at f0 f1
 simp [cmpF,tX,tY]
 omega
theorem cmpF_inv (f : Fr) (hf : FrOk f) : cmpF f (invF f) = (0, 0, 0) := by
 obtain ⟨fq,fx,fy⟩:=f
 obtain ⟨f0,f1⟩:=hf
 simp only at f0 f1
 rcases turn4 f0 f1 with rfl|rfl|rfl|rfl<;>simp [cmpF,invF,tX,tY]<;>omega
theorem cvr (f : Fr) (hf : FrOk f) : cmpF (invF f) f = (0, 0, 0) := by
 obtain ⟨fq,fx,fy⟩:=f
 obtain ⟨f0,f1⟩:=hf
 simp only at f0 f1
 rcases turn4 f0 f1 with rfl|rfl|rfl|rfl<;>simp [cmpF,invF,tX,tY]<;>omega
theorem cj8 (f : Fr) : FrOk (invF f) := by unfold FrOk invF; simp only; omega
theorem bjo (f g : Fr) : FrOk (cmpF f g) := by unfold FrOk cmpF; simp only; omega
theorem szB_in {n m : Int} (h1 : -m ≤ n) (h2 : n ≤ m) : szB n m = true := by simp [szB, h1, h2]
def InvPost (f : Fr) (A : Int) (w : World) (e : Ending) (w' : World) : Prop :=
 ∃ q x y : Int,e = .returned (.tuple #[.agg #[.int .i64 q,.int .i64 x,.int .i64 y],.int .i64 0])∧Hid ((q,x,y)=invF f)∧(0≤q∧q < 4∧-A≤x∧x≤A∧-A≤y∧y≤A)∧Below w.heap.size w w'
theorem dzf (A : Int) (fq fx fy : Int) (w : World) (h1 : -A ≤ fx) (h2 : fx ≤ A) (h3 : -A ≤ fy) (h4 : fy ≤ A) (hA : A ≤ 8192) :
 Calls Tryz.prog 111 #[.agg #[.int .i64 fq,.int .i64 fx,.int .i64 fy]] w (InvPost (fq,fx,fy) A w):=by
 have hb:=bwf (fq,fx,fy) A (by simp only;omega)
 refine (cji fq fx fy w).mono fun e w' ⟨he,hw⟩=>⟨(invF (fq,fx,fy)).1,(invF (fq,fx,fy)).2.1,(invF (fq,fx,fy)).2.2,?_,rfl,by omega,hw⟩
 rw [he]
 have e1:=szB_in (n:=fx) (m:=8192) (by omega) (by omega)
 have e2:=szB_in (n:=fy) (m:=8192) (by omega) (by omega)
 simp [InvV,invF,e1,e2]
end Go.Proofs.YtlnplelandimeaaGreat
end
section
namespace Go.Proofs.YtlnplelandimeaaGreat.En
open Go.RowKit
set_option maxRecDepth 100000
theorem Inverse_x (A : Int) (f : Fr) (h1 : -A ≤ f.2.1 ∧ f.2.1 ≤ A ∧ -A ≤ f.2.2 ∧ f.2.2 ≤ A) (hA : A ≤ 8192) :
 PureX Tryz.prog 111 [.a [I f.1,I f.2.1,I f.2.2]] (.t [.a [I (invF f).1,I (invF f).2.1,I (invF f).2.2],I 0]):=by
 refine PureX.mk' (Entr.of Tryz.func111 rfl rfl) (by simp [SV.wf,SV.wfs]) (by simp [SV.wf,SV.wfs]) fun w=>(dzf A f.1 f.2.1 f.2.2 w (by omega) (by omega) (by omega) (by omega) hA).mono ?_
 rintro e w' ⟨q,x,y,rfl,hq,_,hb⟩
 refine ⟨?_,hb⟩
 rw [← hq]
 rfl
def nearF (f : Fr) (m : Int) : Fr := (f.1 % 4, clipI f.2.1 (-m) m, clipI f.2.2 (-m) m)
end Go.Proofs.YtlnplelandimeaaGreat.En
end
