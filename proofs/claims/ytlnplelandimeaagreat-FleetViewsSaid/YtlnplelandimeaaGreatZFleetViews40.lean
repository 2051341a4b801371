import Derived.Test.YtlnplelandimeaaGreatZFleetViews39
import Derived.Test.YtlnplelandimeaaGreatZFleetViews13
set_option linter.all false
section
namespace Go.Proofs.YtlnplelandimeaaGreat.En
open Go.RowKit
set_option maxRecDepth 100000
theorem cnt_bd {e : EntT} (h : aq0 e = true) : -1099511627776 ≤ e.2.2.1 ∧ e.2.2.1 ≤ 1099511627776 ∧ -1099511627776 ≤ e.2.2.2 ∧ e.2.2.2 ≤ 1099511627776 := by
 simp only [aq0,szB,Bool.and_eq_true,decide_eq_true_eq] at h
 omega
def stP (e : EntT) (l : List EntT) (k : Nat) : List EntT × Bool × Bool := (l.take k).foldl (putS e) ([], false, true)
theorem cwc (e : EntT) {l : List EntT} {k : Nat} (hk : k < l.length) : stP e l (k + 1) = putS e (stP e l k) (l.getD k e0) := by
 unfold stP
 rw [axj (putS e) _ (d:=e0) hk]
theorem putS_len (e : EntT) (s : List EntT × Bool × Bool) (x : EntT) {k : Nat} (h : s.1.length ≤ k + s.2.1.toNat) : (putS e s x).1.length ≤ k + 1 + (putS e s x).2.1.toNat := by
 obtain ⟨o,d,t⟩:=s
 unfold putS
 cases d
 ·simp only [Bool.toNat_false] at h
  split
  ·dsimp only
   split
   ·simp;omega
   ·simp;omega
  ·split
   ·simp;omega
   ·simp;omega
 ·simp only [Bool.toNat_true] at h
  simp
  omega
theorem ckj (e : EntT) {l : List EntT} : ∀ k, k ≤ l.length → (stP e l k).1.length ≤ k + (stP e l k).2.1.toNat
 | 0,_=>by simp [stP]
 | k + 1,hk=>by
   rw [cwc e (by omega)]
   exact putS_len e _ _ (ckj e k (by omega))
theorem putE_st (e : EntT) (l : List EntT) {n : Nat} (hl : l.length = n) : putE l e = (if (stP e l n).2.1 then (stP e l n).1 else (stP e l n).1 ++ [e], (stP e l n).2.2) := by
 unfold putE stP
 rw [List.take_of_length_le (by omega)]
set_option maxHeartbeats 4000000 in
theorem put_m (A : Option Addr) (c : Nat) (l : List EntT) (e : EntT) {n : Nat} (hl : l.length = n) (hn : n ≤ 1000000000)
 (hb1 : ∀ i,i < n→(-2000000000000000000≤(l.getD i e0).2.2.1∧(l.getD i e0).2.2.1≤2000000000000000000)∧(-2000000000000000000≤(l.getD i e0).2.2.2∧(l.getD i e0).2.2.2≤2000000000000000000))
 (hb2 : (-2000000000000000000≤e.2.2.1∧e.2.2.1≤2000000000000000000)∧(-2000000000000000000≤e.2.2.2∧e.2.2.2≤2000000000000000000)) :
 CallM Tryz.prog 137 [.v (.slice A n c),.a [I e.1,I e.2.1,I e.2.2.1,I e.2.2.2]] (fun w M=>ArgN w M A n 4 (l.map encE)) []
  (fun q : Option Addr × Nat=>.t [.v (.slice q.1 (putE l e).1.length q.2),B (putE l e).2]) (fun q=>[.row 89 4 q.1 (putE l e).1.length q.2 ((putE l e).1.map encE)]):=by
 rw [putE_st e l hl]
 have hst:=fun k (hk : k < n)=>cwc e (l:=l) (k:=k) (by omega)
 have hln:=fun k (hk : k≤n)=>ckj e (l:=l) k (by omega)
 have h0 : stP e l 0=([],false,true):=rfl
 generalize stP e l=st at *
 refine CallM.of (m:=0) Tryz.func137 rfl aza rfl rfl rfl rfl (by simp [SV.wfs,SV.wf]) fun w M π hpre=>?_
 (conv=>whnf);repeat' (first|((with_reducible refine isO ?_);first|((first|(refine azh aza rfl rfl rfl ?_);intro bN|(refine azm aza rfl rfl rfl rfl rfl ?_);intro bN);conv=>whnf))|((with_reducible refine isW ?_;first|refine azg (by omega) (by omega) ?_|refine azc ?_);conv=>whnf)|((first|refine azj aza azt ?_|refine azi (by kernel_rfl) ?_|with_reducible refine azo ?_ ?_)<;>conv=>whnf)|with_reducible exact rfl|((with_reducible refine aze (by assumption) ?_);conv=>whnf)|((with_reducible refine azd ?_ ?_)<;>(intro hb;(try simp (disch:=omega) only [hbS] at hb)<;>conv=>whnf)))
 refine aql 89 4 ?_
 conv=>whnf
 refine azr aza (α:=Nat × Option Addr × Nat) (fun p=>p.1≤n) (fun p=>[(9,I p.1),(0,.v (.slice A n c)),(3,.p 0 0),(6,.v (.slice p.2.1 (st p.1).1.length p.2.2)),(7,B (st p.1).2.1),(8,B (st p.1).2.2)]) (fun p=>[.box 89 [I e.1,I e.2.1,I e.2.2.1,I e.2.2.2],.row 89 4 p.2.1 (st p.1).1.length p.2.2 ((st p.1).1.map encE)]) (fun p=>n - p.1) (0,none,0) [0,1] (Nat.zero_le _) ?_ ?_
 ·dsimp only
  rw [h0]
  (refine ⟨?_,?_,?_,?_⟩<;>(repeat' ((conv=>whnf);apply And.intro))<;>try (first|exact trivial|decide))
  all_goals first|rfl|exact fun _ _ h=>h|(simp [SV.wf,SV.wfs];done)|trace_state
 ·rintro ⟨k,A',c'⟩ hk
  dsimp only at hk ⊢
  by_cases hlt : k < n
  ·specialize hst k hlt
   have hlk:=hln k hk
   have hlk2:=hln (k + 1) hlt
   have hbk:=hb1 k hlt
   rw [hst] at hlk2
   clear hln hb1 h0
   generalize hs : st k=s at *
   obtain ⟨o,dn,ft⟩:=s
   have ho : o.length≤k + 1:=by cases dn<;>simp at hlk<;>omega
   cases dn with
   | true =>
     have e1 : putS e (o,true,ft) (l.getD k e0)=(o ++ [l.getD k e0],true,ft):=by simp [putS]
     rw [e1] at hst
     dsimp only at hlk hlk2 ⊢
     (conv=>whnf);repeat' (first|((with_reducible refine isV ?_);first|((first|refine azf aza rfl (ArgN.mem hpre (by decide)) rfl ?_ ?_ ?_|(with_reducible refine azq ?_);refine azw _ _ (e0) aza rfl rfl rfl rfl (ArgN.mem hpre (by decide)) ?_ ?_ ?_|refine azy _ _ (e0) aza rfl rfl rfl rfl (ArgN.mem hpre (by decide)) ?_ ?_ ?_)<;>first|rfl|omega|with_reducible refine isP ?_|conv=>whnf)|((first|(with_reducible refine az1 ?_);refine az9 _ _ (e0) _ aza rfl rfl rfl (ArgN.mem hpre (by decide)) ?_ ?_ rfl rfl ?_|refine aqd _ _ (e0) _ aza rfl rfl rfl (ArgN.mem hpre (by decide)) ?_ ?_ rfl rfl ?_)<;>first|omega|with_reducible refine isP ?_|conv=>whnf)|((first|(with_reducible refine az1 ?_);refine az4 _ _ (e0) _ aza rfl rfl rfl (ArgN.mem hpre (by decide)) ?_ ?_ rfl ?_|refine az8 _ _ (e0) _ aza rfl rfl rfl (ArgN.mem hpre (by decide)) ?_ ?_ rfl ?_)<;>first|omega|(simp;omega)|with_reducible refine isP ?_|conv=>whnf)|((refine azf aza rfl (ArgN.mem hpre (by decide)) rfl ?_ ?_ ?_)<;>first|rfl|omega|with_reducible refine isP ?_|conv=>whnf))|((with_reducible refine isO ?_);first|((refine azz 1 aza rfl rfl rfl rfl (ArgSl.row 2 rfl) (by decide) ?_ ?_ ?_)<;>first|omega|(dsimp only;omega)|(intro A' c';conv=>whnf))|((first|(refine azh aza rfl rfl rfl ?_);intro bN|(refine azm aza rfl rfl rfl rfl rfl ?_);intro bN);conv=>whnf))|((with_reducible refine isW ?_;first|refine azg (by omega) (by omega) ?_|refine azc ?_);conv=>whnf)|((first|refine azj aza azt ?_|refine azi (by kernel_rfl) ?_|with_reducible refine azo ?_ ?_)<;>conv=>whnf)|with_reducible exact rfl|((with_reducible refine aze (by assumption) ?_);conv=>whnf)|((with_reducible refine azd ?_ ?_)<;>(intro hb;(try simp (disch:=omega) only [hbS] at hb)<;>conv=>whnf)))
     all_goals try (exfalso;omega)
     refine ⟨(k + 1,A',c'),[0,1],by (try dsimp only);omega,?_,by (try dsimp only);omega⟩
     dsimp only
     rw [hst]
     dsimp only
     rw [List.map_append,List.length_append]
     (refine ⟨?_,?_,?_,?_⟩<;>(repeat' ((conv=>whnf);apply And.intro))<;>try (first|exact trivial|decide))
     all_goals first|rfl|exact fun _ _ h=>h|(simp [SV.wf,SV.wfs];done)|trace_state
   | false =>
     dsimp only at hlk hlk2 ⊢
     have w1 : IntKind.i64.wrap ((l.getD k e0).2.2.1 + e.2.2.1)=(l.getD k e0).2.2.1 + e.2.2.1:=wr (by omega) (by omega)
     have w2 : IntKind.i64.wrap ((l.getD k e0).2.2.2 + e.2.2.2)=(l.getD k e0).2.2.2 + e.2.2.2:=wr (by omega) (by omega)
     simp only [Bool.toNat_false] at hlk
     by_cases h1 : (l.getD k e0).cell=e.cell
     ·have h1a : (l.getD k e0).1=e.1:=(Prod.ext_iff.1 h1).1
      have h1b : (l.getD k e0).2.1=e.2.1:=(Prod.ext_iff.1 h1).2
      have hput : putS e (o,false,ft) (l.getD k e0)=(if axb (ajb (l.getD k e0) e) then o else o ++ [ajb (l.getD k e0) e],true,aq0 (ajb (l.getD k e0) e)):=by
       unfold putS
       rw [if_pos ⟨rfl,h1⟩]
      rw [hput] at hst
      have hcnt : aq0 (ajb (l.getD k e0) e)=(szB ((l.getD k e0).2.2.1 + e.2.2.1) 1099511627776 && szB ((l.getD k e0).2.2.2 + e.2.2.2) 1099511627776):=rfl
      rw [hcnt] at hst
      clear hput hlk2 hcnt
      by_cases hz : (l.getD k e0).2.2.1 + e.2.2.1=0∧(l.getD k e0).2.2.2 + e.2.2.2=0
      ·have hz' : axb (ajb (l.getD k e0) e)=true:=by
        unfold axb ajb
        dsimp only
        rw [hz.1,hz.2]
        rfl
       rw [if_pos hz'] at hst
       (conv=>whnf);repeat' (first|((with_reducible refine isC ?_);first|((with_reducible refine azb (ajz _ _ ?_ ?_) ?_)<;>first|omega|with_reducible refine isP ?_|conv=>whnf))|((with_reducible refine isV ?_);first|((first|refine azf aza rfl (ArgN.mem hpre (by decide)) rfl ?_ ?_ ?_|(with_reducible refine azq ?_);refine azw _ _ (e0) aza rfl rfl rfl rfl (ArgN.mem hpre (by decide)) ?_ ?_ ?_|refine azy _ _ (e0) aza rfl rfl rfl rfl (ArgN.mem hpre (by decide)) ?_ ?_ ?_)<;>first|rfl|omega|with_reducible refine isP ?_|conv=>whnf)|((first|(with_reducible refine az1 ?_);refine az9 _ _ (e0) _ aza rfl rfl rfl (ArgN.mem hpre (by decide)) ?_ ?_ rfl rfl ?_|refine aqd _ _ (e0) _ aza rfl rfl rfl (ArgN.mem hpre (by decide)) ?_ ?_ rfl rfl ?_)<;>first|omega|with_reducible refine isP ?_|conv=>whnf)|((first|(with_reducible refine az1 ?_);refine az4 _ _ (e0) _ aza rfl rfl rfl (ArgN.mem hpre (by decide)) ?_ ?_ rfl ?_|refine az8 _ _ (e0) _ aza rfl rfl rfl (ArgN.mem hpre (by decide)) ?_ ?_ rfl ?_)<;>first|omega|(simp;omega)|with_reducible refine isP ?_|conv=>whnf)|((refine azf aza rfl (ArgN.mem hpre (by decide)) rfl ?_ ?_ ?_)<;>first|rfl|omega|with_reducible refine isP ?_|conv=>whnf))|((with_reducible refine isO ?_);first|((refine azz 1 aza rfl rfl rfl rfl (ArgSl.row 3 rfl) (by decide) ?_ ?_ ?_)<;>first|omega|(dsimp only;omega)|(intro A' c';conv=>whnf))|((first|(refine azh aza rfl rfl rfl ?_);intro bN|(refine azm aza rfl rfl rfl rfl rfl ?_);intro bN);conv=>whnf))|((with_reducible refine isW ?_;first|refine azg (by omega) (by omega) ?_|refine azc ?_);conv=>whnf)|((first|refine azj aza azt ?_|refine azi (by kernel_rfl) ?_|with_reducible refine azo ?_ ?_)<;>conv=>whnf)|with_reducible exact rfl|((with_reducible refine aze (by assumption) ?_);conv=>whnf)|((with_reducible refine azd ?_ ?_)<;>(intro hb;(try simp (disch:=omega) only [hbS] at hb)<;>conv=>whnf)))
       all_goals try (exfalso;omega)
       all_goals try (exfalso;rw [h1a,h1b] at hb;simp at hb;done)
       all_goals try (simp only [w1,w2,h1a,h1b] at *)
       all_goals try (exfalso;simp_all;done)
       all_goals
        refine ⟨(k + 1,A',c'),[0,1],by (try dsimp only);omega,?_,by (try dsimp only);omega⟩
        dsimp only
        rw [hst]
        dsimp only
        (refine ⟨?_,?_,?_,?_⟩<;>(repeat' ((conv=>whnf);apply And.intro))<;>try (first|exact trivial|decide))
       all_goals first|rfl|exact fun _ _ h=>h|(simp [SV.wf,SV.wfs];done)|exact congrArg (fun b=>SV.v (Value.bool b)) (by rw [‹szB ((l.getD k e0).2.2.1 + e.2.2.1) 1099511627776=true›,Bool.true_and])|exact congrArg (fun b=>SV.v (Value.bool b)) (by rw [‹szB ((l.getD k e0).2.2.1 + e.2.2.1) 1099511627776=false›,Bool.false_and])|trace_state
      ·have hz' : ¬ axb (ajb (l.getD k e0) e)=true:=by
        intro h0
        unfold axb ajb at h0
        rw [Bool.and_eq_true] at h0
        exact hz ⟨of_decide_eq_true h0.1,of_decide_eq_true h0.2⟩
       rw [if_neg hz'] at hst
       (conv=>whnf);repeat' (first|((with_reducible refine isC ?_);first|((with_reducible refine azb (ajz _ _ ?_ ?_) ?_)<;>first|omega|with_reducible refine isP ?_|conv=>whnf))|((with_reducible refine isV ?_);first|((first|refine azf aza rfl (ArgN.mem hpre (by decide)) rfl ?_ ?_ ?_|(with_reducible refine azq ?_);refine azw _ _ (e0) aza rfl rfl rfl rfl (ArgN.mem hpre (by decide)) ?_ ?_ ?_|refine azy _ _ (e0) aza rfl rfl rfl rfl (ArgN.mem hpre (by decide)) ?_ ?_ ?_)<;>first|rfl|omega|with_reducible refine isP ?_|conv=>whnf)|((first|(with_reducible refine az1 ?_);refine az9 _ _ (e0) _ aza rfl rfl rfl (ArgN.mem hpre (by decide)) ?_ ?_ rfl rfl ?_|refine aqd _ _ (e0) _ aza rfl rfl rfl (ArgN.mem hpre (by decide)) ?_ ?_ rfl rfl ?_)<;>first|omega|with_reducible refine isP ?_|conv=>whnf)|((first|(with_reducible refine az1 ?_);refine az4 _ _ (e0) _ aza rfl rfl rfl (ArgN.mem hpre (by decide)) ?_ ?_ rfl ?_|refine az8 _ _ (e0) _ aza rfl rfl rfl (ArgN.mem hpre (by decide)) ?_ ?_ rfl ?_)<;>first|omega|(simp;omega)|with_reducible refine isP ?_|conv=>whnf)|((refine azf aza rfl (ArgN.mem hpre (by decide)) rfl ?_ ?_ ?_)<;>first|rfl|omega|with_reducible refine isP ?_|conv=>whnf))|((with_reducible refine isO ?_);first|((refine azz 1 aza rfl rfl rfl rfl (ArgSl.row 3 rfl) (by decide) ?_ ?_ ?_)<;>first|omega|(dsimp only;omega)|(intro A' c';conv=>whnf))|((first|(refine azh aza rfl rfl rfl ?_);intro bN|(refine azm aza rfl rfl rfl rfl rfl ?_);intro bN);conv=>whnf))|((with_reducible refine isW ?_;first|refine azg (by omega) (by omega) ?_|refine azc ?_);conv=>whnf)|((first|refine azj aza azt ?_|refine azi (by kernel_rfl) ?_|with_reducible refine azo ?_ ?_)<;>conv=>whnf)|with_reducible exact rfl|((with_reducible refine aze (by assumption) ?_);conv=>whnf)|((with_reducible refine azd ?_ ?_)<;>(intro hb;(try simp (disch:=omega) only [hbS] at hb)<;>conv=>whnf)))
       all_goals try (exfalso;omega)
       all_goals try (exfalso;rw [h1a,h1b] at hb;simp at hb;done)
       all_goals try (simp only [w1,w2,h1a,h1b] at *)
       all_goals try (exfalso;simp_all;done)
       all_goals
        refine ⟨(k + 1,A',c'),[0,1],by (try dsimp only);omega,?_,by (try dsimp only);omega⟩
        dsimp only
        rw [hst]
        dsimp only
        rw [List.map_append,List.length_append]
        (refine ⟨?_,?_,?_,?_⟩<;>(repeat' ((conv=>whnf);apply And.intro))<;>try (first|exact trivial|decide))
       all_goals first|rfl|exact fun _ _ h=>h|(simp [SV.wf,SV.wfs];done)|exact congrArg (fun b=>SV.v (Value.bool b)) (by rw [‹szB ((l.getD k e0).2.2.1 + e.2.2.1) 1099511627776=true›,Bool.true_and])|exact congrArg (fun b=>SV.v (Value.bool b)) (by rw [‹szB ((l.getD k e0).2.2.1 + e.2.2.1) 1099511627776=false›,Bool.false_and])|trace_state
     ·have h1' : ((l.getD k e0).1,(l.getD k e0).2.1) ≠ (e.1,e.2.1):=h1
      by_cases h2 : befB e.cell (l.getD k e0).cell=true
      ·have hput : putS e (o,false,ft) (l.getD k e0)=(o ++ [e] ++ [l.getD k e0],true,ft):=by
        unfold putS
        rw [if_neg (fun h=>h1 h.2),if_pos ⟨rfl,h2⟩]
       rw [hput] at hst
       clear hput hlk2
       (conv=>whnf);repeat' (first|((with_reducible refine isC ?_);first|((with_reducible refine azb (bq0 (_,_) (_,_)) ?_)<;>first|omega|with_reducible refine isP ?_|conv=>whnf))|((with_reducible refine isV ?_);first|((first|refine azf aza rfl (ArgN.mem hpre (by decide)) rfl ?_ ?_ ?_|(with_reducible refine azq ?_);refine azw _ _ (e0) aza rfl rfl rfl rfl (ArgN.mem hpre (by decide)) ?_ ?_ ?_|refine azy _ _ (e0) aza rfl rfl rfl rfl (ArgN.mem hpre (by decide)) ?_ ?_ ?_)<;>first|rfl|omega|with_reducible refine isP ?_|conv=>whnf)|((first|(with_reducible refine az1 ?_);refine az9 _ _ (e0) _ aza rfl rfl rfl (ArgN.mem hpre (by decide)) ?_ ?_ rfl rfl ?_|refine aqd _ _ (e0) _ aza rfl rfl rfl (ArgN.mem hpre (by decide)) ?_ ?_ rfl rfl ?_)<;>first|omega|with_reducible refine isP ?_|conv=>whnf)|((first|(with_reducible refine az1 ?_);refine az4 _ _ (e0) _ aza rfl rfl rfl (ArgN.mem hpre (by decide)) ?_ ?_ rfl ?_|refine az8 _ _ (e0) _ aza rfl rfl rfl (ArgN.mem hpre (by decide)) ?_ ?_ rfl ?_)<;>first|omega|(simp;omega)|with_reducible refine isP ?_|conv=>whnf)|((refine azf aza rfl (ArgN.mem hpre (by decide)) rfl ?_ ?_ ?_)<;>first|rfl|omega|with_reducible refine isP ?_|conv=>whnf))|((with_reducible refine isO ?_);first|((first|refine azz 1 aza rfl rfl rfl rfl (ArgSl.row 2 rfl) (by decide) ?_ ?_ ?_|refine azz 1 aza rfl rfl rfl rfl (ArgSl.row 3 rfl) (by decide) ?_ ?_ ?_)<;>first|omega|(dsimp only;omega)|(intro A' c';conv=>whnf))|((first|(refine azh aza rfl rfl rfl ?_);intro bN|(refine azm aza rfl rfl rfl rfl rfl ?_);intro bN);conv=>whnf))|((with_reducible refine isW ?_;first|refine azg (by omega) (by omega) ?_|refine azc ?_);conv=>whnf)|((first|refine azj aza azt ?_|refine azi (by kernel_rfl) ?_|with_reducible refine azo ?_ ?_)<;>conv=>whnf)|with_reducible exact rfl|((with_reducible refine aze (by assumption) ?_);conv=>whnf)|((with_reducible refine azd ?_ ?_)<;>(intro hb;(try simp (disch:=omega) only [hbS] at hb)<;>conv=>whnf)))
       all_goals try (exfalso;omega)
       all_goals try (exfalso;exact h1' (Prod.ext hb.1 hb.2.1))
       all_goals try (exfalso;rw [show befB (e.1,e.2.1) ((l.getD k e0).1,(l.getD k e0).2.1)=true from h2] at hb;cases hb;done)
       all_goals
        refine ⟨(k + 1,A',c'),[0,1],by (try dsimp only);omega,?_,by (try dsimp only);omega⟩
        dsimp only
        rw [hst]
        dsimp only
        rw [List.map_append,List.length_append,List.map_append,List.length_append]
        (refine ⟨?_,?_,?_,?_⟩<;>(repeat' ((conv=>whnf);apply And.intro))<;>try (first|exact trivial|decide))
       all_goals first|rfl|exact fun _ _ h=>h|(simp [SV.wf,SV.wfs];done)|exact congrArg (fun b=>SV.v (Value.bool b)) (by rw [‹szB ((l.getD k e0).2.2.1 + e.2.2.1) 1099511627776=true›,Bool.true_and])|exact congrArg (fun b=>SV.v (Value.bool b)) (by rw [‹szB ((l.getD k e0).2.2.1 + e.2.2.1) 1099511627776=false›,Bool.false_and])|trace_state
      ·have hput : putS e (o,false,ft) (l.getD k e0)=(o ++ [l.getD k e0],false,ft):=by
        unfold putS
        rw [if_neg (fun h=>h1 h.2),if_neg (fun h=>h2 h.2)]
       rw [hput] at hst
       clear hput hlk2
       (conv=>whnf);repeat' (first|((with_reducible refine isC ?_);first|((with_reducible refine azb (bq0 (_,_) (_,_)) ?_)<;>first|omega|with_reducible refine isP ?_|conv=>whnf))|((with_reducible refine isV ?_);first|((first|refine azf aza rfl (ArgN.mem hpre (by decide)) rfl ?_ ?_ ?_|(with_reducible refine azq ?_);refine azw _ _ (e0) aza rfl rfl rfl rfl (ArgN.mem hpre (by decide)) ?_ ?_ ?_|refine azy _ _ (e0) aza rfl rfl rfl rfl (ArgN.mem hpre (by decide)) ?_ ?_ ?_)<;>first|rfl|omega|with_reducible refine isP ?_|conv=>whnf)|((first|(with_reducible refine az1 ?_);refine az9 _ _ (e0) _ aza rfl rfl rfl (ArgN.mem hpre (by decide)) ?_ ?_ rfl rfl ?_|refine aqd _ _ (e0) _ aza rfl rfl rfl (ArgN.mem hpre (by decide)) ?_ ?_ rfl rfl ?_)<;>first|omega|with_reducible refine isP ?_|conv=>whnf)|((first|(with_reducible refine az1 ?_);refine az4 _ _ (e0) _ aza rfl rfl rfl (ArgN.mem hpre (by decide)) ?_ ?_ rfl ?_|refine az8 _ _ (e0) _ aza rfl rfl rfl (ArgN.mem hpre (by decide)) ?_ ?_ rfl ?_)<;>first|omega|(simp;omega)|with_reducible refine isP ?_|conv=>whnf)|((refine azf aza rfl (ArgN.mem hpre (by decide)) rfl ?_ ?_ ?_)<;>first|rfl|omega|with_reducible refine isP ?_|conv=>whnf))|((with_reducible refine isO ?_);first|((refine azz 1 aza rfl rfl rfl rfl (ArgSl.row 2 rfl) (by decide) ?_ ?_ ?_)<;>first|omega|(dsimp only;omega)|(intro A' c';conv=>whnf))|((first|(refine azh aza rfl rfl rfl ?_);intro bN|(refine azm aza rfl rfl rfl rfl rfl ?_);intro bN);conv=>whnf))|((with_reducible refine isW ?_;first|refine azg (by omega) (by omega) ?_|refine azc ?_);conv=>whnf)|((first|refine azj aza azt ?_|refine azi (by kernel_rfl) ?_|with_reducible refine azo ?_ ?_)<;>conv=>whnf)|with_reducible exact rfl|((with_reducible refine aze (by assumption) ?_);conv=>whnf)|((with_reducible refine azd ?_ ?_)<;>(intro hb;(try simp (disch:=omega) only [hbS] at hb)<;>conv=>whnf)))
       all_goals try (exfalso;omega)
       all_goals try (exfalso;exact h1' (Prod.ext hb.1 hb.2.1))
       all_goals try (exfalso;exact h2 hb)
       all_goals
        refine ⟨(k + 1,A',c'),[0,1],by (try dsimp only);omega,?_,by (try dsimp only);omega⟩
        dsimp only
        rw [hst]
        dsimp only
        rw [List.map_append,List.length_append]
        (refine ⟨?_,?_,?_,?_⟩<;>(repeat' ((conv=>whnf);apply And.intro))<;>try (first|exact trivial|decide))
       all_goals first|rfl|exact fun _ _ h=>h|(simp [SV.wf,SV.wfs];done)|exact congrArg (fun b=>SV.v (Value.bool b)) (by rw [‹szB ((l.getD k e0).2.2.1 + e.2.2.1) 1099511627776=true›,Bool.true_and])|exact congrArg (fun b=>SV.v (Value.bool b)) (by rw [‹szB ((l.getD k e0).2.2.1 + e.2.2.1) 1099511627776=false›,Bool.false_and])|trace_state
  ·obtain rfl : k=n:=by omega
   specialize hln k (Nat.le_refl _)
   clear hst h0 hb1
   generalize st k=s at *
   obtain ⟨o,dn,ft⟩:=s
   have ho : o.length≤k + 1:=by cases dn<;>simp at hln<;>omega
   cases dn with
   | true =>
     (conv=>whnf);repeat' (first|((with_reducible refine isO ?_);first|((first|(refine azh aza rfl rfl rfl ?_);intro bN|(refine azm aza rfl rfl rfl rfl rfl ?_);intro bN);conv=>whnf))|((with_reducible refine isW ?_;first|refine azg (by omega) (by omega) ?_|refine azc ?_);conv=>whnf)|((first|refine azj aza azt ?_|refine azi (by kernel_rfl) ?_|with_reducible refine azo ?_ ?_)<;>conv=>whnf)|with_reducible exact rfl|((with_reducible refine aze (by assumption) ?_);conv=>whnf)|((with_reducible refine azd ?_ ?_)<;>(intro hb;(try simp (disch:=omega) only [hbS] at hb)<;>conv=>whnf)))
     all_goals try (exfalso;omega)
     exact azv (A',c') [1] ⟨rfl,by simp [SV.wf,SV.wfs]⟩ ⟨⟨rfl,rfl,rfl,rfl,rfl,rfl⟩,trivial⟩ (by decide) rfl
   | false =>
     dsimp only
     rw [if_neg (by simp),List.length_append,List.map_append]
     (conv=>whnf);repeat' (first|((with_reducible refine isO ?_);first|((refine azz 1 aza rfl rfl rfl rfl (ArgSl.row 2 rfl) (by decide) ?_ ?_ ?_)<;>first|omega|(dsimp only;omega)|(intro A' c';conv=>whnf))|((first|(refine azh aza rfl rfl rfl ?_);intro bN|(refine azm aza rfl rfl rfl rfl rfl ?_);intro bN);conv=>whnf))|((with_reducible refine isW ?_;first|refine azg (by omega) (by omega) ?_|refine azc ?_);conv=>whnf)|((first|refine azj aza azt ?_|refine azi (by kernel_rfl) ?_|with_reducible refine azo ?_ ?_)<;>conv=>whnf)|with_reducible exact rfl|((with_reducible refine aze (by assumption) ?_);conv=>whnf)|((with_reducible refine azd ?_ ?_)<;>(intro hb;(try simp (disch:=omega) only [hbS] at hb)<;>conv=>whnf)))
     all_goals try (exfalso;omega)
     exact azv (A',c') [1] ⟨rfl,by simp [SV.wf,SV.wfs]⟩ ⟨⟨rfl,rfl,rfl,rfl,rfl,rfl⟩,trivial⟩ (by decide) rfl
theorem putE_len (l : List EntT) (e : EntT) : (putE l e).1.length ≤ l.length + 1 := by
 rw [putE_st e l rfl]
 have:=ckj e (l:=l) l.length (Nat.le_refl _)
 generalize stP e l l.length=s at *
 obtain ⟨o,d,t⟩:=s
 cases d
 ·simp at this ⊢
  omega
 ·simp at this ⊢
  omega
theorem sum_m (f : Int) (hf : f = 1 ∨ f = -1) (A1 A2 : Option Addr) (c1 c2 : Nat) (a b : List EntT) {n m : Nat} (ha : a.length = n) (hb0 : b.length = m) (hn : n ≤ maxLen) (hm : m ≤ maxLen) :
 CallM Tryz.prog 101 [.v (.slice A1 n c1),.v (.slice A2 m c2),I f] (fun w M=>ArgN w M A1 n 4 (a.map encE)∧ArgN w M A2 m 4 (b.map encE)) []
  (fun q : Option Addr × Nat=>.t [.v (.slice q.1 (aqi f a b).1.length q.2),I (aqi f a b).2]) (fun q=>[.row 89 4 q.1 (aqi f a b).1.length q.2 ((aqi f a b).1.map encE)]):=by
 have hn':=hn
 have hm':=hm
 unfold maxLen at hn' hm'
 rw [← rsum_eq hf]
 refine CallM.of (m:=0) Tryz.func101 rfl aza rfl rfl rfl rfl (by simp [SV.wfs,SV.wf]) fun w M π hpre=>?_
 obtain ⟨hp1,hp2⟩:=hpre
 have k1:=rVE_w A1 c1 a ha hn
 have k2:=rVE_w A2 c2 b hb0 hm
 cases hva : vE a with
 | false =>
   have e : cxv f a b=([],1):=by unfold cxv;rw [hva];rfl
   rw [hva] at k1
   rw [e]
   (conv=>whnf);repeat' (first|((with_reducible refine isC ?_);first|(((with_reducible refine isF 62 ?_;refine az2 (k1) ?_ ?_);(focus exact ArgN.mem hp1 (by decide)));conv=>whnf))|((with_reducible refine isO ?_);first|((first|(refine azh aza rfl rfl rfl ?_);intro bN|(refine azm aza rfl rfl rfl rfl rfl ?_);intro bN);conv=>whnf))|((with_reducible refine isW ?_;first|refine azg (by omega) (by omega) ?_|refine azc ?_);conv=>whnf)|((first|refine azj aza azt ?_|refine azi (by kernel_rfl) ?_|with_reducible refine azo ?_ ?_)<;>conv=>whnf)|with_reducible exact rfl|((with_reducible refine aze (by assumption) ?_);conv=>whnf)|((with_reducible refine azd ?_ ?_)<;>(intro hb;(try simp (disch:=omega) only [hbS] at hb)<;>conv=>whnf)))
   refine az3 89 4 ?_
   exact azv (none,0) [0] ⟨rfl,by simp [SV.wf,SV.wfs]⟩ ⟨⟨rfl,rfl,rfl,rfl,rfl,rfl⟩,trivial⟩ (by decide) rfl
 | true =>
 cases hvb : vE b with
 | false =>
   have e : cxv f a b=([],1):=by unfold cxv;rw [hva,hvb];rfl
   rw [hva] at k1
   rw [hvb] at k2
   rw [e]
   (conv=>whnf);repeat' (first|((with_reducible refine isC ?_);first|((first|(with_reducible refine isF 62 ?_;refine az2 (k1) ?_ ?_);(focus exact ArgN.mem hp1 (by decide))|(with_reducible refine isF 62 ?_;refine az2 (k2) ?_ ?_);(focus exact ArgN.mem hp2 (by decide)));conv=>whnf))|((with_reducible refine isO ?_);first|((first|(refine azh aza rfl rfl rfl ?_);intro bN|(refine azm aza rfl rfl rfl rfl rfl ?_);intro bN);conv=>whnf))|((with_reducible refine isW ?_;first|refine azg (by omega) (by omega) ?_|refine azc ?_);conv=>whnf)|((first|refine azj aza azt ?_|refine azi (by kernel_rfl) ?_|with_reducible refine azo ?_ ?_)<;>conv=>whnf)|with_reducible exact rfl|((with_reducible refine aze (by assumption) ?_);conv=>whnf)|((with_reducible refine azd ?_ ?_)<;>(intro hb;(try simp (disch:=omega) only [hbS] at hb)<;>conv=>whnf)))
   refine az3 89 4 ?_
   exact azv (none,0) [0] ⟨rfl,by simp [SV.wf,SV.wfs]⟩ ⟨⟨rfl,rfl,rfl,rfl,rfl,rfl⟩,trivial⟩ (by decide) rfl
 | true =>
   have la:=akx hva
   have lb:=akx hvb
   have e : cxv f a b=sumG f a b:=by unfold cxv;rw [hva,hvb];rfl
   rw [hva] at k1
   rw [hvb] at k2
   rw [e]
   have hga : ∀ y∈a,axo y=true:=fun y hy=>avi hva hy
   (conv=>whnf);repeat' (first|((with_reducible refine isC ?_);first|((first|(with_reducible refine isF 62 ?_;refine az2 (k1) ?_ ?_);(focus exact ArgN.mem hp1 (by decide))|(with_reducible refine isF 62 ?_;refine az2 (k2) ?_ ?_);(focus exact ArgN.mem hp2 (by decide)));conv=>whnf))|((with_reducible refine isO ?_);first|((refine azz 0 aza rfl rfl rfl rfl (ArgN.mem hp1 (by decide)) (by decide) ?_ ?_ ?_)<;>first|omega|(dsimp only;omega)|(intro A' c';conv=>whnf))|((first|(refine azh aza rfl rfl rfl ?_);intro bN|(refine azm aza rfl rfl rfl rfl rfl ?_);intro bN);conv=>whnf))|((with_reducible refine isW ?_;first|refine azg (by omega) (by omega) ?_|refine azc ?_);conv=>whnf)|((first|refine azj aza azt ?_|refine azi (by kernel_rfl) ?_|with_reducible refine azo ?_ ?_)<;>conv=>whnf)|with_reducible exact rfl|((with_reducible refine aze (by assumption) ?_);conv=>whnf)|((with_reducible refine azd ?_ ?_)<;>(intro hb;(try simp (disch:=omega) only [hbS] at hb)<;>conv=>whnf)))
   rw [Nat.zero_add,List.nil_append]
   generalize hR : sumG f a b=R at *
   refine azr aza (α:=Nat × Option Addr × Nat × List EntT) (fun p=>p.1≤m∧(∀ y∈p.2.2.2,axo y=true)∧p.2.2.2.length≤n + p.1∧sumG f p.2.2.2 (b.drop p.1)=R) (fun p=>[(9,I p.1),(1,.v (.slice A2 m c2)),(2,I f),(8,.v (.slice p.2.1 p.2.2.2.length p.2.2.1))]) (fun p=>[.row 89 4 p.2.1 p.2.2.2.length p.2.2.1 (p.2.2.2.map encE)]) (fun p=>m - p.1) (0,A',c',a) [0] ⟨by (try dsimp only);omega,hga,by (try dsimp only);omega,by rw [← hR];rfl⟩ ?_ ?_
   ·dsimp only
    rw [ha]
    (refine ⟨?_,?_,?_,?_⟩<;>(repeat' ((conv=>whnf);apply And.intro))<;>try (first|exact trivial|decide))
    all_goals first|rfl|exact fun _ _ h=>h|(simp [SV.wf,SV.wfs];done)|trace_state
   ·clear hR hga k1 k2 e
    rintro ⟨j,A',c',out⟩ ⟨hj,hg,hlen,hs⟩
    dsimp only at hj hg hlen hs ⊢
    by_cases hlt : j < m
    ·have hd : b.drop j=b.getD j e0 :: b.drop (j + 1):=by
      rw [List.drop_eq_getElem_cons (show j < b.length by omega)]
      simp [show j < b.length by omega]
     rw [hd] at hs
     have hxm : b.getD j e0∈b:=by simp [show j < b.length by omega]
     have hxg:=avi hvb hxm
     obtain ⟨b1,b2⟩:=cq0 hvb (i:=j) (by omega)
     have b1':=dza hf b1
     have b2':=dza hf b2
     have hbo : ∀ i,i < out.length→(-2000000000000000000≤(out.getD i e0).2.2.1∧(out.getD i e0).2.2.1≤2000000000000000000)∧(-2000000000000000000≤(out.getD i e0).2.2.2∧(out.getD i e0).2.2.2≤2000000000000000000):=by
      intro i hi
      have:=cnt_bd (bqh (hg (out.getD i e0) (by simp [hi])))
      omega
     have kp:=put_m A' c' out ((b.getD j e0).1,(b.getD j e0).2.1,f * (b.getD j e0).2.2.1,f * (b.getD j e0).2.2.2) (n:=out.length) rfl (by omega) hbo (by dsimp only;omega)
     have hall:=put_all hf hg hxg
     have hpl:=putE_len out (mulE f (b.getD j e0))
     have hm1 : mulE f (b.getD j e0)=((b.getD j e0).1,(b.getD j e0).2.1,f * (b.getD j e0).2.2.1,f * (b.getD j e0).2.2.2):=rfl
     have hs' : (if (putE out (mulE f (b.getD j e0))).2 then sumG f (putE out (mulE f (b.getD j e0))).1 (b.drop (j + 1)) else ([],2))=R:=hs
     rw [hm1] at hs' hall hpl
     dsimp only at kp
     clear hs hm1 hd
     generalize putE out ((b.getD j e0).1,(b.getD j e0).2.1,f * (b.getD j e0).2.2.1,f * (b.getD j e0).2.2.2)=r at *
     (conv=>whnf);repeat' (first|((with_reducible refine isC ?_);first|(((with_reducible refine isF 137 ?_;refine azl (kp) [] ?_ ?_ ?_ ?_ ?_);(focus exact rfl);(focus exact trivial);(focus decide);(focus exact fun σ fp w hm=>ArgN.row 0 rfl (m:=0) (fun j hj=>by omega) σ fp w hm);intro q;obtain ⟨A_1,c_1⟩:=q;dsimp only);conv=>whnf))|((with_reducible refine isV ?_);first|((first|refine azf aza rfl (ArgN.mem hp2 (by decide)) rfl ?_ ?_ ?_|(with_reducible refine azq ?_);refine azw _ _ (e0) aza rfl rfl rfl rfl (ArgN.mem hp2 (by decide)) ?_ ?_ ?_|refine azy _ _ (e0) aza rfl rfl rfl rfl (ArgN.mem hp2 (by decide)) ?_ ?_ ?_)<;>first|rfl|omega|with_reducible refine isP ?_|conv=>whnf)|((first|(with_reducible refine az1 ?_);refine az9 _ _ (e0) _ aza rfl rfl rfl (ArgN.mem hp2 (by decide)) ?_ ?_ rfl rfl ?_|refine aqd _ _ (e0) _ aza rfl rfl rfl (ArgN.mem hp2 (by decide)) ?_ ?_ rfl rfl ?_)<;>first|omega|with_reducible refine isP ?_|conv=>whnf)|((first|(with_reducible refine az1 ?_);refine az4 _ _ (e0) _ aza rfl rfl rfl (ArgN.mem hp2 (by decide)) ?_ ?_ rfl ?_|refine az8 _ _ (e0) _ aza rfl rfl rfl (ArgN.mem hp2 (by decide)) ?_ ?_ rfl ?_)<;>first|omega|(simp;omega)|with_reducible refine isP ?_|conv=>whnf)|((refine azf aza rfl (ArgN.mem hp2 (by decide)) rfl ?_ ?_ ?_)<;>first|rfl|omega|with_reducible refine isP ?_|conv=>whnf))|((with_reducible refine isO ?_);first|((first|(refine azh aza rfl rfl rfl ?_);intro bN|(refine azm aza rfl rfl rfl rfl rfl ?_);intro bN);conv=>whnf))|((with_reducible refine isW ?_;first|refine azg (by omega) (by omega) ?_|refine azc ?_);conv=>whnf)|((first|refine azj aza azt ?_|refine azi (by kernel_rfl) ?_|with_reducible refine azo ?_ ?_)<;>conv=>whnf)|with_reducible exact rfl|((with_reducible refine aze (by assumption) ?_);conv=>whnf)|((with_reducible refine azd ?_ ?_)<;>(intro hb;(try simp (disch:=omega) only [hbS] at hb)<;>conv=>whnf)))
     all_goals try (exfalso;omega)
     ·rw [if_neg (by simp [hb])] at hs'
      rw [← hs']
      refine az3 89 4 ?_
      exact azv (none,0) [2] ⟨rfl,by simp [SV.wf,SV.wfs]⟩ ⟨⟨rfl,rfl,rfl,rfl,rfl,rfl⟩,trivial⟩ (by decide) rfl
     ·rw [if_pos hb] at hs'
      refine ⟨(j + 1,A_1,c_1,r.1),[1],⟨by (try dsimp only);omega,hall hb,by (try dsimp only);omega,hs'⟩,?_,by (try dsimp only);omega⟩
      dsimp only
      (refine ⟨?_,?_,?_,?_⟩<;>(repeat' ((conv=>whnf);apply And.intro))<;>try (first|exact trivial|decide))
      all_goals first|rfl|exact fun _ _ h=>h|(simp [SV.wf,SV.wfs];done)|trace_state
    ·obtain rfl : j=m:=by omega
     rw [List.drop_of_length_le (by omega)] at hs
     have hs' : (if 1048576 < out.length then ([],6) else (out,0))=R:=hs
     clear hs
     (conv=>whnf);repeat' (first|((with_reducible refine isO ?_);first|((first|(refine azh aza rfl rfl rfl ?_);intro bN|(refine azm aza rfl rfl rfl rfl rfl ?_);intro bN);conv=>whnf))|((with_reducible refine isW ?_;first|refine azg (by omega) (by omega) ?_|refine azc ?_);conv=>whnf)|((first|refine azj aza azt ?_|refine azi (by kernel_rfl) ?_|with_reducible refine azo ?_ ?_)<;>conv=>whnf)|with_reducible exact rfl|((with_reducible refine aze (by assumption) ?_);conv=>whnf)|((with_reducible refine azd ?_ ?_)<;>(intro hb;(try simp (disch:=omega) only [hbS] at hb)<;>conv=>whnf)))
     all_goals try (exfalso;omega)
     ·rw [if_pos (by omega)] at hs'
      rw [← hs']
      refine az3 89 4 ?_
      exact azv (none,0) [1] ⟨rfl,by simp [SV.wf,SV.wfs]⟩ ⟨⟨rfl,rfl,rfl,rfl,rfl,rfl⟩,trivial⟩ (by decide) rfl
     ·rw [if_neg (by omega)] at hs'
      rw [← hs']
      exact azv (A',c') [0] ⟨rfl,by simp [SV.wf,SV.wfs]⟩ ⟨⟨rfl,rfl,rfl,rfl,rfl,rfl⟩,trivial⟩ (by decide) rfl
theorem rAdd_m (A1 A2 : Option Addr) (c1 c2 : Nat) (a b : List EntT) {n m : Nat} (ha : a.length = n) (hb0 : b.length = m) (hn : n ≤ maxLen) (hm : m ≤ maxLen) :
 CallM Tryz.prog 56 [.v (.slice A1 n c1),.v (.slice A2 m c2)] (fun w M=>ArgN w M A1 n 4 (a.map encE)∧ArgN w M A2 m 4 (b.map encE)) []
  (fun q : Option Addr × Nat=>.t [.v (.slice q.1 (aqi 1 a b).1.length q.2),I (aqi 1 a b).2]) (fun q=>[.row 89 4 q.1 (aqi 1 a b).1.length q.2 ((aqi 1 a b).1.map encE)]):=by
 have hc:=sum_m 1 (.inl rfl) A1 A2 c1 c2 a b ha hb0 hn hm
 generalize aqi 1 a b=r at *
 refine CallM.of (m:=0) Tryz.func56 rfl aza rfl rfl rfl rfl (by simp [SV.wfs,SV.wf]) fun w M π hpre=>?_
 obtain ⟨hp1,hp2⟩:=hpre
 (conv=>whnf);repeat' (first|with_reducible exact rfl|((with_reducible refine aze (by assumption) ?_);conv=>whnf)|((with_reducible refine azd ?_ ?_)<;>(intro hb;(try simp (disch:=omega) only [hbS] at hb)<;>conv=>whnf)))
 refine azl hc [] rfl trivial (by decide) (fun σ fp w hm=>⟨ArgN.on hp1 (by decide) (m:=0) (fun j hj=>by omega) σ fp w hm,ArgN.on hp2 (by decide) (m:=0) (fun j hj=>by omega) σ fp w hm⟩) ?_
 intro q
 (conv=>whnf);repeat' (first|with_reducible exact rfl|((with_reducible refine aze (by assumption) ?_);conv=>whnf)|((with_reducible refine azd ?_ ?_)<;>(intro hb;(try simp (disch:=omega) only [hbS] at hb)<;>conv=>whnf)))
 exact azv q [0] ⟨rfl,by simp [SV.wf,SV.wfs]⟩ ⟨⟨rfl,rfl,rfl,rfl,rfl,rfl⟩,trivial⟩ (by decide) rfl
end Go.Proofs.YtlnplelandimeaaGreat.En
end
