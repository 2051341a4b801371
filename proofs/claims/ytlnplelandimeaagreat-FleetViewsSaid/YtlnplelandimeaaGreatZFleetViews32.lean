import Derived.Test.YtlnplelandimeaaGreatZFleetViews31
import Derived.Test.YtlnplelandimeaaGreatZFleetViews12
import Derived.Test.YtlnplelandimeaaGreatZFleetViews08
import Derived.Test.YtlnplelandimeaaGreatZFleetViews29
set_option linter.all false
section
namespace Go.Proofs.YtlnplelandimeaaGreat.En
open Go.RowKit
set_option maxRecDepth 100000
theorem bjy (b : Nat) (c : CoT) (S : SnT) (x : RelT) (hx : aq1 x = true) : CallM Tryz.prog 41 [pR b, relX x] (fun _ _ => True) [stO b c S allT] (fun _ : Nat → Nat → Nat => I 0) (fun rp => [stO b { c with rp := rp } (axe S x) allT]) := by
 have h:=bq9 b c S x
 rw [hx] at h
 exact h
set_option maxHeartbeats 8000000 in
theorem cxr : PureX Tryz.prog 11 [] (B true) := by
 refine PureX.of Tryz.func11 rfl aza rfl rfl rfl (by simp [SV.wfs,SV.wf]) (by simp [SV.wfs,SV.wf]) fun w=>?_
 (conv=>whnf);repeat' (first|((with_reducible refine isC ?_);first|(((with_reducible refine isF 40 ?_);((refine azl (cvz 2 (by decide)) [] rfl trivial (by decide) (fun _ _ _ _=>trivial) ?_;rintro ⟨b,c⟩;dsimp only)));conv=>whnf)|((first|with_reducible refine azb (nMap34_x) ?_|with_reducible refine azb (dzn) ?_)<;>first|omega|with_reducible refine isP ?_|conv=>whnf))|((with_reducible refine isO ?_);first|((first|(refine azh aza rfl rfl rfl ?_);intro bN|(refine azm aza rfl rfl rfl rfl rfl ?_);intro bN);conv=>whnf))|with_reducible exact rfl|((with_reducible refine aze (by assumption) ?_);conv=>whnf)|((with_reducible refine azd ?_ ?_)<;>(intro hb;(try simp (disch:=omega) only [hbS] at hb)<;>conv=>whnf)))
 refine azl (bjy b c (sn0 2) (3,1,1,2,0) (by decide)) [0] rfl ⟨fun _ _ h=>h,trivial⟩ (by decide) (fun _ _ _ _=>trivial) ?_
 intro rp1
 (conv=>whnf);repeat' (first|((with_reducible refine isO ?_);first|((first|(refine azh aza rfl rfl rfl ?_);intro bN|(refine azm aza rfl rfl rfl rfl rfl ?_);intro bN);conv=>whnf))|with_reducible exact rfl|((with_reducible refine aze (by assumption) ?_);conv=>whnf)|((with_reducible refine azd ?_ ?_)<;>(intro hb;(try simp (disch:=omega) only [hbS] at hb)<;>conv=>whnf)))
 refine azl (bjy b { c with rp:=rp1 } aw1 (1,3,2,5,5) (by decide)) [0] rfl ⟨fun _ _ h=>h,trivial⟩ (by decide) (fun _ _ _ _=>trivial) ?_
 intro rp2
 (conv=>whnf);repeat' (first|((with_reducible refine isO ?_);first|((first|(refine azh aza rfl rfl rfl ?_);intro bN|(refine azm aza rfl rfl rfl rfl rfl ?_);intro bN);conv=>whnf))|with_reducible exact rfl|((with_reducible refine aze (by assumption) ?_);conv=>whnf)|((with_reducible refine azd ?_ ?_)<;>(intro hb;(try simp (disch:=omega) only [hbS] at hb)<;>conv=>whnf)))
 refine azl (cv0 b { c with rp:=rp2 } aw2 2 (by decide) rfl 0 _ _ [(0,100)] rfl (by decide)) [0] rfl ⟨fun _ _ h=>h,trivial⟩ (by decide) (ArgN.row 1 rfl (m:=1) (r:=[0]) (fun j hj=>by rcases (by omega : j=0) with rfl;simp)) ?_
 intro u1
 rw [show putC 0 [(0,100)]=0 by decide]
 (conv=>whnf);repeat' (first|((with_reducible refine isO ?_);first|((first|(refine azh aza rfl rfl rfl ?_);intro bN|(refine azm aza rfl rfl rfl rfl rfl ?_);intro bN);conv=>whnf))|with_reducible exact rfl|((with_reducible refine aze (by assumption) ?_);conv=>whnf)|((with_reducible refine azd ?_ ?_)<;>(intro hb;(try simp (disch:=omega) only [hbS] at hb)<;>conv=>whnf)))
 refine azl (bq8 b { c with rp:=rp2 } aw3 2 (by decide) rfl 0 (1,false,32,32,0)) [0] rfl ⟨fun _ _ h=>h,trivial⟩ (by decide) (fun _ _ _ _=>trivial) ?_
 intro u2
 rw [show plcC 0 (1,false,32,32,0)=0 by decide]
 have kr:=avd b { c with rp:=rp2 } aw4 allT
 rw [aw_pairs] at kr
 (conv=>whnf);repeat' (first|((with_reducible refine isO ?_);first|((first|(refine azh aza rfl rfl rfl ?_);intro bN|(refine azm aza rfl rfl rfl rfl rfl ?_);intro bN);conv=>whnf))|with_reducible exact rfl|((with_reducible refine aze (by assumption) ?_);conv=>whnf)|((with_reducible refine azd ?_ ?_)<;>(intro hb;(try simp (disch:=omega) only [hbS] at hb)<;>conv=>whnf)))
 refine azl kr [0] rfl ⟨fun _ _ h=>h,trivial⟩ (by decide) (fun _ _ _ _=>trivial) ?_
 rintro ⟨A1,d1⟩
 have km:=bw7 b { c with rp:=rp2 } aw4 2 rfl (by decide)
 rw [aw_view4] at km
 (conv=>whnf);repeat' (first|((with_reducible refine isO ?_);first|((first|(refine azh aza rfl rfl rfl ?_);intro bN|(refine azm aza rfl rfl rfl rfl rfl ?_);intro bN);conv=>whnf))|with_reducible exact rfl|((with_reducible refine aze (by assumption) ?_);conv=>whnf)|((with_reducible refine azd ?_ ?_)<;>(intro hb;(try simp (disch:=omega) only [hbS] at hb)<;>conv=>whnf)))
 refine azl km [0] rfl ⟨fun _ _ h=>h,trivial⟩ (by decide) (fun _ _ _ _=>trivial) ?_
 rintro ⟨A2,d2⟩
 have kv:=cv6 b { c with rp:=rp2 } aw4 5 (by decide)
 rw [aw_view5] at kv
 (conv=>whnf);repeat' (first|((with_reducible refine isO ?_);first|((first|(refine azh aza rfl rfl rfl ?_);intro bN|(refine azm aza rfl rfl rfl rfl rfl ?_);intro bN);conv=>whnf))|with_reducible exact rfl|((with_reducible refine aze (by assumption) ?_);conv=>whnf)|((with_reducible refine azd ?_ ?_)<;>(intro hb;(try simp (disch:=omega) only [hbS] at hb)<;>conv=>whnf)))
 refine azl kv [0] rfl ⟨fun _ _ h=>h,trivial⟩ (by decide) (fun _ _ _ _=>trivial) ?_
 rintro ⟨A3,d3⟩
 (conv=>whnf);repeat' (first|((with_reducible refine isO ?_);first|((first|(refine azh aza rfl rfl rfl ?_);intro bN|(refine azm aza rfl rfl rfl rfl rfl ?_);intro bN);conv=>whnf))|with_reducible exact rfl|((with_reducible refine aze (by assumption) ?_);conv=>whnf)|((with_reducible refine azd ?_ ?_)<;>(intro hb;(try simp (disch:=omega) only [hbS] at hb)<;>conv=>whnf)))
 refine azl (bjy b { c with rp:=rp2 } aw4 (5,2,0,1,0) (by decide)) [0] rfl ⟨fun _ _ h=>h,trivial⟩ (by decide) (fun _ _ _ _=>trivial) ?_
 intro rp3
 have kw:=cv6 b { c with rp:=rp3 } aw5 5 (by decide)
 rw [aw_view6] at kw
 (conv=>whnf);repeat' (first|((with_reducible refine isO ?_);first|((first|(refine azh aza rfl rfl rfl ?_);intro bN|(refine azm aza rfl rfl rfl rfl rfl ?_);intro bN);conv=>whnf))|with_reducible exact rfl|((with_reducible refine aze (by assumption) ?_);conv=>whnf)|((with_reducible refine azd ?_ ?_)<;>(intro hb;(try simp (disch:=omega) only [hbS] at hb)<;>conv=>whnf)))
 refine azl kw [0] rfl ⟨fun _ _ h=>h,trivial⟩ (by decide) (fun _ _ _ _=>trivial) ?_
 rintro ⟨A4,d4⟩
 (conv=>whnf);repeat' (first|((with_reducible refine isC ?_);first|((first|(with_reducible refine isF 21 ?_);((refine azl (cv5 b { c with rp:=rp3 } aw5) [0] rfl ⟨fun _ _ h=>h,trivial⟩ (by decide) (fun _ _ _ _=>trivial) ?_;intro rb))|(with_reducible refine isF 37 ?_);(first|(refine azl (fAtlas_m b { c with rp:=rp3 } aw5 2 (by decide)) [0] rfl ⟨fun _ _ h=>h,trivial⟩ (by decide) (fun _ _ _ _=>trivial) ?_;rintro ⟨⟨⟨x1,x2⟩,⟨ma,qa⟩,oka,aba⟩,ga⟩;dsimp only)|(refine azl (dzl b { c with rp:=rp3 } aw5 8 (by decide)) [0] rfl ⟨fun _ _ h=>h,trivial⟩ (by decide) (fun _ _ _ _=>trivial) ?_;intro u))|(with_reducible refine isF 39 ?_);((refine azl (fMe_m b { c with rp:=rp3 } aw5) [0] rfl ⟨fun _ _ h=>h,trivial⟩ (by decide) (fun _ _ _ _=>trivial) ?_;intro u)));conv=>whnf))|((with_reducible refine isV ?_);first|((first|refine azf aza rfl (ArgSl.row 2 rfl) rfl ?_ ?_ ?_|(with_reducible refine azq ?_);refine azw _ _ (r0) aza rfl rfl rfl rfl (ArgSl.row 2 rfl) ?_ ?_ ?_|refine azy _ _ (r0) aza rfl rfl rfl rfl (ArgSl.row 2 rfl) ?_ ?_ ?_|refine azf aza rfl (ArgSl.row 3 rfl) rfl ?_ ?_ ?_|(with_reducible refine azq ?_);refine azw _ _ (e0) aza rfl rfl rfl rfl (ArgSl.row 3 rfl) ?_ ?_ ?_|refine azy _ _ (e0) aza rfl rfl rfl rfl (ArgSl.row 3 rfl) ?_ ?_ ?_|refine azf aza rfl (ArgSl.row 5 rfl) rfl ?_ ?_ ?_|(with_reducible refine azq ?_);refine azw _ _ (e0) aza rfl rfl rfl rfl (ArgSl.row 5 rfl) ?_ ?_ ?_|refine azy _ _ (e0) aza rfl rfl rfl rfl (ArgSl.row 5 rfl) ?_ ?_ ?_)<;>first|rfl|omega|with_reducible refine isP ?_|conv=>whnf))|((with_reducible refine isO ?_);first|((first|(refine azh aza rfl rfl rfl ?_);intro bN|(refine azm aza rfl rfl rfl rfl rfl ?_);intro bN);conv=>whnf))|with_reducible exact rfl|((with_reducible refine aze (by assumption) ?_);conv=>whnf)|((with_reducible refine azd ?_ ?_)<;>(intro hb;(try simp (disch:=omega) only [hbS] at hb)<;>conv=>whnf)))
 all_goals try decide
 have ki:=Ids_m x1 x2 ma qa
 rw [show idsF (hasM ma qa) 64=[0] by rw [cj0];show idsF (hasA (absM (ma,qa))) 64=[0];rw [aba];exact aw_ids34] at ki
 refine azl ki [10,11,12] rfl ⟨⟨rfl,rfl,by simp [SV.wf,SV.wfs]⟩,fun _ _ h=>h,fun _ _ h=>h,trivial⟩ (by decide) (fun _ _ _ _=>trivial) ?_
 rintro ⟨A6,d6⟩
 (conv=>whnf);repeat' (first|((with_reducible refine isO ?_);first|((first|(refine azh aza rfl rfl rfl ?_);intro bN|(refine azm aza rfl rfl rfl rfl rfl ?_);intro bN);conv=>whnf))|with_reducible exact rfl|((with_reducible refine aze (by assumption) ?_);conv=>whnf)|((with_reducible refine azd ?_ ?_)<;>(intro hb;(try simp (disch:=omega) only [hbS] at hb)<;>conv=>whnf)))
 refine az2 (Ints_w A6 _ d6 _ [0] rfl (by decide)) (fun σ fp w hm=>⟨ArgSl.row 13 rfl σ fp w hm,ArgSl.row 14 rfl σ fp w hm⟩) ?_
 (conv=>whnf);repeat' (first|((with_reducible refine isO ?_);first|((first|(refine azh aza rfl rfl rfl ?_);intro bN|(refine azm aza rfl rfl rfl rfl rfl ?_);intro bN);conv=>whnf))|with_reducible exact rfl|((with_reducible refine aze (by assumption) ?_);conv=>whnf)|((with_reducible refine azd ?_ ?_)<;>(intro hb;(try simp (disch:=omega) only [hbS] at hb)<;>conv=>whnf)))
 exact azk rfl rfl trivial
theorem ArgSl.of_SlO {w : World} {A : Option Addr} {n C : Nat} {V : Nat → Nat → Int} {α : Type} (enc : α → List Value) (f : Nat → α) (h : SlO w A n C V) (hC : 0 < C) (he : ∀ i, enc (f i) = (List.range C).map fun j => Value.int .i64 (V i j)) : ArgSl w A n C (((List.range n).map f).map enc) := by
 refine ⟨by simp,fun e hm=>?_,fun e hm v hv=>?_,fun hn=>?_⟩
 ·obtain ⟨x,hx,rfl⟩:=List.mem_map.1 hm
  obtain ⟨i,_,rfl⟩:=List.mem_map.1 hx
  simp [he]
 ·obtain ⟨x,hx,rfl⟩:=List.mem_map.1 hm
  obtain ⟨i,_,rfl⟩:=List.mem_map.1 hx
  rw [he] at hv
  obtain ⟨j,_,rfl⟩:=List.mem_map.1 hv
  rfl
 ·rcases h with h|⟨a,rfl,h⟩
  ·exact (hn h).elim
  ·obtain ⟨b,o,s⟩:=a
   have h0:=(h 0 (by omega) 0 hC).1
   have hs : s=none:=by
    simp only [Nat.zero_mul,Addr.add,if_true] at h0
    unfold World.cell? at h0
    cases s with
    | none=>rfl
    | some s =>
      exfalso
      simp only [Option.isSome_some,if_true] at h0
      revert h0
      split<;>intro h0<;>cases h0
   subst hs
   refine ⟨b,o,rfl,fun i e hi j v hj=>?_⟩
   rw [List.getElem?_map,List.getElem?_map] at hi
   by_cases hin : i < n
   ·rw [List.getElem?_range hin] at hi
    simp only [Option.map_some,Option.some.injEq] at hi
    subst hi
    rw [he,List.getElem?_map] at hj
    by_cases hjn : j < C
    ·rw [List.getElem?_range hjn] at hj
     simp only [Option.map_some,Option.some.injEq] at hj
     subst hj
     have:=(h i hin j hjn).1
     rw [Addr.add_mid,Addr.add_mid] at this
     exact this
    ·rw [List.getElem?_eq_none (by simpa using hjn)] at hj
     cases hj
   ·rw [List.getElem?_eq_none (by simpa using hin)] at hi
    cases hi
abbrev FOp := Int × Int × Int × Int × SlT × PlT × RelT
def encFO (o : FOp) : List Value := [.int .i64 o.1, .int .i64 o.2.1, .int .i64 o.2.2.1, .int .i64 o.2.2.2.1, .slice o.2.2.2.2.1.1 o.2.2.2.2.1.2.2.length o.2.2.2.2.1.2.1, .int .i64 o.2.2.2.2.2.1.1, .bool o.2.2.2.2.2.1.2.1, .int .i64 o.2.2.2.2.2.1.2.2.1, .int .i64 o.2.2.2.2.2.1.2.2.2.1, .int .i64 o.2.2.2.2.2.1.2.2.2.2, .int .i64 o.2.2.2.2.2.2.1, .int .i64 o.2.2.2.2.2.2.2.1, .int .i64 o.2.2.2.2.2.2.2.2.1, .int .i64 o.2.2.2.2.2.2.2.2.2.1, .int .i64 o.2.2.2.2.2.2.2.2.2.2]
def fo0 : FOp := (0, 0, 0, 0, (none, 0, []), (0, false, 0, 0, 0), (0, 0, 0, 0, 0))
abbrev foX (o : FOp) : SV := .a [I o.1, I o.2.1, I o.2.2.1, I o.2.2.2.1, .v (.slice o.2.2.2.2.1.1 o.2.2.2.2.1.2.2.length o.2.2.2.2.1.2.1), I o.2.2.2.2.2.1.1, B o.2.2.2.2.2.1.2.1, I o.2.2.2.2.2.1.2.2.1, I o.2.2.2.2.2.1.2.2.2.1, I o.2.2.2.2.2.1.2.2.2.2, I o.2.2.2.2.2.2.1, I o.2.2.2.2.2.2.2.1, I o.2.2.2.2.2.2.2.2.1, I o.2.2.2.2.2.2.2.2.2.1, I o.2.2.2.2.2.2.2.2.2.2]
def opsF (w : World) (A : Option Addr) (n : Nat) (l : List FOp) : Prop := ArgSl w A n 15 (l.map encFO) ∧ ∀ o ∈ l, ArgSl w o.2.2.2.2.1.1 o.2.2.2.2.1.2.2.length 2 (o.2.2.2.2.1.2.2.map encBm) ∧ o.2.2.2.2.1.2.2.length ≤ maxLen
theorem opsF.op {w : World} {A : Option Addr} {n : Nat} {l : List FOp} (h : opsF w A n l) {o : FOp} (ho : o ∈ l) : ArgN w (fun _ => False) o.2.2.2.2.1.1 o.2.2.2.2.1.2.2.length 2 (o.2.2.2.2.1.2.2.map encBm) := ArgN.of (h.2 o ho).1 fun _ => id
theorem opsF.few {C : Ctx} {ob : List OB} {A : Option Addr} {n : Nat} {l : List FOp} (h : opsF C.w0 A n l) (hM : C.M = fun _ => False) : ∀ σ fp w, Mem C σ fp ob w → ArgSl w A n 15 (l.map encFO) ∧ ∀ o ∈ l, o.2.2.2.2.1.2.2.length ≤ maxLen :=
 fun σ fp w hm=>⟨h.1.mem (by decide) hM σ fp w hm,fun o ho=>(h.2 o ho).2⟩
def lenG (o : FOp) : Int := min (o.2.2.2.2.1.2.2.length : Int) 40
def fewG (l : List FOp) : Bool := decide (l.length ≤ 16) && decide (((l.take 40).map lenG).sum ≤ 40)
theorem cxs {l : List FOp} {k : Nat} (hk : k < l.length) : ((l.take (k + 1)).map lenG).sum = ((l.take k).map lenG).sum + lenG (l.getD k fo0) := by
 have e : l.getD k fo0=l[k]:=by simp [hk]
 rw [List.take_succ_eq_append_getElem hk,e,List.map_append,List.sum_append]
 simp only [List.map_cons,List.map_nil,List.sum_cons,List.sum_nil,Int.add_zero]
theorem fewG_bd (l : List FOp) : ∀ k : Nat, 0 ≤ ((l.take k).map lenG).sum ∧ ((l.take k).map lenG).sum ≤ 40 * k := by
 intro k
 induction k with
 | zero=>simp
 | succ k ih =>
   by_cases hk : k < l.length
   ·rw [cxs hk]
    unfold lenG at *
    omega
   ·rw [List.take_of_length_le (by omega)]
    rw [List.take_of_length_le (by omega)] at ih
    omega
theorem few34_w (A : Option Addr) (c : Nat) (l : List FOp) {n : Nat} (hl : l.length = n) (hn : n ≤ maxLen) :
 CallW Tryz.prog 12 [.v (.slice A n c)] (fun w=>ArgSl w A n 15 (l.map encFO)∧∀ o∈l,o.2.2.2.2.1.2.2.length≤maxLen) (B (fewG l)):=by
 unfold maxLen at hn
 refine CallW.of Tryz.func12 rfl aza rfl rfl rfl (by simp [SV.wfs,SV.wf]) (by simp [SV.wfs,SV.wf]) fun w hpre=>?_
 obtain ⟨hpre,hlen⟩:=hpre
 (conv=>whnf);repeat' (first|((with_reducible refine isW ?_;first|refine azg (by omega) (by omega) ?_|refine azc ?_);conv=>whnf)|with_reducible exact rfl|((with_reducible refine aze (by assumption) ?_);conv=>whnf)|((with_reducible refine azd ?_ ?_)<;>(intro hb;(try simp (disch:=omega) only [hbS] at hb)<;>conv=>whnf)))
 refine azr aza (α:=Nat) (fun k=>k≤n∧k≤40) (fun k=>[(0,.v (.slice A n c)),(3,I ((l.take k).map lenG).sum),(4,I k)]) (fun _=>[]) (fun k=>n - k) 0 [] ⟨Nat.zero_le _,Nat.zero_le _⟩ ?_ ?_
 ·(refine ⟨?_,?_,?_,?_⟩<;>(repeat' ((conv=>whnf);apply And.intro))<;>try (first|exact trivial|decide))
  all_goals first|rfl|exact fun _ _ h=>h|simp [SV.wf,SV.wfs]
 ·rintro k ⟨hk,hk2⟩
  have hbk:=fewG_bd l k
  by_cases hlt : k < n
  ·by_cases hlt2 : k < 40
   ·have hnx:=cxs (l:=l) (k:=k) (by omega)
    have hol:=hlen (l.getD k fo0) (by simp [show k < l.length by omega])
    unfold maxLen at hol
    have hlf : lenG (l.getD k fo0)=min ((l.getD k fo0).2.2.2.2.1.2.2.length : Int) 40:=rfl
    rw [hlf] at hnx
    generalize ((l.take k).map lenG).sum=S at *
    (conv=>whnf);repeat' (first|((with_reducible refine isV ?_);first|((first|(with_reducible refine az1 ?_);refine az4 _ _ (fo0) _ aza rfl rfl rfl (hpre.mem (by decide) rfl) ?_ ?_ rfl ?_|refine az8 _ _ (fo0) _ aza rfl rfl rfl (hpre.mem (by decide) rfl) ?_ ?_ rfl ?_)<;>first|omega|(simp;omega)|with_reducible refine isP ?_|conv=>whnf)|((refine azf aza rfl (hpre.mem (by decide) rfl) rfl ?_ ?_ ?_)<;>first|rfl|omega|with_reducible refine isP ?_|conv=>whnf))|((with_reducible refine isW ?_;first|refine azg (by omega) (by omega) ?_|refine azc ?_);conv=>whnf)|with_reducible exact rfl|((with_reducible refine aze (by assumption) ?_);conv=>whnf)|((with_reducible refine azd ?_ ?_)<;>(intro hb;(try simp (disch:=omega) only [hbS] at hb)<;>conv=>whnf)))
    all_goals try (exfalso;omega)
    refine ⟨k + 1,[],⟨by (try dsimp only);omega,by (try dsimp only);omega⟩,?_,by (try dsimp only);omega⟩
    dsimp only
    rw [hnx]
    (refine ⟨?_,?_,?_,?_⟩<;>(repeat' ((conv=>whnf);apply And.intro))<;>try (first|exact trivial|decide))
    all_goals first|rfl|exact fun _ _ h=>h|(simp [SV.wf,SV.wfs];done)|trace_state
   ·obtain rfl : k=40:=by omega
    have hf : fewG l=(decide (l.length≤16) && decide (((l.take 40).map lenG).sum≤40)):=rfl
    rw [hf]
    generalize ((l.take 40).map lenG).sum=S at *
    (conv=>whnf);repeat' (first|((with_reducible refine isW ?_;first|refine azg (by omega) (by omega) ?_|refine azc ?_);conv=>whnf)|with_reducible exact rfl|((with_reducible refine aze (by assumption) ?_);conv=>whnf)|((with_reducible refine azd ?_ ?_)<;>(intro hb;(try simp (disch:=omega) only [hbS] at hb)<;>conv=>whnf)))
    all_goals try (exfalso;omega)
    all_goals refine azk rfl (B_eq ?_) trivial
    all_goals simp
    all_goals omega
  ·obtain rfl : k=n:=by omega
   have hf : fewG l=(decide (l.length≤16) && decide (((l.take k).map lenG).sum≤40)):=by
    unfold fewG
    rw [List.take_of_length_le (show l.length≤40 by omega),List.take_of_length_le (by omega)]
   rw [hf]
   generalize ((l.take k).map lenG).sum=S at *
   (conv=>whnf);repeat' (first|((with_reducible refine isW ?_;first|refine azg (by omega) (by omega) ?_|refine azc ?_);conv=>whnf)|with_reducible exact rfl|((with_reducible refine aze (by assumption) ?_);conv=>whnf)|((with_reducible refine azd ?_ ?_)<;>(intro hb;(try simp (disch:=omega) only [hbS] at hb)<;>conv=>whnf)))
   all_goals try (exfalso;omega)
   all_goals refine azk rfl (B_eq ?_) trivial
   all_goals simp
   all_goals omega
end Go.Proofs.YtlnplelandimeaaGreat.En
end
section
namespace Go.Proofs.YtlnplelandimeaaGreat
open Go.ChangeShapes Go.WideShapes Go.ChangeAt Go.RowKit Go.Joins Go.Deep
set_option maxRecDepth 100000
theorem opF_cells {H : Type} {enc : TypeId × Value → H} {w : World} {base : Nat} {spare : Nat → Bool} {held : Bool} {fuel : Nat} {cs : List Value} {x : DataW H × List MemPlace} (hc : cs.length = 15) (h : DataW.trod enc Tryz.prog w base spare held fuel 41 cs = some x) :
 ∃ o : En.FOp,cs=En.encFO o∧En.ArgSl w o.2.2.2.2.1.1 o.2.2.2.2.1.2.2.length 2 (o.2.2.2.2.1.2.2.map En.encBm)∧o.2.2.2.2.1.2.2.length≤maxLen:=by
 have hC : cs.length=Tryz.prog.cellsOf 41:=hc.trans (by kernel_rfl)
 have one : ∀ j,j < 15→(cs.drop j).take 1=[cs.getD j undef]:=fun j hj=>by
  have e : cs.getD j undef=cs[j]'(by omega):=by simp [show j < cs.length by omega]
  rw [e,List.drop_eq_getElem_cons (by omega)]
  rfl
 have hint : ∀ j,j < 15→cw0 Tryz.prog 4 41 j=some 3→∃ a : Int,cs.getD j undef = .int .i64 a:=fun j hj hl=>by
  obtain ⟨f',y,hy⟩:=aw9 4 hl hC h
  obtain ⟨a,ha,_⟩:=DataW.trod_int Tryz.underlying3 hy
  rw [one j hj] at ha
  exact ⟨a,by simpa using ha⟩
 have hbool : ∀ j,j < 15→cw0 Tryz.prog 4 41 j=some 4→∃ a : Bool,cs.getD j undef = .bool a:=fun j hj hl=>by
  obtain ⟨f',y,hy⟩:=aw9 4 hl hC h
  obtain ⟨a,ha,_⟩:=DataW.trod_bool Tryz.underlying4 hy
  rw [one j hj] at ha
  exact ⟨a,by simpa using ha⟩
 obtain ⟨kd,h0⟩:=hint 0 (by decide) (by kernel_rfl)
 obtain ⟨wh,h1⟩:=hint 1 (by decide) (by kernel_rfl)
 obtain ⟨fr,h2⟩:=hint 2 (by decide) (by kernel_rfl)
 obtain ⟨id,h3⟩:=hint 3 (by decide) (by kernel_rfl)
 obtain ⟨v,h5⟩:=hint 5 (by decide) (by kernel_rfl)
 obtain ⟨g,h6⟩:=hbool 6 (by decide) (by kernel_rfl)
 obtain ⟨px,h7⟩:=hint 7 (by decide) (by kernel_rfl)
 obtain ⟨py,h8⟩:=hint 8 (by decide) (by kernel_rfl)
 obtain ⟨ph,h9⟩:=hint 9 (by decide) (by kernel_rfl)
 obtain ⟨ra,h10⟩:=hint 10 (by decide) (by kernel_rfl)
 obtain ⟨rb,h11⟩:=hint 11 (by decide) (by kernel_rfl)
 obtain ⟨rq,h12⟩:=hint 12 (by decide) (by kernel_rfl)
 obtain ⟨rx,h13⟩:=hint 13 (by decide) (by kernel_rfl)
 obtain ⟨ry,h14⟩:=hint 14 (by decide) (by kernel_rfl)
 have hsl : cw0 Tryz.prog 4 41 4=some 31:=by kernel_rfl
 obtain ⟨f',y,hy⟩:=aw9 4 hsl hC h
 rw [one 4 (by decide)] at hy
 have hcs : cs=[cs.getD 0 undef,cs.getD 1 undef,cs.getD 2 undef,cs.getD 3 undef,cs.getD 4 undef,cs.getD 5 undef,cs.getD 6 undef,cs.getD 7 undef,cs.getD 8 undef,cs.getD 9 undef,cs.getD 10 undef,cs.getD 11 undef,cs.getD 12 undef,cs.getD 13 undef,cs.getD 14 undef]:=by
  match cs,hc with
  | [_,_,_,_,_,_,_,_,_,_,_,_,_,_,_],_=>rfl
 rw [h0,h1,h2,h3,h5,h6,h7,h8,h9,h10,h11,h12,h13,h14] at hcs
 have hflat : cwz Tryz.prog 4 78=true:=by kernel_rfl
 rcases cjl Tryz.underlying31 hflat hy with h2|⟨a,len,cap,V,h2,hle,hcap,hat⟩
 ·have hs4 : cs.getD 4 undef = .slice none 0 0:=by simpa using h2
  rw [hs4] at hcs
  exact ⟨(kd,wh,fr,id,(none,0,[]),(v,g,px,py,ph),(ra,rb,rq,rx,ry)),hcs,⟨rfl,by simp,by simp,fun h=>(h rfl).elim⟩,by simp [maxLen]⟩
 ·have hs4 : cs.getD 4 undef = .slice (some a) len cap:=by simpa using h2
  rw [hs4] at hcs
  have hC2 : Tryz.prog.cellsOf 78=2:=by kernel_rfl
  rw [hC2] at hat
  refine ⟨(kd,wh,fr,id,(some a,cap,(List.range len).map fun i=>(V i 0,V i 1)),(v,g,px,py,ph),(ra,rb,rq,rx,ry)),?_,?_,?_⟩
  ·rw [hcs]
   simp [En.encFO]
  ·have:=En.ArgSl.of_SlO En.encBm (fun i=>(V i 0,V i 1)) (.inr ⟨a,rfl,hat⟩) (by decide) (fun i=>rfl)
   simpa using this
  ·simp
   omega
theorem open_opsF {H : Type} {enc : TypeId × Value → H} {w : World} {base : Nat} {spare : Nat → Bool} {held : Bool} {r : Reach} {b0 : Nat} {v : Value} {d : DataW H} {p : List MemPlace} (hv : Value.okWide Tryz.prog w r b0 22 v) (h : DataW.Trod enc Tryz.prog w base spare held 22 v d p) :
 ∃ (A : Option Addr) (n c : Nat) (l : List En.FOp),v = .slice A n c∧n≤c∧c≤maxLen∧l.length=n∧En.opsF w A n l:=by
 obtain ⟨a,len,cap,rfl⟩:=okWide_slice Tryz.underlying22 hv
 obtain ⟨fuel,hf⟩:=h
 rcases open_slice Tryz.underlying22 hf with h0|⟨ad,len',cap',m,k,D,Pl,hcs,hb,hl,hm,hmm,hx,hi⟩
 ·have : Value.slice a len cap = .slice none 0 0:=by simpa [Value.cells] using h0.1
  exact ⟨none,0,0,[],this,Nat.le_refl _,by simp [maxLen],rfl,⟨rfl,by simp,by simp,fun h=>(h rfl).elim⟩,by simp⟩
 ·have hval : Value.slice a len cap = .slice (some ad) len' cap':=by simpa [Value.cells] using hcs
  have hC : Tryz.prog.cellsOf 41=15:=by kernel_rfl
  rw [hC] at hi
  have hlm : len'≤m:=by rw [hmm];split<;>omega
  have hex : ∀ i,∃ o : En.FOp,i < len'→(∀ j,j < 15→w.cell? ((ad.add (i * 15)).add j)=(En.encFO o)[j]?)∧En.ArgSl w o.2.2.2.2.1.1 o.2.2.2.2.1.2.2.length 2 (o.2.2.2.2.1.2.2.map En.encBm)∧o.2.2.2.2.1.2.2.length≤maxLen:=by
   intro i
   by_cases h1 : i < len'
   ·obtain ⟨cs',hc,ht'⟩:=hi i (by omega)
    obtain ⟨_,hcl,hat⟩:=World.cells?_some hc
    obtain ⟨o,ho,hs,hl2⟩:=opF_cells hcl ht'
    refine ⟨o,fun _=>⟨fun j hj=>?_,hs,hl2⟩⟩
    rw [← ho]
    exact hat j hj
   ·exact ⟨En.fo0,fun h=>absurd h h1⟩
  obtain ⟨f,hfo⟩:=Classical.axiomOfChoice hex
  refine ⟨some ad,len',cap',(List.range len').map f,hval,hl,hm,by simp,⟨by simp,?_,?_,?_⟩,?_⟩
  ·intro e he
   obtain ⟨o,_,rfl⟩:=List.mem_map.1 he
   rfl
  ·intro e he v hv'
   obtain ⟨o,_,rfl⟩:=List.mem_map.1 he
   simp [En.encFO] at hv'
   rcases hv' with rfl|rfl|rfl|rfl|rfl|rfl|rfl|rfl|rfl|rfl|rfl|rfl|rfl|rfl|rfl<;>rfl
  ·intro hn
   obtain ⟨b,o,s⟩:=ad
   have h0:=(hfo 0 (by omega)).1 0 (by omega)
   have hs : s=none:=by
    simp only [Nat.zero_mul,Addr.add] at h0
    unfold World.cell? at h0
    cases s with
    | none=>rfl
    | some s =>
      exfalso
      simp [En.encFO] at h0
      revert h0
      split<;>intro h0<;>cases h0
   subst hs
   refine ⟨b,o,rfl,fun i e hi' j v hj=>?_⟩
   rw [List.getElem?_map,List.getElem?_map] at hi'
   by_cases hin : i < len'
   ·rw [List.getElem?_range hin] at hi'
    simp only [Option.map_some,Option.some.injEq] at hi'
    subst hi'
    have hj8 : j < 15:=(List.getElem?_eq_some_iff.1 hj).1
    have:=(hfo i hin).1 j hj8
    rw [Addr.add_mid,Addr.add_mid] at this
    rw [this]
    exact hj
   ·rw [List.getElem?_eq_none (by simpa using hin)] at hi'
    cases hi'
  ·intro o ho
   obtain ⟨i,hi',rfl⟩:=List.mem_map.1 ho
   have:=hfo i (by simpa using hi')
   exact this.2
end Go.Proofs.YtlnplelandimeaaGreat
end
section
namespace Go.Proofs.YtlnplelandimeaaGreat.En
open Go.RowKit
set_option maxRecDepth 100000
section
variable {C : Ctx} {ob : List OB}
theorem CallX_pre {f : FuncId} {args : List SV} {ob' : List OB} {k : SV → List OB → Prop} (hen : Entr C.P f) (hl : ob.length ≤ ob'.length) (hw : SV.wfs ob.length args)
 (hc : ∀ σ fp w,Mem C σ fp ob w→∃ σ' fp',(∀ j,j < ob.length→σ' j=σ j)∧(∀ j x,j < ob'.length→fp' j x→∃ j',j' < ob.length∧fp j' x)∧Mem C σ' fp' ob' w) (h : aqy C f args ob' k) : aqy C f args ob k:=by
 have key : ∀ σ fp w,Mem C σ fp ob w→Calls C.P f (SV.vals σ args).toArray w fun e w'=>∃ v,e = .returned v∧Goes C ob.length σ fp w k v w':=by
  intro σ fp w hm
  obtain ⟨σ',fp',hσ,hfp,hm'⟩:=hc σ fp w hm
  unfold aqy at h
  have h4:=h.2 σ' fp' w hm'
  rw [SV.vals_ext hσ args hw] at h4
  refine h4.mono ?_
  rintro e w' ⟨v,rfl,x,ob2,σ2,fp2,g,t1,t2,t3,t4,t5,t6⟩
  refine ⟨v,rfl,x,ob2,σ2,fp2,g,fun k hk=>(t1 k (by omega)).trans (hσ k hk),by omega,t3,t4,t5,⟨fun y hy hlt hno=>t6.old y hy hlt fun k hk hk2=>?_,fun k hk y hy hl hlt=>?_,t6.size⟩⟩
  ·obtain ⟨k',h1,h2⟩:=hfp k y hk hk2
   exact hno k' h1 h2
  ·obtain ⟨k',h1,h2⟩:=t6.new k hk y hy hl hlt
   exact hfp k' y h1 h2
 unfold aqy
 exact ⟨hen,key⟩
theorem bvj {f : FuncId} {args : List SV} {k k' : SV → List OB → Prop}
 (hc : ∀ x ob2,k' x ob2→∀ σ fp w,Mem C σ fp ob2 w→∃ ob3 fp3,k x ob3∧ob3.length=ob2.length∧(∀ j y,j < ob2.length→fp3 j y→∃ j',j' < ob2.length∧fp j' y)∧Mem C σ fp3 ob3 w) (h : aqy C f args ob k') : aqy C f args ob k:=by
 unfold aqy at h ⊢
 refine ⟨h.1,fun σ fp w hm=>(h.2 σ fp w hm).mono ?_⟩
 rintro e w' ⟨v,rfl,x,ob2,σ2,fp2,g,t1,t2,t3,t4,t5,t6⟩
 obtain ⟨ob3,fp3,g3,hl,hf,hm3⟩:=hc x ob2 g σ2 fp2 w' t5
 refine ⟨v,rfl,x,ob3,σ2,fp3,g3,t1,by omega,t3,by rw [hl];exact t4,hm3,⟨t6.old,fun j hj y hy hl' hlt=>?_,t6.size⟩⟩
 obtain ⟨j',h1,h2⟩:=hf j y (by omega) hy
 exact t6.new j' h1 y h2 hl' hlt
theorem Goes.post {n : Nat} {σ : Nat → Nat} {fp : Nat → Nat → Prop} {w w' : World} {v : Value} {k k' : SV → List OB → Prop}
 (hc : ∀ x ob2,k' x ob2→∀ σ fp w,Mem C σ fp ob2 w→∃ ob3 fp3,k x ob3∧ob3.length=ob2.length∧(∀ j y,j < ob2.length→fp3 j y→∃ j',j' < ob2.length∧fp j' y)∧Mem C σ fp3 ob3 w) (h : Goes C n σ fp w k' v w') : Goes C n σ fp w k v w':=by
 obtain ⟨x,ob2,σ2,fp2,g,t1,t2,t3,t4,t5,t6⟩:=h
 obtain ⟨ob3,fp3,g3,hl,hf,hm3⟩:=hc x ob2 g σ2 fp2 w' t5
 refine ⟨x,ob3,σ2,fp3,g3,t1,by omega,t3,by rw [hl];exact t4,hm3,⟨t6.old,fun j hj y hy hl' hlt=>?_,t6.size⟩⟩
 obtain ⟨j',h1,h2⟩:=hf j y (by omega) hy
 exact t6.new j' h1 y h2 hl' hlt
theorem OpX_post {o : Oper} {xs : List SV} {k k' : SV → List OB → Prop}
 (hc : ∀ x ob2,k' x ob2→∀ σ fp w,Mem C σ fp ob2 w→∃ ob3 fp3,k x ob3∧ob3.length=ob2.length∧(∀ j y,j < ob2.length→fp3 j y→∃ j',j' < ob2.length∧fp j' y)∧Mem C σ fp3 ob3 w) (h : OpX C o xs ob k') : OpX C o xs ob k:=by
 unfold OpX at h ⊢
 intro σ fp w ρ hm hx
 have h':=h σ fp w ρ hm hx
 revert h'
 split
 ·exact Goes.post hc
 ·exact Goes.post hc
 ·exact fun h'=>h'.mono fun e w'' ⟨v,he,hg⟩=>⟨v,he,hg.post hc⟩
 ·exact id
theorem Mem.swapR {σ : Nat → Nat} {fp : Nat → Nat → Prop} {w : World} (h : Mem C σ fp ob w) {q k e sz n c : Nat} {A : Option Addr} {els : List (List Value)} (hq : q < ob.length) (hk : nth ob k = some (.row e sz A n c els)) (hqk : q ≠ k) :
 Mem C σ (fun i=>if i=q then fp k else if i=k then fp q else fp i) ((ob.set q (.row e sz A n c els)).set k noO) w:=by
 rw [aq4] at hk
 have hkl:=(List.getElem?_eq_some_iff.1 hk).1
 have key : ∀ i,i < ob.length→∃ i',i' < ob.length∧(∀ x,(if i=q then fp k else if i=k then fp q else fp i) x↔fp i' x)∧(i' = if i=q then k else if i=k then q else i):=by
  intro i hi
  by_cases e1 : i=q
  ·exact ⟨k,hkl,fun x=>by rw [if_pos e1],by rw [if_pos e1]⟩
  ·by_cases e2 : i=k
   ·exact ⟨q,hq,fun x=>by rw [if_neg e1,if_pos e2],by rw [if_neg e1,if_pos e2]⟩
   ·exact ⟨i,hi,fun x=>by rw [if_neg e1,if_neg e2],by rw [if_neg e1,if_neg e2]⟩
 refine ⟨?_,?_,?_,?_,h.kept,⟨by simpa using h.pin.1,h.pin.2⟩,h.drw⟩
 ·intro i o hi
  simp only [List.length_set]
  by_cases e2 : i=k
  ·subst e2
   rw [List.getElem?_set_self (by simpa using hkl)] at hi
   cases hi
   exact ⟨trivial,fun _ _=>trivial⟩
  ·rw [List.getElem?_set_ne (Ne.symm e2)] at hi
   by_cases e1 : i=q
   ·subst e1
    rw [List.getElem?_set_self hq] at hi
    cases hi
    rw [if_pos rfl]
    exact h.at_ k _ hk
   ·rw [List.getElem?_set_ne (Ne.symm e1)] at hi
    rw [if_neg e1,if_neg e2]
    exact h.at_ i o hi
 ·intro i j hi hj hij x hx hx'
  simp at hi hj
  obtain ⟨i',hi',h1,h2⟩:=key i hi
  obtain ⟨j',hj',h3,h4⟩:=key j hj
  refine h.disj i' j' hi' hj' ?_ x ((h1 x).1 hx) ((h3 x).1 hx')
  rw [h2,h4]
  split<;>split<;>(try split)<;>(try split)<;>omega
 ·intro i hi x hx
  simp at hi
  obtain ⟨i',hi',h1,_⟩:=key i hi
  exact h.lo i' hi' x ((h1 x).1 hx)
 ·intro i hi x hx
  simp at hi
  obtain ⟨i',hi',h1,_⟩:=key i hi
  exact h.hi i' hi' x ((h1 x).1 hx)
def swapK (q k : Nat) (K : SV → List OB → Prop) (x : SV) (ob : List OB) : Prop :=
 ∃ e sz A n c els,Nat.blt q ob.length=true∧nth ob k=some (.row e sz A n c els)∧aqb (setN (setN ob q (.row e sz A n c els)) k noO) fun ob=>K x ob
theorem bxb {o : Oper} {xs : List SV} {K : SV → List OB → Prop} (q k : Nat) (hqk : q ≠ k) (h : OpX C o xs ob (swapK q k K)) : OpX C o xs ob K := by
 refine OpX_post (fun x ob2 hk σ fp w hm=>?_) h
 obtain ⟨e,sz,A,n,c,els,g1,g2,g3⟩:=hk
 have hq : q < ob2.length:=by simpa [Nat.blt_eq] using g1
 have hkl : k < ob2.length:=by
  rw [aq4] at g2
  exact (List.getElem?_eq_some_iff.1 g2).1
 rw [azu] at g3
 simp only [aqm] at g3
 refine ⟨_,_,g3,by simp,fun j y hj hy=>?_,hm.swapR hq g2 hqk⟩
 (try dsimp only at hy)
 by_cases e1 : j=q
 ·rw [if_pos e1] at hy
  exact ⟨k,hkl,hy⟩
 ·rw [if_neg e1] at hy
  by_cases e2 : j=k
  ·rw [if_pos e2] at hy
   exact ⟨q,hq,hy⟩
  ·rw [if_neg e2] at hy
   exact ⟨j,hj,hy⟩
end
def bxO (b T N : Nat) (c : Nat → Value) : OB := .res fun w F => FnAt w b T N c ∧ F b
theorem bxO_mk {w : World} {F : Nat → Prop} {b T N : Nat} {c : Nat → Value} (h : FnAt w b T N c) (hF : F b) {σ : Nat → Nat} {n q : Nat} : (bxO b T N c).at σ n w q F := ⟨⟨h, hF⟩, fun w' hw => ⟨h.ext (hw b hF), hF⟩⟩
section
variable {C : Ctx} {ob : List OB} {b T N : Nat} {c : Nat → Value}
theorem nth_bx {σ : Nat → Nat} {fp : Nat → Nat → Prop} {w : World} {j : Nat} (hm : Mem C σ fp ob w) (h : nth ob j = some (bxO b T N c)) : (FnAt w b T N c ∧ fp j b) ∧ j < ob.length := by
 rw [aq4] at h
 have:=hm.at_ j _ h
 exact ⟨this.1,(List.getElem?_eq_some_iff.1 h).1⟩
variable {o : Oper} {t : TypeId} {x y : Operand} {te : TI}
theorem ckd (j i : Nat) (v : Value) {K : SV → Prop} (hT : aqc C.P C.T) (ho : o.op = .load t x) (hte : aqf C.T t = some te) (hagg : te.agg = false) (hj : nth ob j = some (bxO b T N c)) (hi : i < N) (hv : c i = v) (hK : K (.v v)) : ValX C o [.v (.pointer (some ((⟨b, 0, none⟩ : Addr).add i)))] ob K := by
 subst hv
 rw [ake,Nat.zero_add]
 exact bzk _ hT ho hte hagg (fun σ fp w hm=>(nth_bx hm hj).1.1.get hi) hK
theorem OpX_bx (j i : Nat) (v : Value) (c' : Nat → Value) {K : SV → List OB → Prop} (hT : aqc C.P C.T) (ho : o.op = .store t x y) (hte : aqf C.T t = some te) (hz : te.zero.length = 1) (hj : nth ob j = some (bxO b T N c)) (hi : i < N) (h1 : Value.oneCell' v = true)
 (hc : ∀ k,k < N→c' k=if k=i then v else c k) (hK : aqb (setN ob j (bxO b T N c')) fun ob=>K (.v undef) ob) : OpX C o [.v (.pointer (some ((⟨b,0,none⟩ : Addr).add i))),.v v] ob K:=by
 rw [ake,Nat.zero_add]
 unfold OpX
 intro σ fp w ρ hm hx
 obtain ⟨⟨hF,hb⟩,hjl⟩:=nth_bx hm hj
 obtain ⟨w',hex,hR',s2,s3,q1,q2,q3,q4⟩:=fn_set (vs:=[v]) (v:=.v v) (f':=c') hT ho hte (by simp;omega) (by rw [hz];rfl) (by simpa using h1) (fun k hk=>by
  rw [hc k hk]
  simp only [List.length_cons,List.length_nil,Nat.zero_add]
  by_cases e : k=i
  ·rw [if_pos e,if_pos (by omega),e,Nat.sub_self]
   rfl
  ·rw [if_neg e,if_neg (by omega)]) (.inr ⟨_,rfl,rfl⟩) hF hx
 rw [hex]
 have hsame : ∀ q,q < w.heap.size→¬ fp j q→w'.heap[q]? = w.heap[q]?:=fun q hq hnq=>s2 q fun e=>hnq (e ▸ hb)
 have hM:=hm.change (w':=w') hjl (bxO b T N c') (fp j) (bxO_mk hR' hb) (fun x hx=>.inl hx) (fun x hx=>by rw [s3];exact hm.hi j hjl x hx) q1 q2 q3 (by omega) hsame (fun _=>by omega)
 rw [azu,aqm] at hK
 refine ⟨.v undef,_,σ,_,hK,fun _ _=>rfl,by simp,rfl,trivial,hM,⟨fun i _ hi hno=>hsame i hi (hno j hjl),fun k' hk' i hi _ hlt=>?_,by omega⟩⟩
 simp at hk'
 by_cases e : k' = j
 ·rw [if_pos e] at hi
  exact ⟨j,hjl,hi⟩
 ·rw [if_neg e] at hi
  exact ⟨k',hk',hi⟩
end
def RaW (w : World) (F : Nat → Prop) (p : Nat) (r : RfT) : Prop := (RfAt w p r ∧ F p) ∧ ∀ i : Nat, i < 64 → InF w (fun a => F a ∧ a ≠ p) (r.s i)
theorem RaW.ext {w w' : World} {F : Nat → Prop} {p : Nat} {r : RfT} (h : RaW w F p r) (hw : ∀ i, F i → w'.heap[i]? = w.heap[i]?) : RaW w' F p r :=
 ⟨⟨h.1.1.ext (hw p h.1.2),h.1.2⟩,fun i hi=>(h.2 i hi).ext (fun _ h=>h) fun a ha=>hw a ha.1⟩
structure RsW (w : World) (F : Nat → Prop) (p : Nat → Nat) (R : Nat → RfT) (H : Nat → Bool) (Fs : Nat → Nat → Prop) : Prop where
 ats : ∀ i,i < 8→H i=true→RaW w (Fs i) (p i) (R i)
 disj : ∀ i j,i < 8→j < 8→i ≠ j→∀ x,Fs i x→¬ Fs j x
 sub : ∀ i,i < 8→∀ x,Fs i x→F x
def raO (p : Nat → Nat) (R : Nat → RfT) (H : Nat → Bool) : OB := .res fun w F => ∃ Fs, RsW w F p R H Fs
theorem raO_mk {w : World} {F : Nat → Prop} {p : Nat → Nat} {R : Nat → RfT} {H : Nat → Bool} {Fs : Nat → Nat → Prop} (h : RsW w F p R H Fs) {σ : Nat → Nat} {n q : Nat} : (raO p R H).at σ n w q F :=
 ⟨⟨Fs,h⟩,fun w' hw=>⟨Fs,⟨fun i hi hH=>(h.ats i hi hH).ext fun x hx=>hw x (h.sub i hi x hx),h.disj,h.sub⟩⟩⟩
section
variable {C : Ctx} {ob : List OB} {p : Nat → Nat} {R : Nat → RfT} {H : Nat → Bool}
theorem nth_ra {σ : Nat → Nat} {fp : Nat → Nat → Prop} {w : World} {j : Nat} (hm : Mem C σ fp ob w) (h : nth ob j = some (raO p R H)) : (∃ Fs, RsW w (fp j) p R H Fs) ∧ j < ob.length := by
 rw [aq4] at h
 have:=hm.at_ j _ h
 exact ⟨this.1,(List.getElem?_eq_some_iff.1 h).1⟩
theorem Mem.openRa {σ : Nat → Nat} {fp : Nat → Nat → Prop} {w : World} {j i : Nat} (hm : Mem C σ fp ob w) (hj : nth ob j = some (raO p R H)) (hi : i < 8) (hH : H i = true) :
 ∃ σ' fp',(∀ k,k < ob.length→σ' k=σ k)∧(∀ k x,k < ob.length + 1→fp' k x→∃ k',k' < ob.length∧fp k' x)∧Mem C σ' fp' (ob.set j (raO p R (offF H i)) ++ [rfO (p i) (R i)]) w:=by
 obtain ⟨⟨Fs,hs⟩,hjl⟩:=nth_ra hm hj
 have hs' : RsW w (fun x=>fp j x∧¬ Fs i x) p R (offF H i) (fun k=>if k=i then (fun _=>False) else Fs k):=by
  refine ⟨?_,?_,?_⟩
  ·intro k hk hHk
   unfold offF at hHk
   by_cases e : k=i
   ·rw [if_pos e] at hHk;cases hHk
   ·rw [if_neg e] at hHk
    (try dsimp only)
    rw [if_neg e]
    exact hs.ats k hk hHk
  ·intro k l hk hl hkl x hx hx'
   (try dsimp only at hx hx')
   by_cases e1 : k=i
   ·rw [if_pos e1] at hx;exact hx
   ·by_cases e2 : l=i
    ·rw [if_pos e2] at hx';exact hx'
    ·rw [if_neg e1] at hx
     rw [if_neg e2] at hx'
     exact hs.disj k l hk hl hkl x hx hx'
  ·intro k hk x hx
   (try dsimp only at hx)
   by_cases e1 : k=i
   ·rw [if_pos e1] at hx;exact hx.elim
   ·rw [if_neg e1] at hx
    exact ⟨hs.sub k hk x hx,fun h=>hs.disj k i hk hi e1 x hx h⟩
 have hFi : ∀ x,Fs i x→fp j x:=fun x hx=>hs.sub i hi x hx
 have m0:=hm.change (w':=w) hjl (raO p R (offF H i)) (fun x=>fp j x∧¬ Fs i x) (raO_mk hs') (fun x hx=>.inl hx.1) (fun x hx=>hm.hi j hjl x hx.1) rfl rfl rfl (Nat.le_refl _) (fun _ _ _=>rfl) (fun _=>Nat.le_refl _)
 obtain ⟨⟨a1,a2⟩,a3⟩:=hs.ats i hi hH
 have m1:=m0.adopt (rfO (p i) (R i)) 0 (Fs i) (cvp a1 a2 a3) (by
  intro x hx
  refine ⟨hm.lo j hjl x (hFi x hx),hm.hi j hjl x (hFi x hx),fun k hk h=>?_⟩
  simp at hk
  by_cases e : k=j
  ·rw [if_pos e] at h;exact h.2 hx
  ·rw [if_neg e] at h
   exact hm.disj k j hk hjl e x h (hFi x hx))
 refine ⟨_,_,?_,?_,m1⟩
 ·intro k hk
  simp [show k ≠ ob.length by omega]
 ·intro k x hk h
  simp only [List.length_set] at h
  by_cases e1 : k=ob.length
  ·rw [if_pos e1] at h
   exact ⟨j,hjl,hFi x h⟩
  ·rw [if_neg e1] at h
   by_cases e : k=j
   ·rw [if_pos e] at h
    exact ⟨j,hjl,h.1⟩
   ·rw [if_neg e] at h
    exact ⟨k,by omega,h⟩
theorem Mem.closeRa {σ : Nat → Nat} {fp : Nat → Nat → Prop} {w : World} {j k0 i b : Nat} {r : RfT} {H' : Nat → Bool} (hm : Mem C σ fp ob w) (hj : nth ob j = some (raO p R H)) (h0 : nth ob k0 = some (rfO b r)) (e0 : j ≠ k0) (hi : i < 8) (hH : H i = false) (hH' : ∀ k, k ≠ i → H' k = H k) :
 ∃ fp',(∀ k x,k < ob.length→fp' k x→∃ k',k' < ob.length∧fp k' x)∧Mem C σ fp' ((ob.set j (raO (updN p i b) (updN R i r) H')).set k0 noO) w:=by
 obtain ⟨⟨Fs,hs⟩,hjl⟩:=nth_ra hm hj
 obtain ⟨a1,a2,a3⟩:=bjm hm h0
 have hst : RsW w (fun x=>fp j x∨fp k0 x) (updN p i b) (updN R i r) H' (fun k=>if k=i then fp k0 else Fs k):=by
  refine ⟨?_,?_,?_⟩
  ·intro k hk hHk
   (try dsimp only)
   by_cases e : k=i
   ·subst e
    rw [if_pos rfl]
    unfold updN
    rw [if_pos rfl,if_pos rfl]
    exact ⟨a1,a2⟩
   ·rw [hH' k e] at hHk
    rw [if_neg e]
    unfold updN
    rw [if_neg e,if_neg e]
    exact hs.ats k hk hHk
  ·intro k l hk hl hkl x hx hx'
   (try dsimp only at hx hx')
   by_cases e1 : k=i<;>by_cases e2 : l=i
   ·omega
   ·rw [if_pos e1] at hx
    rw [if_neg e2] at hx'
    exact hm.disj j k0 hjl a3 e0 x (hs.sub l hl x hx') hx
   ·rw [if_neg e1] at hx
    rw [if_pos e2] at hx'
    exact hm.disj j k0 hjl a3 e0 x (hs.sub k hk x hx) hx'
   ·rw [if_neg e1] at hx
    rw [if_neg e2] at hx'
    exact hs.disj k l hk hl hkl x hx hx'
  ·intro k hk x hx
   (try dsimp only at hx)
   by_cases e1 : k=i
   ·rw [if_pos e1] at hx
    exact .inr hx
   ·rw [if_neg e1] at hx
    exact .inl (hs.sub k hk x hx)
 have hM:=hm.merge (w':=w) hjl a3 e0 (raO (updN p i b) (updN R i r) H') noO (raO_mk hst) ⟨trivial,fun _ _=>trivial⟩ rfl rfl rfl rfl (fun _ _ _=>rfl) rfl
 refine ⟨_,?_,hM⟩
 intro k x hk hi
 by_cases e1 : k=j
 ·rw [if_pos e1] at hi
  rcases hi with hi|hi
  ·exact ⟨j,hjl,hi⟩
  ·exact ⟨k0,a3,hi⟩
 ·rw [if_neg e1] at hi
  by_cases e2 : k=k0
  ·rw [if_pos e2] at hi
   exact hi.elim
  ·rw [if_neg e2] at hi
   exact ⟨k,hk,hi⟩
def closeRK (j n : Nat) (p : Nat → Nat) (R : Nat → RfT) (H : Nat → Bool) (i : Nat) (k : SV → List OB → Prop) (x : SV) (ob : List OB) : Prop :=
 ∃ r : RfT,nth ob j=some (raO p R (offF H i))∧nth ob n=some (rfO (p i) r)∧aqb (setN (setN ob j (raO p (updN R i r) H)) n noO) fun ob=>k x ob
theorem ajn {f : FuncId} {args : List SV} (j i n : Nat) (hen : Entr C.P f) {k : SV → List OB → Prop} (hj : nth ob j = some (raO p R H)) (hn : ob.length = n) (hi : i < 8) (hH : H i = true) (hw : SV.wfs ob.length args)
 (h : aqb (setN ob j (raO p R (offF H i)) ++ [rfO (p i) (R i)]) fun ob=>aqy C f args ob (closeRK j n p R H i k)) : aqy C f args ob k:=by
 subst hn
 rw [azu,aqm] at h
 refine CallX_pre hen (ob':=ob.set j (raO p R (offF H i)) ++ [rfO (p i) (R i)]) (by simp) hw (fun σ fp w hm=>?_) (bvj (fun x ob2 hk σ fp w hm=>?_) h)
 ·obtain ⟨σ',fp',h1,h2,h3⟩:=hm.openRa hj hi hH
  exact ⟨σ',fp',h1,fun k x hk=>h2 k x (by simpa using hk),h3⟩
 ·obtain ⟨r,g1,g2,g3⟩:=hk
  have hne : j ≠ ob.length:=by
   intro e
   rw [aq4] at hj
   have:=(List.getElem?_eq_some_iff.1 hj).1
   omega
  obtain ⟨fp',hf,hM⟩:=hm.closeRa (i:=i) (H':=H) g1 g2 hne hi (by unfold offF;rw [if_pos rfl]) (fun k hk=>by unfold offF;rw [if_neg hk])
  rw [ajw p i] at hM
  rw [azu] at g3
  simp only [aqm] at g3
  exact ⟨_,fp',g3,by simp,fun k x hk=>hf k x hk,hM⟩
def newRK (j i n : Nat) (p : Nat → Nat) (R : Nat → RfT) (H : Nat → Bool) (k : SV → List OB → Prop) (x : SV) (ob : List OB) : Prop :=
 ∃ (b : Nat) (r : RfT),nth ob j=some (raO p R H)∧nth ob n=some (rfO b r)∧aqb (setN (setN ob j (raO (updN p i b) (updN R i r) (onF H i))) n noO) fun ob=>k x ob
theorem dzo {f : FuncId} {args : List SV} (j i n : Nat) (hjn : j ≠ n) (hi : i < 8) (hH : H i = false) {k : SV → List OB → Prop} (h : aqy C f args ob (newRK j i n p R H k)) : aqy C f args ob k := by
 refine bvj (fun x ob2 hk σ fp w hm=>?_) h
 obtain ⟨b,r,g1,g2,g3⟩:=hk
 obtain ⟨fp',hf,hM⟩:=hm.closeRa (b:=b) (i:=i) (H':=onF H i) g1 g2 hjn hi hH (fun k hk=>by unfold onF;rw [if_neg hk])
 rw [azu] at g3
 simp only [aqm] at g3
 exact ⟨_,fp',g3,by simp,fun k x hk=>hf k x hk,hM⟩
end
end Go.Proofs.YtlnplelandimeaaGreat.En
end
