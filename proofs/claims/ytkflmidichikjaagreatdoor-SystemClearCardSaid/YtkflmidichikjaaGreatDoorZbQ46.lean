import Derived.Test.YtkflmidichikjaaGreatDoorZbQ34
import Derived.Test.YtkflmidichikjaaGreatDoorZbQ38
import Derived.Test.YtkflmidichikjaaGreatDoorZbQ39
import Derived.Test.YtkflmidichikjaaGreatDoorZbQ44
set_option linter.all false
section
namespace Go.Proofs.YtkflmidichikjaaGreatDoor.V
open Go.RowKit
set_option maxRecDepth 100000
set_option maxHeartbeats 16000000
open Heading BoxP Drive PlanP Grow Sys
theorem tmod_emod {a b : Int} (h : 0 < b) : (a.tmod b < 0 → a.tmod b + b = a % b) ∧ (0 ≤ a.tmod b → a.tmod b = a % b) ∧ -b < a.tmod b ∧ a.tmod b < b := by
 have e1:=Int.tmod_add_mul_tdiv a b
 have e2:=Int.tmod_lt_of_pos a h
 have e3:=Int.lt_tmod_of_pos a h
 refine ⟨fun h0=>?_,fun h0=>?_,e3,e2⟩
 ·have:=(Int.ediv_emod_unique (a:=a) (b:=b) (r:=a.tmod b + b) (q:=a.tdiv b - 1) h).2 ⟨by rw [Int.mul_sub,Int.mul_one];omega,by omega,by omega⟩
  exact this.2.symm
 ·have:=(Int.ediv_emod_unique (a:=a) (b:=b) (r:=a.tmod b) (q:=a.tdiv b) h).2 ⟨by omega,h0,e2⟩
  exact this.2.symm
instance inVbs_1 {a b : Int} : CFc 30 false [I a, I b] (0 < b ∧ b ≤ 1000000) (I (a % b)) [] := ⟨fun p1 => by
 have h1:=tmod_emod (a:=a) p1.1
 refine CM.of Tryz.func30 rfl tabOk rfl rfl rfl rfl (by simp [SV.nms,SV.nm]) fun w_ M_ π_ G0_=>?_
 exact ru⟩
instance inVbs_2 {n lo hi : Int} : CFc 31 false [I n, I lo, I hi] True (I (max lo (min n hi))) [] := ⟨fun _ => by
 refine CM.of Tryz.func31 rfl tabOk rfl rfl rfl rfl (by simp [SV.nms,SV.nm]) fun w_ M_ π_ G0_=>?_
 exact ru⟩
instance inVbs_3 {t l s r : Int} : CFc 29 false [.a [I t, I l, I s, I r]] True (B (vBounds ⟨t, l, s, r⟩)) [] := ⟨fun _ => by
 unfold vBounds between
 refine CM.of Tryz.func29 rfl tabOk rfl rfl rfl rfl (by simp [SV.nms,SV.nm]) fun w_ M_ π_ G0_=>?_
 exact ru⟩
theorem vPlan_all {w h : Int} {X : List Int} : vPlan ⟨w, h, X⟩ = true ↔ (1 ≤ w ∧ w ≤ 64) ∧ (1 ≤ h ∧ h ≤ 64) ∧ (X.length : Int) = w * h ∧ ∀ i, i < X.length → gt X i ≤ 2 := by
 rw [vPlan_iff]
 constructor
 ·rintro ⟨h1,h2,h3,h4⟩
  exact ⟨h1,h2,h3,fun i hi=>(Grow.maxN_le _).1 h4 i (show i≤X.length - 1 by omega)⟩
 ·rintro ⟨h1,h2,h3,h4⟩
  have h6:=wh_bnd h1 h2
  have h7 : (X.length : Int)=w * h:=h3
  refine ⟨h1,h2,h3,(Grow.maxN_le _).2 fun i hi=>h4 i ?_⟩
  have hi' : i≤X.length - 1:=hi
  omega
theorem vPlan_no {w h : Int} {X : List Int} {i : Nat} (hi : i < X.length) (hx : gt X i > 2) : vPlan ⟨w, h, X⟩ = false := by
 cases hv : vPlan ⟨w,h,X⟩ with
 | false=>rfl
 | true=>have:=(vPlan_all.1 hv).2.2.2 i hi;omega
theorem vPlan_no2 {w h : Int} {X : List Int} (hn : ¬((1 ≤ w ∧ w ≤ 64) ∧ (1 ≤ h ∧ h ≤ 64) ∧ (X.length : Int) = w * h)) : vPlan ⟨w, h, X⟩ = false := by
 cases hv : vPlan ⟨w,h,X⟩ with
 | false=>rfl
 | true=>have:=vPlan_all.1 hv;exact (hn ⟨this.1,this.2.1,this.2.2.1⟩).elim
instance inVbs_4 {A : Option Addr} {c : Nat} {w h : Int} {X : List Int} : CFc 71 false [.a [I w, I h, .fz A c 1 (fl ye X)]] True (B (vPlan ⟨w, h, X⟩)) [] := ⟨fun p1 => by
 by_cases h1 : (1≤w∧w≤64)∧(1≤h∧h≤64)∧(X.length : Int)=w * h
 ·obtain ⟨h1,h2,h3⟩:=h1
  have hwh:=wh_bnd h1 h2
  refine CM.of Tryz.func71 rfl tabOk rfl rfl rfl rfl (by simp [SV.nms,SV.nm]) fun w_ M_ π_ G0_=>?_
  refine ruA (a1 ?_)
  intros
  refine LoopX_keep [1,3] ?_
  conv=>whnf
  refine LoopX_p [] (fun (i : Nat)=>i≤X.length∧Hold (∀ j,j < i→gt X j≤2)) (fun i=>[(3,I i)]) (fun _=>[]) (fun i=>X.length - i) 0 ?_ ⟨Nat.zero_le _,⟨fun j hj=>by omega⟩⟩
  conv=>whnf
  rintro i ⟨hi,hj⟩
  by_cases hlt : i < X.length
  ·by_cases hx : gt X i > 2
   ·rw [vPlan_no hlt hx]
    refine roA (a1 ?_)
    all_goals intros
    ((refine Fin_j () ?_;(conv=>whnf);refine ⟨?_,?_,?_,?_⟩)<;>try first|rfl|exact trivial|((simp only [OB.flats,flatD_fl,and_self]);done)|(first|exact zCl|(subst_vars;exact zCl)))
   ·have hj2 : Hold (∀ j,j < i + 1→gt X j≤2):=⟨fun j hj'=>by
     rcases Nat.lt_or_ge j i with h|h
     ·exact hj.out j h
     ·have e : j=i:=by omega
      rw [e]
      omega⟩
    refine roA (a1 ?_)
    all_goals intros
    exact rn (i + 1) (show i + 1≤X.length∧Hold (∀ j,j < i + 1→gt X j≤2) from ⟨by omega,hj2⟩)
  ·rw [show vPlan ⟨w,h,X⟩ = true from vPlan_all.2 ⟨h1,h2,h3,fun j hj'=>hj.out j (by omega)⟩]
   refine roA (a1 ?_)
   all_goals intros
   ((refine Fin_j () ?_;(conv=>whnf);refine ⟨?_,?_,?_,?_⟩)<;>try first|rfl|exact trivial|((simp only [OB.flats,flatD_fl,and_self]);done)|(first|exact zCl|(subst_vars;exact zCl)))
 ·rw [vPlan_no2 h1]
  by_cases g1 : (1≤w∧w≤64)∧(1≤h∧h≤64)
  ·have hwh:=wh_bnd g1.1 g1.2
   have hne : ¬((X.length : Int)=w * h):=fun h=>h1 ⟨g1.1,g1.2,h⟩
   obtain ⟨⟨g2,g3⟩,g4,g5⟩:=g1
   clear h1
   refine CM.of Tryz.func71 rfl tabOk rfl rfl rfl rfl (by simp [SV.nms,SV.nm]) fun w_ M_ π_ G0_=>?_
   refine roA (a1 ?_)
   all_goals intros
   all_goals first|(exfalso;omega)|((refine Fin_j () ?_;(conv=>whnf);refine ⟨?_,?_,?_,?_⟩)<;>try first|rfl|exact trivial|((simp only [OB.flats,flatD_fl,and_self]);done)|(first|exact zCl|(subst_vars;exact zCl)))
  ·clear h1
   refine CM.of Tryz.func71 rfl tabOk rfl rfl rfl rfl (by simp [SV.nms,SV.nm]) fun w_ M_ π_ G0_=>?_
   refine roA (a4 ?_ ?_ ?_ ?_)
   all_goals intros
   all_goals first|(exfalso;omega)|((refine Fin_j () ?_;(conv=>whnf);refine ⟨?_,?_,?_,?_⟩)<;>try first|rfl|exact trivial|((simp only [OB.flats,flatD_fl,and_self]);done)|(first|exact zCl|(subst_vars;exact zCl)))⟩
instance inVbs_5 {A : Option Addr} {c : Nat} {w h : Int} {X : List Int} : CFc 28 false [.a [I w, I h, .fz A c 1 (fl ye X)]] True (B (vPlan ⟨w, h, X⟩ && !X.any fun c => decide (c = 0))) [] := ⟨fun p1 => by
 rcases Bool.eq_false_or_eq_true (vPlan ⟨w,h,X⟩) with hv|hv
 ·have hl:=plan_len hv
  have hl' : X.length≤4096:=hl
  refine CM.of Tryz.func28 rfl tabOk rfl rfl rfl rfl (by simp [SV.nms,SV.nm]) fun w_ M_ π_ G0_=>?_
  refine ruA (a1 ?_)
  intros
  rw [hv,Bool.true_and]
  refine LoopX_keep [1,3] ?_
  conv=>whnf
  refine LoopX_p [] (fun (i : Nat)=>i≤X.length∧Hold (∀ j,j < i→decide (gt X j=0)=false)) (fun i=>[(3,I i)]) (fun _=>[]) (fun i=>X.length - i) 0 ?_ ⟨Nat.zero_le _,⟨fun j hj=>by omega⟩⟩
  conv=>whnf
  rintro i ⟨hi,hj⟩
  by_cases hlt : i < X.length
  ·by_cases he : gt X i=0
   ·rw [any_yes (p:=fun c : Int=>decide (c=0)) hlt (by simpa using he)]
    refine roA (a1 ?_)
    all_goals intros
    ((refine Fin_j () ?_;(conv=>whnf);refine ⟨?_,?_,?_,?_⟩)<;>try first|rfl|exact trivial|((simp only [OB.flats,flatD_fl,and_self]);done)|(first|exact zCl|(subst_vars;exact zCl)))
   ·have hj2 : Hold (∀ j,j < i + 1→decide (gt X j=0)=false):=⟨all_next hj.out (by simpa using he)⟩
    refine roA (a1 ?_)
    all_goals intros
    exact rn (i + 1) (show i + 1≤X.length∧Hold (∀ j,j < i + 1→decide (gt X j=0)=false) from ⟨by omega,hj2⟩)
  ·obtain rfl : i=X.length:=by omega
   rw [any_no (p:=fun c : Int=>decide (c=0)) hj.out]
   refine roA (a1 ?_)
   all_goals intros
   ((refine Fin_j () ?_;(conv=>whnf);refine ⟨?_,?_,?_,?_⟩)<;>try first|rfl|exact trivial|((simp only [OB.flats,flatD_fl,and_self]);done)|(first|exact zCl|(subst_vars;exact zCl)))
 ·rw [hv,Bool.false_and]
  refine CM.of Tryz.func28 rfl tabOk rfl rfl rfl rfl (by simp [SV.nms,SV.nm]) fun w_ M_ π_ G0_=>?_
  refine roA (a2 ?_ ?_)
  all_goals intros
  all_goals first|(exfalso;simp_all;done)|((refine Fin_j () ?_;(conv=>whnf);refine ⟨?_,?_,?_,?_⟩)<;>try first|rfl|exact trivial|((simp only [OB.flats,flatD_fl,and_self]);done)|(first|exact zCl|(subst_vars;exact zCl)))⟩
end Go.Proofs.YtkflmidichikjaaGreatDoor.V
end
section
namespace Go.Proofs.YtkflmidichikjaaGreatDoor.V
open Go.RowKit
set_option maxRecDepth 100000
set_option maxHeartbeats 16000000
open Heading BoxP Drive PlanP Known Contr Loc Jou Atl RobotP Mon Mot Sys Hon
theorem xwr_w8 {n : Nat} {k : Int → Prop} (h : k (w8 n)) : xwr64 (8 * (n : Int)) k := xwr64_iff.2 h
theorem xcv_tm {a b : Int} {k : Int → Prop} (h0 : 0 ≤ a) (hb : 0 < b) (hl : b ≤ 256) (h : k (a % b)) : xcv .i64 (a.tmod b) k := by
 rw [Int.tmod_eq_emod_of_nonneg h0]
 have:=Int.emod_nonneg a (show b ≠ 0 by omega)
 have:=Int.emod_lt_of_pos a hb
 exact xcv_i64 (by omega) (by omega) h
theorem xshr_v {a b : Int} {k : Int → Prop} (h0 : 0 ≤ b) (h8 : b < 8) (h : k (a.fdiv (2 ^ b.toNat))) : xshr .u8 a b k := by
 refine xshr_iff.2 ⟨h0,?_⟩
 rwa [show min b.toNat IntKind.u8.bits=b.toNat by simp [IntKind.bits];omega]
attribute [local irreducible] w8 veilL veilTo
namespace Hon
def grdB (x : Sc) : Bool := (vPlan x.plan && !x.plan.cells.any fun c => decide (c = 0)) && (decide (x.plan.cells.length ≤ 49) && (vBounds x.bd && decide (x.marks.length ≤ 4)))
abbrev zeroS : SV := .a [I 0, I 0, nilS, I 0, I 0, nilS, I 0, I 0, I 0, I 0, I 0, I 0, I 0, nilS, nilS, I 0, I 0]
end Hon
theorem honest_no {x : Sc} {g : Gs} (h : grdB x = false) : CFc 8 false [x.s g] True (.t [zeroS, B false]) [] := ⟨fun _ => by
 dsimp only [Sc.s]
 have h' : ¬ ((vPlan ⟨x.plan.W,x.plan.H,x.plan.cells⟩ && !x.plan.cells.any fun c=>decide (c=0))=true∧((x.plan.cells.length : Int)≤49∧(vBounds ⟨x.bd.Turn,x.bd.Length,x.bd.Slip,x.bd.Range⟩ = true∧(x.marks.length : Int)≤4))):=by
  intro ⟨a,b,c,d⟩
  have : grdB x=true:=by
   unfold grdB
   simp only [Bool.and_eq_true,decide_eq_true_eq] at a ⊢
   exact ⟨a,by omega,c,by omega⟩
  rw [h] at this
  cases this
 refine CM.of Tryz.func8 rfl tabOk rfl rfl rfl rfl (by simp [SV.nms,SV.nm]) fun w_ M_ π_ G0_=>?_
 refine roA (a5 ?_ ?_ ?_ ?_ ?_)
 all_goals intros
 all_goals first|((refine Fin_j () ?_;(conv=>whnf);refine ⟨?_,?_,?_,?_⟩)<;>try first|rfl|exact trivial|((simp only [OB.flats,flatD_fl,and_self]);done)|(first|exact zCl|(subst_vars;exact zCl)))|(exfalso;refine h' ⟨?_,?_,?_,?_⟩<;>first|assumption|(simp [*];done))⟩
theorem hon_len {x : Sc} (g2 : x.plan.cells.length ≤ 49) (g4 : x.marks.length ≤ 4) : lenN (honS x) := by
 refine ⟨Nat.le_trans g2 (by decide),?_,show 1≤_ by decide,?_⟩
 ·show (veilL x.plan.cells x.veil).length≤_
  rw [veil_len]
  omega
 ·show (x.marks.map (· % 256)).length≤_
  rw [List.length_map]
  omega
theorem honest_c {x : Sc} {g : Gs} (h : grdB x = true) (hx : x.ok) : CMe 8 Unit true (fun _ => [x.s g]) (fun _ => []) (fun _ => True) ((Option Addr × Nat) × (Option Addr × Nat) × Option Addr × Nat) (fun _ q => .t [(honS x).s ⟨g.a, q.1, q.2.1, q.2.2⟩, B (decide (errN (honS x) = 0))]) (fun _ _ => []) := ⟨fun _ _ => by
 have e1 : (vPlan ⟨x.plan.W,x.plan.H,x.plan.cells⟩ && !x.plan.cells.any fun c=>decide (c=0))=true∧x.plan.cells.length≤49∧vBounds ⟨x.bd.Turn,x.bd.Length,x.bd.Slip,x.bd.Range⟩ = true∧x.marks.length≤4:=by
  unfold grdB at h
  simp only [Bool.and_eq_true,decide_eq_true_eq] at h ⊢
  exact ⟨h.1,h.2.1,h.2.2.1,h.2.2.2⟩
 obtain ⟨e1,e2,e3,e4⟩:=e1
 obtain ⟨x1,x2,x3,x4,x5,x6,x7,x8⟩:=hx
 have hlen:=hon_len e2 e4
 dsimp only [Sc.s,Setup.s] at *
 refine CM.of Tryz.func8 rfl tabOk rfl rfl rfl rfl (by simp [SV.nms,SV.nm]) fun w_ M_ π_ G0_=>?_
 refine roA (a1 ?_)
 all_goals intros
 refine LoopX_keep [1,2,4,5,6] ?_
 conv=>whnf
 refine LoopX_p [] (fun ((i,L) : Nat × List Int)=>i≤x.plan.cells.length∧L.length=x.plan.cells.length∧Hold (L=veilTo x.plan.cells x.veil i)) (fun (i,_)=>[(6,I i)]) (fun (_,L)=>[(4,.row false 5 1 (fl ye L))]) (fun (i,_)=>x.plan.cells.length - i) (0,x.plan.cells) ?_ ⟨Nat.zero_le _,rfl,⟨veilTo_0.symm⟩⟩
 conv=>whnf
 rintro ⟨i,L⟩ ⟨j1,j2,⟨j3⟩⟩
 conv=>whnf
 by_cases hlt : i < x.plan.cells.length∧(i : Int) < w8 x.veil.length
 ·obtain ⟨hlt,hw⟩:=hlt
  have q1:=w8_lt hw
  have ei : ((i : Int) / 8).toNat=i / 8:=by omega
  have em : ((i : Int) % 8).toNat=i % 8:=by omega
  have J3 : Hold (L=veilTo x.plan.cells x.veil i):=⟨j3⟩
  clear j3
  rcases Bool.eq_false_or_eq_true (veilB x.veil i) with hv|hv
  ·have hbit : ¬ bits .and .u8 ((gt x.veil ((i : Int) / 8).toNat).fdiv (2 ^ ((i : Int) % 8).toNat)) 1=0:=by
    rw [ei,em]
    unfold veilB at hv
    rw [Bool.and_eq_true] at hv
    simpa using hv.2
   have hn : Hold (L.set i 0=veilTo x.plan.cells x.veil (i + 1)):=⟨by rw [J3.out];exact veilTo_y hlt hv⟩
   clear hv
   refine roA (a1 ?_)
   all_goals intros
   refine xwr_w8 ?_
   conv=>whnf
   refine roA (a1 ?_)
   all_goals intros
   refine xshr_v (by omega) (by omega) ?_
   conv=>whnf
   refine roA (a1 ?_)
   all_goals intros
   exact rn (i + 1,L.set i 0) ⟨by omega,by rw [List.length_set];exact j2,hn⟩
  ·have hbit : bits .and .u8 ((gt x.veil ((i : Int) / 8).toNat).fdiv (2 ^ ((i : Int) % 8).toNat)) 1=0:=by
    rw [ei,em]
    unfold veilB at hv
    rw [Bool.and_eq_false_iff] at hv
    rcases hv with hv|hv
    ·simp at hv;omega
    ·simpa using hv
   have hn : Hold (L=veilTo x.plan.cells x.veil (i + 1)):=⟨by rw [J3.out];exact (veilTo_n hv).symm⟩
   clear hv
   refine roA (a1 ?_)
   all_goals intros
   refine xwr_w8 ?_
   conv=>whnf
   refine roA (a1 ?_)
   all_goals intros
   refine xshr_v (by omega) (by omega) ?_
   conv=>whnf
   refine roA (a1 ?_)
   all_goals intros
   exact rn (i + 1,L) ⟨by omega,j2,hn⟩
 ·have e : L=veilL x.plan.cells x.veil:=by rw [j3];exact veilTo_end (by omega)
  clear j3
  subst e
  have hlt' : ¬ (i : Int) < x.plan.cells.length∨w8 x.veil.length≤i:=by omega
  clear hlt
  refine roA (a2 ?_ ?_)
  all_goals intros
  all_goals try (refine xwr_w8 ?_;(conv=>whnf);refine roA (a1 ?_);intros)
  all_goals
   refine LoopX_nilB 2 14 3 1 rfl rfl ?_
   conv=>whnf
   refine LoopX_keep [1,2,4,7] ?_
   conv=>whnf
   refine LoopX_p [5] (fun ((k,n,M) : Nat × Nat × List Int)=>k≤x.marks.length∧n=M.length∧n=k∧Hold (M=(x.marks.take k).map (· % 256))) (fun (k,_,_)=>[(7,I k)]) (fun (_,n,M)=>[(2,.box 38 [I x.plan.W,I x.plan.H,.fz g.a.1 g.a.2 1 (fl ye x.plan.cells),I x.plan.W,I x.plan.H,.sl 4 0 0 (0 + x.plan.cells.length) 1,I x.bd.Turn,I x.bd.Length,I x.bd.Slip,I x.bd.Range,I (max 0 (min x.at_.X 4096)),I (max 0 (min x.at_.Y 4096)),I (x.at_.H % 256),nilS,.sl 5 0 0 n 1,I (1 + x.every % 3),I (1 + x.late % 6)]),(5,.row false 3 1 (fl ie M))]) (fun (k,_,_)=>x.marks.length - k) (0,0,[]) ?_ ⟨Nat.zero_le _,rfl,rfl,⟨rfl⟩⟩
   conv=>whnf
   rintro ⟨k,n,M⟩ ⟨k1,rfl,k2,k3⟩
   conv=>whnf
   by_cases hk : k < x.marks.length
   ·have hn : Hold (M ++ [gt x.marks k % 256]=(x.marks.take (k + 1)).map (· % 256)):=⟨by rw [k3.out,List.take_succ,List.map_append];simp [gt,List.getElem?_eq_getElem hk]⟩
    refine roA (a1 ?_)
    all_goals intros
    exact rn (k + 1,M.length + 1,M ++ [gt x.marks k % 256]) ⟨by omega,by rw [List.length_append];rfl,by omega,hn⟩
   ·have e : M=x.marks.map (· % 256):=by rw [k3.out,List.take_of_length_le (by omega)]
    have w5b : 0≤x.w5 % (1 + x.w4 % 4)∧x.w5 % (1 + x.w4 % 4) < 1 + x.w4 % 4:=⟨Int.emod_nonneg _ (by omega),Int.emod_lt_of_pos _ (by omega)⟩
    subst e
    ((conv=>whnf);repeat' (first|with_reducible exact trivial|with_reducible exact Unit.unit|((with_reducible show ValX _ _ _ _ _);refine ValX_ixP 1 rfl rfl rfl ?_ (fun b w=>by kernel_rfl);conv=>whnf)|((with_reducible show xcv _ _ _);refine xcv_tm (by omega) (by omega) (by omega) ?_;conv=>whnf)|((first|((with_reducible show CallX _ _ _ _ _);first|refine CallX_i ?_ zSi|(refine AR_has ?_;(first|(refine AR_chk 1 ?_;apply CallX_me (_);(conv=>whnf);refine ⟨⟨rfl,rfl⟩,zSi,by kernel_rfl,fun hb=>?_⟩)|(refine AR_chk 2 ?_;apply CallX_me (_,_);(conv=>whnf);refine ⟨⟨rfl,rfl⟩,zSi,by kernel_rfl,fun hb=>?_⟩)|(refine AR_chk 3 ?_;apply CallX_me (_,_,_);(conv=>whnf);refine ⟨⟨rfl,rfl⟩,zSi,by kernel_rfl,fun hb=>?_⟩)|(refine AR_chk 4 ?_;apply CallX_me (_,_,_,_);(conv=>whnf);refine ⟨⟨rfl,rfl⟩,zSi,by kernel_rfl,fun hb=>?_⟩)|(refine AR_chk 5 ?_;apply CallX_me (_,_,_,_,_);(conv=>whnf);refine ⟨⟨rfl,rfl⟩,zSi,by kernel_rfl,fun hb=>?_⟩)|(refine AR_chk 6 ?_;apply CallX_me (_,_,_,_,_,_);(conv=>whnf);refine ⟨⟨rfl,rfl⟩,zSi,by kernel_rfl,fun hb=>?_⟩)|(refine AR_chk 7 ?_;apply CallX_me (_,_,_,_,_,_,_);(conv=>whnf);refine ⟨⟨rfl,rfl⟩,zSi,by kernel_rfl,fun hb=>?_⟩)|(refine AR_chk 8 ?_;apply CallX_me (_,_,_,_,_,_,_,_);(conv=>whnf);refine ⟨⟨rfl,rfl⟩,zSi,by kernel_rfl,fun hb=>?_⟩)|(refine AR_chk 9 ?_;apply CallX_me (_,_,_,_,_,_,_,_,_);(conv=>whnf);refine ⟨⟨rfl,rfl⟩,zSi,by kernel_rfl,fun hb=>?_⟩)|(refine AR_chk 10 ?_;apply CallX_me (_,_,_,_,_,_,_,_,_,_);(conv=>whnf);refine ⟨⟨rfl,rfl⟩,zSi,by kernel_rfl,fun hb=>?_⟩)|(refine AR_chk 11 ?_;apply CallX_me (_,_,_,_,_,_,_,_,_,_,_);(conv=>whnf);refine ⟨⟨rfl,rfl⟩,zSi,by kernel_rfl,fun hb=>?_⟩)|(refine AR_chk 12 ?_;apply CallX_me (_,_,_,_,_,_,_,_,_,_,_,_);(conv=>whnf);refine ⟨⟨rfl,rfl⟩,zSi,by kernel_rfl,fun hb=>?_⟩)|(refine AR_chk 13 ?_;apply CallX_me (_,_,_,_,_,_,_,_,_,_,_,_,_);(conv=>whnf);refine ⟨⟨rfl,rfl⟩,zSi,by kernel_rfl,fun hb=>?_⟩)|(refine AR_chk 14 ?_;apply CallX_me (_,_,_,_,_,_,_,_,_,_,_,_,_,_);(conv=>whnf);refine ⟨⟨rfl,rfl⟩,zSi,by kernel_rfl,fun hb=>?_⟩)|(refine AR_chk 15 ?_;apply CallX_me (_,_,_,_,_,_,_,_,_,_,_,_,_,_,_);(conv=>whnf);refine ⟨⟨rfl,rfl⟩,zSi,by kernel_rfl,fun hb=>?_⟩)|(refine AR_chk 16 ?_;apply CallX_me (_,_,_,_,_,_,_,_,_,_,_,_,_,_,_,_);(conv=>whnf);refine ⟨⟨rfl,rfl⟩,zSi,by kernel_rfl,fun hb=>?_⟩))))|(first |(with_reducible show xwr64 _ _);refine xwr_a ?_ |(with_reducible show CallX _ _ _ _ _);(first|refine CallX_i ?_ zSi|(refine AQ_has ?_;(first|(refine AQ_chk 1 ?_;apply CallX_mp (_);(conv=>whnf);refine ⟨⟨rfl,rfl⟩,zSi,by kernel_rfl,?_⟩)|(refine AQ_chk 2 ?_;apply CallX_mp (_,_);(conv=>whnf);refine ⟨⟨rfl,rfl⟩,zSi,by kernel_rfl,?_⟩)|(refine AQ_chk 3 ?_;apply CallX_mp (_,_,_);(conv=>whnf);refine ⟨⟨rfl,rfl⟩,zSi,by kernel_rfl,?_⟩)|(refine AQ_chk 4 ?_;apply CallX_mp (_,_,_,_);(conv=>whnf);refine ⟨⟨rfl,rfl⟩,zSi,by kernel_rfl,?_⟩)|(refine AQ_chk 5 ?_;apply CallX_mp (_,_,_,_,_);(conv=>whnf);refine ⟨⟨rfl,rfl⟩,zSi,by kernel_rfl,?_⟩)|(refine AQ_chk 6 ?_;apply CallX_mp (_,_,_,_,_,_);(conv=>whnf);refine ⟨⟨rfl,rfl⟩,zSi,by kernel_rfl,?_⟩)|(refine AQ_chk 7 ?_;apply CallX_mp (_,_,_,_,_,_,_);(conv=>whnf);refine ⟨⟨rfl,rfl⟩,zSi,by kernel_rfl,?_⟩)|(refine AQ_chk 8 ?_;apply CallX_mp (_,_,_,_,_,_,_,_);(conv=>whnf);refine ⟨⟨rfl,rfl⟩,zSi,by kernel_rfl,?_⟩)|(refine AQ_chk 9 ?_;apply CallX_mp (_,_,_,_,_,_,_,_,_);(conv=>whnf);refine ⟨⟨rfl,rfl⟩,zSi,by kernel_rfl,?_⟩)|(refine AQ_chk 10 ?_;apply CallX_mp (_,_,_,_,_,_,_,_,_,_);(conv=>whnf);refine ⟨⟨rfl,rfl⟩,zSi,by kernel_rfl,?_⟩)|(refine AQ_chk 11 ?_;apply CallX_mp (_,_,_,_,_,_,_,_,_,_,_);(conv=>whnf);refine ⟨⟨rfl,rfl⟩,zSi,by kernel_rfl,?_⟩)|(refine AQ_chk 12 ?_;apply CallX_mp (_,_,_,_,_,_,_,_,_,_,_,_);(conv=>whnf);refine ⟨⟨rfl,rfl⟩,zSi,by kernel_rfl,?_⟩)))|(refine CallX_v fun φ=>?_;(conv=>whnf);(repeat ((with_reducible show ViewE _ _ _ _);(first|refine view_w zLn ?_|refine view_pf zSd ?_|refine view_p zSd ?_);(conv=>whnf)));(with_reducible show CallB _ _ _ _ _);refine CallB_i ?_ zSi)) |(with_reducible show CallB _ _ _ _ _);(with_reducible show CallB _ _ _ _ _);refine CallB_i ?_ zSi |(with_reducible show ValX _ _ _ _ _);(first|refine ValX_idxF tabOk rfl rfl zSd zSd ?_|refine ValX_idxS tabOk rfl rfl rfl zLn zSd zSd zSd ?_|refine ValX_loadF tabOk rfl rfl rfl rfl rfl zSd ?_|refine ValX_loadQ tabOk rfl rfl rfl rfl rfl rfl ?_|refine ValX_sl1 tabOk rfl rfl rfl zLn zSd zSd ?_|refine ValX_slLo tabOk rfl rfl rfl zLn zSd zSd zSd ?_|refine ValX_slHi tabOk rfl rfl rfl zLn zSd zSd zSd ?_|refine ValX_max3 rfl ?_|refine ValX_cpl rfl ?_|refine ValX_fzNil tabOk rfl rfl rfl (fun hb=>?_) ?_|refine ValX_bldA rfl rfl ?_ (fun w=>by kernel_rfl)|refine ValX_bldB rfl rfl ?_ (fun w=>by kernel_rfl)|refine ValX_ixA1 rfl rfl rfl rfl ?_ (fun w=>by kernel_rfl)|refine ValX_ixA2 rfl rfl rfl rfl ?_ (fun w=>by kernel_rfl)) |(with_reducible show OpX _ _ _ _ _);(first|refine OpX_storeF tabOk rfl rfl rfl (by rfl) (by rfl) zSd ?_|refine OpX_appF tabOk rfl rfl zLn rfl rfl zSe rfl zSd zSd ?_|refine OpX_appP tabOk rfl rfl rfl rfl zSe rfl zSd zSd zSd zSd ?_|refine OpX_build_a tabOk rfl rfl rfl ?_ (by rfl)|refine OpX_make_a tabOk rfl rfl rfl ?_ (by rfl) (by rfl) zSd zSd zSd|refine OpX_build0_a tabOk rfl rfl rfl ?_|refine OpX_nil_a rfl rfl ?_) |(with_reducible show DrawX _ _ _ _ _);refine DrawX_s tabOk folOk ?_ |(with_reducible show DrawS _ _ _ _ _ _ _);refine DrawS_i (by kernel_rfl) ?_ |(with_reducible show ViewE _ _ _ _);(first|refine view_w zLn ?_|refine view_pf zSd ?_|refine view_p zSd ?_) |(with_reducible show xquo64 _ _ _);(first|refine xquo_a ?_|refine xquo_b ?_) |(with_reducible show xrem64 _ _ _);(first|refine xrem_a ?_|refine xrem_b ?_) |(with_reducible show xshr _ _ _ _);(first|refine xshr_1 ?_|refine xshr_32 ?_|refine xshr_6 ?_|refine xshr_7 ?_|refine xshr_8 ?_|refine xshr_63 ?_) |(with_reducible show xshl _ _ _ _);(first|refine xshl_1u ?_|refine xshl_0u ?_|refine xshl_7u ?_) |(with_reducible show andX _ _);refine andX_i ?_ ?_ |(with_reducible show need _ _);refine need_i zSd ?_ |(with_reducible show xwru _ _ _);(first|refine xwru_64 (by omega) (by omega) ?_|refine xwru_32 (by omega) (by omega) ?_|refine xwru_32m ?_) |(with_reducible show xquou _ _ _ _);refine xquou_nn (by omega) (by omega) (by omega) ?_ |(with_reducible show xremu _ _ _);refine xremu_nn (by omega) (by omega) ?_ |(with_reducible show xcv _ _ _);(first|refine xcv_i64 (by omega) (by omega) ?_|refine xcv_u8 (by omega) (by omega) ?_|refine xcv_u32 (by omega) (by omega) ?_|refine xcv_u64 (by omega) (by omega) ?_|refine xcv_u8m ?_|refine xcv_u32m ?_|refine xcv_u64m ?_))|(first |(with_reducible show OpX _ _ _ _ _);(first|refine OpX_clearF tabOk rfl rfl rfl rfl rfl rfl zSd ?_|refine OpX_buildD tabOk rfl rfl rfl rfl (by rfl) ?_|refine OpX_appD tabOk rfl rfl zLd rfl rfl zSf rfl zSd zSd ?_|refine OpX_appZ tabOk rfl rfl rfl rfl (by rfl) zSd zSd zSd ?_) |(with_reducible show ValX _ _ _ _ _);(first|refine ValX_idxD tabOk rfl rfl zSd zSd ?_|refine ValX_loadA tabOk rfl rfl (by rfl) (by rfl) ?_|refine ValX_loadZD tabOk rfl rfl rfl (by rfl) (by rfl) zSd ?_|refine ValX_idxS tabOk rfl rfl rfl (flD_len _ _) zSd zSd zSd ?_|refine ValX_cap0 tabOk rfl rfl ?_|refine ValX_slNil tabOk rfl rfl ?_|refine ValX_fld rfl rfl rfl (fun σ w=>by kernel_rfl) ?_|refine ValX_idxL tabOk rfl rfl (by decide) (by simp;done) rfl ?_) |(with_reducible show CallX _ _ _ _ _);(first|(apply CallX_me (.unit);(conv=>whnf);refine ⟨⟨rfl,rfl⟩,zSi,by kernel_rfl,fun hb=>?_⟩)|(refine AQ_has ?_;(first|(refine AQ_chk 1 ?_;apply CallX_mv (_);intro φ;(conv=>whnf);refine ⟨rfl,?_⟩;(repeat ((with_reducible show ViewE _ _ _ _);(first|refine view_w zLn ?_|refine view_pf zSd ?_|refine view_p zSd ?_);(conv=>whnf)));refine ⟨rfl,zSi,by kernel_rfl,?_⟩)|(refine AQ_chk 2 ?_;apply CallX_mv (_,_);intro φ;(conv=>whnf);refine ⟨rfl,?_⟩;(repeat ((with_reducible show ViewE _ _ _ _);(first|refine view_w zLn ?_|refine view_pf zSd ?_|refine view_p zSd ?_);(conv=>whnf)));refine ⟨rfl,zSi,by kernel_rfl,?_⟩)|(refine AQ_chk 3 ?_;apply CallX_mv (_,_,_);intro φ;(conv=>whnf);refine ⟨rfl,?_⟩;(repeat ((with_reducible show ViewE _ _ _ _);(first|refine view_w zLn ?_|refine view_pf zSd ?_|refine view_p zSd ?_);(conv=>whnf)));refine ⟨rfl,zSi,by kernel_rfl,?_⟩)|(refine AQ_chk 4 ?_;apply CallX_mv (_,_,_,_);intro φ;(conv=>whnf);refine ⟨rfl,?_⟩;(repeat ((with_reducible show ViewE _ _ _ _);(first|refine view_w zLn ?_|refine view_pf zSd ?_|refine view_p zSd ?_);(conv=>whnf)));refine ⟨rfl,zSi,by kernel_rfl,?_⟩)|(refine AQ_chk 5 ?_;apply CallX_mv (_,_,_,_,_);intro φ;(conv=>whnf);refine ⟨rfl,?_⟩;(repeat ((with_reducible show ViewE _ _ _ _);(first|refine view_w zLn ?_|refine view_pf zSd ?_|refine view_p zSd ?_);(conv=>whnf)));refine ⟨rfl,zSi,by kernel_rfl,?_⟩)|(refine AQ_chk 6 ?_;apply CallX_mv (_,_,_,_,_,_);intro φ;(conv=>whnf);refine ⟨rfl,?_⟩;(repeat ((with_reducible show ViewE _ _ _ _);(first|refine view_w zLn ?_|refine view_pf zSd ?_|refine view_p zSd ?_);(conv=>whnf)));refine ⟨rfl,zSi,by kernel_rfl,?_⟩)|(refine AQ_chk 7 ?_;apply CallX_mv (_,_,_,_,_,_,_);intro φ;(conv=>whnf);refine ⟨rfl,?_⟩;(repeat ((with_reducible show ViewE _ _ _ _);(first|refine view_w zLn ?_|refine view_pf zSd ?_|refine view_p zSd ?_);(conv=>whnf)));refine ⟨rfl,zSi,by kernel_rfl,?_⟩)|(refine AQ_chk 8 ?_;apply CallX_mv (_,_,_,_,_,_,_,_);intro φ;(conv=>whnf);refine ⟨rfl,?_⟩;(repeat ((with_reducible show ViewE _ _ _ _);(first|refine view_w zLn ?_|refine view_pf zSd ?_|refine view_p zSd ?_);(conv=>whnf)));refine ⟨rfl,zSi,by kernel_rfl,?_⟩)|(refine AQ_chk 9 ?_;apply CallX_mv (_,_,_,_,_,_,_,_,_);intro φ;(conv=>whnf);refine ⟨rfl,?_⟩;(repeat ((with_reducible show ViewE _ _ _ _);(first|refine view_w zLn ?_|refine view_pf zSd ?_|refine view_p zSd ?_);(conv=>whnf)));refine ⟨rfl,zSi,by kernel_rfl,?_⟩)|(refine AQ_chk 10 ?_;apply CallX_mv (_,_,_,_,_,_,_,_,_,_);intro φ;(conv=>whnf);refine ⟨rfl,?_⟩;(repeat ((with_reducible show ViewE _ _ _ _);(first|refine view_w zLn ?_|refine view_pf zSd ?_|refine view_p zSd ?_);(conv=>whnf)));refine ⟨rfl,zSi,by kernel_rfl,?_⟩)|(refine AQ_chk 11 ?_;apply CallX_mv (_,_,_,_,_,_,_,_,_,_,_);intro φ;(conv=>whnf);refine ⟨rfl,?_⟩;(repeat ((with_reducible show ViewE _ _ _ _);(first|refine view_w zLn ?_|refine view_pf zSd ?_|refine view_p zSd ?_);(conv=>whnf)));refine ⟨rfl,zSi,by kernel_rfl,?_⟩)|(refine AQ_chk 12 ?_;apply CallX_mv (_,_,_,_,_,_,_,_,_,_,_,_);intro φ;(conv=>whnf);refine ⟨rfl,?_⟩;(repeat ((with_reducible show ViewE _ _ _ _);(first|refine view_w zLn ?_|refine view_pf zSd ?_|refine view_p zSd ?_);(conv=>whnf)));refine ⟨rfl,zSi,by kernel_rfl,?_⟩)))|(refine CallX_w fun φ=>?_;(conv=>whnf);(repeat ((with_reducible show ViewE _ _ _ _);(first|refine view_w zLn ?_|refine view_pf zSd ?_|refine view_p zSd ?_);(conv=>whnf)));(with_reducible show CallR _ _ _ _ _);refine CallR_i ?_ zSi)|(refine CallX_v fun φ=>?_;(conv=>whnf);(repeat ((with_reducible show ViewE _ _ _ _);(first|refine view_w zLn ?_|refine view_pf zSd ?_|refine view_p zSd ?_);(conv=>whnf)));(with_reducible show CallB _ _ _ _ _);refine CallB_di ?_ zSi)) |(with_reducible show CallB _ _ _ _ _);refine CallB_di ?_ zSi))<;>conv=>whnf)|((with_reducible show ∀ (_ : Nat→Option Addr × Nat),_);intro hb;conv=>whnf)|((with_reducible show _=_);rfl)|((with_reducible refine xif_s ?_ ?_)<;>(intro hb;((try simp (disch:=omega) only [hbS,fl_len] at hb);(try have hb:=bnd hb))<;>first|(exfalso;omega)|(exact (cfl hb (by with_reducible assumption)).elim)|(exact (cfl (by with_reducible assumption) hb).elim)|conv=>whnf))))
    repeat clear hb
    refine CallX_fr 4 rfl fun A1 c1=>?_
    conv=>whnf
    (repeat ((with_reducible show ViewE _ _ _ _);(first|refine view_w zLn ?_|refine view_pf zSd ?_|refine view_p zSd ?_);(conv=>whnf)))
    refine CallX_fr 5 rfl fun A2 c2=>?_
    conv=>whnf
    (repeat ((with_reducible show ViewE _ _ _ _);(first|refine view_w zLn ?_|refine view_pf zSd ?_|refine view_p zSd ?_);(conv=>whnf)))
    refine CallX_fr 7 rfl fun A3 c3=>?_
    conv=>whnf
    (repeat ((with_reducible show ViewE _ _ _ _);(first|refine view_w zLn ?_|refine view_pf zSd ?_|refine view_p zSd ?_);(conv=>whnf)))
    rw [show List.take (0 + x.plan.cells.length) (List.drop 0 (veilL x.plan.cells x.veil))=veilL x.plan.cells x.veil from by rw [List.drop_zero,List.take_of_length_le (by omega)]]
    by_cases he : errN (honS x)=0
    ·apply CallX_me (h:=new_ok (s:=honS x) (g:=⟨g.a,(A1,c1),(A3,c3),(A2,c2)⟩) he) ()
     conv=>whnf
     refine ⟨⟨rfl,rfl⟩,hlen,by kernel_rfl,fun g0=>?_⟩
     rw [decide_eq_true he]
     refine roA (a1 ?_)
     all_goals intros
     refine Fin_ja ((A1,c1),(A3,c3),A2,c2) ?_
     conv=>whnf
     exact ⟨rfl,rfl,rfl⟩
    ·refine CallX_i (h:=new_no (s:=honS x) (g:=⟨g.a,(A1,c1),(A3,c3),(A2,c2)⟩) he) ?_ hlen
     conv=>whnf
     rw [decide_eq_false he]
     refine roA (a1 ?_)
     all_goals intros
     refine Fin_ja ((A1,c1),(A3,c3),A2,c2) ?_
     conv=>whnf
     exact ⟨rfl,rfl,rfl⟩⟩
theorem honest_yes {x : Sc} {g : Gs} (h : grdB x = true) (hx : x.ok) (he : errN (honS x) = 0) : CMe 8 Unit true (fun _ => [x.s g]) (fun _ => []) (fun _ => True) ((Option Addr × Nat) × (Option Addr × Nat) × Option Addr × Nat) (fun _ q => .t [(honS x).s ⟨g.a, q.1, q.2.1, q.2.2⟩, B true]) (fun _ _ => []) := by
 have h9:=honest_c (g:=g) h hx
 rwa [decide_eq_true he] at h9
theorem honest_err {x : Sc} {g : Gs} (h : grdB x = true) (hx : x.ok) (he : ¬ errN (honS x) = 0) : CMe 8 Unit true (fun _ => [x.s g]) (fun _ => []) (fun _ => True) ((Option Addr × Nat) × (Option Addr × Nat) × Option Addr × Nat) (fun _ q => .t [(honS x).s ⟨g.a, q.1, q.2.1, q.2.2⟩, B false]) (fun _ _ => []) := by
 have h9:=honest_c (g:=g) h hx
 rwa [decide_eq_false he] at h9
end Go.Proofs.YtkflmidichikjaaGreatDoor.V
end
section
namespace Go.Proofs.YtkflmidichikjaaGreatDoor.V
open Go.RowKit
set_option maxRecDepth 100000
set_option maxHeartbeats 16000000
open Heading BoxP Drive PlanP Known Contr Loc Jou Atl RobotP Mon Mot Sys
instance inVsy7_1 : CMe 12 (Gh × SS) true (fun _ => [.p 3 0]) (fun (g, S) => sysO g S) (fun (_, S) => S.ft.set.length ≤ 1000000000) (Option Addr × Nat) (fun (_, S) q => .fz q.1 q.2 6 (fl Box.e S.ft.set)) (fun (g, S) _ => sysO g S) := ⟨fun (g, S) p1 => by
 dsimp only [sysO] at *
 refine CM.of Tryz.func12 rfl tabOk rfl rfl rfl rfl (by simp [SV.nms,SV.nm]) fun w_ M_ π_ G0_=>?_
 refine roA (a1 ?_)
 all_goals intros
 (first|refine Fin_fr 30 rfl fun A1 c1=>?_|refine Fin_fr 29 rfl fun A1 c1=>?_|refine Fin_fr 28 rfl fun A1 c1=>?_|refine Fin_fr 27 rfl fun A1 c1=>?_|refine Fin_fr 26 rfl fun A1 c1=>?_|refine Fin_fr 25 rfl fun A1 c1=>?_|refine Fin_fr 24 rfl fun A1 c1=>?_|refine Fin_fr 23 rfl fun A1 c1=>?_|refine Fin_fr 22 rfl fun A1 c1=>?_|refine Fin_fr 21 rfl fun A1 c1=>?_|refine Fin_fr 20 rfl fun A1 c1=>?_|refine Fin_fr 19 rfl fun A1 c1=>?_|refine Fin_fr 18 rfl fun A1 c1=>?_|refine Fin_fr 17 rfl fun A1 c1=>?_|refine Fin_fr 16 rfl fun A1 c1=>?_|refine Fin_fr 15 rfl fun A1 c1=>?_|refine Fin_fr 14 rfl fun A1 c1=>?_|refine Fin_fr 13 rfl fun A1 c1=>?_|refine Fin_fr 12 rfl fun A1 c1=>?_|refine Fin_fr 11 rfl fun A1 c1=>?_|refine Fin_fr 10 rfl fun A1 c1=>?_)
 conv=>whnf
 (repeat ((with_reducible show ViewE _ _ _ _);(first|refine view_w zLn ?_|refine view_pf zSd ?_|refine view_p zSd ?_);(conv=>whnf)))
 refine Fin_ja (A1,c1) ?_
 conv=>whnf
 exact ⟨rfl,rfl,rfl⟩⟩
instance inVsy7_2 : AR 12 2 := ⟨trivial⟩
end Go.Proofs.YtkflmidichikjaaGreatDoor.V
end
