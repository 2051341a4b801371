import Derived.Test.YtkflmidichikjaaGreatDoorZSystemReplays29
import Derived.Test.YtkflmidichikjaaGreatDoorZSystemReplays17
import Derived.Maps.Own
import Derived.Maps.OwnOps
import Derived.MapKept
import Derived.Test.YtkflmidichikjaaGreatDoorZSystemReplays09
set_option linter.all false
section
namespace Go.Proofs.YtkflmidichikjaaGreatDoor.V
open Go.RowKit
set_option maxRecDepth 100000
set_option maxHeartbeats 16000000
open Heading BoxP Drive PlanP Known Contr Loc Jou Wire
instance inVj3_1 {A : Option Addr} {c : Nat} {t u f : Int} {b : Bool} {s : List Beam} : CFc 70 false [.a [I t, I u, I f, B b, .fz A c 2 (fl Beam.e s)]] (s.length ≤ 1000000000) (.a [I t, I u, I f, B b, .sl 0 0 0 s.length 2]) [.row false 221 2 (fl Beam.e s)] := ⟨fun hp => by
 refine CM.of Tryz.func70 rfl tabOk rfl rfl rfl rfl (by simp [SV.nms,SV.nm]) fun w_ M_ π_ G0_=>?_
 exact ru⟩
namespace Jou
def beamB (b : Beam) : List Int := uintB b.Mark ++ uintB (b.Reading + 1)
def encB (t u f : Int) (b : Bool) (s : List Beam) : List Int := intB t ++ intB u ++ intB f ++ [if b then 1 else 0] ++ uintB s.length ++ s.flatMap beamB
end Jou
namespace Jou
theorem intB_len {n : Int} : (intB n).length ≤ 10 := uintB_len
end Jou
attribute [local irreducible] intB
instance inVj3_2 {A : Option Addr} {c : Nat} {t u f : Int} {b : Bool} {s : List Beam} : CFc 110 false [.a [I t, I u, I f, B b, .fz A c 2 (fl Beam.e s)]] (Contr.vScan s = true) (.sl 0 0 0 (encB t u f b s).length 1) [.row false 5 1 (fl ye (encB t u f b s))] := ⟨fun hp => by
 have hv:=vScan_iff.1 hp
 have l1:=hv.2
 have k1 : (intB t).length≤10:=intB_len
 have k2 : (intB u).length≤10:=intB_len
 have k3 : (intB f).length≤10:=intB_len
 have e1 : (fl Beam.e s).length=s.length:=fl_len _ _
 have k4 : (uintB ((fl Beam.e s).length : Int)).length≤10:=uintB_len
 have hu : Hold (0≤((fl Beam.e s).length : Int)∧((fl Beam.e s).length : Int) < 18446744073709551616):=⟨by omega⟩
 unfold encB
 rw [show uintB (s.length : Int)=uintB ((fl Beam.e s).length : Int) by rw [e1]]
 obtain ⟨x,hx⟩ : ∃ x : Int,x=if b=true then 1 else 0:=⟨_,rfl⟩
 rw [← hx]
 cases b
 ·simp only [if_true,Bool.false_eq_true,if_false] at hx
  subst hx
  refine CM.of Tryz.func110 rfl tabOk rfl rfl rfl rfl (by simp [SV.nms,SV.nm]) fun w_ M_ π_ G0_=>?_
  refine ruA (a1 ?_)
  generalize hU : uintB ((fl Beam.e s).length : Int)=U at *
  clear hU
  obtain ⟨x,hx⟩ : ∃ x : List Int,x=intB t ++ intB u ++ intB f ++ [(0 : Int)] ++ U:=⟨_,rfl⟩
  have hL : List.take ((intB t).length + (intB u).length + (intB f).length + 1) (List.drop 0 (List.take ((intB t).length + (intB u).length + (intB f).length) (List.drop 0 (List.take ((intB t).length + (intB u).length) (List.drop 0 (intB t ++ intB u)) ++ intB f)) ++ List.take 1 (List.drop 0 [(0 : Int)]))) ++ U=intB t ++ intB u ++ intB f ++ [(0 : Int)] ++ U:=by
   simp only [List.drop_zero]
   rw [List.take_of_length_le (l:=intB t ++ intB u) (by simp),List.take_of_length_le (l:=intB t ++ intB u ++ intB f) (by simp only [List.length_append];omega),List.take_of_length_le (l:=[(0 : Int)]) (by simp),List.take_of_length_le (l:=intB t ++ intB u ++ intB f ++ [(0 : Int)]) (by simp only [List.length_append,List.length_cons,List.length_nil];omega)]
  refine LoopX_p [9] (fun ((i,n,L) : Nat × Nat × List Int)=>(i≤s.length∧n=L.length∧n≤41 + 20 * i)∧L=x ++ (s.take i).flatMap beamB) (fun (i,n,_)=>[(3,.sl 9 0 0 n 1),(38,I i)]) (fun (_,_,L)=>[(9,.row false 5 1 (fl ye L))]) (fun (i,_,_)=>s.length - i) (0,(intB t).length + (intB u).length + (intB f).length + 1 + U.length,List.take ((intB t).length + (intB u).length + (intB f).length + 1) (List.drop 0 (List.take ((intB t).length + (intB u).length + (intB f).length) (List.drop 0 (List.take ((intB t).length + (intB u).length) (List.drop 0 (intB t ++ intB u)) ++ intB f)) ++ List.take 1 (List.drop 0 [(0 : Int)]))) ++ U) ?_ ⟨⟨by omega,by rw [hL];simp;omega,by omega⟩,by rw [hL,hx];simp⟩
  conv=>whnf
  rintro ⟨i,n,L⟩ ⟨⟨j1,rfl,j2⟩,j3⟩
  by_cases hi : i < s.length
  ·have e:=flat_next (f:=beamB) hi
   have hb2:=vBeam_iff.1 (hv.1 _ (gt_mem hi))
   have q : (0≤(gt s (i : Int).toNat).Mark∧(gt s (i : Int).toNat).Mark≤255)∧-1≤(gt s (i : Int).toNat).Reading∧(gt s (i : Int).toNat).Reading≤1024:=hb2
   have u1 : Hold (0≤(gt s (i : Int).toNat).Mark∧(gt s (i : Int).toNat).Mark < 18446744073709551616):=⟨by omega⟩
   have u2 : Hold (0≤(gt s (i : Int).toNat).Reading + 1∧(gt s (i : Int).toNat).Reading + 1 < 18446744073709551616):=⟨by omega⟩
   have k5 : (uintB (gt s (i : Int).toNat).Mark).length≤10:=uintB_len
   have k6 : (uintB ((gt s (i : Int).toNat).Reading + 1)).length≤10:=uintB_len
   have Hj : Hold (_∧_):=⟨⟨j3,e⟩⟩
   clear j3 e hb2
   have hT : List.take (L.length + (uintB (gt s (i : Int).toNat).Mark).length) (List.drop 0 (L ++ uintB (gt s (i : Int).toNat).Mark))=L ++ uintB (gt s (i : Int).toNat).Mark:=by rw [List.drop_zero,List.take_of_length_le (by simp)]
   refine ruA (a1 ?_)
   intro _
   refine rn (i + 1,L.length + (uintB (gt s (i : Int).toNat).Mark).length + (uintB ((gt s (i : Int).toNat).Reading + 1)).length,List.take (L.length + (uintB (gt s (i : Int).toNat).Mark).length) (List.drop 0 (L ++ uintB (gt s (i : Int).toNat).Mark)) ++ uintB ((gt s (i : Int).toNat).Reading + 1)) ⟨⟨by omega,by rw [hT];simp;omega,by omega⟩,?_⟩
   rw [hT,Hj.out.2,Hj.out.1]
   simp only [List.append_assoc]
   rfl
  ·obtain rfl : i=s.length:=by omega
   rw [List.take_length] at j3
   rw [← hx,← j3]
   clear j3 hx
   exact ru
 ·simp only [if_true,Bool.false_eq_true,if_false] at hx
  subst hx
  refine CM.of Tryz.func110 rfl tabOk rfl rfl rfl rfl (by simp [SV.nms,SV.nm]) fun w_ M_ π_ G0_=>?_
  refine ruA (a1 ?_)
  generalize hU : uintB ((fl Beam.e s).length : Int)=U at *
  clear hU
  obtain ⟨x,hx⟩ : ∃ x : List Int,x=intB t ++ intB u ++ intB f ++ [(1 : Int)] ++ U:=⟨_,rfl⟩
  have hL : List.take ((intB t).length + (intB u).length + (intB f).length + 1) (List.drop 0 (List.take ((intB t).length + (intB u).length + (intB f).length) (List.drop 0 (List.take ((intB t).length + (intB u).length) (List.drop 0 (intB t ++ intB u)) ++ intB f)) ++ List.take 1 (List.drop 0 [(1 : Int)]))) ++ U=intB t ++ intB u ++ intB f ++ [(1 : Int)] ++ U:=by
   simp only [List.drop_zero]
   rw [List.take_of_length_le (l:=intB t ++ intB u) (by simp),List.take_of_length_le (l:=intB t ++ intB u ++ intB f) (by simp only [List.length_append];omega),List.take_of_length_le (l:=[(1 : Int)]) (by simp),List.take_of_length_le (l:=intB t ++ intB u ++ intB f ++ [(1 : Int)]) (by simp only [List.length_append,List.length_cons,List.length_nil];omega)]
  refine LoopX_p [9] (fun ((i,n,L) : Nat × Nat × List Int)=>(i≤s.length∧n=L.length∧n≤41 + 20 * i)∧L=x ++ (s.take i).flatMap beamB) (fun (i,n,_)=>[(3,.sl 9 0 0 n 1),(38,I i)]) (fun (_,_,L)=>[(9,.row false 5 1 (fl ye L))]) (fun (i,_,_)=>s.length - i) (0,(intB t).length + (intB u).length + (intB f).length + 1 + U.length,List.take ((intB t).length + (intB u).length + (intB f).length + 1) (List.drop 0 (List.take ((intB t).length + (intB u).length + (intB f).length) (List.drop 0 (List.take ((intB t).length + (intB u).length) (List.drop 0 (intB t ++ intB u)) ++ intB f)) ++ List.take 1 (List.drop 0 [(1 : Int)]))) ++ U) ?_ ⟨⟨by omega,by rw [hL];simp;omega,by omega⟩,by rw [hL,hx];simp⟩
  conv=>whnf
  rintro ⟨i,n,L⟩ ⟨⟨j1,rfl,j2⟩,j3⟩
  by_cases hi : i < s.length
  ·have e:=flat_next (f:=beamB) hi
   have hb2:=vBeam_iff.1 (hv.1 _ (gt_mem hi))
   have q : (0≤(gt s (i : Int).toNat).Mark∧(gt s (i : Int).toNat).Mark≤255)∧-1≤(gt s (i : Int).toNat).Reading∧(gt s (i : Int).toNat).Reading≤1024:=hb2
   have u1 : Hold (0≤(gt s (i : Int).toNat).Mark∧(gt s (i : Int).toNat).Mark < 18446744073709551616):=⟨by omega⟩
   have u2 : Hold (0≤(gt s (i : Int).toNat).Reading + 1∧(gt s (i : Int).toNat).Reading + 1 < 18446744073709551616):=⟨by omega⟩
   have k5 : (uintB (gt s (i : Int).toNat).Mark).length≤10:=uintB_len
   have k6 : (uintB ((gt s (i : Int).toNat).Reading + 1)).length≤10:=uintB_len
   have Hj : Hold (_∧_):=⟨⟨j3,e⟩⟩
   clear j3 e hb2
   have hT : List.take (L.length + (uintB (gt s (i : Int).toNat).Mark).length) (List.drop 0 (L ++ uintB (gt s (i : Int).toNat).Mark))=L ++ uintB (gt s (i : Int).toNat).Mark:=by rw [List.drop_zero,List.take_of_length_le (by simp)]
   refine ruA (a1 ?_)
   intro _
   refine rn (i + 1,L.length + (uintB (gt s (i : Int).toNat).Mark).length + (uintB ((gt s (i : Int).toNat).Reading + 1)).length,List.take (L.length + (uintB (gt s (i : Int).toNat).Mark).length) (List.drop 0 (L ++ uintB (gt s (i : Int).toNat).Mark)) ++ uintB ((gt s (i : Int).toNat).Reading + 1)) ⟨⟨by omega,by rw [hT];simp;omega,by omega⟩,?_⟩
   rw [hT,Hj.out.2,Hj.out.1]
   simp only [List.append_assoc]
   rfl
  ·obtain rfl : i=s.length:=by omega
   rw [List.take_length] at j3
   rw [← hx,← j3]
   clear j3 hx
   exact ru⟩
namespace Jou
theorem encB_len {t u f : Int} {b : Bool} {s : List Beam} (h : s.length ≤ 32) : (encB t u f b s).length ≤ 681 := by
 have h1:=flat_len' (f:=beamB) (n:=20) (fun b=>by
  have:=uintB_len (n:=b.Mark)
  have:=uintB_len (n:=b.Reading + 1)
  simp only [beamB,List.length_append]
  omega) s
 have h2 : s.length * 20≤32 * 20:=Nat.mul_le_mul_right _ h
 have k1:=intB_len (n:=t)
 have k2:=intB_len (n:=u)
 have k3:=intB_len (n:=f)
 have k4:=uintB_len (n:=(s.length : Int))
 unfold encB
 simp only [List.length_append,List.length_cons,List.length_nil]
 omega
attribute [irreducible] encB
end Jou
end Go.Proofs.YtkflmidichikjaaGreatDoor.V
end
section
namespace Go.Proofs.YtkflmidichikjaaGreatDoor.V
open Go.RowKit
set_option maxRecDepth 100000
set_option maxHeartbeats 16000000
open Heading BoxP Drive PlanP Known Contr Loc Jou
namespace Atl
def vId (n : Int) : Bool := decide (0 ≤ n) && decide (n < 64)
def farA (n : Int) : Bool := decide (-262144 ≤ n) && decide (n ≤ 262144)
def numA (b : Bool) : Int := if b then 1 else 0
def vPl (v : Int) (g : Bool) (x y h : Int) : Bool := if v < 1 ∨ v > 1073741824 then false else if g = true then (x == 0 && (y == 0 && (h == 0 && true))) else farA x && (farA y && (decide (0 ≤ h) && decide (h < 256)))
end Atl
open Atl
section
variable {A : Option Addr} {cc : Nat} {s : List Beam} {a b n : Int} {t : Bool}
instance inVat_1 : CFc 236 false [I n] True (B (farA n)) [] := ⟨fun _ => by
 unfold farA
 refine CM.of Tryz.func236 rfl tabOk rfl rfl rfl rfl (by simp [SV.nms,SV.nm]) fun w_ M_ π_ G0_=>?_
 exact ru⟩
instance inVat_2 : CFc 164 false [I n] True (B (vId n)) [] := ⟨fun _ => by
 unfold vId
 refine CM.of Tryz.func164 rfl tabOk rfl rfl rfl rfl (by simp [SV.nms,SV.nm]) fun w_ M_ π_ G0_=>?_
 exact ru⟩
instance inVat_3 : CFc 237 false [B t] True (I (numA t)) [] := ⟨fun _ => by
 unfold numA
 cases t
 ·refine CM.of Tryz.func237 rfl tabOk rfl rfl rfl rfl (by simp [SV.nms,SV.nm]) fun w_ M_ π_ G0_=>?_
  exact ru
 ·refine CM.of Tryz.func237 rfl tabOk rfl rfl rfl rfl (by simp [SV.nms,SV.nm]) fun w_ M_ π_ G0_=>?_
  exact ru⟩
instance inVat_4 : CFc 229 false [.a [I a, I b]] True (B (!vBeam ⟨a, b⟩)) [] := ⟨fun hp => by
 unfold vBeam between
 simp only
 by_cases h : b≤1024
 ·have hd : ¬1024 < b:=by omega
  refine CM.of Tryz.func229 rfl tabOk rfl rfl rfl rfl (by simp [SV.nms,SV.nm]) fun w_ M_ π_ G0_=>?_
  exact ru
 ·refine CM.of Tryz.func229 rfl tabOk rfl rfl rfl rfl (by simp [SV.nms,SV.nm]) fun w_ M_ π_ G0_=>?_
  exact ru⟩
instance inVat_5 : CFc 163 false [.fz A cc 2 (fl Beam.e s)] (s.length ≤ 1000000000) (B (Contr.vScan s)) [] := ⟨fun hp => by
 have e : Contr.vScan s=(decide ((s.length : Int)≤32) && !s.any fun b=>!vBeam b):=by
  rw [Bool.eq_iff_iff,vScan_iff]
  simp
  exact ⟨fun h=>⟨by omega,h.1⟩,fun h=>⟨h.2,by omega⟩⟩
 rw [e]
 clear e
 refine CM.of Tryz.func163 rfl tabOk rfl rfl rfl rfl (by simp [SV.nms,SV.nm]) fun w_ M_ π_ G0_=>?_
 exact ru⟩
instance inVat_6 {v x y h : Int} {g : Bool} : CFc 167 false [.a [I v, B g, I x, I y, I h]] True (B (vPl v g x y h)) [] := ⟨fun hp => by
 unfold vPl
 by_cases hv : v < 1∨v > 1073741824
 ·rw [if_pos hv]
  refine CM.of Tryz.func167 rfl tabOk rfl rfl rfl rfl (by simp [SV.nms,SV.nm]) fun w_ M_ π_ G0_=>?_
  exact ru
 ·rw [if_neg hv]
  cases g with
  | true =>
    simp only [if_true]
    refine CM.of Tryz.func167 rfl tabOk rfl rfl rfl rfl (by simp [SV.nms,SV.nm]) fun w_ M_ π_ G0_=>?_
    exact ru
  | false =>
    simp only [Bool.false_eq_true,if_false]
    refine CM.of Tryz.func167 rfl tabOk rfl rfl rfl rfl (by simp [SV.nms,SV.nm]) fun w_ M_ π_ G0_=>?_
    exact ru⟩
instance inVat_7 : CFc 60 false [.v (.pointer none)] True (I 0) [] := ⟨fun hp => by
 refine CM.of Tryz.func60 rfl tabOk rfl rfl rfl rfl (by simp [SV.nms,SV.nm]) fun w_ M_ π_ G0_=>?_
 exact ru⟩
end
end Go.Proofs.YtkflmidichikjaaGreatDoor.V
end
section
namespace Go.Proofs.YtkflmidichikjaaGreatDoor.V
open Go.RowKit Go.MapKept
open Go.ChangeMaps (setBlock)
set_option maxRecDepth 100000
section
variable {κ : Type} [DecidableEq κ] {α : Type}
def mE (ke : κ → Value) : List (κ × Value) → Nat → List MapEntry
 | [],_=>[]
 | (k,v) :: r,i=>{ key:=ke k,val:=v,born:=i } :: mE ke r (i + 1)
def ixM : List (κ × α) → κ → Option (Nat × α)
 | [],_=>none
 | (k',v) :: r,k=>if k=k' then some (0,v) else (ixM r k).map fun p=>(p.1 + 1,p.2)
def lkM (m : List (κ × α)) (k : κ) : Option α := (ixM m k).map (·.2)
def stM : List (κ × α) → κ → α → List (κ × α)
 | [],k,v=>[(k,v)]
 | (k',v') :: r,k,v=>if k=k' then (k,v) :: r else (k',v') :: stM r k v
variable {ke : κ → Value}
theorem mE_append : ∀ (m l : List (κ × Value)) (i : Nat), mE ke (m ++ l) i = mE ke m i ++ mE ke l (i + m.length)
 | [],l,i=>by simp [mE]
 | (k,v) :: r,l,i=>by
   simp only [List.cons_append,mE,mE_append r l (i + 1),List.length_cons]
   rw [show i + 1 + r.length=i + (r.length + 1) by omega]
theorem mE_get : ∀ (m : List (κ × Value)) (s i : Nat), (mE ke m s)[i]? = (m[i]?).map fun e => { key := ke e.1, val := e.2, born := s + i }
 | [],_,_=>by simp [mE]
 | (k,v) :: r,s,0=>by simp [mE]
 | (k,v) :: r,s,i + 1=>by
   simp only [mE,List.getElem?_cons_succ,mE_get r (s + 1) i]
   rw [show s + 1 + i=s + (i + 1) by omega]
theorem ixM_some : ∀ {m : List (κ × α)} {k : κ} {p : Nat × α} (v : α), ixM m k = some p → m[p.1]? = some (k, p.2) ∧ stM m k v = m.set p.1 (k, v)
 | [],_,_,_,h=>by cases h
 | (k',u) :: r,k,p,v,h=>by
   unfold ixM at h
   unfold stM
   by_cases hk : k=k'
   ·rw [if_pos hk] at h
    cases h
    subst hk
    simp
   ·rw [if_neg hk] at h
    rw [if_neg hk]
    cases hr : ixM r k with
    | none=>rw [hr] at h;cases h
    | some q =>
      rw [hr] at h
      cases h
      obtain ⟨h1,h2⟩:=ixM_some v hr
      simp [h1,h2]
theorem ixM_none : ∀ {m : List (κ × α)} {k : κ} (v : α), ixM m k = none → stM m k v = m ++ [(k, v)]
 | [],_,_,_=>rfl
 | (k',u) :: r,k,v,h=>by
   unfold ixM at h
   unfold stM
   by_cases hk : k=k'
   ·rw [if_pos hk] at h
    cases h
   ·rw [if_neg hk] at h
    rw [if_neg hk]
    cases hr : ixM r k with
    | none=>simp [ixM_none v hr]
    | some q=>rw [hr] at h;cases h
theorem lkM_st (m : List (κ × α)) (k : κ) (v : α) (k' : κ) : lkM (stM m k v) k' = if k' = k then some v else lkM m k' := by
 unfold lkM
 induction m with
 | nil =>
   by_cases h : k' = k<;>simp [stM,ixM,h]
 | cons e r ih =>
   obtain ⟨q,u⟩:=e
   unfold stM
   by_cases h : k=q
   ·subst h
    rw [if_pos rfl]
    by_cases h2 : k' = k<;>simp [ixM,h2]
   ·rw [if_neg h]
    by_cases h2 : k' = q
    ·subst h2
     simp [ixM,Ne.symm h]
    ·simp only [ixM,h2,if_false]
     simp only [Option.map_map] at ih ⊢
     simpa [Function.comp_def] using ih
class MapKey (kt : TypeId) (κ : outParam Type) [DecidableEq κ] (ke : outParam (κ → Value)) : Prop where
 find : ∀ (k : κ) (m : List (κ × Value)) (w : World),(Instr.findKey kt (ke k) (mE ke m 0)).run Tryz.prog w = .ok (ixM m k) w
 check : ∀ (x : Bool) (k : κ) (w : World),(Instr.checkKey x 10000 kt (ke k)).run Tryz.prog w = .ok () w
 bits : ∀ k : κ,Instr.sameBits 10000 (ke k) (ke k)=true
def MapAt (ke : κ → Value) (w : World) (b : Nat) (m : List (κ × Value)) : Prop := w.heap[b]? = some (.map (mE ke m 0).toArray m.length)
variable {w w' : World} {b : Nat} {m : List (κ × Value)}
theorem MapAt.ext (h : MapAt ke w b m) (hw : w'.heap[b]? = w.heap[b]?) : MapAt ke w' b m := hw.trans h
theorem run_lookM {t kt e : TypeId} {z : Value} [hK : MapKey kt κ ke] (ht : Tryz.prog.underlying t = some (.map kt e)) (hz : ∀ w, (zeroValue e).run Tryz.prog w = .ok z w) (h : MapAt ke w b m) (k : κ) :
 (Instr.lookup t (.map (some b)) (ke k) true).run Tryz.prog w = .ok (.tuple #[(lkM m k).getD z,.bool (lkM m k).isSome]) w:=by
 have hgo:=MapKept.run_getObj_map (P:=Tryz.prog) h
 have h1:=hK.find k m w
 unfold lkM
 cases hi : ixM m k with
 | none =>
   rw [hi] at h1
   simp [Instr.lookup,run_underlying ht,hgo,hK.check,h1,hz]
 | some p =>
   rw [hi] at h1
   simp [Instr.lookup,run_underlying ht,hgo,hK.check,h1]
theorem run_updM {t kt e : TypeId} [hK : MapKey kt κ ke] (ht : Tryz.prog.underlying t = some (.map kt e)) (h : MapAt ke w b m) (k : κ) (v : Value) :
 (Instr.mapUpdate t (.map (some b)) (ke k) v).run Tryz.prog w = .ok () (setBlock w b (.map (mE ke (stM m k v) 0).toArray (stM m k v).length)):=by
 have h1:=hK.find k m w
 have hgo:=MapKept.run_getObj_map (P:=Tryz.prog) h
 have hso:=fun o=>MapKept.run_setObj_map (P:=Tryz.prog) o h
 cases hi : ixM m k with
 | none =>
   rw [hi] at h1
   rw [ixM_none v hi,mE_append,List.length_append]
   simp [Instr.mapUpdate,run_underlying ht,hgo,hK.check,h1,hso,setBlock,mE]
 | some p =>
   rw [hi] at h1
   obtain ⟨hg0,hst⟩:=ixM_some v hi
   have hlt : p.1 < m.length:=(List.getElem?_eq_some_iff.1 hg0).1
   have hg:=mE_get (ke:=ke) m 0 p.1
   rw [hg0] at hg
   rw [hst]
   have hkey : (((mE ke m 0).toArray[p.1]?).map (·.key)).getD (ke k)=ke k:=by
    simp only [List.getElem?_toArray,hg]
    rfl
   simp only [Instr.mapUpdate,Sem.run_bind,run_underlying ht,Result.andThen_ok,hgo,hK.check,h1,hkey,Instr.keyThatStays,hK.bits,if_true,Sem.run_pure,hso,setBlock]
   simp only [List.length_set]
   congr 5
   apply Array.ext_getElem?
   intro j
   rw [Array.getElem?_modify]
   simp only [List.getElem?_toArray,mE_get,List.getElem?_set,Nat.zero_add]
   by_cases hj : p.1=j
   ·subst hj
    simp [hlt,hg0]
   ·simp [hj]
end
theorem find_int (k : Int) : ∀ (m : List (Int × Value)) (i j : Nat), Instr.findNow (.int .i64) (.int .i64 k) (mE (fun k : Int => .int .i64 k) m i) j = some ((ixM m k).map fun p => (j + p.1, p.2))
 | [],_,_=>rfl
 | (k',v) :: r,i,j=>by
   by_cases h : k=k'
   ·subst h
    simp [mE,Instr.findNow,Instr.sameNow,ixM]
   ·have hb : (k == k')=false:=by simp [h]
    have:=find_int k r (i + 1) (j + 1)
    simp only [mE,Instr.findNow,Instr.sameNow,hb,ixM,h,if_false]
    rw [this]
    cases ixM r k with
    | none=>rfl
    | some p=>simp;omega
abbrev keI (k : Int) : Value := .int .i64 k
instance inVmp_1 : MapKey 3 Int keI := ⟨fun k m w => by
 have h1:=find_int k m 0 0
 simp only [Nat.zero_add] at h1
 simp only [Instr.findKey,Sem.run_bind,run_underlying (P:=Tryz.prog) (show Tryz.prog.underlying 3=some (.int .i64) from Tryz.underlying3),Result.andThen_ok,h1]
 cases ixM m k with
 | none=>rfl
 | some p=>rfl,fun x k w=>run_checkKey (P:=Tryz.prog) (w:=w) (k:=.int .i64 k) Tryz.underlying3 (by simp [IsKey]) x 9999,fun k=>by simp [Instr.sameBits]⟩
abbrev keC (c : Cell) : Value := .agg #[.int .i64 c.X, .int .i64 c.Y]
theorem cell_equal (a b : Cell) (w : World) : (Op.equal 128 (keC a) (keC b)).run Tryz.prog w = .ok (decide (a = b)) w := by
 have h:=(tabOk 128 _ rfl).2.eq (fun _=>0) [I a.X,I a.Y] [I b.X,I b.Y] _ rfl w
 have e : (a.X == b.X && (a.Y == b.Y && true))=decide (a=b):=by
  rw [Bool.eq_iff_iff]
  simp only [Bool.and_true,Bool.and_eq_true,beq_iff_eq,decide_eq_true_eq]
  constructor
  ·rintro ⟨h1,h2⟩
   cases a;cases b
   simp only at h1 h2
   rw [h1,h2]
  ·rintro rfl
   exact ⟨rfl,rfl⟩
 rw [e] at h
 exact h
theorem find_cell (k : Cell) (w : World) : ∀ (m : List (Cell × Value)) (s i : Nat), (Instr.findAsking 128 (keC k) (mE keC m s) i).run Tryz.prog w = .ok ((ixM m k).map fun p => (i + p.1, p.2)) w
 | [],s,i=>by simp [mE,Instr.findAsking,ixM]
 | (k',v) :: r,s,i=>by
   have ih:=find_cell k w r (s + 1) (i + 1)
   have hs : Instr.findAsking 128 (keC k) (mE keC ((k',v) :: r) s) i=(do if ← Op.equal 128 (keC k) (keC k') then pure (some (i,v)) else Instr.findAsking 128 (keC k) (mE keC r (s + 1)) (i + 1)):=rfl
   rw [hs,Sem.run_bind,cell_equal,Result.andThen_ok]
   by_cases h : k=k'
   ·simp [ixM,h]
   ·simp only [h,decide_false,Bool.false_eq_true,if_false,ixM]
    rw [ih]
    cases ixM r k with
    | none=>rfl
    | some p=>simp;omega
instance inVmp_2 : MapKey 128 Cell keC := ⟨fun k m w => by
 unfold Instr.findKey
 simp only [Sem.run_bind,run_underlying Tryz.underlying128,Result.andThen_ok]
 cases m with
 | nil=>simp [mE,Instr.findNow,ixM]
 | cons e r =>
   obtain ⟨k',v⟩:=e
   have:=find_cell k w ((k',v) :: r) 0 0
   simp only [Nat.zero_add] at this
   simp only [mE,Instr.findNow,Instr.sameNow]
   simp only [mE] at this
   rw [this]
   cases ixM ((k',v) :: r) k with
   | none=>rfl
   | some p=>rfl,fun x k w=>by kernel_rfl,fun k=>by simp [Instr.sameBits]⟩
section
variable {κ : Type} [DecidableEq κ] {α : Type} {ke : κ → Value} {dv : α → DV}
def mRel (G : Fz) (dv : α → DV) : List (κ × Value) → List (κ × α) → Prop
 | [],[]=>True
 | p :: r,q :: s=>(p.1=q.1∧(dv q.2).rd G p.2)∧mRel G dv r s
 | _,_=>False
theorem mRel_mono {G G' : Fz} (h : G.le G') : ∀ {m' : List (κ × Value)} {m : List (κ × α)}, mRel G dv m' m → mRel G' dv m' m
 | [],[],_=>trivial
 | [],_ :: _,h=>h.elim
 | _ :: _,[],h=>h.elim
 | _ :: _,_ :: _,hr=>⟨⟨hr.1.1,DV.rd_mono h _ _ hr.1.2⟩,mRel_mono h hr.2⟩
theorem mRel_ix {G : Fz} : ∀ {m' : List (κ × Value)} {m : List (κ × α)} (k : κ), mRel G dv m' m → (lkM m k = none ∧ lkM m' k = none) ∨ ∃ a v, lkM m k = some a ∧ lkM m' k = some v ∧ (dv a).rd G v
 | [],[],_,_=>.inl ⟨rfl,rfl⟩
 | [],_ :: _,_,h=>h.elim
 | _ :: _,[],_,h=>h.elim
 | (k1,v) :: r,(k2,a) :: s,k,h=>by
   obtain ⟨⟨h1,h2⟩,h3⟩:=h
   simp only at h1 h2
   subst h1
   unfold lkM ixM
   by_cases hk : k=k1
   ·rw [if_pos hk,if_pos hk]
    exact .inr ⟨a,v,rfl,rfl,h2⟩
   ·rw [if_neg hk,if_neg hk]
    rcases mRel_ix k h3 with ⟨h4,h5⟩|⟨a',v',h4,h5,h6⟩
    ·unfold lkM at h4 h5
     simp only [Option.map_eq_none_iff] at h4 h5
     exact .inl ⟨by rw [h4];rfl,by rw [h5];rfl⟩
    ·unfold lkM at h4 h5
     simp only [Option.map_eq_some_iff] at h4 h5
     obtain ⟨p,hp,rfl⟩:=h4
     obtain ⟨q,hq,rfl⟩:=h5
     exact .inr ⟨_,_,by rw [hp];rfl,by rw [hq];rfl,h6⟩
theorem mRel_st {G : Fz} {a : α} {v : Value} (hv : (dv a).rd G v) : ∀ {m' : List (κ × Value)} {m : List (κ × α)} (k : κ), mRel G dv m' m → mRel G dv (stM m' k v) (stM m k a)
 | [],[],_,_=>⟨⟨rfl,hv⟩,trivial⟩
 | [],_ :: _,_,h=>h.elim
 | _ :: _,[],_,h=>h.elim
 | (k1,u) :: r,(k2,c) :: s,k,h=>by
   obtain ⟨⟨h1,h2⟩,h3⟩:=h
   simp only at h1 h2
   subst h1
   unfold stM
   by_cases hk : k=k1
   ·rw [if_pos hk,if_pos hk]
    exact ⟨⟨rfl,hv⟩,h3⟩
   ·rw [if_neg hk,if_neg hk]
    exact ⟨⟨rfl,h2⟩,mRel_st hv k h3⟩
def mapO (ke : κ → Value) (dv : α → DV) (b : Nat) (m : List (κ × α)) : OB := .res fun G w _ F => F b ∧ ∃ m' : List (κ × Value), MapAt ke w b m' ∧ mRel G dv m' m
variable {C : Ctx} {ob : List OB} {b : Nat} {m : List (κ × α)} {σ : Nat → Nat} {G : Fz} {fp : Nat → Nat → Prop} {w : World}
theorem mapO_mk {m' : List (κ × Value)} (h : MapAt ke w b m') (hr : mRel G dv m' m) {n q : Nat} {F : Nat → Prop} (hF : F b) : (mapO ke dv b m).at σ ⟨G, n⟩ w q F :=
 ⟨⟨hF,m',h,hr⟩,fun G' w' hG hw=>⟨hF,m',h.ext (hw b hF),mRel_mono hG hr⟩⟩
theorem nth_map (hm : Mem C σ G fp ob w) {j : Nat} (h : nth ob j = some (mapO ke dv b m)) : (∃ m' : List (κ × Value), MapAt ke w b m' ∧ mRel G dv m' m) ∧ fp j b ∧ j < ob.length := by
 rw [nth_eq] at h
 have:=(hm.at_ j _ h).1
 exact ⟨this.2,this.1,(List.getElem?_eq_some_iff.1 h).1⟩
theorem OpX_makeM {o : Oper} {t : TypeId} {K : SV → List OB → Prop} (ke : κ → Value) (dv : α → DV) (ho : o.op = .makeMap t none) (hK : ∀ b, force (ob ++ [mapO ke dv b []]) fun ob => K (.v (.map (some b))) ob) : OpX C o [] ob K := by
 unfold OpX
 intro σ G fp w ρ hm _ hx
 have hex : (execOp ρ o).run C.P w = .ok (.value (.map (some w.heap.size))) (w.alloc (.map #[] 0)):=by
  simp [execOp,ho,Instr.makeMap,run_newObj_alloc]
 rw [hex]
 have hT : MapAt ke (w.alloc (.map #[] 0)) w.heap.size []:=heap_alloc_new w _
 have hb : Below w.heap.size w (w.alloc (.map #[] 0)):=(Below.refl _ w).alloc (Nat.le_refl _) _
 have hK:=hK w.heap.size
 rw [force_eq] at hK
 refine ⟨.v (.map (some w.heap.size)),_,_,G,_,hK,fun j hj=>by simp [show j ≠ ob.length by omega],Fz.refl _,by simp,rfl,trivial,hm.pushO hb (mapO ke dv w.heap.size []) 0 (fun i=>i=w.heap.size) (Fz.refl _) (fun i o hi=>?_) (mapO_mk (m':=[]) hT (by unfold mRel;trivial) rfl) (fun i hi=>by subst hi;simp) (fun _=>Nat.le_refl _),Frm.pushed hb (by simp) (fun i hi=>by omega) fun _ _ h _=>h⟩
 have h1:=hm.fz i o hi
 have h2:=hm.fz_lt hi
 exact ⟨by rw [Below.heap_alloc _ _ _ h2];exact h1.1,by omega,.inl hi⟩
theorem ValX_lookV {o : Oper} {x y : Operand} {t kt e : TypeId} {k : κ} {kv : SV} {enc : α → Value} {z : Value} (j : Nat) (r : SV) {K : SV → Prop} [hk : MapKey kt κ ke] (hP : C.P = Tryz.prog) (ho : o.op = .lookup t x y true) (ht : Tryz.prog.underlying t = some (.map kt e)) (hz : ∀ w, (zeroValue e).run Tryz.prog w = .ok z w)
 (hj : nth ob j=some (mapO ke (fun a=>.v (enc a)) b m)) (hkv : ∀ σ,kv.val σ=ke k) (hr : ∀ σ,r.val σ=((lkM m k).map enc).getD z) (hw : ∀ E,r.wf E) (hK : K (.t [r,B (lkM m k).isSome])) : ValX C o [.v (.map (some b)),kv] ob K:=by
 unfold ValX
 intro σ G fp w ρ hm _ hx
 obtain ⟨⟨m',hT,hrel⟩,_⟩:=nth_map hm hj
 rw [ho] at hx
 simp [Op.operands,SV.vals,SV.val,hkv] at hx
 refine ⟨_,hK,?_,hw _,trivial,trivial⟩
 have:=run_lookM ht hz hT k
 rw [hP]
 simp only [execOp,ho,hx.1,hx.2,Sem.run_bind,this,Result.andThen_ok,Sem.run_pure,SV.val,SV.vals,hr]
 rcases mRel_ix k hrel with ⟨h4,h5⟩|⟨a,v,h4,h5,h6⟩
 ·rw [h4,h5];rfl
 ·rw [h4,h5]
  cases h6
  rfl
theorem ValX_lookS {o : Oper} {x y : Operand} {t kt e : TypeId} {k : κ} {kv : SV} {sz : Nat} {el : α → List (List DV)} (j : Nat) {K : SV → Prop} [hk : MapKey kt κ ke] (hP : C.P = Tryz.prog) (ho : o.op = .lookup t x y true) (ht : Tryz.prog.underlying t = some (.map kt e)) (hz : ∀ w, (zeroValue e).run Tryz.prog w = .ok (.slice none 0 0) w)
 (hj : nth ob j=some (mapO ke (fun a=>.fz sz (el a)) b m)) (hkv : ∀ σ,kv.val σ=ke k) (hn : lkM m k=none→K (.t [.v (.slice none 0 0),B false])) (hs : ∀ a A c,lkM m k=some a→K (.t [.fz A c sz (el a),B true])) : ValX C o [.v (.map (some b)),kv] ob K:=by
 unfold ValX
 intro σ G fp w ρ hm _ hx
 obtain ⟨⟨m',hT,hrel⟩,_⟩:=nth_map hm hj
 rw [ho] at hx
 simp [Op.operands,SV.vals,SV.val,hkv] at hx
 have:=run_lookM ht hz hT k
 rcases mRel_ix k hrel with ⟨h4,h5⟩|⟨a,v,h4,h5,h6⟩
 ·refine ⟨_,hn h4,?_,trivial,trivial,trivial⟩
  rw [h5] at this
  rw [hP]
  simp only [execOp,ho,hx.1,hx.2,Sem.run_bind,this,Result.andThen_ok,Sem.run_pure,SV.val,SV.vals]
  rfl
 ·obtain ⟨A,c,e1,e2⟩:=h6
  refine ⟨_,hs a A c h4,?_,⟨A,c,rfl,e2⟩,trivial,trivial⟩
  rw [h5] at this
  rw [hP]
  simp only [execOp,ho,hx.1,hx.2,Sem.run_bind,this,Result.andThen_ok,Sem.run_pure,SV.val,SV.vals,e1]
  rfl
theorem OpX_updM {o : Oper} {x y u : Operand} {t kt e : TypeId} {k : κ} {kv r : SV} {a : α} {K : SV → List OB → Prop} (j : Nat) [hk : MapKey kt κ ke] (hP : C.P = Tryz.prog) (ho : o.op = .mapUpdate t x y u) (ht : Tryz.prog.underlying t = some (.map kt e))
 (hj : nth ob j=some (mapO ke dv b m)) (hkv : ∀ σ,kv.val σ=ke k) (hr : ∀ σ E,r.wf E→(dv a).rd E.G (r.val σ)) (hK : force (setN ob j (mapO ke dv b (stM m k a))) fun ob=>K (.v undef) ob) : OpX C o [.v (.map (some b)),kv,r] ob K:=by
 unfold OpX
 intro σ G fp w ρ hm hw hx
 obtain ⟨⟨m',hT,hrel⟩,hF,hjl⟩:=nth_map hm hj
 rw [ho] at hx
 simp [Op.operands,SV.vals,SV.val,hkv] at hx
 have hrd:=hr σ _ hw.2.2.1
 have hu:=run_updM (kt:=kt) ht hT k (r.val σ)
 have hex : (execOp ρ o).run C.P w = .ok .skip (setBlock w b (.map (mE ke (stM m' k (r.val σ)) 0).toArray (stM m' k (r.val σ)).length)):=by
  rw [hP]
  simp only [execOp,ho,hx.1,hx.2.1,hx.2.2,Sem.run_bind]
  rw [hu]
  rfl
 rw [hex]
 have hset:=heap_set (o':=.map (mE ke (stM m' k (r.val σ)) 0).toArray (stM m' k (r.val σ)).length) hT
 have hT' : MapAt ke (setBlock w b (.map (mE ke (stM m' k (r.val σ)) 0).toArray (stM m' k (r.val σ)).length)) b (stM m' k (r.val σ)):=hset.1
 have hsz : (setBlock w b (.map (mE ke (stM m' k (r.val σ)) 0).toArray (stM m' k (r.val σ)).length)).heap.size=w.heap.size:=by simp [setBlock]
 have hsame : ∀ q,q < w.heap.size→¬ fp j q→(setBlock w b (.map (mE ke (stM m' k (r.val σ)) 0).toArray (stM m' k (r.val σ)).length)).heap[q]? = w.heap[q]?:=fun q hq hnq=>hset.2 q fun e'=>hnq (e' ▸ hF)
 have hM:=hm.change (w':=setBlock w b (.map (mE ke (stM m' k (r.val σ)) 0).toArray (stM m' k (r.val σ)).length)) hjl (mapO ke dv b (stM m k a)) (fp j) (mapO_mk hT' (mRel_st hrd k hrel) hF) (fun i hi=>.inl hi) (by
  intro q hq
  have:=hm.hi j hjl q hq
  rw [hsz]
  exact this) rfl rfl rfl (by rw [hsz];exact Nat.le_refl _) hsame (fun _=>Nat.le_refl _)
 rw [force_eq,setN_eq] at hK
 exact ⟨.v undef,_,σ,G,_,hK,fun _ _=>rfl,Fz.refl _,by simp,rfl,trivial,hM,Frm.changed hjl (by simp) (fun i hi=>.inl hi) (by rw [hsz];exact Nat.le_refl _) hsame⟩
end
end Go.Proofs.YtkflmidichikjaaGreatDoor.V
end
section
namespace Go.Proofs.YtkflmidichikjaaGreatDoor.V
open Go.RowKit
set_option maxRecDepth 100000
set_option maxHeartbeats 16000000
open Heading BoxP Drive PlanP Known Contr Loc Jou Atl
namespace Atl
structure Pl where
 (ver : Int) (gone : Bool) (x y h : Int)
 deriving Inhabited,DecidableEq
abbrev dvS (s : List Beam) : DV := .fz 2 (fl Beam.e s)
abbrev dvP (p : Pl) : DV := .v (.agg #[.int .i64 p.ver, .bool p.gone, .int .i64 p.x, .int .i64 p.y, .int .i64 p.h])
end Atl
instance inVat2_1 : CMe 36 Unit true (fun _ => []) (fun _ => []) (fun _ => True) (Nat × Nat) (fun _ _ => .p 2 0) (fun _ q => [mapO keI dvS q.1 [], mapO keI dvP q.2 [], .box 155 [.v (.map (some q.1)), .v (.map (some q.2))]]) := ⟨fun _ _ => by
 refine CM.of Tryz.func36 rfl tabOk rfl rfl rfl rfl (by simp [SV.nms,SV.nm]) fun w_ M_ π_ G0_=>?_
 refine roA (a1 ?_)
 refine OpX_makeM keI dvS rfl fun b1=>?_
 conv=>whnf
 refine roA (a1 ?_)
 refine OpX_makeM keI dvP rfl fun b2=>?_
 conv=>whnf
 refine roA (a1 ?_)
 refine Fin_ja (b1,b2) ?_
 conv=>whnf
 exact ⟨rfl,rfl,rfl⟩⟩
instance inVat2_2 : AR 36 1 := ⟨trivial⟩
end Go.Proofs.YtkflmidichikjaaGreatDoor.V
end
section
namespace Go.Proofs.YtkflmidichikjaaGreatDoor.V
open Go.RowKit
set_option maxRecDepth 100000
set_option maxHeartbeats 16000000
open Heading BoxP Drive PlanP Known Contr Loc Jou Atl
theorem CallX_mr {C : Ctx} {f : FuncId} {args : List SV} {ob : List OB} {k : SV → List OB → Prop} {ι κ : Type} {al : Bool} {args0 : ι → List SV} {os0 : ι → List OB} {pre : ι → Prop} {x : ι → κ → SV} {os1 : ι → κ → List OB} [h : CMe f ι al args0 os0 pre κ x os1] (r : List Nat) (i : ι)
 (h1 : args=SV.rens r (args0 i)) (h2 : nthL ob r=some (rnOs r (os0 i))) (h3 : pre i) (h4 : (nmOB (os0 i).length (os0 i) && nodupB r)=true) (h5 : ∀ q : κ,retM ob r (x i q) (os1 i q) k) (hP : C.P=Tryz.prog:=by rfl) (hd : C.d=false:=by rfl) : CallX C f args ob k:=by
 simp only [Bool.and_eq_true] at h4
 exact CallX_m (by rw [hP];exact h.out i h3) _ h1 (entO_of h2 h4.1) (nodupB_spec h4.2) (fun q=>h5 q) hd
namespace Atl
abbrev atlO (m1 m2 : Nat) (P : List (Int × List Beam)) (Q : List (Int × Pl)) : List OB := [mapO keI dvS m1 P, mapO keI dvP m2 Q, .box 155 [.v (.map (some m1)), .v (.map (some m2))]]
def putA (P : List (Int × List Beam)) (id : Int) (s : List Beam) : List (Int × List Beam) × Int :=
 if Contr.vScan s=false then (P,1) else if vId id=false then (P,2) else (stM P id s,0)
def placeA (Q : List (Int × Pl)) (id : Int) (p : Pl) : List (Int × Pl) × Int :=
 if vPl p.ver p.gone p.x p.y p.h=false then (Q,1) else if vId id=false then (Q,2) else (stM Q id p,0)
end Atl
instance inVat3_1 : CMe 103 (Nat × Nat × List (Int × List Beam) × List (Int × Pl) × Int × Option Addr × Nat × List Beam) true (fun (_, _, _, _, id, A, c, s) => [.p 2 0, I id, .fz A c 2 (fl Beam.e s)]) (fun (m1, m2, P, Q, _) => atlO m1 m2 P Q)
 (fun (_,_,P,_,id,_,_,s)=>lkM P id=none∧s.length≤1000000000) Unit (fun (_,_,P,_,id,_,_,s) _=>I (putA P id s).2) (fun (m1,m2,P,Q,id,_,_,s) _=>atlO m1 m2 (putA P id s).1 Q):=⟨fun (m1,m2,P,Q,id,A,c,s) ⟨p1,p2⟩=>by
 dsimp only [atlO]
 unfold putA
 by_cases h1 : Contr.vScan s=false
 ·rw [if_pos h1]
  refine CM.of Tryz.func103 rfl tabOk rfl rfl rfl rfl (by simp [SV.nms,SV.nm]) fun w_ M_ π_ G0_=>?_
  refine roA (a1 ?_)
  intros
  refine Fin_ja () ?_
  conv=>whnf
  exact ⟨rfl,rfl,rfl⟩
 ·have h1' : Contr.vScan s=true:=by simpa using h1
  rw [if_neg h1]
  by_cases h2 : vId id=false
  ·rw [if_pos h2]
   refine CM.of Tryz.func103 rfl tabOk rfl rfl rfl rfl (by simp [SV.nms,SV.nm]) fun w_ M_ π_ G0_=>?_
   refine roA (a1 ?_)
   intros
   refine Fin_ja () ?_
   conv=>whnf
   exact ⟨rfl,rfl,rfl⟩
  ·have h2' : vId id=true:=by simpa using h2
   rw [if_neg h2]
   clear h1 h2
   refine CM.of Tryz.func103 rfl tabOk rfl rfl rfl rfl (by simp [SV.nms,SV.nm]) fun w_ M_ π_ G0_=>?_
   refine roA (a1 ?_)
   all_goals intros
   refine ValX_lookS 0 rfl rfl Tryz.underlying152 (fun w=>by kernel_rfl) rfl (fun _=>rfl) (fun _=>?_) (fun a A c h=>absurd (p1.symm.trans h) (by simp))
   conv=>whnf
   refine roA (a1 ?_)
   all_goals intros
   refine OpX_fr 3 rfl fun A1 c1=>?_
   conv=>whnf
   (repeat ((with_reducible show ViewE _ _ _ _);(first|refine view_w zLn ?_|refine view_pf zSd ?_|refine view_p zSd ?_);(conv=>whnf)))
   refine OpX_updM (ke:=keI) (dv:=dvS) (k:=id) (a:=s) 0 rfl rfl Tryz.underlying152 rfl (by exact fun _=>rfl) (by exact fun σ E h=>h) ?_
   conv=>whnf
   refine roA (a1 ?_)
   all_goals intros
   refine Fin_ja () ?_
   conv=>whnf
   exact ⟨rfl,rfl,rfl⟩⟩
instance inVat3_2 : AR 103 8 := ⟨trivial⟩
instance inVat3_3 : CMe 105 (Nat × Nat × List (Int × List Beam) × List (Int × Pl) × Int × Int × Bool × Int × Int × Int) true (fun (_, _, _, _, id, v, g, x, y, h) => [.p 2 0, I id, .a [I v, B g, I x, I y, I h]]) (fun (m1, m2, P, Q, _) => atlO m1 m2 P Q)
 (fun (_,_,_,Q,id,_)=>lkM Q id=none) Unit (fun (_,_,_,Q,id,v,g,x,y,h) _=>I (placeA Q id ⟨v,g,x,y,h⟩).2) (fun (m1,m2,P,Q,id,v,g,x,y,h) _=>atlO m1 m2 P (placeA Q id ⟨v,g,x,y,h⟩).1):=⟨fun (m1,m2,P,Q,id,v,g,x,y,h) p1=>by
 dsimp only [atlO] at *
 unfold placeA
 by_cases h1 : vPl v g x y h=false
 ·rw [if_pos h1]
  refine CM.of Tryz.func105 rfl tabOk rfl rfl rfl rfl (by simp [SV.nms,SV.nm]) fun w_ M_ π_ G0_=>?_
  refine roA (a1 ?_)
  intros
  refine Fin_ja () ?_
  conv=>whnf
  exact ⟨rfl,rfl,rfl⟩
 ·have h1' : vPl v g x y h=true:=by simpa using h1
  rw [if_neg h1]
  by_cases h2 : vId id=false
  ·rw [if_pos h2]
   refine CM.of Tryz.func105 rfl tabOk rfl rfl rfl rfl (by simp [SV.nms,SV.nm]) fun w_ M_ π_ G0_=>?_
   refine roA (a1 ?_)
   intros
   refine Fin_ja () ?_
   conv=>whnf
   exact ⟨rfl,rfl,rfl⟩
  ·have h2' : vId id=true:=by simpa using h2
   rw [if_neg h2]
   clear h1 h2
   refine CM.of Tryz.func105 rfl tabOk rfl rfl rfl rfl (by simp [SV.nms,SV.nm]) fun w_ M_ π_ G0_=>?_
   refine roA (a1 ?_)
   all_goals intros
   refine ValX_lookV 1 (.a [I 0,B false,I 0,I 0,I 0]) (z:=.agg #[.int .i64 0,.bool false,.int .i64 0,.int .i64 0,.int .i64 0]) rfl rfl Tryz.underlying153 (fun w=>by kernel_rfl) rfl (fun _=>rfl) (fun _=>by rw [p1];rfl) (fun _=>by simp [SV.wf,SV.wfs]) ?_
   rw [p1]
   conv=>whnf
   refine roA (a1 ?_)
   all_goals intros
   refine OpX_updM (ke:=keI) (dv:=dvP) (k:=id) (a:=⟨v,g,x,y,h⟩) 1 rfl rfl Tryz.underlying153 rfl (by exact fun _=>rfl) (by exact fun σ E h=>rfl) ?_
   conv=>whnf
   refine roA (a1 ?_)
   all_goals intros
   refine Fin_ja () ?_
   conv=>whnf
   exact ⟨rfl,rfl,rfl⟩⟩
instance inVat3_4 : AR 105 10 := ⟨trivial⟩
end Go.Proofs.YtkflmidichikjaaGreatDoor.V
end
section
namespace Go.Proofs.YtkflmidichikjaaGreatDoor.V
open Go.RowKit
set_option maxRecDepth 100000
theorem okM_freeze {w : World} {g : Nat} {cs : Array Value} {e : TypeId} {fz : Nat × Nat} (hg : w.heap[g]? = some (.cells cs e fz)) (hfz : okM cs.size fz) : ∃ fz', (w.freeze ⟨g, cs.size, none⟩ 1).heap[g]? = some (.cells cs e fz') ∧ okM cs.size fz' := by
 obtain ⟨lo,hi⟩:=fz
 by_cases h : lo=hi
 ·refine ⟨(cs.size,cs.size + 1),by simp [World.freeze,Array.getElem?_modify,hg,h],.inr (Nat.le_refl _)⟩
 ·refine ⟨(min lo cs.size,max hi (cs.size + 1)),by simp [World.freeze,Array.getElem?_modify,hg,h],?_⟩
  rcases hfz with h1|h1
  ·cases h1;exact (h rfl).elim
  ·refine .inr ?_
   simp only at h1 ⊢
   omega
theorem run_convert_mark {P : Program} {t e : TypeId} {g o n c : Nat} {cs : Array Value} {fz : Nat × Nat} {w : World} (ht : P.underlying t = some (.slice e)) (he : P.underlying e = some (.int .u8)) (hg : w.heap[g]? = some (.cells cs e fz)) :
 (convert t t (.slice (some ⟨g,o,none⟩) n c)).run P w = .ok (.slice (some ⟨g,o,none⟩) n c) (w.freeze ⟨g,cs.size,none⟩ 1):=by
 have hs : w.shape? g=some (e,cs.size):=by simp [World.shape?,hg]
 unfold convert
 simp only [Sem.run_bind,run_underlying ht,run_underlying he,Result.andThen_ok]
 simp [markStringish,shape,freeze,hs]
 have h1 : Sem.run P (Sem.shape g Sem.pure) w = .ok (w.shape? g) w:=rfl
 rw [h1,hs]
 rfl
section
variable {C : Ctx} {ob : List OB}
theorem OpX_cvMark {o : Oper} {t e : TypeId} {x : Operand} {j N sz : Nat} {els : List (List DV)} {k : SV → List OB → Prop} {te : TI} (hT : TabOk C.P C.T) (ho : o.op = .convert t t x) (hj : nth ob j = some (.row false e sz els)) (hs : slInfo C t = some (e, sz)) (hte : lookT C.T e = some te) (hu8 : ikOf te.kd = some .u8)
 (hn : 0 < els.length) (hk : k (.sl j 0 0 N sz) ob) : OpX C o [.sl j 0 0 N sz] ob k:=by
 unfold OpX
 intro σ G fp w ρ hm hw hx
 obtain ⟨hu,te',hl,hz,hti,hid⟩:=slInfo_spec hT hs
 rw [hte] at hl
 cases hl
 have hue:=hti.kd3 _ hu8
 rw [hid] at hue
 have hj':=hj
 rw [nth_eq] at hj'
 have hat : RowAt G w e sz (dA (σ j)) (dC (σ j)) els (fp j):=hm.at_ j _ hj'
 have hjl:=(List.getElem?_eq_some_iff.1 hj').1
 have hcap:=hat.cap
 rcases hat.at_ with ⟨h0,_⟩|⟨g,oo,cs,xs,hA,⟨fz,hg,hfz⟩,hle,hr,hfl,hF⟩
 ·omega
 have hb : Nat.beq (dC (σ j)) 0=false:=by
  cases hq : Nat.beq (dC (σ j)) 0 with
  | false=>rfl
  | true=>have:=Nat.eq_of_beq_eq_true hq;omega
 have hv : (SV.sl j 0 0 N sz).val σ = .slice (some ⟨g,oo,none⟩) N (dC (σ j)):=by
  simp only [SV.val,cutP,hA,hb,cond_false,Option.map_some,Nat.zero_mul,Nat.add_zero,Nat.sub_zero]
 obtain ⟨fz',hg',hfz'⟩:=okM_freeze hg hfz
 rw [ho] at hx
 simp [Op.operands,SV.vals,hv] at hx
 obtain ⟨dst,op,ty,pos,after,guard⟩:=o
 simp only at ho
 subst ho
 have hex : (execOp ρ ⟨dst,.convert t t x,ty,pos,after,guard⟩).run C.P w = .ok (.value (.slice (some ⟨g,oo,none⟩) N (dC (σ j)))) (w.freeze ⟨g,cs.size,none⟩ 1):=by
  simp only [execOp,hx,Sem.run_bind,run_convert_mark hu hue hg,Result.andThen_ok]
  rfl
 rw [hex]
 have hsz : w.heap.size≤(w.freeze ⟨g,cs.size,none⟩ 1).heap.size:=by simp [World.freeze]
 have hsame : ∀ i,i < w.heap.size→¬ fp j i→(w.freeze ⟨g,cs.size,none⟩ 1).heap[i]? = w.heap[i]?:=by
  intro i _ hn
  have : g ≠ i:=fun h=>hn ((hF i).2 h.symm)
  simp [World.freeze,Array.getElem?_modify,this]
 have hrow : RowAt G (w.freeze ⟨g,cs.size,none⟩ 1) e sz (dA (σ j)) (dC (σ j)) els (fp j):=⟨hcap,hat.size,hat.spot,.inr ⟨g,oo,cs,xs,hA,⟨fz',hg',hfz'⟩,hle,hr,hfl,hF⟩⟩
 have hset : ob.set j (.row false e sz els)=ob:=by
  apply List.ext_getElem?
  intro i
  rw [List.getElem?_set]
  by_cases e : j=i
  ·subst e
   simp [hjl,hj'.symm]
  ·simp [e]
 have hM:=hm.change (w':=w.freeze ⟨g,cs.size,none⟩ 1) hjl (.row false e sz els) (fp j) hrow (fun i hi=>.inl hi) (fun i hi=>Nat.lt_of_lt_of_le (hm.hi j hjl i hi) hsz) (by simp [World.freeze]) (by simp [World.freeze]) (by simp [World.freeze]) hsz hsame (fun _=>by simp [World.freeze])
 rw [hset] at hM
 exact ⟨.sl j 0 0 N sz,ob,σ,G,_,hk,fun _ _=>rfl,Fz.refl _,Nat.le_refl _,hv.symm,hjl,hM,Frm.changed hjl (Nat.le_refl _) (fun i hi=>.inl hi) hsz hsame⟩
end
end Go.Proofs.YtkflmidichikjaaGreatDoor.V
end
