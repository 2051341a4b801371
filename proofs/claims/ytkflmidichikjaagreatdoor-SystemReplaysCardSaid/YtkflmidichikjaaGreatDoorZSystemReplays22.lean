import Derived.Test.YtkflmidichikjaaGreatDoorZSystemReplays21
import Derived.Test.YtkflmidichikjaaGreatDoorZSystemReplays18
import Derived.Test.YtkflmidichikjaaGreatDoorZSystemReplays14
set_option linter.all false
section
namespace Go.Proofs.YtkflmidichikjaaGreatDoor.V
open Go.RowKit
set_option maxRecDepth 100000
set_option maxHeartbeats 8000000
open Heading BoxP Drive Seg PlanP
namespace PlanP
theorem grid_nil {p : Cell → Bool} {x y : Int × Int} {c : Cell} (h : p c = true) (hx : x.1 ≤ c.X ∧ c.X ≤ x.2) (hy : y.1 ≤ c.Y ∧ c.Y ≤ y.2) : (gridL p x y).isEmpty = false := by
 cases hg : gridL p x y with
 | nil=>have:=mem_gridL.2 ⟨h,hx,hy⟩;rw [hg] at this;cases this
 | cons=>rfl
theorem row_no {p : Cell → Bool} {x0 y x : Int} (h : x0 ≤ x) (hr : rowK p x0 y (x - x0).toNat = []) (hp : p ⟨x, y⟩ = false) : rowK p x0 y (x + 1 - x0).toNat = [] := by
 rw [row_next h,hr,hp];rfl
theorem cell_idx {w h x y : Int} {n : Nat} (hn : (n : Int) = w * h) : 0 ≤ x → x < w → 0 ≤ y → y < h → 0 ≤ y * w ∧ y * w + x < n := fun h1 h2 h3 h4 => by
 have:=idx_bnd (w:=w) (h:=h) (x:=x) (y:=y) ⟨h1,h2⟩ ⟨h3,h4⟩
 omega
end PlanP
namespace Drive
def sqB (c : Cell) : Rect := ⟨c.X * 64, c.Y * 64, (c.X + 1) * 64, (c.Y + 1) * 64⟩
def openC (p : Plan) (c : Cell) : Bool := decide (c.X ≥ 0) && decide (c.X < p.W) && decide (c.Y ≥ 0) && decide (c.Y < p.H) && (gt p.cells (c.Y * p.W + c.X).toNat != 2)
def hitB (p : Plan) (a b : Point) (c : Cell) : Bool := !openC p c && touch a b (sqB c) 20
def blX (a b : Int) : Int × Int := ((min a b - 20) / 64 - 1, (max a b + 20) / 64)
def blockedD (p : Plan) (a b : Point) : Bool :=
 if vPlan p=false∨cntP p 0 > 0∨vPoint a=false∨vPoint b=false then true else
 if within (b.X - a.X) 1024=false∨within (b.Y - a.Y) 1024=false then true else
 !(gridL (hitB p a b) (blX a.X b.X) (blX a.Y b.Y)).isEmpty
def stepD (p : Plan) (at_ : Pose) (c : Command) (e : Slip) : Pose × Bool × Int :=
 if vPlan p=false then (⟨0,0,0⟩,false,1) else
 if cntP p 0 > 0 then (⟨0,0,0⟩,false,3) else
 if (next at_ c e).2 ≠ 0 then (⟨0,0,0⟩,false,(next at_ c e).2) else
 if c.Forward > 0∧blockedD p ⟨at_.X,at_.Y⟩ ⟨(next at_ c e).1.X,(next at_ c e).1.Y⟩ then (⟨at_.X,at_.Y,(next at_ c e).1.H⟩,true,0) else ((next at_ c e).1,false,0)
end Drive
open Drive
section
variable {A : Option Addr} {cc : Nat} {X : List Int} {w h : Int}
instance inVd2_1 {px py qx qy : Int} : CFc 155 false [.a [I w, I h, .fz A cc 1 (fl ye X)], .a [I px, I py], .a [I qx, I qy]] (X.length ≤ 1000000000000) (B (blockedD ⟨w, h, X⟩ ⟨px, py⟩ ⟨qx, qy⟩)) [] := ⟨fun hp => by
 unfold blockedD blX
 refine CM.of Tryz.func155 rfl tabOk rfl rfl rfl rfl (by simp [SV.nms,SV.nm]) fun w_ M_ π_ G0_=>?_
 refine runA (a1 ?_)
 intro _ g1 _ _ g2 _ g3 _ g4 _ g5
 simp only
 generalize hX : ((min px qx - 20) / 64 - 1,(max px qx + 20) / 64)=U
 generalize hY : ((min py qy - 20) / 64 - 1,(max py qy + 20) / 64)=V
 have eX : (min px qx - 20) / 64 - 1=U.1∧(max px qx + 20) / 64=U.2:=by rw [← hX];exact ⟨rfl,rfl⟩
 have eY : (min py qy - 20) / 64 - 1=V.1∧(max py qy + 20) / 64=V.2:=by rw [← hY];exact ⟨rfl,rfl⟩
 rw [eX.1,eX.2,eY.1,eY.2]
 have bX : -40000≤U.1∧U.1≤U.2∧U.2≤40000:=by omega
 have bY : -40000≤V.1∧V.1≤V.2∧V.2≤40000:=by omega
 generalize hq : hitB ⟨w,h,X⟩ ⟨px,py⟩ ⟨qx,qy⟩ = q
 have hqd : ∀ c,(!openC ⟨w,h,X⟩ c && touch ⟨px,py⟩ ⟨qx,qy⟩ (sqB c) 20)=q c:=fun c=>by rw [← hq];unfold hitB;rfl
 clear hX hY eX eY hq g3 g4 g5
 refine LoopX_keep [3,4,5,7,8,9,10,11] ?_
 conv=>whnf
 refine LoopX_c tabOk [] (fun y : Int=>(V.1≤y∧y≤V.2 + 1)∧outK q U.1 V.1 (U.2 + 1 - U.1).toNat (y - V.1).toNat=[]) (fun y=>[(11,I y)]) (fun _=>[]) (fun y=>(V.2 + 1 - y).toNat) V.1 ⟨by omega,by simp [outK]⟩ ⟨rfl,trivial⟩ trivial ?_
 conv=>whnf
 rintro y ⟨h1,h2⟩
 by_cases hc : y≤V.2
 ·refine runA (a1 ?_)
  intros
  refine LoopX_keep [3,4,5,7,8,9,10,11,12] ?_
  conv=>whnf
  refine LoopX_c tabOk [] (fun x : Int=>(U.1≤x∧x≤U.2 + 1)∧rowK q U.1 y (x - U.1).toNat=[]) (fun x=>[(12,I x)]) (fun _=>[]) (fun x=>(U.2 + 1 - x).toNat) U.1 ⟨by omega,by simp [rowK]⟩ ⟨rfl,trivial⟩ trivial ?_
  conv=>whnf
  rintro x ⟨k1,k2⟩
  by_cases hd : x≤U.2
  ·have hix:=cell_idx (w:=w) (h:=h) (x:=x) (y:=y) (n:=X.length) (by omega)
   have hsq : sqB ⟨x,y⟩ = ⟨x * 64,y * 64,(x + 1) * 64,(y + 1) * 64⟩:=by unfold sqB;rfl
   have hb1 : -40000≤x∧x≤40000∧-40000≤y∧y≤40000:=by omega
   have hqx:=hqd ⟨x,y⟩
   rw [hsq] at hqx
   unfold openC at hqx
   simp only at hqx
   have hno : q ⟨x,y⟩ = false→rowK q U.1 y (x + 1 - U.1).toNat=[]:=row_no k1.1 k2
   have hyes : q ⟨x,y⟩ = true→(gridL q U V).isEmpty=false:=fun h=>grid_nil h (by simp only;omega) (by simp only;omega)
   have hopen : 0≤x→x < w→0≤y→y < h→¬gt X (y * w + x).toNat=2→q ⟨x,y⟩ = false:=fun a1 a2 a3 a4 a5=>by rw [← hqx];simp [a1,a2,a3,a4,a5]
   have ht : touch ⟨px,py⟩ ⟨qx,qy⟩ ⟨x * 64,y * 64,(x + 1) * 64,(y + 1) * 64⟩ 20=false→q ⟨x,y⟩ = false:=fun a=>by rw [← hqx,a,Bool.and_false]
   have hcl : touch ⟨px,py⟩ ⟨qx,qy⟩ ⟨x * 64,y * 64,(x + 1) * 64,(y + 1) * 64⟩ 20=true→(x < 0∨w≤x∨y < 0∨h≤y∨gt X (y * w + x).toNat=2)→q ⟨x,y⟩ = true:=fun a b=>by
    rw [← hqx,a,Bool.and_true]
    rcases b with b|b|b|b|b<;>simp [b]
    all_goals omega
   clear hqx hqd h2 k2
   refine runA (a6 ?_ ?_ ?_ ?_ ?_ ?_)
   all_goals intros
   all_goals first
    | exact rnd (x + 1) ⟨by omega,hno (ht (by assumption))⟩ (by omega)
    | exact rnd (x + 1) ⟨by omega,hno (hopen (by assumption) (by assumption) (by assumption) (by assumption) (by assumption))⟩ (by omega)
    | (have e:=hyes (hcl (by assumption) (by omega));simp [SV.ren,e, *])
    | trace_state
  ·refine runA (a1 ?_)
   intros
   exact rnd (y + 1) ⟨by omega,by rw [grid_next h1.1,h2,show U.2 + 1=x by omega,k2];rfl⟩ (by omega)
 ·obtain rfl : y=V.2 + 1:=by omega
  have e : gridL q U V=[]:=by unfold gridL;exact h2
  exact run⟩
instance inVd2_2 {x y d t f t' l' x' y' : Int} : CFc 99 false [.a [I w, I h, .fz A cc 1 (fl ye X)], .a [I x, I y, I d], .a [I t, I f], .a [I t', I l', I x', I y']] (X.length ≤ 1000000000000) (.t [(stepD ⟨w, h, X⟩ ⟨x, y, d⟩ ⟨t, f⟩ ⟨t', l', x', y'⟩).1.s, B (stepD ⟨w, h, X⟩ ⟨x, y, d⟩ ⟨t, f⟩ ⟨t', l', x', y'⟩).2.1, I (stepD ⟨w, h, X⟩ ⟨x, y, d⟩ ⟨t, f⟩ ⟨t', l', x', y'⟩).2.2]) [] := ⟨fun hp => by
 unfold stepD
 refine CM.of Tryz.func99 rfl tabOk rfl rfl rfl rfl (by simp [SV.nms,SV.nm]) fun w_ M_ π_ G0_=>?_
 exact run⟩
attribute [irreducible] Drive.sqB Drive.openC Drive.hitB Drive.blX Drive.blockedD Drive.stepD
end
end Go.Proofs.YtkflmidichikjaaGreatDoor.V
end
section
namespace Go.Proofs.YtkflmidichikjaaGreatDoor.V
open Go.RowKit
set_option maxRecDepth 100000
set_option maxHeartbeats 8000000
open Heading BoxP Drive Seg PlanP
namespace FloorP
instance inVf_1 {x y : Int} : Bnd (ofP ⟨x, y⟩).2 (-1048576 ≤ x ∧ x ≤ 1048576 ∧ -1048576 ≤ y ∧ y ≤ 1048576) := ⟨fun h => by
 unfold ofP at h
 by_cases hv : vPoint ⟨x,y⟩ = true
 ·have:=vPoint_iff.1 hv
  simp only at this
  omega
 ·rw [if_neg hv] at h
  cases h⟩
def checkF (p : Plan) : Int := if vPlan p = false then 1 else if idxB p.cells 0 ≥ 0 then 3 else 0
theorem checkF_0 {p : Plan} (h : checkF p = 0) : vPlan p = true := by
 unfold checkF at h
 by_cases hv : vPlan p=true
 ·exact hv
 ·rw [if_pos (by simpa using hv)] at h
  cases h
def valueF (p : Plan) (c : Cell) : Int := if c.X < 0 ∨ c.X ≥ p.W ∨ c.Y < 0 ∨ c.Y ≥ p.H then 2 else gt p.cells (c.Y * p.W + c.X).toNat
def hitF (p : Plan) (a : Point) (r : Int) (c : Cell) : Bool := (squareP c).2 && (valueF p c == 2) && decide (gap a (squareP c).1 ≤ r * r)
def insideF (p : Plan) (a : Point) : Bool := decide (a.X ≥ 0) && decide (a.Y ≥ 0) && decide (a.X ≤ p.W * 64) && decide (a.Y ≤ p.H * 64)
def fits (p : Plan) (a : Point) (r : Int) : Bool :=
 if (ofP a).2=false∨checkF p ≠ 0∨r < 0∨r > 1024 then false else
 if (gridL (hitF p a r) ((a.X - r) / 64 - 1,(a.X + r) / 64 + 1) ((a.Y - r) / 64 - 1,(a.Y + r) / 64 + 1)).isEmpty then insideF p a else false
end FloorP
open FloorP
section
variable {A : Option Addr} {cc : Nat} {X : List Int} {w h : Int}
instance inVf_2 : CFc 72 false [.a [I w, I h, .fz A cc 1 (fl ye X)]] (X.length ≤ 1000000000000) (I (checkF ⟨w, h, X⟩)) [] := ⟨fun hp => by
 unfold checkF
 refine CM.of Tryz.func72 rfl tabOk rfl rfl rfl rfl (by simp [SV.nms,SV.nm]) fun w_ M_ π_ G0_=>?_
 exact run⟩
instance inVf_3 {n : Int} : CFc 123 false [I n] True (I (n / 64)) [] := ⟨fun _ => by
 refine CM.of Tryz.func123 rfl tabOk rfl rfl rfl rfl (by simp [SV.nms,SV.nm]) fun w_ M_ π_ G0_=>?_
 exact run⟩
instance inVf_4 {x y : Int} : CFc 125 false [.a [I w, I h, .fz A cc 1 (fl ye X)], .a [I x, I y]] (1 ≤ w ∧ w ≤ 64 ∧ 1 ≤ h ∧ h ≤ 64 ∧ (X.length : Int) = w * h) (Y (valueF ⟨w, h, X⟩ ⟨x, y⟩)) [] := ⟨fun hp => by
 have hix:=cell_idx (w:=w) (h:=h) (x:=x) (y:=y) (n:=X.length) (by omega)
 have h2:=wh_bnd (w:=w) (h:=h) (by omega) (by omega)
 unfold valueF
 refine CM.of Tryz.func125 rfl tabOk rfl rfl rfl rfl (by simp [SV.nms,SV.nm]) fun w_ M_ π_ G0_=>?_
 exact run⟩
instance inVf_5 {x y : Int} : CFc 127 false [.a [I w, I h, .fz A cc 1 (fl ye X)], .a [I x, I y]] (1 ≤ w ∧ w ≤ 64 ∧ 1 ≤ h ∧ h ≤ 64) (B (insideF ⟨w, h, X⟩ ⟨x, y⟩)) [] := ⟨fun hp => by
 unfold insideF
 refine CM.of Tryz.func127 rfl tabOk rfl rfl rfl rfl (by simp [SV.nms,SV.nm]) fun w_ M_ π_ G0_=>?_
 exact run⟩
instance inVf_6 {px py r : Int} : CFc 74 false [.a [I w, I h, .fz A cc 1 (fl ye X)], .a [I px, I py], I r] (X.length ≤ 1000000000000) (B (fits ⟨w, h, X⟩ ⟨px, py⟩ r)) [] := ⟨fun hp => by
 unfold fits
 refine CM.of Tryz.func74 rfl tabOk rfl rfl rfl rfl (by simp [SV.nms,SV.nm]) fun w_ M_ π_ G0_=>?_
 refine runA (a1 ?_)
 intro _ g1 g2 g3 g4
 have g5:=bnd (checkF_0 g2)
 have hr:=sq_bnd (k:=r) (B:=1024) (by omega)
 simp only
 generalize hX : ((px - r) / 64 - 1,(px + r) / 64 + 1)=U
 generalize hY : ((py - r) / 64 - 1,(py + r) / 64 + 1)=V
 have eX : (px - r) / 64 - 1=U.1∧(px + r) / 64 + 1=U.2:=by rw [← hX];exact ⟨rfl,rfl⟩
 have eY : (py - r) / 64 - 1=V.1∧(py + r) / 64 + 1=V.2:=by rw [← hY];exact ⟨rfl,rfl⟩
 rw [eY.1]
 have bX : -40000≤U.1∧U.1≤U.2∧U.2≤40000:=by omega
 have bY : -40000≤V.1∧V.1≤V.2∧V.2≤40000:=by omega
 generalize hq : hitF ⟨w,h,X⟩ ⟨px,py⟩ r=q
 have hqd : ∀ c,((squareP c).2 && (valueF ⟨w,h,X⟩ c == 2) && decide (gap ⟨px,py⟩ (squareP c).1≤r * r))=q c:=fun c=>by rw [← hq];unfold hitF;rfl
 clear hX hY hq
 refine LoopX_keep [2,3,4,9] ?_
 conv=>whnf
 refine LoopX_c tabOk [] (fun y : Int=>(V.1≤y∧y≤V.2 + 1)∧outK q U.1 V.1 (U.2 + 1 - U.1).toNat (y - V.1).toNat=[]) (fun y=>[(9,I y)]) (fun _=>[]) (fun y=>(V.2 + 1 - y).toNat) V.1 ⟨by omega,by simp [outK]⟩ ⟨rfl,trivial⟩ trivial ?_
 conv=>whnf
 rintro y ⟨h1,h2⟩
 by_cases hc : y≤V.2
 ·refine runA (a1 ?_)
  intros
  rw [eX.1]
  refine LoopX_keep [2,3,4,9,10] ?_
  conv=>whnf
  refine LoopX_c tabOk [] (fun x : Int=>(U.1≤x∧x≤U.2 + 1)∧rowK q U.1 y (x - U.1).toNat=[]) (fun x=>[(10,I x)]) (fun _=>[]) (fun x=>(U.2 + 1 - x).toNat) U.1 ⟨by omega,by simp [rowK]⟩ ⟨rfl,trivial⟩ trivial ?_
  conv=>whnf
  rintro x ⟨k1,k2⟩
  by_cases hd : x≤U.2
  ·have hno : q ⟨x,y⟩ = false→rowK q U.1 y (x + 1 - U.1).toNat=[]:=row_no k1.1 k2
   have hyes : q ⟨x,y⟩ = true→(gridL q U V).isEmpty=false:=fun h=>grid_nil h (by simp only;omega) (by simp only;omega)
   have hqx:=hqd ⟨x,y⟩
   have n1 : (squareP ⟨x,y⟩).2=false→q ⟨x,y⟩ = false:=fun e=>by rw [← hqx,e];rfl
   have n2 : ¬valueF ⟨w,h,X⟩ ⟨x,y⟩ = 2→q ⟨x,y⟩ = false:=fun e=>by rw [← hqx];simp [e]
   have n3 : r * r < gap ⟨px,py⟩ (squareP ⟨x,y⟩).1→q ⟨x,y⟩ = false:=fun e=>by rw [← hqx];simp;omega
   have n4 : (squareP ⟨x,y⟩).2=true→valueF ⟨w,h,X⟩ ⟨x,y⟩ = 2→gap ⟨px,py⟩ (squareP ⟨x,y⟩).1≤r * r→q ⟨x,y⟩ = true:=fun a b c=>by rw [← hqx];simp [a,b,c]
   clear hqx hqd h2 k2
   refine runA (a3 ?_ ?_ ?_)
   all_goals intros
   all_goals first
    | exact rnd (x + 1) ⟨by omega,hno (n1 (by assumption))⟩ (by omega)
    | exact rnd (x + 1) ⟨by omega,hno (n2 (by assumption))⟩ (by omega)
    | exact rnd (x + 1) ⟨by omega,hno (n3 (by assumption))⟩ (by omega)
  ·refine runA (a1 ?_)
   intros
   exact rnd (y + 1) ⟨by omega,by rw [grid_next h1.1,h2,show U.2 + 1=x by omega,k2];rfl⟩ (by omega)
 ·obtain rfl : y=V.2 + 1:=by omega
  have e : gridL q U V=[]:=by unfold gridL;exact h2
  exact run⟩
attribute [irreducible] FloorP.checkF FloorP.valueF FloorP.hitF FloorP.insideF FloorP.fits
end
end Go.Proofs.YtkflmidichikjaaGreatDoor.V
end
section
namespace Go.Proofs.YtkflmidichikjaaGreatDoor.V
open Go.RowKit
set_option maxRecDepth 100000
set_option maxHeartbeats 8000000
open Heading BoxP Drive Seg PlanP FloorP
namespace Seg
theorem slab_shift {s : Span} {p d a b : Int} : slab s p d a b = slab s 0 d (a - p) (b - p) := by
 unfold slab loHi
 have e1 : decide (a≤p)=decide (a - p≤0):=by rw [decide_eq_decide];omega
 have e2 : decide (p≤b)=decide (0≤b - p):=by rw [decide_eq_decide];omega
 simp only [e1,e2,Int.sub_zero,show (0 : Int) - (b - p)=p - b by omega,show (0 : Int) - (a - p)=p - a by omega]
theorem through_shift {p : Point} {v : Vector} {r : Rect} (hp : sPoint p = true) (hr : sRect r = true) (hq : sRect ⟨r.X0 - p.X, r.Y0 - p.Y, r.X1 - p.X, r.Y1 - p.Y⟩ = true) : through ⟨0, 0⟩ v ⟨r.X0 - p.X, r.Y0 - p.Y, r.X1 - p.X, r.Y1 - p.Y⟩ = through p v r := by
 have h0 : sPoint ⟨0,0⟩ = true:=by rw [sPoint_iff];simp
 unfold through
 simp only [h0,hp,hr,hq,true_and,and_true]
 rw [slab_shift (p:=p.X),slab_shift (s:=(slab span0 0 v.X (r.X0 - p.X) (r.X1 - p.X)).1) (p:=p.Y)]
theorem distF_bnd {t : Fraction} {v : Vector} {K : Int} (h0 : 0 ≤ t.N) (h1 : 1 ≤ t.D) (h2 : 1 ≤ v.D) (hK : t.N * v.D ≤ K * t.D) : 0 ≤ (distF t v).N ∧ (distF t v).N ≤ K * (distF t v).D ∧ 1 ≤ (distF t v).D ∧ (distF t v).D ≤ t.D := by
 unfold distF
 have hn : 0≤t.N * v.D:=Int.mul_nonneg h0 (by omega)
 generalize t.N * v.D=n at *
 have hg:=gcdI_pos2 (a:=n) h1
 have d1 : gcdI n t.D ∣ n:=by unfold gcdI;exact Int.dvd_trans (Int.natCast_dvd_natCast.2 (Nat.gcd_dvd_left _ _)) (Int.natAbs_dvd.2 (Int.dvd_refl n))
 have d2 : gcdI n t.D ∣ t.D:=by unfold gcdI;exact Int.dvd_trans (Int.natCast_dvd_natCast.2 (Nat.gcd_dvd_right _ _)) (Int.natAbs_dvd.2 (Int.dvd_refl _))
 have e1:=Int.ediv_mul_cancel d1
 have e2:=Int.ediv_mul_cancel d2
 generalize gcdI n t.D=g at *
 simp only
 refine ⟨Int.ediv_nonneg hn (by omega),?_,?_,Int.ediv_le_self _ (by omega)⟩
 ·refine Int.le_of_mul_le_mul_right (a:=g) ?_ (by omega)
  rw [e1,Int.mul_assoc,e2]
  exact hK
 ·refine (Int.le_ediv_iff_mul_le (by omega)).2 ?_
  have:=Int.le_of_dvd (by omega) d2
  omega
end Seg
namespace RayP
def inR (p : Plan) (a : Point) : Bool := vPlan p && between a.X 0 (64 * p.W) && between a.Y 0 (64 * p.H)
def standsR (p : Plan) (a : Pose) : Bool := inR p ⟨a.X, a.Y⟩ && between a.H 0 255
theorem inR_iff {p : Plan} {a : Point} : inR p a = true ↔ vPlan p = true ∧ (0 ≤ a.X ∧ a.X ≤ 64 * p.W) ∧ 0 ≤ a.Y ∧ a.Y ≤ 64 * p.H := by simp [inR, between_iff, and_assoc]
instance inVy_1 {w h x y : Int} {X : List Int} : Bnd (inR ⟨w, h, X⟩ ⟨x, y⟩) (inR ⟨w, h, X⟩ ⟨x, y⟩ = true ∧ vPlan ⟨w, h, X⟩ = true ∧ 0 ≤ x ∧ x ≤ 64 * w ∧ 0 ≤ y ∧ y ≤ 64 * h ∧ 1 ≤ w ∧ w ≤ 64 ∧ 1 ≤ h ∧ h ≤ 64 ∧ (X.length : Int) = w * h ∧ X.length ≤ 4096) := ⟨fun e => by
 have:=inR_iff.1 e
 simp only at this
 have h1:=bnd this.1
 exact ⟨e,this.1,by omega⟩⟩
abbrev Hit := Fraction × Cell × Bool
abbrev hit0 : Hit := (⟨0, 0⟩, ⟨0, 0⟩, false)
def dst (a : Point) (v : Vector) (c : Cell) : Fraction := (enter a v (squareP c).1).1
def fstStep (p : Plan) (a : Point) (v : Vector) (s : Hit) (c : Cell) : Hit :=
 if at_ p c ≠ 2 then s else if s.2.2=false∨(dst a v c).N * s.1.D < s.1.N * (dst a v c).D then (dst a v c,c,true) else s
def firstR (p : Plan) (a : Point) (v : Vector) (m : Int) : Hit :=
 if inR p a=false then hit0 else if (tracedL a v 0 m).2 ≠ 0 then hit0 else (tracedL a v 0 m).1.foldl (fstStep p a v) hit0
theorem foldl_take {α β : Type} [Inhabited α] {f : β → α → β} {b : β} {L : List α} {i : Nat} (h : i < L.length) : (L.take (i + 1)).foldl f b = f ((L.take i).foldl f b) (gt L i) := by
 rw [List.take_succ,List.foldl_append]
 simp [gt,List.getElem?_eq_getElem h]
theorem traced_bnd {a : Point} {v : Vector} {m : Int} {c : Cell} (ha : 0 ≤ a.X ∧ a.X ≤ 4096 ∧ 0 ≤ a.Y ∧ a.Y ≤ 4096) (hc : c ∈ (tracedL a v 0 m).1) :
 (squareP c)=(sqC c,true)∧0≤(dst a v c).N∧(dst a v c).N≤m * (dst a v c).D∧1≤(dst a v c).D∧(dst a v c).D≤67108864∧0≤m∧m≤2048:=by
 unfold tracedL at hc
 split at hc
 ·cases hc
 split at hc
 ·cases hc
 rename_i h1 h2
 simp only [not_or,Bool.not_eq_false] at h1
 obtain ⟨p1,p2⟩:=h1
 have hv:=vVec_iff.1 p2
 have hok : swOk (ptR a) v 0 m:=⟨by simp only [ptR];omega,by simp only [ptR];omega,by simp only [ptR];omega,by simp only [ptR];omega,by simp only [ptR];omega,by simp only [ptR];omega,by simp only [ptR];omega,by simp only [ptR];omega,p2,by omega,by omega,by omega⟩
 have hb:=sw_bd hok
 simp only [ptR] at hb
 simp only at hc
 unfold sweepL at hc
 obtain ⟨hh,hx,hy⟩:=mem_gridL.1 hc
 simp only [ptR] at hx hy hh
 have hcx : -40≤c.X∧c.X≤100∧-40≤c.Y∧c.Y≤100:=by omega
 have hsq : squareP c=(sqC c,true):=by
  unfold squareP
  rw [if_pos ⟨Drive.within_iff.2 (by omega),Drive.within_iff.2 (by omega)⟩]
 have hs1 : sRect (sqC c)=true:=by rw [sRect_iff];unfold sqC;simp only;omega
 have hs2 : sRect ⟨(sqC c).X0 - a.X,(sqC c).Y0 - a.Y,(sqC c).X1 - a.X,(sqC c).Y1 - a.Y⟩ = true:=by rw [sRect_iff];unfold sqC;simp only;omega
 have hs3 : sRect ⟨a.X,a.Y,a.X,a.Y⟩ = true:=by rw [sRect_iff];simp only;omega
 have hp : sPoint a=true:=by rw [sPoint_iff];omega
 unfold hitR minusR at hh
 simp only [hs1,hs2,hs3,and_self,if_true,Bool.true_and] at hh
 unfold meets at hh
 rw [if_neg (by omega),through_shift hp hs1 hs2] at hh
 simp only [Bool.and_eq_true,decide_eq_true_eq] at hh
 obtain ⟨⟨t1,t2⟩,t3⟩:=hh
 have tk:=(through_ok t1).1
 unfold Span.ok at tk
 have tl:=through_lo t1
 have hd : dst a v c=distF (through a v (sqC c)).1.lo v:=by unfold dst enter;rw [hsq];simp only [t1,if_true]
 have:=distF_bnd (K:=m) tl (by omega) (by omega) t3
 rw [hd]
 exact ⟨hsq,this.1,this.2.1,this.2.2.1,by omega,by omega,by omega⟩
theorem sweep_len {r : Rect} {v : Vector} {lo hi : Int} (h : swOk r v lo hi) : (sweepL r v lo hi).length ≤ 8281 := by
 have hb:=sw_bd h
 unfold sweepL gridL
 exact Nat.le_trans (outK_len _ _ _ _ _) (Nat.mul_le_mul (by omega) (by omega) : _≤91 * 91)
theorem traced_len {a : Point} {v : Vector} {lo hi : Int} : (tracedL a v lo hi).1.length ≤ 8281 := by
 unfold tracedL
 split
 ·simp
 split
 ·simp
 rename_i h1 h2
 simp only [not_or,Bool.not_eq_false] at h1
 obtain ⟨p1,p2⟩:=h1
 have hp:=vPoint_iff.1 p1
 exact sweep_len ⟨by simp only [ptR];omega,by simp only [ptR];omega,by simp only [ptR];omega,by simp only [ptR];omega,by simp only [ptR];omega,by simp only [ptR];omega,by simp only [ptR];omega,by simp only [ptR];omega,p2,by omega,by omega,by omega⟩
theorem swept_len {r : Rect} {v : Vector} {lo hi : Int} : (sweptL r v lo hi).1.length ≤ 8281 := by
 unfold sweptL
 split
 ·simp
 split
 ·simp
 split
 ·simp
 rename_i h1 h2 h3
 simp only [not_or,Bool.not_eq_false] at h1
 obtain ⟨p1,p2⟩:=h1
 have hp:=vRect_iff.1 p1
 exact sweep_len ⟨by omega,by omega,by omega,by omega,by omega,by omega,by omega,by omega,p2,by omega,by omega,by omega⟩
theorem dst_mul {a : Point} {v : Vector} {m : Int} {c : Cell} {n d : Int} (ha : 0 ≤ a.X ∧ a.X ≤ 4096 ∧ 0 ≤ a.Y ∧ a.Y ≤ 4096) (hc : c ∈ (tracedL a v 0 m).1) (hm : m ≤ 1056) (hn : 0 ≤ n ∧ n ≤ 70866960384) (hd : 0 ≤ d ∧ d ≤ 67108864) :
 (dst a v c).N≤70866960384∧(0≤(dst a v c).N * d∧(dst a v c).N * d≤4755801206503243776)∧0≤n * (dst a v c).D∧n * (dst a v c).D≤4755801206503243776:=by
 obtain ⟨_,h1,h2,h3,h4,h5,h6⟩:=traced_bnd ha hc
 have e1 : m * (dst a v c).D≤1056 * 67108864:=Int.mul_le_mul hm h4 (by omega) (by omega)
 have e2 : (dst a v c).N * d≤70866960384 * 67108864:=Int.mul_le_mul (by omega) hd.2 hd.1 (by omega)
 have e3 : n * (dst a v c).D≤70866960384 * 67108864:=Int.mul_le_mul hn.2 h4 (by omega) (by omega)
 exact ⟨by omega,⟨Int.mul_nonneg h1 hd.1,by omega⟩,Int.mul_nonneg hn.1 (by omega),by omega⟩
end RayP
open RayP
section
variable {A : Option Addr} {cc : Nat} {X : List Int} {w h : Int}
instance inVy_2 {n lo hi : Int} : CFc 212 false [I n, I lo, I hi] True (B (between n lo hi)) [] := ⟨fun _ => by
 unfold between
 refine CM.of Tryz.func212 rfl tabOk rfl rfl rfl rfl (by simp [SV.nms,SV.nm]) fun w_ M_ π_ G0_=>?_
 exact run⟩
instance inVy_3 {x y : Int} : CFc 265 false [.a [I w, I h, .fz A cc 1 (fl ye X)], .a [I x, I y]] (X.length ≤ 1000000000000) (B (inR ⟨w, h, X⟩ ⟨x, y⟩)) [] := ⟨fun hp => by
 unfold inR
 refine CM.of Tryz.func265 rfl tabOk rfl rfl rfl rfl (by simp [SV.nms,SV.nm]) fun w_ M_ π_ G0_=>?_
 exact run⟩
instance inVy_4 {x y d : Int} : CFc 211 false [.a [I w, I h, .fz A cc 1 (fl ye X)], .a [I x, I y, I d]] (X.length ≤ 1000000000000) (B (standsR ⟨w, h, X⟩ ⟨x, y, d⟩)) [] := ⟨fun hp => by
 unfold standsR
 refine CM.of Tryz.func211 rfl tabOk rfl rfl rfl rfl (by simp [SV.nms,SV.nm]) fun w_ M_ π_ G0_=>?_
 exact run⟩
instance inVy_5 {px py x y e m : Int} : CFc 266 false [.a [I w, I h, .fz A cc 1 (fl ye X)], .a [I px, I py], .a [I x, I y, I e], I m] (X.length ≤ 1000000000000 ∧ m ≤ 1056) (.t [(firstR ⟨w, h, X⟩ ⟨px, py⟩ ⟨x, y, e⟩ m).1.s, (firstR ⟨w, h, X⟩ ⟨px, py⟩ ⟨x, y, e⟩ m).2.1.s, B (firstR ⟨w, h, X⟩ ⟨px, py⟩ ⟨x, y, e⟩ m).2.2]) [] := ⟨fun hp => by
 unfold firstR
 refine CM.of Tryz.func266 rfl tabOk rfl rfl rfl rfl (by simp [SV.nms,SV.nm]) fun w_ M_ π_ G0_=>?_
 refine runA (a1 ?_)
 intro _ g1 g2
 have hB:=fun c=>traced_bnd (a:=⟨px,py⟩) (v:=⟨x,y,e⟩) (m:=m) (c:=c) (by simp only;omega)
 have hm:=fun c n d=>dst_mul (a:=⟨px,py⟩) (v:=⟨x,y,e⟩) (m:=m) (c:=c) (n:=n) (d:=d) (by simp only;omega)
 have hn:=traced_len (a:=⟨px,py⟩) (v:=⟨x,y,e⟩) (lo:=0) (hi:=m)
 generalize hL : (tracedL ⟨px,py⟩ ⟨x,y,e⟩ 0 m).1=L at *
 refine LoopX_keep [4,5,6,8,9,13,14,15,39,40,41] ?_
 conv=>whnf
 refine LoopX_c tabOk [] (fun s : Nat × Hit=>s.1≤L.length∧s.2=(L.take s.1).foldl (fstStep ⟨w,h,X⟩ ⟨px,py⟩ ⟨x,y,e⟩) hit0∧(0≤s.2.1.N∧s.2.1.N≤70866960384)∧0≤s.2.1.D∧s.2.1.D≤67108864) (fun s=>[(15,B s.2.2.2),(41,I s.1)]) (fun s=>[(6,.box 318 [I s.2.1.N,I s.2.1.D]),(7,.box 128 [I s.2.2.1.X,I s.2.2.1.Y])]) (fun s=>L.length - s.1) (0,hit0) ⟨by simp,rfl,by simp [hit0],by simp [hit0]⟩ ⟨rfl,rfl,trivial⟩ ⟨rfl,rfl,trivial⟩ ?_
 conv=>whnf
 rintro ⟨i,⟨⟨N,D⟩,⟨cx,cy⟩,fd⟩⟩ ⟨h1,h2,h3,h4⟩
 simp only at h1 h2 h3 h4
 by_cases hi : i < L.length
 ·have hc:=gt_mem hi
  have hstep:=foldl_take (f:=fstStep ⟨w,h,X⟩ ⟨px,py⟩ ⟨x,y,e⟩) (b:=hit0) hi
  rw [← h2] at hstep
  have q1:=hB _ hc
  have q2:=hm _ N D hc (by omega) h3 h4
  clear hB hm
  have u1 : ¬at_ ⟨w,h,X⟩ (gt L i)=2→fstStep ⟨w,h,X⟩ ⟨px,py⟩ ⟨x,y,e⟩ (⟨N,D⟩,⟨cx,cy⟩,fd) (gt L i)=(⟨N,D⟩,⟨cx,cy⟩,fd):=fun a=>by unfold fstStep;rw [if_pos a]
  have u2 : at_ ⟨w,h,X⟩ (gt L i)=2→(fd=false∨(dst ⟨px,py⟩ ⟨x,y,e⟩ (gt L i)).N * D < N * (dst ⟨px,py⟩ ⟨x,y,e⟩ (gt L i)).D)→fstStep ⟨w,h,X⟩ ⟨px,py⟩ ⟨x,y,e⟩ (⟨N,D⟩,⟨cx,cy⟩,fd) (gt L i)=(dst ⟨px,py⟩ ⟨x,y,e⟩ (gt L i),gt L i,true):=fun a b=>by unfold fstStep;rw [if_neg (by simpa using a),if_pos b]
  have u3 : fd=true→N * (dst ⟨px,py⟩ ⟨x,y,e⟩ (gt L i)).D≤(dst ⟨px,py⟩ ⟨x,y,e⟩ (gt L i)).N * D→fstStep ⟨w,h,X⟩ ⟨px,py⟩ ⟨x,y,e⟩ (⟨N,D⟩,⟨cx,cy⟩,fd) (gt L i)=(⟨N,D⟩,⟨cx,cy⟩,fd):=fun a b=>by unfold fstStep;split;rfl;rw [if_neg];simp only [a,Bool.true_eq_false,false_or];omega
  unfold dst at q1 q2 u2 u3
  obtain ⟨-,q3,q4,q5,q6,-,-⟩:=q1
  obtain ⟨q7,⟨q8,q9⟩,q10,q11⟩:=q2
  clear h2 g1 g2 hL
  refine runA (a3 ?_ ?_ ?_)
  ·intro _ a
   exact rnd (i + 1,⟨N,D⟩,⟨cx,cy⟩,fd) ⟨by simp only;omega,by simp only;rw [hstep,u1 a],h3,h4⟩ (by simp only;omega)
  ·intro _ a b
   exact rnd (i + 1,(enter ⟨px,py⟩ ⟨x,y,e⟩ (squareP (gt L i)).1).1,gt L i,true) ⟨by simp only;omega,by simp only;rw [hstep,u2 a (.inl b)],⟨q3,q7⟩,by simp only;omega,q6⟩ (by simp only;omega)
  ·intro _ a b
   refine xwr_a ?_ (Int.le_trans (by decide) q8) (Int.le_trans q9 (by decide))
   refine runA (a1 ?_)
   refine xwr_a ?_ (Int.le_trans (by decide) q10) (Int.le_trans q11 (by decide))
   refine runA (a2 ?_ ?_)
   ·intro c
    exact rnd (i + 1,(enter ⟨px,py⟩ ⟨x,y,e⟩ (squareP (gt L i)).1).1,gt L i,true) ⟨by simp only;omega,by simp only;rw [hstep,u2 a (.inr c)],⟨q3,q7⟩,by simp only;omega,q6⟩ (by simp only;omega)
   ·intro c
    exact rnd (i + 1,⟨N,D⟩,⟨cx,cy⟩,fd) ⟨by simp only;omega,by simp only;rw [hstep,u3 b c],h3,h4⟩ (by simp only;omega)
 ·obtain rfl : i=L.length:=by omega
  rw [List.take_length] at h2
  have h2:=h2.symm
  clear hB hm
  refine runA (a1 ?_)
  intro _
  rw [if_neg (by rw [g1.1];simp),if_neg (by rw [g2];simp),h2]
  rfl⟩
def lookR (p : Plan) (a : Pose) (k m : Int) : Hit := firstR p ⟨a.X, a.Y⟩ (beam a.H k) m
def measR (p : Plan) (a : Pose) (k rng err : Int) : Int × Int :=
 if standsR p a=false then (0,1) else if between rng 1 32=false∨between k 0 255=false then (0,2) else
 if (lookR p a k 1024).2.2=false then (-1,0) else
 if max ((lookR p a k 1024).1.N / (lookR p a k 1024).1.D + min (max err (1 - rng)) rng) 0 > 1024 then (-1,0) else (max ((lookR p a k 1024).1.N / (lookR p a k 1024).1.D + min (max err (1 - rng)) rng) 0,0)
theorem first_bnd {p : Plan} {a : Point} {v : Vector} {m : Int} (hm : m ≤ 1056) (h : (firstR p a v m).2.2 = true) : 0 ≤ (firstR p a v m).1.N ∧ (firstR p a v m).1.N ≤ 70866960384 ∧ 1 ≤ (firstR p a v m).1.D ∧ (firstR p a v m).1.D ≤ 67108864 := by
 unfold firstR at h ⊢
 split at h
 ·cases h
 rename_i h1
 rw [if_neg h1]
 split at h
 ·cases h
 rename_i h2
 rw [if_neg h2]
 have hin:=inR_iff.1 (by simpa using h1 : inR p a=true)
 have hv:=vPlan_iff.1 hin.1
 have hb:=fun c hc=>traced_bnd (a:=a) (v:=v) (m:=m) (c:=c) (by omega) hc
 generalize (tracedL a v 0 m).1=L at *
 have key : ∀ (l : List Cell) (s : Hit),(∀ c∈l,c∈L)→(s.2.2=true→0≤s.1.N∧s.1.N≤70866960384∧1≤s.1.D∧s.1.D≤67108864)→(l.foldl (fstStep p a v) s).2.2=true→0≤(l.foldl (fstStep p a v) s).1.N∧(l.foldl (fstStep p a v) s).1.N≤70866960384∧1≤(l.foldl (fstStep p a v) s).1.D∧(l.foldl (fstStep p a v) s).1.D≤67108864:=by
  intro l
  induction l with
  | nil=>intro s _ hs h;exact hs h
  | cons c r ih =>
    intro s hl hs h
    refine ih (fstStep p a v s c) (fun d hd=>hl d (by simp [hd])) ?_ h
    unfold fstStep
    have:=hb c (hl c (by simp))
    have e1 : m * (dst a v c).D≤1056 * 67108864:=Int.mul_le_mul hm this.2.2.2.2.1 (by omega) (by omega)
    split
    ·exact hs
    split
    ·intro _;exact ⟨this.2.1,by simp only;omega,this.2.2.2.1,this.2.2.2.2.1⟩
    ·exact hs
 exact key L hit0 (fun _ h=>h) (by simp [hit0]) h
instance inVy_6 {x y d k m : Int} : CFc 213 false [.a [I w, I h, .fz A cc 1 (fl ye X)], .a [I x, I y, I d], I k, I m] (X.length ≤ 1000000000000 ∧ m ≤ 1056) (.t [(lookR ⟨w, h, X⟩ ⟨x, y, d⟩ k m).1.s, B (lookR ⟨w, h, X⟩ ⟨x, y, d⟩ k m).2.2]) [] := ⟨fun hp => by
 unfold lookR
 refine CM.of Tryz.func213 rfl tabOk rfl rfl rfl rfl (by simp [SV.nms,SV.nm]) fun w_ M_ π_ G0_=>?_
 exact run⟩
instance inVy_7 {p : Plan} {a : Pose} {k : Int} : Bnd (lookR p a k 1024).2.2 (0 ≤ (lookR p a k 1024).1.N ∧ (lookR p a k 1024).1.N ≤ 70866960384 ∧ 1 ≤ (lookR p a k 1024).1.D ∧ (0 ≤ (lookR p a k 1024).1.N / (lookR p a k 1024).1.D ∧ (lookR p a k 1024).1.N / (lookR p a k 1024).1.D ≤ 70866960384)) := ⟨fun h => by
 have:=first_bnd (m:=1024) (by omega) h
 unfold lookR
 exact ⟨this.1,this.2.1,this.2.2.1,Int.ediv_nonneg this.1 (by omega),Int.le_trans (Int.ediv_le_self _ this.1) this.2.1⟩⟩
attribute [irreducible] lookR
instance inVy_8 {x y d k rng err : Int} : CFc 157 false [.a [I w, I h, .fz A cc 1 (fl ye X)], .a [I x, I y, I d], I k, I rng, I err] (X.length ≤ 1000000000000) (.t [I (measR ⟨w, h, X⟩ ⟨x, y, d⟩ k rng err).1, I (measR ⟨w, h, X⟩ ⟨x, y, d⟩ k rng err).2]) [] := ⟨fun hp => by
 unfold measR
 refine CM.of Tryz.func157 rfl tabOk rfl rfl rfl rfl (by simp [SV.nms,SV.nm]) fun w_ M_ π_ G0_=>?_
 exact run⟩
def errAt (E : List Int) (i : Nat) : Int := if i < E.length then gt E i else 0
def swpF (p : Plan) (a : Pose) (rng : Int) (E : List Int) (i : Nat) (m : Int) : Beam × Int := (⟨m, (measR p a m rng (errAt E i)).1⟩, (measR p a m rng (errAt E i)).2)
def sweepR (p : Plan) (a : Pose) (M : List Int) (rng : Int) (E : List Int) : List Beam × Int := if M.length > 32 then ([], 6) else mapE (swpF p a rng E) M 0
instance inVy_9 {x y d rng : Int} {B' D' : Option Addr} {b' d' : Nat} {M E : List Int} : CFc 100 false [.a [I w, I h, .fz A cc 1 (fl ye X)], .a [I x, I y, I d], .fz B' b' 1 (fl ie M), I rng, .fz D' d' 1 (fl ie E)] (X.length ≤ 1000000000000 ∧ M.length ≤ 1000000000000 ∧ E.length ≤ 1000000000000) (.t [.sl 0 0 0 (sweepR ⟨w, h, X⟩ ⟨x, y, d⟩ M rng E).1.length 2, I (sweepR ⟨w, h, X⟩ ⟨x, y, d⟩ M rng E).2]) [.row false 221 2 (fl Beam.e (sweepR ⟨w, h, X⟩ ⟨x, y, d⟩ M rng E).1)] := ⟨fun hp => by
 unfold sweepR
 refine CM.of Tryz.func100 rfl tabOk rfl rfl rfl rfl (by simp [SV.nms,SV.nm]) fun w_ M_ π_ G0_=>?_
 refine runA (a1 ?_)
 intro g
 refine LoopX_nil 12 221 2 rfl ?_
 conv=>whnf
 refine LoopX_keep [2,3,4,5,6,12,21,22,23] ?_
 conv=>whnf
 generalize hf : swpF ⟨w,h,X⟩ ⟨x,y,d⟩ rng E=f
 have hfd : ∀ i m,f i m=(⟨m,(measR ⟨w,h,X⟩ ⟨x,y,d⟩ m rng (errAt E i)).1⟩,(measR ⟨w,h,X⟩ ⟨x,y,d⟩ m rng (errAt E i)).2):=fun i m=>by rw [← hf];rfl
 refine LoopX_c tabOk [2] (fun s : Nat × Nat × List Beam=>s.1≤M.length∧s.2.1=s.2.2.length∧(∀ j,j < s.1→(f j (gt M j)).2=0)∧s.2.2=(List.range s.1).map fun j=>(f j (gt M j)).1) (fun s=>[(12,.sl 2 0 0 s.2.1 2),(23,I s.1)]) (fun s=>[(2,.row false 221 2 (fl Beam.e s.2.2))]) (fun s=>M.length - s.1) (0,0,[]) ⟨by simp,rfl,by simp,rfl⟩ ⟨rfl,rfl,trivial⟩ ⟨rfl,trivial⟩ ?_
 conv=>whnf
 rintro ⟨i,n,L⟩ ⟨h1,h2,h3,h4⟩
 simp only at h1 h2 h3 h4
 subst h2
 have hl : L.length≤32:=by rw [h4];simp;omega
 by_cases hi : i < M.length
 ·have e0 : (measR ⟨w,h,X⟩ ⟨x,y,d⟩ (gt M i) rng (errAt E i)).2 ≠ 0→mapE f M 0=([],(measR ⟨w,h,X⟩ ⟨x,y,d⟩ (gt M i) rng (errAt E i)).2):=fun e=>by have:=mapE_err0 (f:=f) hi h3;rw [hfd] at this;exact this e
  by_cases hE : i < E.length
  ·have e1 : errAt E i=gt E i:=by unfold errAt;rw [if_pos hE]
   rw [e1] at e0
   refine runA (a2 ?_ ?_)
   ·intro _ _ a
    rw [if_neg (by omega),e0 a]
    rfl
   ·intro _ _ a
    exact rnd (i + 1,L.length + 1,L ++ [⟨gt M i,(measR ⟨w,h,X⟩ ⟨x,y,d⟩ (gt M i) rng (gt E i)).1⟩]) ⟨by simp only;omega,by simp,all_next h3 (by rw [hfd,e1];exact a),by simp only;rw [range_next,← h4,hfd,e1]⟩ (by simp only;omega)
  ·have e1 : errAt E i=0:=by unfold errAt;rw [if_neg hE]
   rw [e1] at e0
   refine runA (a2 ?_ ?_)
   ·intro _ _ a
    rw [if_neg (by omega),e0 a]
    rfl
   ·intro _ _ a
    exact rnd (i + 1,L.length + 1,L ++ [⟨gt M i,(measR ⟨w,h,X⟩ ⟨x,y,d⟩ (gt M i) rng (0)).1⟩]) ⟨by simp only;omega,by simp,all_next h3 (by rw [hfd,e1];exact a),by simp only;rw [range_next,← h4,hfd,e1]⟩ (by simp only;omega)
 ·obtain rfl : i=M.length:=by omega
  have e:=mapE_ok0 h3
  rw [← h4] at e
  exact run⟩
attribute [irreducible] RayP.inR RayP.standsR RayP.dst RayP.fstStep RayP.firstR measR sweepR
end
end Go.Proofs.YtkflmidichikjaaGreatDoor.V
end
section
namespace Go.Proofs.YtkflmidichikjaaGreatDoor.V
open Go.RowKit
set_option maxRecDepth 100000
set_option maxHeartbeats 8000000
open Heading BoxP Drive Seg PlanP
namespace Pred
def turnedA (b : Box) (n k : Int) : Arc := (grow (shift ⟨b.From, b.Count⟩ n).1 k).1
def hullR (a b : Rect) : Rect := ⟨min a.X0 b.X0, min a.Y0 b.Y0, max a.X1 b.X1, max a.Y1 b.Y1⟩
def reachN (c : Command) (b : Bounds) (L : List Int) : Nat → Rect
 | 0=>⟨0,0,0,0⟩
 | i + 1=>hullR (if i=0 then (reach c b (gt L i)).1 else reachN c b L i) (reach c b (gt L i)).1
def reachA (c : Command) (b : Bounds) (a : Arc) : Rect := reachN c b (list a) (list a).length
def movedB (b : Box) (a : Arc) (r : Rect) : Box × Int := bmove { b with From := a.From, Count := a.Count } r.X0 r.X1 r.Y0 r.Y1
def imageP (b : Box) (c : Command) (bd : Bounds) : Box × Int :=
 if vBox b && vCmd c && vBounds bd then movedB b (turnedA b c.Turn bd.Turn) (reachA c bd (turnedA b c.Turn bd.Turn)) else (⟨0,0,0,0,0,0⟩,1)
def boxesP (S : List Box) (c : Command) (bd : Bounds) (bump : Bool) : List Box × Int :=
 if S.length > 16∨vCmd c=false∨vBounds bd=false then ([],1) else
 if S.any (fun b=>!vBox b) then ([],1) else mapE (fun _ b=>imageP b (if bump then ⟨c.Turn,0⟩ else c) bd) S 0
end Pred
open Pred
section
variable {a b c d e f t g l s r n : Int}
instance inVq_1 : CFc 310 false [.a [I a, I b, I c, I d, I e, I f]] True (.a [I e, I f]) [] := ⟨fun _ => by
 refine CM.of Tryz.func310 rfl tabOk rfl rfl rfl rfl (by simp [SV.nms,SV.nm]) fun w_ M_ π_ G0_=>?_
 exact run⟩
instance inVq_2 {m k : Int} : CFc 269 false [.a [I a, I b, I c, I d, I e, I f], I m, I k] True (turnedA ⟨a, b, c, d, e, f⟩ m k).s [] := ⟨fun _ => by
 unfold turnedA
 refine CM.of Tryz.func269 rfl tabOk rfl rfl rfl rfl (by simp [SV.nms,SV.nm]) fun w_ M_ π_ G0_=>?_
 exact run⟩
instance inVq_3 : CFc 268 false [.a [I a, I b, I c, I d, I e, I f], .a [I t, I g], .a [I l, I s, I r, I n]] True (B (vBox ⟨a, b, c, d, e, f⟩ && vCmd ⟨t, g⟩ && vBounds ⟨l, s, r, n⟩)) [] := ⟨fun _ => by
 refine CM.of Tryz.func268 rfl tabOk rfl rfl rfl rfl (by simp [SV.nms,SV.nm]) fun w_ M_ π_ G0_=>?_
 exact run⟩
instance inVq_4 {p q x0 y0 x1 y1 : Int} : CFc 270 false [.a [I a, I b, I c, I d, I e, I f], .a [I p, I q], .a [I x0, I y0, I x1, I y1]] True (.t [(movedB ⟨a, b, c, d, e, f⟩ ⟨p, q⟩ ⟨x0, y0, x1, y1⟩).1.s, I (movedB ⟨a, b, c, d, e, f⟩ ⟨p, q⟩ ⟨x0, y0, x1, y1⟩).2]) [] := ⟨fun _ => by
 unfold movedB
 refine CM.of Tryz.func270 rfl tabOk rfl rfl rfl rfl (by simp [SV.nms,SV.nm]) fun w_ M_ π_ G0_=>?_
 exact run⟩
theorem list_len {a : Arc} : (list a).length ≤ 256 := by
 unfold list
 split
 ·rename_i h
  have:=vArc_iff.1 h
  simp
  omega
 ·simp
instance inVq_5 {p q : Int} : CFc 271 false [.a [I t, I g], .a [I l, I s, I r, I n], .a [I p, I q]] True (reachA ⟨t, g⟩ ⟨l, s, r, n⟩ ⟨p, q⟩).s [] := ⟨fun _ => by
 unfold reachA
 have hl:=list_len (a:=⟨p,q⟩)
 refine CM.of Tryz.func271 rfl tabOk rfl rfl rfl rfl (by simp [SV.nms,SV.nm]) fun w_ M_ π_ G0_=>?_
 refine runA (a1 ?_)
 generalize list ⟨p,q⟩ = L at *
 refine LoopX_keep [3,4,6,7,13,14,15] ?_
 conv=>whnf
 refine LoopX_c tabOk [] (fun x : Nat × Rect=>x.1≤L.length∧x.2=reachN ⟨t,g⟩ ⟨l,s,r,n⟩ L x.1) (fun x=>[(15,I x.1)]) (fun x=>[(4,.box 113 [I x.2.X0,I x.2.Y0,I x.2.X1,I x.2.Y1])]) (fun x=>L.length - x.1) (0,⟨0,0,0,0⟩) ⟨by simp,rfl⟩ ⟨rfl,trivial⟩ ⟨rfl,trivial⟩ ?_
 conv=>whnf
 rintro ⟨i,o⟩ ⟨h1,h2⟩
 simp only at h1 h2
 by_cases hi : i < L.length
 ·by_cases h0 : i=0
  ·have e : reachN ⟨t,g⟩ ⟨l,s,r,n⟩ L (i + 1)=hullR (reach ⟨t,g⟩ ⟨l,s,r,n⟩ (gt L i)).1 (reach ⟨t,g⟩ ⟨l,s,r,n⟩ (gt L i)).1:=by rw [reachN,if_pos h0]
   refine runA (a1 ?_)
   intros
   exact rnd (i + 1,hullR (reach ⟨t,g⟩ ⟨l,s,r,n⟩ (gt L i)).1 (reach ⟨t,g⟩ ⟨l,s,r,n⟩ (gt L i)).1) ⟨by simp only;omega,e.symm⟩ (by simp only;omega)
  ·have e : reachN ⟨t,g⟩ ⟨l,s,r,n⟩ L (i + 1)=hullR o (reach ⟨t,g⟩ ⟨l,s,r,n⟩ (gt L i)).1:=by rw [reachN,if_neg h0,h2]
   refine runA (a1 ?_)
   intros
   exact rnd (i + 1,hullR o (reach ⟨t,g⟩ ⟨l,s,r,n⟩ (gt L i)).1) ⟨by simp only;omega,e.symm⟩ (by simp only;omega)
 ·obtain rfl : i=L.length:=by omega
  subst h2
  exact run⟩
instance inVq_6 : CFc 214 false [.a [I a, I b, I c, I d, I e, I f], .a [I t, I g], .a [I l, I s, I r, I n]] True (.t [(imageP ⟨a, b, c, d, e, f⟩ ⟨t, g⟩ ⟨l, s, r, n⟩).1.s, I (imageP ⟨a, b, c, d, e, f⟩ ⟨t, g⟩ ⟨l, s, r, n⟩).2]) [] := ⟨fun _ => by
 unfold imageP
 refine CM.of Tryz.func214 rfl tabOk rfl rfl rfl rfl (by simp [SV.nms,SV.nm]) fun w_ M_ π_ G0_=>?_
 exact run⟩
instance inVq_7 {A : Option Addr} {k : Nat} {S : List Box} {bump : Bool} : CFc 158 false [.fz A k 6 (fl Box.e S), .a [I t, I g], .a [I l, I s, I r, I n], B bump] (S.length ≤ 1000000000) (.t [.sl 0 0 0 (boxesP S ⟨t, g⟩ ⟨l, s, r, n⟩ bump).1.length 6, I (boxesP S ⟨t, g⟩ ⟨l, s, r, n⟩ bump).2]) [.row false 85 6 (fl Box.e (boxesP S ⟨t, g⟩ ⟨l, s, r, n⟩ bump).1)] := ⟨fun hp => by
 unfold boxesP
 refine CM.of Tryz.func158 rfl tabOk rfl rfl rfl rfl (by simp [SV.nms,SV.nm]) fun w_ M_ π_ G0_=>?_
 refine runA (a1 ?_)
 intro g1 g2 g3 g4 g5
 refine LoopX_keep [0,3,5,6,30,31,32] ?_
 conv=>whnf
 refine LoopX_c tabOk [] (fun i : Nat=>i≤S.length∧∀ j,j < i→(!vBox (gt S j))=false) (fun i=>[(32,I i)]) (fun _=>[]) (fun i=>S.length - i) 0 ⟨by simp,by simp⟩ ⟨rfl,trivial⟩ trivial ?_
 conv=>whnf
 rintro i ⟨h1,h2⟩
 by_cases hi : i < S.length
 ·have ey : vBox (gt S i)=false→S.any (fun b=>!vBox b)=true:=fun h=>any_yes hi (by simp [h])
  refine runA (a1 ?_)
  intros
  exact rnd (i + 1) ⟨by omega,all_next h2 (by simp [*])⟩ (by omega)
 ·obtain rfl : i=S.length:=by omega
  have ef : S.any (fun b=>!vBox b)=false:=any_no h2
  rw [ef]
  cases bump with
  | true =>
    refine runA (a1 ?_)
    intro _
    refine LoopX_nil 12 85 6 rfl ?_
    conv=>whnf
    refine LoopX_keep [5,6,12,42,43,44] ?_
    conv=>whnf
    generalize hf : (fun (_ : Nat) (b : Box)=>imageP b (if true=true then (⟨t,0⟩ : Command) else ⟨t,g⟩) ⟨l,s,r,n⟩)=f
    have hfd : ∀ i b,f i b=imageP b ⟨t,0⟩ ⟨l,s,r,n⟩:=fun i b=>by rw [← hf];rfl
    clear h2 ef
    refine LoopX_c tabOk [2] (fun s : Nat × Nat × List Box=>s.1≤S.length∧s.2.1=s.2.2.length∧(∀ j,j < s.1→(f j (gt S j)).2=0)∧s.2.2=(List.range s.1).map fun j=>(f j (gt S j)).1) (fun s=>[(12,.sl 2 0 0 s.2.1 6),(44,I s.1)]) (fun s=>[(2,.row false 85 6 (fl Box.e s.2.2))]) (fun s=>S.length - s.1) (0,0,[]) ⟨by simp,rfl,by simp,rfl⟩ ⟨rfl,rfl,trivial⟩ ⟨rfl,trivial⟩ ?_
    conv=>whnf
    rintro ⟨i,m,L⟩ ⟨k1,k2,k3,k4⟩
    simp only at k1 k2 k3 k4
    subst k2
    have hl : L.length≤16:=by rw [k4];simp;omega
    by_cases hj : i < S.length
    ·have e0 : (imageP (gt S i) ⟨t,0⟩ ⟨l,s,r,n⟩).2 ≠ 0→mapE f S 0=([],(imageP (gt S i) ⟨t,0⟩ ⟨l,s,r,n⟩).2):=fun e=>by have:=mapE_err0 (f:=f) hj k3;rw [hfd] at this;exact this e
     refine runA (a2 ?_ ?_)
     ·intro _ a
      rw [if_neg (by simp [g2,g4];omega),if_neg (by simp),e0 a]
      rfl
     ·intro _ a
      exact rnd (i + 1,L.length + 1,L ++ [(imageP (gt S i) ⟨t,0⟩ ⟨l,s,r,n⟩).1]) ⟨by simp only;omega,by simp,all_next k3 (by rw [hfd];exact a),by simp only;rw [range_next,← k4,hfd]⟩ (by simp only;omega)
    ·obtain rfl : i=S.length:=by omega
     have e:=mapE_ok0 k3
     rw [← k4] at e
     exact run
  | false =>
    refine runA (a1 ?_)
    intro _
    refine LoopX_nil 12 85 6 rfl ?_
    conv=>whnf
    refine LoopX_keep [5,6,12,42,43,44] ?_
    conv=>whnf
    generalize hf : (fun (_ : Nat) (b : Box)=>imageP b (if false=true then (⟨t,0⟩ : Command) else ⟨t,g⟩) ⟨l,s,r,n⟩)=f
    have hfd : ∀ i b,f i b=imageP b ⟨t,g⟩ ⟨l,s,r,n⟩:=fun i b=>by rw [← hf];rfl
    clear h2 ef
    refine LoopX_c tabOk [2] (fun s : Nat × Nat × List Box=>s.1≤S.length∧s.2.1=s.2.2.length∧(∀ j,j < s.1→(f j (gt S j)).2=0)∧s.2.2=(List.range s.1).map fun j=>(f j (gt S j)).1) (fun s=>[(12,.sl 2 0 0 s.2.1 6),(44,I s.1)]) (fun s=>[(2,.row false 85 6 (fl Box.e s.2.2))]) (fun s=>S.length - s.1) (0,0,[]) ⟨by simp,rfl,by simp,rfl⟩ ⟨rfl,rfl,trivial⟩ ⟨rfl,trivial⟩ ?_
    conv=>whnf
    rintro ⟨i,m,L⟩ ⟨k1,k2,k3,k4⟩
    simp only at k1 k2 k3 k4
    subst k2
    have hl : L.length≤16:=by rw [k4];simp;omega
    by_cases hj : i < S.length
    ·have e0 : (imageP (gt S i) ⟨t,g⟩ ⟨l,s,r,n⟩).2 ≠ 0→mapE f S 0=([],(imageP (gt S i) ⟨t,g⟩ ⟨l,s,r,n⟩).2):=fun e=>by have:=mapE_err0 (f:=f) hj k3;rw [hfd] at this;exact this e
     refine runA (a2 ?_ ?_)
     ·intro _ a
      rw [if_neg (by simp [g2,g4];omega),if_neg (by simp),e0 a]
      rfl
     ·intro _ a
      exact rnd (i + 1,L.length + 1,L ++ [(imageP (gt S i) ⟨t,g⟩ ⟨l,s,r,n⟩).1]) ⟨by simp only;omega,by simp,all_next k3 (by rw [hfd];exact a),by simp only;rw [range_next,← k4,hfd]⟩ (by simp only;omega)
    ·obtain rfl : i=S.length:=by omega
     have e:=mapE_ok0 k3
     rw [← k4] at e
     exact run⟩
attribute [irreducible] Pred.turnedA Pred.hullR Pred.reachA Pred.movedB Pred.imageP Pred.boxesP
end
end Go.Proofs.YtkflmidichikjaaGreatDoor.V
end
