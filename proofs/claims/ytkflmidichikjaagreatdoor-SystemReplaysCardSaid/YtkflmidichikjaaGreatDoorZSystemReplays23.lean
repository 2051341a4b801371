import Derived.Test.YtkflmidichikjaaGreatDoorZSystemReplays22
import Derived.Test.YtkflmidichikjaaGreatDoorZSystemReplays14
set_option linter.all false
section
namespace Go.Proofs.YtkflmidichikjaaGreatDoor.V
open Go.RowKit
set_option maxRecDepth 100000
set_option maxHeartbeats 8000000
open Heading BoxP Drive Seg PlanP
theorem ValX_ixP {C : Ctx} {ob : List OB} (m : Nat) {o : Oper} {t : TypeId} {x ix : Operand} {j off q : Nat} {i : Int} {k : SV → Prop} (ho : o.op = .indexAddr t x ix) (hj : Nat.blt j ob.length = true) (hq : off + i.toNat * m = q) (hk : k (.p j q))
 (hr : ∀ b w,(Instr.indexAt t (.pointer (some ⟨b,off,none⟩)) (.int .i64 i)).run C.P w = .ok (.pointer (some ⟨b,q,none⟩)) w) : ValX C o [.p j off,I i] ob k:=by
 unfold ValX
 intro σ G fp w ρ hm hw hx
 obtain ⟨dst,op,ty,pos,after,guard⟩:=o
 simp only at ho
 subst ho
 simp [Op.operands,SV.vals,SV.val] at hx
 refine ⟨_,hk,?_,by simp only [SV.wf];exact Nat.le_of_ble_eq_true hj⟩
 simp only [execOp,hx,Sem.run_bind,hr,Result.andThen_ok,Sem.run_pure,SV.val]
theorem sweep_cell {r : Rect} {v : Vector} {lo hi : Int} {c : Cell} (h : swOk r v lo hi) (hc : c ∈ sweepL r v lo hi) : (-40000 ≤ c.X ∧ c.X ≤ 40000) ∧ -40000 ≤ c.Y ∧ c.Y ≤ 40000 := by
 have hb:=sw_bd h
 unfold sweepL at hc
 obtain ⟨_,hx,hy⟩:=mem_gridL.1 hc
 obtain ⟨h1,h2,h3,h4,h5,h6,_⟩:=h
 omega
theorem traced_cell {a : Point} {v : Vector} {lo hi : Int} {c : Cell} (hc : c ∈ (tracedL a v lo hi).1) : (-40000 ≤ c.X ∧ c.X ≤ 40000) ∧ -40000 ≤ c.Y ∧ c.Y ≤ 40000 := by
 unfold tracedL at hc
 split at hc
 ·cases hc
 split at hc
 ·cases hc
 rename_i h1 h2
 simp only [not_or,Bool.not_eq_false] at h1
 obtain ⟨p1,p2⟩:=h1
 have hp:=vPoint_iff.1 p1
 exact sweep_cell ⟨by simp only [ptR];omega,by simp only [ptR];omega,by simp only [ptR];omega,by simp only [ptR];omega,by simp only [ptR];omega,by simp only [ptR];omega,by simp only [ptR];omega,by simp only [ptR];omega,p2,by omega,by omega,by omega⟩ hc
namespace Contr
def admR (r : Rect) : Bool := between r.X0 (-1048576) 1048576 && between r.Y0 (-1048576) 1048576 && between r.X1 (-1048576) 1048576 && between r.Y1 (-1048576) 1048576 && between (r.X1 - r.X0) 0 1024 && between (r.Y1 - r.Y0) 0 1024
theorem admR_iff {r : Rect} : admR r = true ↔ (-1048576 ≤ r.X0 ∧ r.X0 ≤ 1048576) ∧ (-1048576 ≤ r.Y0 ∧ r.Y0 ≤ 1048576) ∧ (-1048576 ≤ r.X1 ∧ r.X1 ≤ 1048576) ∧ (-1048576 ≤ r.Y1 ∧ r.Y1 ≤ 1048576) ∧ (0 ≤ r.X1 - r.X0 ∧ r.X1 - r.X0 ≤ 1024) ∧ 0 ≤ r.Y1 - r.Y0 ∧ r.Y1 - r.Y0 ≤ 1024 := by simp [admR, between_iff, and_assoc]
instance inVk_1 {a b c d : Int} : Bnd (admR ⟨a, b, c, d⟩) (admR ⟨a, b, c, d⟩ = true ∧ -1048576 ≤ a ∧ c ≤ 1048576 ∧ -1048576 ≤ b ∧ d ≤ 1048576 ∧ a ≤ c ∧ b ≤ d ∧ c - a ≤ 1024 ∧ d - b ≤ 1024) := ⟨fun h => by have := admR_iff.1 h; simp only at this; exact ⟨h, by omega⟩⟩
def vBeam (b : Beam) : Bool := between b.Mark 0 255 && between b.Reading (-1) 1024
theorem vBeam_iff {b : Beam} : vBeam b = true ↔ (0 ≤ b.Mark ∧ b.Mark ≤ 255) ∧ -1 ≤ b.Reading ∧ b.Reading ≤ 1024 := by simp [vBeam, between_iff]
def vScan (s : List Beam) : Bool := s.all vBeam && decide (s.length ≤ 32)
theorem vScan_iff {s : List Beam} : vScan s = true ↔ (∀ b ∈ s, vBeam b = true) ∧ s.length ≤ 32 := by simp [vScan]
def sqH (c : Cell) : Rect := ⟨c.X * 64, c.Y * 64, (c.X + 1) * 64, (c.Y + 1) * 64⟩
def metB (p : Point) (v : Vector) (far : Int) (o : Bool) (r : Rect) : Bool := bif o then before p v far r else meets p v 0 far r
def allMet (r : Rect) (v : Vector) (far : Int) (o : Bool) (c : Cell) : Bool := metB ⟨r.X0, r.Y0⟩ v far o (sqH c) && metB ⟨r.X1, r.Y0⟩ v far o (sqH c) && metB ⟨r.X0, r.Y1⟩ v far o (sqH c) && metB ⟨r.X1, r.Y1⟩ v far o (sqH c)
def hidden (p : Plan) (r : Rect) (v : Vector) (far : Int) (o : Bool) : Bool :=
 if far < 0 then false else (tracedL ⟨r.X0,r.Y0⟩ v 0 far).1.any fun c=>(at_ p c == 2) && allMet r v far o c
def emptyR (p : Plan) (r : Rect) (v : Vector) (lo hi : Int) : Bool := !((sweptL r v lo hi).1.any fun c => at_ p c != 1)
def refuted (p : Plan) (r : Rect) (h : Int) (b : Beam) (rng : Int) : Bool :=
 if b.Reading = -1 then hidden p r (beam h b.Mark) (1024 - rng) false else
 hidden p r (beam h b.Mark) (b.Reading - rng) true || emptyR p r (beam h b.Mark) (max 0 (b.Reading - rng)) (b.Reading + rng)
def badR (p : Plan) (r : Rect) (h : Int) (s : List Beam) (rng : Int) : Bool := if admR r then s.any (fun b => refuted p r h b rng) else false
end Contr
open Contr
section
variable {A : Option Addr} {cc : Nat} {X : List Int} {w h a b c d x y e : Int}
instance inVk_2 {n lo hi : Int} : CFc 217 false [I n, I lo, I hi] True (B (between n lo hi)) [] := ⟨fun _ => by
 unfold between
 refine CM.of Tryz.func217 rfl tabOk rfl rfl rfl rfl (by simp [SV.nms,SV.nm]) fun w_ M_ π_ G0_=>?_
 exact run⟩
instance inVk_3 {m k : Int} : CFc 313 false [.a [I m, I k]] True (B (vBeam ⟨m, k⟩)) [] := ⟨fun _ => by
 unfold vBeam
 refine CM.of Tryz.func313 rfl tabOk rfl rfl rfl rfl (by simp [SV.nms,SV.nm]) fun w_ M_ π_ G0_=>?_
 exact run⟩
instance inVk_4 : CFc 314 false [.a [I a, I b, I c, I d]] True (B (admR ⟨a, b, c, d⟩)) [] := ⟨fun _ => by
 unfold admR
 refine CM.of Tryz.func314 rfl tabOk rfl rfl rfl rfl (by simp [SV.nms,SV.nm]) fun w_ M_ π_ G0_=>?_
 refine runA (a1 ?_)
 refine LoopX_r tabOk 5 ?_
 exact run⟩
instance inVk_5 {A : Option Addr} {k : Nat} {S : List Beam} : CFc 272 false [.fz A k 2 (fl Beam.e S)] (S.length ≤ 1000000000) (B (vScan S)) [] := ⟨fun hp => by
 refine CM.of Tryz.func272 rfl tabOk rfl rfl rfl rfl (by simp [SV.nms,SV.nm]) fun w_ M_ π_ G0_=>?_
 refine runA (a1 ?_)
 refine LoopX_c tabOk [] (fun i : Nat=>i≤S.length∧∀ j,j < i→(!vBeam (gt S j))=false) (fun i=>[(7,I i)]) (fun _=>[]) (fun i=>S.length - i) 0 ⟨by simp,by simp⟩ ⟨rfl,trivial⟩ trivial ?_
 conv=>whnf
 rintro i ⟨h1,h2⟩
 by_cases hi : i < S.length
 ·have ey : vBeam (gt S i)=false→vScan S=false:=fun h=>by
   unfold vScan
   have:=any_yes (p:=fun b=>!vBeam b) hi (by simp [h])
   rw [show S.all vBeam = !(S.any fun b=>!vBeam b) by simp [List.all_eq_not_any_not],this]
   rfl
  refine runA (a1 ?_)
  intros
  exact rnd (i + 1) ⟨by omega,all_next h2 (by simp [*])⟩ (by omega)
 ·obtain rfl : i=S.length:=by omega
  have e : vScan S=decide ((S.length : Int)≤32):=by
   unfold vScan
   rw [show S.all vBeam = !(S.any fun b=>!vBeam b) by simp [List.all_eq_not_any_not],any_no h2]
   simp
   omega
  rw [e]
  exact run⟩
instance inVk_6 {far : Int} {o : Bool} : CFc 351 false [.a [I w, I h, .fz A cc 1 (fl ye X)], .a [I a, I b, I c, I d], .a [I x, I y, I e], I far, B o] (X.length ≤ 1000000000 ∧ -4194304 ≤ a ∧ a ≤ 4194304 ∧ -4194304 ≤ b ∧ b ≤ 4194304 ∧ -4194304 ≤ c ∧ c ≤ 4194304 ∧ -4194304 ≤ d ∧ d ≤ 4194304) (B (hidden ⟨w, h, X⟩ ⟨a, b, c, d⟩ ⟨x, y, e⟩ far o)) [] := ⟨fun hp => by
 unfold hidden
 refine CM.of Tryz.func351 rfl tabOk rfl rfl rfl rfl (by simp [SV.nms,SV.nm]) fun w_ M_ π_ G0_=>?_
 refine runA (a1 ?_)
 intro g
 refine ValX_ixP 2 rfl rfl rfl ?_ (fun b w=>by kernel_rfl)
 have hn:=RayP.traced_len (a:=⟨a,b⟩) (v:=⟨x,y,e⟩) (lo:=0) (hi:=far)
 refine runA (a1 ?_)
 have hcl:=fun c=>traced_cell (a:=⟨a,b⟩) (v:=⟨x,y,e⟩) (lo:=0) (hi:=far) (c:=c)
 generalize (tracedL ⟨a,b⟩ ⟨x,y,e⟩ 0 far).1=L at *
 generalize hq : (fun z=>(at_ ⟨w,h,X⟩ z == 2) && allMet ⟨a,b,c,d⟩ ⟨x,y,e⟩ far o z)=q
 have hqd : ∀ z,((at_ ⟨w,h,X⟩ z == 2) && allMet ⟨a,b,c,d⟩ ⟨x,y,e⟩ far o z)=q z:=fun z=>by rw [← hq]
 refine LoopX_keep [3,4,5,7,11,51,52,53] ?_
 conv=>whnf
 refine LoopX_c tabOk [] (fun i : Nat=>i≤L.length∧∀ j,j < i→q (gt L j)=false) (fun i=>[(53,I i)]) (fun _=>[]) (fun i=>L.length - i) 0 ⟨by simp,by simp⟩ ⟨rfl,trivial⟩ trivial ?_
 conv=>whnf
 rintro i ⟨h1,h2⟩
 by_cases hi : i < L.length
 ·have hc:=hcl _ (gt_mem hi)
  have hc' : (-40000≤(gt L ((i : Int).toNat + 0)).X∧(gt L ((i : Int).toNat + 0)).X≤40000)∧-40000≤(gt L ((i : Int).toNat + 0)).Y∧(gt L ((i : Int).toNat + 0)).Y≤40000:=hc
  have hqx:=hqd (gt L i)
  have ey : q (gt L i)=true→L.any q=true:=fun h=>any_yes hi h
  have n0 : ¬at_ ⟨w,h,X⟩ (gt L i)=2→q (gt L i)=false:=fun z=>by rw [← hqx];simp [z]
  clear hqd hcl
  unfold allMet metB sqH at hqx
  cases o with
  | true =>
    simp only [cond_true] at hqx
    have n1 : before ⟨a,b⟩ ⟨x,y,e⟩ far ⟨(gt L i).X * 64,(gt L i).Y * 64,((gt L i).X + 1) * 64,((gt L i).Y + 1) * 64⟩ = false→q (gt L i)=false:=fun z=>by rw [← hqx];simp [z]
    have n2 : before ⟨c,b⟩ ⟨x,y,e⟩ far ⟨(gt L i).X * 64,(gt L i).Y * 64,((gt L i).X + 1) * 64,((gt L i).Y + 1) * 64⟩ = false→q (gt L i)=false:=fun z=>by rw [← hqx];simp [z]
    have n3 : before ⟨a,d⟩ ⟨x,y,e⟩ far ⟨(gt L i).X * 64,(gt L i).Y * 64,((gt L i).X + 1) * 64,((gt L i).Y + 1) * 64⟩ = false→q (gt L i)=false:=fun z=>by rw [← hqx];simp [z]
    have n4 : before ⟨c,d⟩ ⟨x,y,e⟩ far ⟨(gt L i).X * 64,(gt L i).Y * 64,((gt L i).X + 1) * 64,((gt L i).Y + 1) * 64⟩ = false→q (gt L i)=false:=fun z=>by rw [← hqx];simp [z]
    have ny : at_ ⟨w,h,X⟩ (gt L i)=2→before ⟨a,b⟩ ⟨x,y,e⟩ far ⟨(gt L i).X * 64,(gt L i).Y * 64,((gt L i).X + 1) * 64,((gt L i).Y + 1) * 64⟩ = true→before ⟨c,b⟩ ⟨x,y,e⟩ far ⟨(gt L i).X * 64,(gt L i).Y * 64,((gt L i).X + 1) * 64,((gt L i).Y + 1) * 64⟩ = true→before ⟨a,d⟩ ⟨x,y,e⟩ far ⟨(gt L i).X * 64,(gt L i).Y * 64,((gt L i).X + 1) * 64,((gt L i).Y + 1) * 64⟩ = true→before ⟨c,d⟩ ⟨x,y,e⟩ far ⟨(gt L i).X * 64,(gt L i).Y * 64,((gt L i).X + 1) * 64,((gt L i).Y + 1) * 64⟩ = true→q (gt L i)=true:=fun z0 z1 z2 z3 z4=>by rw [← hqx];simp [z0,z1,z2,z3,z4]
    clear hqx
    refine runA (a2 ?_ ?_)
    ·intro _ z
     exact rnd (i + 1) ⟨by omega,all_next h2 (n0 z)⟩ (by omega)
    ·intro _ z
     refine LoopX_r tabOk 5 ?_
     refine runA (a5 ?_ ?_ ?_ ?_ ?_)
     all_goals intros
     all_goals first
      | exact rnd (i + 1) ⟨by omega,all_next h2 (n1 (by assumption))⟩ (by omega)
      | exact rnd (i + 1) ⟨by omega,all_next h2 (n2 (by assumption))⟩ (by omega)
      | exact rnd (i + 1) ⟨by omega,all_next h2 (n3 (by assumption))⟩ (by omega)
      | exact rnd (i + 1) ⟨by omega,all_next h2 (n4 (by assumption))⟩ (by omega)
      | (rw [if_neg (by omega),ey (ny z (by assumption) (by assumption) (by assumption) (by assumption))];rfl)
  | false =>
    simp only [cond_false] at hqx
    have n1 : meets ⟨a,b⟩ ⟨x,y,e⟩ 0 far ⟨(gt L i).X * 64,(gt L i).Y * 64,((gt L i).X + 1) * 64,((gt L i).Y + 1) * 64⟩ = false→q (gt L i)=false:=fun z=>by rw [← hqx];simp [z]
    have n2 : meets ⟨c,b⟩ ⟨x,y,e⟩ 0 far ⟨(gt L i).X * 64,(gt L i).Y * 64,((gt L i).X + 1) * 64,((gt L i).Y + 1) * 64⟩ = false→q (gt L i)=false:=fun z=>by rw [← hqx];simp [z]
    have n3 : meets ⟨a,d⟩ ⟨x,y,e⟩ 0 far ⟨(gt L i).X * 64,(gt L i).Y * 64,((gt L i).X + 1) * 64,((gt L i).Y + 1) * 64⟩ = false→q (gt L i)=false:=fun z=>by rw [← hqx];simp [z]
    have n4 : meets ⟨c,d⟩ ⟨x,y,e⟩ 0 far ⟨(gt L i).X * 64,(gt L i).Y * 64,((gt L i).X + 1) * 64,((gt L i).Y + 1) * 64⟩ = false→q (gt L i)=false:=fun z=>by rw [← hqx];simp [z]
    have ny : at_ ⟨w,h,X⟩ (gt L i)=2→meets ⟨a,b⟩ ⟨x,y,e⟩ 0 far ⟨(gt L i).X * 64,(gt L i).Y * 64,((gt L i).X + 1) * 64,((gt L i).Y + 1) * 64⟩ = true→meets ⟨c,b⟩ ⟨x,y,e⟩ 0 far ⟨(gt L i).X * 64,(gt L i).Y * 64,((gt L i).X + 1) * 64,((gt L i).Y + 1) * 64⟩ = true→meets ⟨a,d⟩ ⟨x,y,e⟩ 0 far ⟨(gt L i).X * 64,(gt L i).Y * 64,((gt L i).X + 1) * 64,((gt L i).Y + 1) * 64⟩ = true→meets ⟨c,d⟩ ⟨x,y,e⟩ 0 far ⟨(gt L i).X * 64,(gt L i).Y * 64,((gt L i).X + 1) * 64,((gt L i).Y + 1) * 64⟩ = true→q (gt L i)=true:=fun z0 z1 z2 z3 z4=>by rw [← hqx];simp [z0,z1,z2,z3,z4]
    clear hqx
    refine runA (a2 ?_ ?_)
    ·intro _ z
     exact rnd (i + 1) ⟨by omega,all_next h2 (n0 z)⟩ (by omega)
    ·intro _ z
     refine LoopX_r tabOk 5 ?_
     refine runA (a5 ?_ ?_ ?_ ?_ ?_)
     all_goals intros
     all_goals first
      | exact rnd (i + 1) ⟨by omega,all_next h2 (n1 (by assumption))⟩ (by omega)
      | exact rnd (i + 1) ⟨by omega,all_next h2 (n2 (by assumption))⟩ (by omega)
      | exact rnd (i + 1) ⟨by omega,all_next h2 (n3 (by assumption))⟩ (by omega)
      | exact rnd (i + 1) ⟨by omega,all_next h2 (n4 (by assumption))⟩ (by omega)
      | (rw [if_neg (by omega),ey (ny z (by assumption) (by assumption) (by assumption) (by assumption))];rfl)
 ·obtain rfl : i=L.length:=by omega
  rw [any_no h2]
  exact run⟩
instance inVk_7 {lo hi : Int} : CFc 352 false [.a [I w, I h, .fz A cc 1 (fl ye X)], .a [I a, I b, I c, I d], .a [I x, I y, I e], I lo, I hi] (X.length ≤ 1000000000) (B (emptyR ⟨w, h, X⟩ ⟨a, b, c, d⟩ ⟨x, y, e⟩ lo hi)) [] := ⟨fun hp => by
 unfold emptyR
 refine CM.of Tryz.func352 rfl tabOk rfl rfl rfl rfl (by simp [SV.nms,SV.nm]) fun w_ M_ π_ G0_=>?_
 have hn:=RayP.swept_len (r:=⟨a,b,c,d⟩) (v:=⟨x,y,e⟩) (lo:=lo) (hi:=hi)
 refine runA (a1 ?_)
 generalize (sweptL ⟨a,b,c,d⟩ ⟨x,y,e⟩ lo hi).1=L at *
 refine LoopX_keep [5,23,24,25] ?_
 conv=>whnf
 refine LoopX_c tabOk [] (fun i : Nat=>i≤L.length∧∀ j,j < i→(at_ ⟨w,h,X⟩ (gt L j) != 1)=false) (fun i=>[(25,I i)]) (fun _=>[]) (fun i=>L.length - i) 0 ⟨by simp,by simp⟩ ⟨rfl,trivial⟩ trivial ?_
 conv=>whnf
 rintro i ⟨h1,h2⟩
 by_cases hi : i < L.length
 ·have ey : ¬at_ ⟨w,h,X⟩ (gt L i)=1→(L.any fun c=>at_ ⟨w,h,X⟩ c != 1)=true:=fun z=>any_yes hi (by simpa using z)
  refine runA (a1 ?_)
  ·intro _ z
   have z' : at_ ⟨w,h,X⟩ (gt L i)=1:=z
   exact rnd (i + 1) ⟨by omega,all_next h2 (by simp [z'])⟩ (by omega)
 ·obtain rfl : i=L.length:=by omega
  rw [any_no h2]
  exact run⟩
instance inVk_8 {k m z rng : Int} : CFc 315 false [.a [I w, I h, .fz A cc 1 (fl ye X)], .a [I a, I b, I c, I d], I k, .a [I m, I z], I rng] (X.length ≤ 1000000000 ∧ -4194304 ≤ a ∧ a ≤ 4194304 ∧ -4194304 ≤ b ∧ b ≤ 4194304 ∧ -4194304 ≤ c ∧ c ≤ 4194304 ∧ -4194304 ≤ d ∧ d ≤ 4194304 ∧ -1 ≤ z ∧ z ≤ 1024 ∧ 1 ≤ rng ∧ rng ≤ 32) (B (refuted ⟨w, h, X⟩ ⟨a, b, c, d⟩ k ⟨m, z⟩ rng)) [] := ⟨fun hp => by
 unfold refuted
 refine CM.of Tryz.func315 rfl tabOk rfl rfl rfl rfl (by simp [SV.nms,SV.nm]) fun w_ M_ π_ G0_=>?_
 exact run⟩
instance inVk_9 {k rng : Int} {B' : Option Addr} {b' : Nat} {S : List Beam} : CFc 273 false [.a [I w, I h, .fz A cc 1 (fl ye X)], .a [I a, I b, I c, I d], I k, .fz B' b' 2 (fl Beam.e S), I rng] (X.length ≤ 1000000000 ∧ S.length ≤ 1000000000 ∧ (∀ b ∈ S, vBeam b = true) ∧ 1 ≤ rng ∧ rng ≤ 32) (B (badR ⟨w, h, X⟩ ⟨a, b, c, d⟩ k S rng)) [] := ⟨fun hp => by
 obtain ⟨p1,p2,p3,p4,p5⟩:=hp
 unfold badR
 refine CM.of Tryz.func273 rfl tabOk rfl rfl rfl rfl (by simp [SV.nms,SV.nm]) fun w_ M_ π_ G0_=>?_
 refine runA (a1 ?_)
 intro g0 g
 refine LoopX_keep [2,4,5,6,16,17,18] ?_
 conv=>whnf
 generalize hq : (fun z=>refuted ⟨w,h,X⟩ ⟨a,b,c,d⟩ k z rng)=q
 have hqd : ∀ z,refuted ⟨w,h,X⟩ ⟨a,b,c,d⟩ k z rng=q z:=fun z=>by rw [← hq]
 refine LoopX_c tabOk [] (fun i : Nat=>i≤S.length∧∀ j,j < i→q (gt S j)=false) (fun i=>[(18,I i)]) (fun _=>[]) (fun i=>S.length - i) 0 ⟨by simp,by simp⟩ ⟨rfl,trivial⟩ trivial ?_
 conv=>whnf
 rintro i ⟨h1,h2⟩
 by_cases hi : i < S.length
 ·have hb1:=vBeam_iff.1 (p3 _ (gt_mem hi))
  have hb2 : -1≤(gt S (i : Int).toNat).Reading∧(gt S (i : Int).toNat).Reading≤1024:=hb1.2
  have hqx:=hqd (gt S i)
  have ey : q (gt S i)=true→S.any q=true:=fun z=>any_yes hi z
  clear hqd p3
  refine runA (a1 ?_)
  ·intro _ z
   exact rnd (i + 1) ⟨by omega,all_next h2 (by rw [← hqx];exact z)⟩ (by omega)
 ·obtain rfl : i=S.length:=by omega
  rw [any_no h2]
  exact run⟩
attribute [irreducible] Contr.admR Contr.vBeam Contr.vScan Contr.sqH Contr.metB Contr.allMet Contr.hidden Contr.emptyR Contr.refuted Contr.badR
end
end Go.Proofs.YtkflmidichikjaaGreatDoor.V
end
section
namespace Go.Proofs.YtkflmidichikjaaGreatDoor.V
open Go.RowKit
set_option maxRecDepth 100000
set_option maxHeartbeats 8000000
open Heading BoxP Drive Seg PlanP
theorem tw_len {α : Type} [Inhabited α] {q : α → Bool} : ∀ {L : List α} {i : Nat}, (∀ j, j < i → q (gt L j) = true) → i ≤ L.length → (i = L.length ∨ q (gt L i) = false) → (L.takeWhile q).length = i
 | [],i,_,h,_=>by simp at h;simp [h]
 | x :: r,0,_,_,h=>by
   rcases h with h|h
   ·simp at h
   ·simp only [gt,List.getD_cons_zero] at h
    simp [List.takeWhile_cons,h]
 | x :: r,i + 1,h,h1,h2=>by
   have h0 : q x=true:=by simpa [gt] using h 0 (by omega)
   have ih:=tw_len (q:=q) (L:=r) (i:=i) (fun j hj=>by simpa [gt] using h (j + 1) (by omega)) (by simpa using h1) (by
    rcases h2 with h2|h2
    ·left;simpa using h2
    ·right;simpa [gt] using h2)
   simp [List.takeWhile_cons,h0,ih]
theorem gt_rev {α : Type} [Inhabited α] {L : List α} {j : Nat} (h : j < L.length) : gt L.reverse j = gt L (L.length - 1 - j) := by
 simp [gt,List.getElem?_reverse h]
theorem rtw_len {α : Type} [Inhabited α] {q : α → Bool} {L : List α} {m : Nat} (h : ∀ j, m ≤ j → j < L.length → q (gt L j) = true) (h1 : 1 ≤ m) (h2 : m ≤ L.length) (h3 : q (gt L (m - 1)) = false) : (L.reverse.takeWhile q).length = L.length - m :=
 tw_len (fun j hj=>by rw [gt_rev (by omega)];exact h _ (by omega) (by omega)) (by simp) (.inr (by rw [gt_rev (by omega),show L.length - 1 - (L.length - m)=m - 1 by omega];exact h3))
namespace Contr
def clipB (p : Plan) (b : Box) : Rect := ⟨max b.X0 0, max b.Y0 0, min b.X1 (64 * p.W), min b.Y1 (64 * p.H)⟩
def trI (q : Int → Bool) (L : List Int) : Nat := (L.takeWhile q).length
def trJ (q : Int → Bool) (L : List Int) : Nat := (L.reverse.takeWhile q).length
def trimB (p : Plan) (b : Box) (s : List Beam) (rng : Int) : Box × Bool :=
 if (clipB p b).X0 > (clipB p b).X1∨(clipB p b).Y0 > (clipB p b).Y1 then (⟨0,0,0,0,0,0⟩,false) else
 if trI (fun h=>badR p (clipB p b) h s rng) (list ⟨b.From,b.Count⟩)=(list ⟨b.From,b.Count⟩).length then (⟨0,0,0,0,0,0⟩,false) else
 (⟨(clipB p b).X0,(clipB p b).Y0,(clipB p b).X1,(clipB p b).Y1,gt (list ⟨b.From,b.Count⟩) (trI (fun h=>badR p (clipB p b) h s rng) (list ⟨b.From,b.Count⟩)),
  (list ⟨b.From,b.Count⟩).length - trI (fun h=>badR p (clipB p b) h s rng) (list ⟨b.From,b.Count⟩) - trJ (fun h=>badR p (clipB p b) h s rng) (list ⟨b.From,b.Count⟩)⟩,true)
def refineQ (p : Plan) (s : List Beam) (rng : Int) : Nat → List Box → Int → List Box → List Box
 | 0,_,_,out=>out
 | _ + 1,[],_,out=>out
 | n + 1,b :: r,sp,out =>
   if (trimB p b s rng).2=false then refineQ p s rng n r sp out else
   if sp > 0∧(split (trimB p b s rng).1).2.2=true then refineQ p s rng n (r ++ [(split (trimB p b s rng).1).1,(split (trimB p b s rng).1).2.1]) (sp - 1) out else
   refineQ p s rng n r sp (out ++ [(trimB p b s rng).1])
def refineR (p : Plan) (S : List Box) (s : List Beam) (rng sp : Int) : List Box × Int :=
 if (vPlan p && vScan s && between rng 1 32)=false∨S.length > 16 then ([],1) else
 if S.any (fun b=>!vBox b) then ([],1) else if between sp 0 64=false then ([],2) else
 (refineQ p s rng (S.length + 2 * sp.toNat + 1) S sp [],0)
end Contr
open Contr
section
variable {A : Option Addr} {cc : Nat} {X : List Int} {w h a b c d e f : Int}
instance inVk2_1 {rng : Int} {B' : Option Addr} {b' : Nat} {S : List Beam} : CFc 218 false [.a [I w, I h, .fz A cc 1 (fl ye X)], .a [I a, I b, I c, I d, I e, I f], .fz B' b' 2 (fl Beam.e S), I rng] (X.length ≤ 1000000000 ∧ S.length ≤ 1000000000 ∧ (∀ b ∈ S, vBeam b = true) ∧ 1 ≤ rng ∧ rng ≤ 32 ∧ 1 ≤ w ∧ w ≤ 64 ∧ 1 ≤ h ∧ h ≤ 64)
 (.t [(trimB ⟨w,h,X⟩ ⟨a,b,c,d,e,f⟩ S rng).1.s,B (trimB ⟨w,h,X⟩ ⟨a,b,c,d,e,f⟩ S rng).2]) []:=⟨fun hp=>by
 obtain ⟨p1,p2,p3,p4,p5,p6,p7,p8,p9⟩:=hp
 unfold trimB clipB
 refine CM.of Tryz.func218 rfl tabOk rfl rfl rfl rfl (by simp [SV.nms,SV.nm]) fun w_ M_ π_ G0_=>?_
 refine runA (a1 ?_)
 intro g1 g2
 simp only
 have hn:=list_len (a:=⟨e,f⟩)
 generalize list ⟨e,f⟩ = L at *
 generalize hq : (fun z=>badR ⟨w,h,X⟩ ⟨max a 0,max b 0,min c (64 * w),min d (64 * h)⟩ z S rng)=q
 have hqd : ∀ z,badR ⟨w,h,X⟩ ⟨max a 0,max b 0,min c (64 * w),min d (64 * h)⟩ z S rng=q z:=fun z=>by rw [← hq]
 refine LoopX_keep [2,3,4,8,10,11] ?_
 conv=>whnf
 refine LoopX_c tabOk [] (fun s : Nat × Nat × Nat=>s.1≤s.2.1∧s.2.1 + s.2.2=L.length∧∀ j,j < s.2.1→q (gt L j)=true) (fun s=>[(11,.sl 4 s.1 s.2.1 s.2.2 1)]) (fun _=>[]) (fun s=>s.2.2) (0,0,L.length) ⟨by simp,by simp,by simp⟩ ⟨rfl,trivial⟩ trivial ?_
 conv=>whnf
 rintro ⟨o,i,n⟩ ⟨h1,h2,h3⟩
 simp only at h1 h2 h3
 have hz : gt L ((0 : Int).toNat + i)=gt L i:=by simp
 by_cases hn0 : n=0
 ·have eI : trI q L=L.length:=tw_len (fun j hj=>h3 j (by omega)) (Nat.le_refl _) (.inl rfl)
  exact run
 ·refine runA (a2 ?_ ?_)
  ·intro _ z
   have z' : q (gt L i)=true:=by rw [← hqd,← hz];exact z
   exact rnd (i,i + 1,n - 1) ⟨by simp only;omega,by simp only;omega,upto_succ h3 z'⟩ (by simp only;omega)
  ·intro _ z _
   have z' : q (gt L i)=false:=by rw [← hqd,← hz];exact z
   have eI : trI q L=i:=tw_len h3 (by omega) (.inr z')
   have eN : ¬trI q L=L.length:=by omega
   refine LoopX_keep [2,3,4,8,10,11] ?_
   conv=>whnf
   refine LoopX_c tabOk [] (fun m : Nat=>(1≤m∧m≤n)∧∀ j,i + m≤j→j < L.length→q (gt L j)=true) (fun m=>[(11,.sl 4 o i m 1)]) (fun _=>[]) (fun m=>m) n ⟨by omega,fun j hj hj'=>by omega⟩ ⟨rfl,trivial⟩ trivial ?_
   conv=>whnf
   rintro m ⟨k1,k2⟩
   have Hq : Hold (∀ z,badR ⟨w,h,X⟩ ⟨max a 0,max b 0,min c (64 * w),min d (64 * h)⟩ z S rng=q z):=⟨hqd⟩
   have Hk : Hold (∀ j,i + m≤j→j < L.length→q (gt L j)=true):=⟨k2⟩
   clear hqd hz hq h3 k2
   refine runA (a2 ?_ ?_)
   ·intro y
    have hy : gt L (((m : Int) - 1).toNat + i)=gt L (i + m - 1):=by congr 1;omega
    have y' : q (gt L (i + m - 1))=true:=by rw [← Hq.out,← hy];exact y
    have hm : m ≠ 1:=fun hm=>by subst hm;rw [show i + 1 - 1=i by omega,z'] at y';cases y'
    exact rnd ((m : Int) - 1).toNat ⟨by omega,fun j hj hj'=>by
     by_cases hjm : i + m≤j
     ·exact Hk.out j hjm hj'
     ·rw [show j=i + m - 1 by omega];exact y'⟩ (by omega)
   ·intro y
    have hy : gt L (((m : Int) - 1).toNat + i)=gt L (i + m - 1):=by congr 1;omega
    have y' : q (gt L (i + m - 1))=false:=by rw [← Hq.out,← hy];exact y
    have eJ : trJ q L=L.length - (i + m):=rtw_len (m:=i + m) (fun j hj hj'=>Hk.out j hj hj') (by omega) (by omega) y'
    have em : ((L.length : Int) - (i : Int) - ((L.length - (i + m) : Nat) : Int))=m:=by omega
    rw [if_neg (by omega),if_neg eN,eI,eJ,em,show gt L i=gt L ((0 : Int).toNat + i) by simp]
    rfl⟩
instance inVk2_2 {rng : Int} {B' : Option Addr} {b' : Nat} {S : List Beam} : CFc 216 false [.a [I w, I h, .fz A cc 1 (fl ye X)], .fz B' b' 2 (fl Beam.e S), I rng] (X.length ≤ 1000000000 ∧ S.length ≤ 1000000000) (B (vPlan ⟨w, h, X⟩ && vScan S && between rng 1 32)) [] := ⟨fun hp => by
 refine CM.of Tryz.func216 rfl tabOk rfl rfl rfl rfl (by simp [SV.nms,SV.nm]) fun w_ M_ π_ G0_=>?_
 exact run⟩
theorem drop_gt {α : Type} [Inhabited α] {Q : List α} {i : Nat} (h : i < Q.length) : Q.drop i = gt Q i :: Q.drop (i + 1) := by
 rw [List.drop_eq_getElem_cons h]
 simp [gt,h]
instance inVk2_3 {rng sp : Int} {B' C' : Option Addr} {b' c' : Nat} {S : List Beam} {T : List Box} : CFc 160 false [.a [I w, I h, .fz A cc 1 (fl ye X)], .fz C' c' 6 (fl Box.e T), .fz B' b' 2 (fl Beam.e S), I rng, I sp] (X.length ≤ 1000000000 ∧ S.length ≤ 1000000000 ∧ T.length ≤ 1000000000)
 (.t [.sl 0 0 0 (refineR ⟨w,h,X⟩ T S rng sp).1.length 6,I (refineR ⟨w,h,X⟩ T S rng sp).2]) [.row false 85 6 (fl Box.e (refineR ⟨w,h,X⟩ T S rng sp).1)]:=⟨fun hp=>by
 unfold refineR
 refine CM.of Tryz.func160 rfl tabOk rfl rfl rfl rfl (by simp [SV.nms,SV.nm]) fun w_ M_ π_ G0_=>?_
 refine runA (a1 ?_)
 intro g1 g2
 have g3:=g1
 obtain ⟨⟨g4,g5⟩,g6⟩:=g3
 have g7:=bnd g4
 have g8:=vScan_iff.1 g5
 have g9:=between_iff.1 g6
 rw [if_neg (show ¬((vPlan ⟨w,h,X⟩ && vScan S && between rng 1 32)=false∨T.length > 16) by simp only [g4,g5,g6];simp;omega)]
 refine LoopX_keep [1,2,3,4,5,31,32,33] ?_
 conv=>whnf
 refine LoopX_c tabOk [] (fun i : Nat=>i≤T.length∧∀ j,j < i→(!vBox (gt T j))=false) (fun i=>[(33,I i)]) (fun _=>[]) (fun i=>T.length - i) 0 ⟨by simp,by simp⟩ ⟨rfl,trivial⟩ trivial ?_
 conv=>whnf
 rintro i ⟨h1,h2⟩
 by_cases hi : i < T.length
 ·have ey : vBox (gt T i)=false→T.any (fun b=>!vBox b)=true:=fun h=>any_yes hi (by simp [h])
  refine runA (a1 ?_)
  intros
  exact rnd (i + 1) ⟨by omega,all_next h2 (by simp [*])⟩ (by omega)
 ·obtain rfl : i=T.length:=by omega
  have ef : T.any (fun b=>!vBox b)=false:=any_no h2
  rw [ef,if_neg (by simp)]
  clear h2
  refine runA (a1 ?_)
  intro _ k1 k2
  rw [if_neg (show ¬between sp 0 64=false by rw [k1];simp)]
  refine LoopX_nil 14 85 6 rfl ?_
  conv=>whnf
  refine LoopX_keep [2,3,4,5,14,15] ?_
  conv=>whnf
  generalize hR : refineQ ⟨w,h,X⟩ S rng (T.length + 2 * sp.toNat + 1) T sp []=R
  refine LoopX_c tabOk [2,3] (fun s : Int × (Nat × List Box) × (Nat × Nat × Nat) × List Box=>(0≤s.1∧s.1≤64)∧s.2.1.1=s.2.1.2.length∧s.2.2.1.1≤s.2.2.1.2.1∧s.2.2.1.2.1 + s.2.2.1.2.2=s.2.2.2.length∧s.2.1.1 + s.2.2.1.2.2 + 2 * s.1.toNat≤144∧s.2.2.2.length≤200∧refineQ ⟨w,h,X⟩ S rng (s.2.2.1.2.2 + 2 * s.1.toNat + 1) (s.2.2.2.drop s.2.2.1.2.1) s.1 s.2.1.2=R)
   (fun s=>[(4,I s.1),(14,.sl 3 0 0 s.2.1.1 6),(15,.sl 2 s.2.2.1.1 s.2.2.1.2.1 s.2.2.1.2.2 6)]) (fun s=>[(2,.row false 85 6 (fl Box.e s.2.2.2)),(3,.row false 85 6 (fl Box.e s.2.1.2))]) (fun s=>s.2.2.1.2.2 + 2 * s.1.toNat) (sp,(0,[]),(0,0,T.length),T)
   ⟨by simp only;omega,rfl,Nat.le_refl _,by simp,by simp only;omega,by simp only;omega,hR⟩ ⟨rfl,rfl,by show SV.sl _ _ _ _ _=SV.sl _ _ _ _ _;simp,trivial⟩ ⟨rfl,rfl,trivial⟩ ?_
  conv=>whnf
  rintro ⟨sp',⟨no,O⟩,⟨o,i,n⟩,Q⟩ ⟨j1,j2,j3,j4,j5,j6,j7⟩
  simp only at j1 j2 j3 j4 j5 j6 j7
  subst j2
  have p8:=g8.1
  clear hR k1 k2 hi h1 ef g1 g4 g5 g6
  by_cases hn : n=0
  ·subst hn
   rw [List.drop_of_length_le (by omega),show 0 + 2 * sp'.toNat + 1=2 * sp'.toNat + 1 by omega,refineQ] at j7
   subst j7
   exact run
  ·have hi : i < Q.length:=by omega
   rw [drop_gt hi,show n + 2 * sp'.toNat + 1=(n + 2 * sp'.toNat) + 1 by omega,refineQ] at j7
   have hz : Hold (gt Q i=gt Q ((0 : Int).toNat + i)):=⟨by simp⟩
   have Hj : Hold (_=R):=⟨j7⟩
   clear j7
   refine runA (a4 ?_ ?_ ?_ ?_)
   ·intro _ z
    have z' : (trimB ⟨w,h,X⟩ (gt Q i) S rng).2=false:=by rw [hz.out];exact z
    exact rnd (sp',(O.length,O),(i,i + 1,n - 1),Q) ⟨j1,rfl,by simp only;omega,by simp only;omega,by simp only;omega,j6,by
     have:=Hj.out
     rw [if_pos z'] at this
     simp only
     rw [show n - 1 + 2 * sp'.toNat + 1=n + 2 * sp'.toNat by omega]
     exact this⟩ (by simp only;omega)
   ·intro _ z z1 z2
    have z' : ¬(trimB ⟨w,h,X⟩ (gt Q i) S rng).2=false:=by rw [hz.out];simp only [show (trimB ⟨w,h,X⟩ (gt Q ((0 : Int).toNat + i)) S rng).2=true from z];simp
    have z3 : (split (trimB ⟨w,h,X⟩ (gt Q i) S rng).1).2.2=true:=by rw [hz.out];exact z2
    have hl : ((Q.drop (i + 1)).take (n - 1)).length=n - 1:=by simp;omega
    exact rnd (sp' - 1,(O.length,O),(0,0,n - 1 + 2),(Q.drop (i + 1)).take (n - 1) ++ [(split (trimB ⟨w,h,X⟩ (gt Q ((0 : Int).toNat + i)) S rng).1).1,(split (trimB ⟨w,h,X⟩ (gt Q ((0 : Int).toNat + i)) S rng).1).2.1]) ⟨by simp only;omega,rfl,Nat.le_refl _,by simp only [List.length_append,hl,List.length_cons,List.length_nil];omega,by simp only;omega,by simp only [List.length_append,hl,List.length_cons,List.length_nil];omega,by
     have:=Hj.out
     rw [if_neg z',if_pos ⟨z1,z3⟩,hz.out] at this
     simp only [List.drop_zero]
     rw [show n - 1 + 2 + 2 * (sp' - 1).toNat + 1=n + 2 * sp'.toNat by omega,List.take_of_length_le (by simp;omega)]
     exact this⟩ (by simp only;omega)
   ·intro _ z z1 z2
    have z' : ¬(trimB ⟨w,h,X⟩ (gt Q i) S rng).2=false:=by rw [hz.out];simp only [show (trimB ⟨w,h,X⟩ (gt Q ((0 : Int).toNat + i)) S rng).2=true from z];simp
    have z3 : ¬(sp' > 0∧(split (trimB ⟨w,h,X⟩ (gt Q i) S rng).1).2.2=true):=by rw [hz.out];rintro ⟨_,e⟩;rw [show (split (trimB ⟨w,h,X⟩ (gt Q ((0 : Int).toNat + i)) S rng).1).2.2=false from z2] at e;cases e
    exact rnd (sp',(O.length + 1,O ++ [(trimB ⟨w,h,X⟩ (gt Q ((0 : Int).toNat + i)) S rng).1]),(i,i + 1,n - 1),Q) ⟨j1,by simp,by simp only;omega,by simp only;omega,by simp only;omega,j6,by
     have:=Hj.out
     rw [if_neg z',if_neg z3,hz.out] at this
     simp only
     rw [show n - 1 + 2 * sp'.toNat + 1=n + 2 * sp'.toNat by omega]
     exact this⟩ (by simp only;omega)
   ·intro _ z z1
    have z' : ¬(trimB ⟨w,h,X⟩ (gt Q i) S rng).2=false:=by rw [hz.out];simp only [show (trimB ⟨w,h,X⟩ (gt Q ((0 : Int).toNat + i)) S rng).2=true from z];simp
    have z3 : ¬(sp' > 0∧(split (trimB ⟨w,h,X⟩ (gt Q i) S rng).1).2.2=true):=by omega
    exact rnd (sp',(O.length + 1,O ++ [(trimB ⟨w,h,X⟩ (gt Q ((0 : Int).toNat + i)) S rng).1]),(i,i + 1,n - 1),Q) ⟨j1,by simp,by simp only;omega,by simp only;omega,by simp only;omega,j6,by
     have:=Hj.out
     rw [if_neg z',if_neg z3,hz.out] at this
     simp only
     rw [show n - 1 + 2 * sp'.toNat + 1=n + 2 * sp'.toNat by omega]
     exact this⟩ (by simp only;omega)⟩
attribute [irreducible] Contr.clipB Contr.trI Contr.trJ Contr.trimB Contr.refineR
end
end Go.Proofs.YtkflmidichikjaaGreatDoor.V
end
