import Derived.Test.YtkflmidichikjaaGreatDoorZSystemReplays26
import Derived.Test.YtkflmidichikjaaGreatDoorZSystemReplays19
import Derived.Test.YtkflmidichikjaaGreatDoorZSystemReplays14
import Derived.Test.YtkflmidichikjaaGreatDoorZSystemReplays20
import Derived.Test.YtkflmidichikjaaGreatDoorZSystemReplays18
import Derived.Test.YtkflmidichikjaaGreatDoorZSystemReplays25
set_option linter.all false
section
namespace Go.Proofs.YtkflmidichikjaaGreatDoor.V
open Go.RowKit Heading BoxP Drive Seg PlanP Contr RayP Known
set_option maxRecDepth 100000
set_option maxHeartbeats 16000000
instance inVkn2_1 {a b c d : Int} : CDc 283 [.a [I a, I b], .a [I c, I d]] True (.int .i64 (cellI ⟨a, b⟩ ⟨c, d⟩)) := ⟨fun _ => by
 refine CD.of Tryz.func283 rfl tabOk rfl rfl rfl fun w_ G0_=>?_
 refine roA (a1 ?_)
 exact Fin_d⟩
namespace Known
def allK (p : Plan) (S : List Box) (s : List Beam) (rng : Int) : List Cell := if taughtK S then dedup (sortC (s.flatMap fun b => provenK p S b rng)) else []
def susB (b : Beam) (rng : Int) (x : KPair) : List Cell := (sweptL (rectangle x.b) x.v (max 0 (b.Reading - rng)) (b.Reading + rng)).1
def suspectsK (S : List Box) (b : Beam) (rng : Int) : List Cell := if b.Reading = -1 ∨ taughtK S = false then [] else dedup (sortC ((directedL S b).flatMap (susB b rng)))
theorem proven_len {p : Plan} {S : List Box} {b : Beam} {rng : Int} : (provenK p S b rng).length ≤ 8281 := by
 unfold provenK
 split
 ·simp
 ·exact Nat.le_trans (List.length_filter_le _ _) traced_len
end Known
section
variable {A B' D' : Option Addr} {cc b' d' : Nat} {X : List Int} {S : List Box} {s : List Beam} {w h m k rng : Int}
instance inVkn2_2 : CFc 225 false [.a [I w, I h, .fz A cc 1 (fl ye X)], .fz B' b' 6 (fl Box.e S), .fz D' d' 2 (fl Beam.e s), I rng] (0 < S.length ∧ S.length ≤ 16 ∧ (∀ b ∈ S, vBox b = true) ∧ (∀ b ∈ s, vBeam b = true) ∧ s.length ≤ 32 ∧ 1 ≤ rng ∧ rng ≤ 32 ∧ 1 ≤ w ∧ w ≤ 64 ∧ 1 ≤ h ∧ h ≤ 64) (.sl 0 0 0 (allK ⟨w, h, X⟩ S s rng).length 2) [.row false 128 2 (fl Cell.e (allK ⟨w, h, X⟩ S s rng))] := ⟨fun hp => by
 obtain ⟨p1,p2,p3,p4,p5,p6,p7,p8,p9,p10,p11⟩:=hp
 unfold allK
 refine CM.of Tryz.func225 rfl tabOk rfl rfl rfl rfl (by simp [SV.nms,SV.nm]) fun w_ M_ π_ G0_=>?_
 have hl : ∀ b,(provenK ⟨w,h,X⟩ S b rng).length≤8281:=fun b=>proven_len
 refine ruA (a1 ?_)
 intro g1
 rw [if_pos g1]
 refine LoopX_nil 9 128 2 rfl ?_
 conv=>whnf
 refine LoopX_keep [1,3,4,9,15,16,17] ?_
 conv=>whnf
 refine LoopX_p [1] (fun ((i,n,N) : Nat × Nat × List Cell)=>i≤s.length∧n=N.length∧N=(s.take i).flatMap fun b=>provenK ⟨w,h,X⟩ S b rng) (fun (i,n,_)=>[(9,.sl 1 0 0 n 2),(17,I i)]) (fun (_,_,N)=>[(1,.row false 128 2 (fl Cell.e N))]) (fun (i,_,_)=>s.length - i) (0,0,[]) ?_
 conv=>whnf
 rintro ⟨i,n,N⟩ ⟨k1,rfl,k3⟩
 have hNL : N.length≤i * 8281:=by
  rw [k3]
  have:=flat_len' (f:=fun b=>provenK ⟨w,h,X⟩ S b rng) (n:=8281) hl (s.take i)
  rw [List.length_take] at this
  have:=Nat.mul_le_mul_right 8281 (Nat.min_le_left i s.length)
  omega
 by_cases hi : i < s.length
 ·have e:=flat_next (f:=fun b=>provenK ⟨w,h,X⟩ S b rng) hi
  rw [← k3] at e
  have q1:=hl (gt s i)
  have q2 : -1≤(gt s (i : Int).toNat).Reading∧(gt s (i : Int).toNat).Reading≤1024:=(vBeam_iff.1 (p4 _ (gt_mem hi))).2
  have q3 : (provenK ⟨w,h,X⟩ S ⟨(gt s (i : Int).toNat).Mark,(gt s (i : Int).toNat).Reading⟩ rng).length≤8281:=q1
  clear hl p4
  refine ruA (a1 ?_)
  intro _
  exact rn (i + 1,N.length + (provenK ⟨w,h,X⟩ S (gt s i) rng).length,N ++ provenK ⟨w,h,X⟩ S (gt s i) rng) ⟨by omega,by simp,by rw [e]⟩
 ·obtain rfl : i=s.length:=by omega
  rw [List.take_length] at k3
  have q1 : N.length≤1000000000:=by omega
  clear hl p4
  refine ruA (a1 ?_)
  intro _
  refine CallX_sortC (Entr.of Tryz.func283 rfl rfl) rfl rfl (by omega) ?_
  have sl : N.length=(sortC N).length:=(isort_perm N).length_eq.symm
  rw [← k3]
  exact ru⟩
instance inVkn2_3 : CFc 226 false [.fz B' b' 6 (fl Box.e S), .a [I m, I k], I rng] (S.length ≤ 16 ∧ (∀ b ∈ S, vBox b = true) ∧ -1 ≤ k ∧ k ≤ 1024 ∧ 1 ≤ rng ∧ rng ≤ 32) (.sl 0 0 0 (suspectsK S ⟨m, k⟩ rng).length 2) [.row false 128 2 (fl Cell.e (suspectsK S ⟨m, k⟩ rng))] := ⟨fun hp => by
 obtain ⟨p2,p3,p4,p5,p6,p7⟩:=hp
 unfold suspectsK
 have hdl:=directed_len (q:=⟨m,k⟩) p2
 refine CM.of Tryz.func226 rfl tabOk rfl rfl rfl rfl (by simp [SV.nms,SV.nm]) fun w_ M_ π_ G0_=>?_
 have hl : ∀ x,(susB ⟨m,k⟩ rng x).length≤8281:=fun x=>swept_len
 refine ruA (a1 ?_)
 intro g1 g2
 rw [if_neg (by rw [g2];simp;exact g1)]
 clear p3
 generalize hL : directedL S ⟨m,k⟩ = L at *
 refine LoopX_nil 7 128 2 rfl ?_
 conv=>whnf
 refine LoopX_keep [2,4,7,22,23,24] ?_
 conv=>whnf
 refine LoopX_p [2] (fun ((i,n,N) : Nat × Nat × List Cell)=>i≤L.length∧n=N.length∧N=(L.take i).flatMap (susB ⟨m,k⟩ rng)) (fun (i,n,_)=>[(7,.sl 2 0 0 n 2),(24,I i)]) (fun (_,_,N)=>[(2,.row false 128 2 (fl Cell.e N))]) (fun (i,_,_)=>L.length - i) (0,0,[]) ?_
 conv=>whnf
 rintro ⟨i,n,N⟩ ⟨k1,rfl,k3⟩
 have hNL : N.length≤i * 8281:=by
  rw [k3]
  have:=flat_len' (f:=susB ⟨m,k⟩ rng) (n:=8281) hl (L.take i)
  rw [List.length_take] at this
  have:=Nat.mul_le_mul_right 8281 (Nat.min_le_left i L.length)
  omega
 clear hl
 by_cases hi : i < L.length
 ·have e:=flat_next (f:=susB ⟨m,k⟩ rng) hi
  rw [← k3] at e
  have q3 : (sweptL ⟨(rectangle ⟨(gt L ((i : Int).toNat + 0)).b.X0,(gt L ((i : Int).toNat + 0)).b.Y0,(gt L ((i : Int).toNat + 0)).b.X1,(gt L ((i : Int).toNat + 0)).b.Y1,(gt L ((i : Int).toNat + 0)).b.From,(gt L ((i : Int).toNat + 0)).b.Count⟩).X0,(rectangle ⟨(gt L ((i : Int).toNat + 0)).b.X0,(gt L ((i : Int).toNat + 0)).b.Y0,(gt L ((i : Int).toNat + 0)).b.X1,(gt L ((i : Int).toNat + 0)).b.Y1,(gt L ((i : Int).toNat + 0)).b.From,(gt L ((i : Int).toNat + 0)).b.Count⟩).Y0,(rectangle ⟨(gt L ((i : Int).toNat + 0)).b.X0,(gt L ((i : Int).toNat + 0)).b.Y0,(gt L ((i : Int).toNat + 0)).b.X1,(gt L ((i : Int).toNat + 0)).b.Y1,(gt L ((i : Int).toNat + 0)).b.From,(gt L ((i : Int).toNat + 0)).b.Count⟩).X1,(rectangle ⟨(gt L ((i : Int).toNat + 0)).b.X0,(gt L ((i : Int).toNat + 0)).b.Y0,(gt L ((i : Int).toNat + 0)).b.X1,(gt L ((i : Int).toNat + 0)).b.Y1,(gt L ((i : Int).toNat + 0)).b.From,(gt L ((i : Int).toNat + 0)).b.Count⟩).Y1⟩ ⟨(gt L ((i : Int).toNat + 0)).v.X,(gt L ((i : Int).toNat + 0)).v.Y,(gt L ((i : Int).toNat + 0)).v.D⟩ (max 0 (k - rng)) (k + rng)).1.length≤8281:=swept_len
  refine ruA (a1 ?_)
  intro _
  exact rn (i + 1,N.length + (susB ⟨m,k⟩ rng (gt L i)).length,N ++ susB ⟨m,k⟩ rng (gt L i)) ⟨by omega,by simp,by rw [e]⟩
 ·obtain rfl : i=L.length:=by omega
  rw [List.take_length] at k3
  have q1 : N.length≤1000000000:=by omega
  refine ruA (a1 ?_)
  intro _
  refine CallX_sortC (Entr.of Tryz.func283 rfl rfl) rfl rfl (by omega) ?_
  have sl : N.length=(sortC N).length:=(isort_perm N).length_eq.symm
  rw [← k3]
  exact ru⟩
end
namespace Known
def idxC (p : Plan) (c : Cell) : Nat := (c.Y * p.W + c.X).toNat
def freeL (p : Plan) : List Cell → List Int → Option (List Int)
 | [],q=>some q
 | c :: r,q=>if gt q (idxC p c)=2 then none else freeL p r (q.set (idxC p c) 1)
def wallL (p : Plan) (S : List Box) (rng : Int) : List Beam → List Int → Option (List Int)
 | [],q=>some q
 | b :: r,q=>if b.Reading = -1 then wallL p S rng r q else
   match (suspectsK S b rng).filter fun c=>!(at_ ⟨p.W,p.H,q⟩ c == 1) with
   | []=>none
   | c :: l=>wallL p S rng r (if l=[]∧between c.X 0 (p.W - 1)=true∧between c.Y 0 (p.H - 1)=true then q.set (idxC p c) 2 else q)
theorem right_iff {p : Plan} {S : List Box} {s : List Beam} {rng : Int} : rightK p S s rng = true ↔ vPlan p = true ∧ 0 < S.length ∧ vSet S = true ∧ s.length ≤ 32 ∧ (∀ b ∈ s, vBeam b = true) ∧ between rng 1 32 = true := by
 unfold rightK
 simp [and_assoc]
theorem dedup_mem {α : Type} [DecidableEq α] {x : α} : ∀ {L : List α}, x ∈ dedup L → x ∈ L
 | [],h=>h
 | [_],h=>h
 | a :: b :: r,h=>by
   unfold dedup at h
   split at h
   ·exact List.mem_cons_of_mem _ (dedup_mem h)
   ·rcases List.mem_cons.1 h with rfl|h
    ·exact List.mem_cons_self
    ·exact List.mem_cons_of_mem _ (dedup_mem h)
theorem all_in {p : Plan} {S : List Box} {s : List Beam} {rng : Int} {c : Cell} (h : c ∈ allK p S s rng) : (0 ≤ c.X ∧ c.X < p.W) ∧ 0 ≤ c.Y ∧ c.Y < p.H := by
 unfold allK at h
 split at h
 ·obtain ⟨b,_,hc⟩:=List.mem_flatMap.1 ((isort_perm _).mem_iff.1 (dedup_mem h))
  unfold provenK at hc
  split at hc
  ·cases hc
  ·have h1:=(List.mem_filter.1 hc).2
   unfold freeB at h1
   simp only [Bool.and_eq_true,between_iff] at h1
   omega
 ·cases h
theorem dedup_len {α : Type} [DecidableEq α] : ∀ L : List α, (dedup L).length ≤ L.length
 | []=>Nat.le_refl _
 | [_]=>Nat.le_refl _
 | a :: b :: r=>by
   have h:=dedup_len (b :: r)
   unfold dedup
   split
   ·simp only [List.length_cons] at h ⊢;omega
   ·simp only [List.length_cons] at h ⊢;omega
theorem all_len {p : Plan} {S : List Box} {s : List Beam} {rng : Int} (h : s.length ≤ 32) : (allK p S s rng).length ≤ 264992 := by
 unfold allK
 split
 ·have h1:=dedup_len (sortC (s.flatMap fun b=>provenK p S b rng))
  have h2:=(isort_perm (le:=leC) (s.flatMap fun b=>provenK p S b rng)).length_eq
  have h3:=flat_len' (f:=fun b=>provenK p S b rng) (n:=8281) (fun _=>proven_len) s
  unfold sortC at h1 ⊢
  omega
 ·simp
def learnK (p : Plan) (S : List Box) (s : List Beam) (rng : Int) : Plan × Int :=
 if rightK p S s rng then
  if taughtK S then
   match freeL p (allK p S s rng) p.cells with
   | none=>(⟨0,0,[]⟩,11)
   | some q=>match wallL p S rng s q with
     | none=>(⟨0,0,[]⟩,11)
     | some q=>(⟨p.W,p.H,q⟩,0)
  else (p,0)
 else (⟨0,0,[]⟩,1)
end Known
section
variable {A B' D' : Option Addr} {cc b' d' : Nat} {X : List Int} {S : List Box} {s : List Beam} {w h m k rng : Int}
theorem sus_len {b : Beam} (h : S.length ≤ 16) : (suspectsK S b rng).length ≤ 1000000000 := by
 unfold suspectsK
 split
 ·simp
 ·have h1:=dedup_len (sortC ((directedL S b).flatMap (susB b rng)))
  have h2:=(isort_perm (le:=leC) ((directedL S b).flatMap (susB b rng))).length_eq
  have h3:=flat_len' (f:=susB b rng) (n:=8281) (fun _=>swept_len) (directedL S b)
  have h4:=directed_len (q:=b) h
  have h5:=Nat.mul_le_mul_right 8281 h4
  unfold sortC at h1 ⊢
  omega
instance inVkn2_4 {x y : Int} {ad : Addr} : CFc 227 false [.a [I x, I y], .fa ad [.v (.int .i64 w), .v (.int .i64 h), .fz 1 (fl ye X)]] (X.length ≤ 1000000000) (B (at_ ⟨w, h, X⟩ ⟨x, y⟩ == 1)) [] := ⟨fun hp => by
 refine CM.of Tryz.func227 rfl tabOk rfl rfl rfl rfl (by simp [SV.nms,SV.nm]) fun w_ M_ π_ G0_=>?_
 exact ru⟩
instance inVkn2_5 : CFc 162 false [.a [I w, I h, .fz A cc 1 (fl ye X)], .fz B' b' 6 (fl Box.e S), .fz D' d' 2 (fl Beam.e s), I rng] (X.length ≤ 1000000000 ∧ S.length ≤ 1000000000 ∧ s.length ≤ 1000000000) (.t [.a [I (learnK ⟨w, h, X⟩ S s rng).1.W, I (learnK ⟨w, h, X⟩ S s rng).1.H, .sl 0 0 0 (learnK ⟨w, h, X⟩ S s rng).1.cells.length 1], I (learnK ⟨w, h, X⟩ S s rng).2]) [.row false 5 1 (fl ye (learnK ⟨w, h, X⟩ S s rng).1.cells)] := ⟨fun hp => by
 obtain ⟨p1,p2,p3⟩:=hp
 unfold learnK
 refine CM.of Tryz.func162 rfl tabOk rfl rfl rfl rfl (by simp [SV.nms,SV.nm]) fun w_ M_ π_ G0_=>?_
 refine ruA (a1 ?_)
 intro g1
 obtain ⟨r1,r2,r3,r4,r5,r6⟩:=right_iff.1 g1
 have r7:=bnd r1
 obtain ⟨r8,r9⟩:=vSet_iff.1 r3
 obtain ⟨r10,r11⟩:=between_iff.1 r6
 rw [if_pos g1]
 refine ruA (a1 ?_)
 intro g2
 rw [if_pos g2]
 have hin : ∀ c∈allK ⟨w,h,X⟩ S s rng,(0≤c.X∧c.X < w)∧0≤c.Y∧c.Y < h:=fun c hc=>all_in hc
 have hLl:=all_len (p:=⟨w,h,X⟩) (S:=S) (rng:=rng) r4
 generalize allK ⟨w,h,X⟩ S s rng=L at *
 generalize hR : freeL ⟨w,h,X⟩ L X=R
 refine LoopX_keep [1,2,3,4,8,9,10,41,42,43] ?_
 conv=>whnf
 refine LoopX_p [] (fun ((i,q) : Nat × List Int)=>i≤L.length∧q.length=X.length∧freeL ⟨w,h,X⟩ (L.drop i) q=R) (fun (i,_)=>[(43,I i)]) (fun (_,q)=>[(2,.row false 5 1 (fl ye q))]) (fun (i,_)=>L.length - i) (0,X) ?_ ⟨by omega,rfl,hR⟩
 conv=>whnf
 rintro ⟨i,q⟩ ⟨j1,j2,j3⟩
 by_cases hi : i < L.length
 ·rw [drop_gtP hi,freeL] at j3
  have hc:=hin _ (gt_mem hi)
  have hx:=cell_idx (n:=X.length) r7.2.2.2.2.2.1 hc.1.1 hc.1.2 hc.2.1 hc.2.2
  have q0 : (gt L ((i : Int).toNat + 0))=gt L i:=rfl
  have q1 : 0≤(gt L ((i : Int).toNat + 0)).Y * w∧(gt L ((i : Int).toNat + 0)).Y * w + (gt L ((i : Int).toNat + 0)).X < X.length:=hx
  have q2 : 0≤(gt L ((i : Int).toNat + 0)).X:=hc.1.1
  have Hj : Hold (_=R):=⟨j3⟩
  clear j3 hR hin
  refine ruA (a3 ?_ ?_ ?_)
  ·intro _ a1
   obtain rfl : R=none:=by rw [← Hj.out,if_pos (show gt q (idxC ⟨w,h,X⟩ (gt L i))=2 from a1)]
   rfl
  ·intro _ a1
   obtain rfl : R=none:=by rw [← Hj.out,if_pos (show gt q (idxC ⟨w,h,X⟩ (gt L i))=2 from a1)]
   rfl
  ·intro _ a1
   have e:=Hj.out
   rw [if_neg (show ¬gt q (idxC ⟨w,h,X⟩ (gt L i))=2 from a1)] at e
   exact rn (i + 1,q.set (idxC ⟨w,h,X⟩ (gt L i)) 1) ⟨by omega,by simpa using j2,e⟩
 ·obtain rfl : i=L.length:=by omega
  rw [List.drop_length,freeL] at j3
  subst j3
  clear hin
  refine ruA (a1 ?_)
  intro _
  simp only
  generalize hR : wallL ⟨w,h,X⟩ S rng s q=R
  refine LoopX_keep [1,2,3,4,8,9,10,66,67,68] ?_
  conv=>whnf
  refine LoopX_p [] (fun ((i,z) : Nat × List Int)=>i≤s.length∧z.length=X.length∧wallL ⟨w,h,X⟩ S rng (s.drop i) z=R) (fun (i,_)=>[(68,I i)]) (fun (_,z)=>[(2,.row false 5 1 (fl ye z))]) (fun (i,_)=>s.length - i) (0,q) ?_ ⟨by omega,j2,hR⟩
  conv=>whnf
  rintro ⟨i,z⟩ ⟨k1,k2,k3⟩
  by_cases hi : i < s.length
  ·rw [drop_gtP hi,wallL] at k3
   have hb1:=vBeam_iff.1 (r5 _ (gt_mem hi))
   have q1 : -1≤(gt s (i : Int).toNat).Reading∧(gt s (i : Int).toNat).Reading≤1024:=hb1.2
   have Hk : Hold (_=R):=⟨k3⟩
   clear k3 hR hb1
   conv=>whnf
   refine xif_s ?_ ?_<;>intro a0
   ·conv=>whnf
    (repeat (with_reducible show ValX _ _ _ _ _);(first |(with_reducible show xwr64 _ _);refine xwr_a ?_ |(with_reducible show CallX _ _ _ _ _);(first|refine CallX_i ?_ zSi|(refine AQ_has ?_;(first|(refine AQ_chk 1 ?_;apply CallX_mp (_);(conv=>whnf);refine ⟨⟨rfl,rfl⟩,zSi,by kernel_rfl,?_⟩)|(refine AQ_chk 2 ?_;apply CallX_mp (_,_);(conv=>whnf);refine ⟨⟨rfl,rfl⟩,zSi,by kernel_rfl,?_⟩)|(refine AQ_chk 3 ?_;apply CallX_mp (_,_,_);(conv=>whnf);refine ⟨⟨rfl,rfl⟩,zSi,by kernel_rfl,?_⟩)|(refine AQ_chk 4 ?_;apply CallX_mp (_,_,_,_);(conv=>whnf);refine ⟨⟨rfl,rfl⟩,zSi,by kernel_rfl,?_⟩)|(refine AQ_chk 5 ?_;apply CallX_mp (_,_,_,_,_);(conv=>whnf);refine ⟨⟨rfl,rfl⟩,zSi,by kernel_rfl,?_⟩)|(refine AQ_chk 6 ?_;apply CallX_mp (_,_,_,_,_,_);(conv=>whnf);refine ⟨⟨rfl,rfl⟩,zSi,by kernel_rfl,?_⟩)|(refine AQ_chk 7 ?_;apply CallX_mp (_,_,_,_,_,_,_);(conv=>whnf);refine ⟨⟨rfl,rfl⟩,zSi,by kernel_rfl,?_⟩)|(refine AQ_chk 8 ?_;apply CallX_mp (_,_,_,_,_,_,_,_);(conv=>whnf);refine ⟨⟨rfl,rfl⟩,zSi,by kernel_rfl,?_⟩)|(refine AQ_chk 9 ?_;apply CallX_mp (_,_,_,_,_,_,_,_,_);(conv=>whnf);refine ⟨⟨rfl,rfl⟩,zSi,by kernel_rfl,?_⟩)|(refine AQ_chk 10 ?_;apply CallX_mp (_,_,_,_,_,_,_,_,_,_);(conv=>whnf);refine ⟨⟨rfl,rfl⟩,zSi,by kernel_rfl,?_⟩)|(refine AQ_chk 11 ?_;apply CallX_mp (_,_,_,_,_,_,_,_,_,_,_);(conv=>whnf);refine ⟨⟨rfl,rfl⟩,zSi,by kernel_rfl,?_⟩)|(refine AQ_chk 12 ?_;apply CallX_mp (_,_,_,_,_,_,_,_,_,_,_,_);(conv=>whnf);refine ⟨⟨rfl,rfl⟩,zSi,by kernel_rfl,?_⟩)))|(refine CallX_v fun φ=>?_;(conv=>whnf);(repeat ((with_reducible show ViewE _ _ _ _);(first|refine view_w zLn ?_|refine view_pf zSd ?_|refine view_p zSd ?_);(conv=>whnf)));(with_reducible show CallB _ _ _ _ _);refine CallB_i ?_ zSi)) |(with_reducible show CallB _ _ _ _ _);(with_reducible show CallB _ _ _ _ _);refine CallB_i ?_ zSi |(with_reducible show ValX _ _ _ _ _);(first|refine ValX_idxF tabOk rfl rfl zSd zSd ?_|refine ValX_idxS tabOk rfl rfl rfl zLn zSd zSd zSd ?_|refine ValX_loadF tabOk rfl rfl rfl rfl rfl zSd ?_|refine ValX_loadQ tabOk rfl rfl rfl rfl rfl rfl ?_|refine ValX_sl1 tabOk rfl rfl rfl zLn zSd zSd ?_|refine ValX_slLo tabOk rfl rfl rfl zLn zSd zSd zSd ?_|refine ValX_slHi tabOk rfl rfl rfl zLn zSd zSd zSd ?_|refine ValX_max3 rfl ?_|refine ValX_cpl rfl ?_|refine ValX_fzNil tabOk rfl rfl rfl (fun hb=>?_) ?_|refine ValX_bldA rfl rfl ?_ (fun w=>by kernel_rfl)|refine ValX_bldB rfl rfl ?_ (fun w=>by kernel_rfl)|refine ValX_ixA1 rfl rfl rfl rfl ?_ (fun w=>by kernel_rfl)|refine ValX_ixA2 rfl rfl rfl rfl ?_ (fun w=>by kernel_rfl)) |(with_reducible show OpX _ _ _ _ _);(first|refine OpX_storeF tabOk rfl rfl rfl (by rfl) (by rfl) zSd ?_|refine OpX_appF tabOk rfl rfl zLn rfl rfl zSe rfl zSd zSd ?_|refine OpX_appP tabOk rfl rfl rfl rfl zSe rfl zSd zSd zSd zSd ?_|refine OpX_build_a tabOk rfl rfl rfl ?_ (by rfl)|refine OpX_make_a tabOk rfl rfl rfl ?_ (by rfl) (by rfl) zSd zSd zSd|refine OpX_build0_a tabOk rfl rfl rfl ?_|refine OpX_nil_a rfl rfl ?_) |(with_reducible show DrawX _ _ _ _ _);refine DrawX_s tabOk folOk ?_ |(with_reducible show DrawS _ _ _ _ _ _ _);refine DrawS_i (by kernel_rfl) ?_ |(with_reducible show ViewE _ _ _ _);(first|refine view_w zLn ?_|refine view_pf zSd ?_|refine view_p zSd ?_) |(with_reducible show xquo64 _ _ _);(first|refine xquo_a ?_|refine xquo_b ?_) |(with_reducible show xrem64 _ _ _);(first|refine xrem_a ?_|refine xrem_b ?_) |(with_reducible show xshr _ _ _ _);(first|refine xshr_1 ?_|refine xshr_32 ?_|refine xshr_6 ?_|refine xshr_7 ?_|refine xshr_8 ?_|refine xshr_63 ?_) |(with_reducible show xshl _ _ _ _);(first|refine xshl_1u ?_|refine xshl_0u ?_|refine xshl_7u ?_) |(with_reducible show andX _ _);refine andX_i ?_ ?_ |(with_reducible show need _ _);refine need_i zSd ?_ |(with_reducible show xwru _ _ _);(first|refine xwru_64 (by omega) (by omega) ?_|refine xwru_32 (by omega) (by omega) ?_|refine xwru_32m ?_) |(with_reducible show xquou _ _ _ _);refine xquou_nn (by omega) (by omega) (by omega) ?_ |(with_reducible show xremu _ _ _);refine xremu_nn (by omega) (by omega) ?_ |(with_reducible show xcv _ _ _);(first|refine xcv_i64 (by omega) (by omega) ?_|refine xcv_u8 (by omega) (by omega) ?_|refine xcv_u32 (by omega) (by omega) ?_|refine xcv_u64 (by omega) (by omega) ?_|refine xcv_u8m ?_|refine xcv_u32m ?_|refine xcv_u64m ?_));conv=>whnf)
    refine xif_s ?_ ?_<;>intro a1
    ·have e:=Hk.out
     have a1' : (gt s i).Reading = -1:=by simpa using a1
     rw [if_pos a1'] at e
     have Hk2 : Hold (_=R):=⟨e⟩
     clear e a1
     refine ruA (a1 ?_)
     exact rn (i + 1,z) ⟨by omega,k2,Hk2.out⟩
    ·conv=>whnf
     refine CallX_i ?_ ⟨r8,r9,q1.1,q1.2,r10,r11⟩
     conv=>whnf
     have hsl : (suspectsK S (gt s i) rng).length≤1000000000:=sus_len r8
     have e:=Hk.out
     have a1' : ¬(gt s i).Reading = -1:=by simpa using a1
     rw [if_neg a1'] at e
     generalize hF : (suspectsK S (gt s i) rng).filter (fun c=>!(at_ ⟨w,h,z⟩ c == 1))=F at e
     refine CallX_q [6] rfl fun φ=>?_
     conv=>whnf
     refine view_w (by rw [fl_len,k2]) ?_
     conv=>whnf
     refine CallQ_m (del_cm (pre:=fun _=>z.length≤1000000000) (p:=fun c=>at_ ⟨w,h,z⟩ c == 1) hsl fun _ _=>by omega) rfl rfl rfl ?_
     have hF' : ((suspectsK S (gt s i) rng).filter fun a=>!(at_ ⟨w,h,z⟩ a == 1))=F:=hF
     rw [hF']
     have hFl : F.length≤1000000000:=by rw [← hF];exact Nat.le_trans (List.length_filter_le _ _) hsl
     have Hk2 : Hold (_=R):=⟨e⟩
     clear e hF hF' hsl a1 a1'
     have end0 : F.length=0→R=none:=fun h0=>by
      have:=Hk2.out
      rw [List.eq_nil_of_length_eq_zero h0] at this
      exact this.symm
     have same : F.length ≠ 0→¬(F.length=1∧between (gt F ((0 : Int).toNat + 0)).X 0 (w - 1)=true∧between (gt F ((0 : Int).toNat + 0)).Y 0 (h - 1)=true)→wallL ⟨w,h,X⟩ S rng (s.drop (i + 1)) z=R:=fun h0 h1=>by
      have:=Hk2.out
      cases F with
      | nil=>simp at h0
      | cons c l =>
        simp only at this
        rwa [if_neg] at this
        rintro ⟨rfl,h2,h3⟩
        exact h1 ⟨rfl,h2,h3⟩
     by_cases hc : between (gt F ((0 : Int).toNat + 0)).X 0 (w - 1)=true∧between (gt F ((0 : Int).toNat + 0)).Y 0 (h - 1)=true
     ·obtain ⟨hcx,hcy⟩:=hc
      have hc1:=between_iff.1 hcx
      have hc2:=between_iff.1 hcy
      have q2:=cell_idx (n:=X.length) r7.2.2.2.2.2.1 hc1.1 (by omega : _ < w) hc2.1 (by omega : _ < h)
      have put : F.length=1→wallL ⟨w,h,X⟩ S rng (s.drop (i + 1)) (z.set (idxC ⟨w,h,X⟩ (gt F ((0 : Int).toNat + 0))) 2)=R:=fun h0=>by
       have:=Hk2.out
       match F,h0 with
       | [c],_ =>
         have h1 : True∧between c.X 0 (w - 1)=true∧between c.Y 0 (h - 1)=true:=⟨trivial,hcx,hcy⟩
         simp only at this
         rwa [if_pos h1] at this
      have Hs : Hold (_∧_∧_):=⟨⟨end0,same,put⟩⟩
      clear end0 same put Hk2 Hk
      refine ruA (a4 ?_ ?_ ?_ ?_)
      ·intro b0
       obtain rfl:=Hs.out.1 (by omega)
       rfl
      ·intro b0
       obtain rfl:=Hs.out.1 (by omega)
       rfl
      ·intro b0 b1 _ _ _ _
       exact rn (i + 1,z.set (idxC ⟨w,h,X⟩ (gt F ((0 : Int).toNat + 0))) 2) ⟨by omega,by simpa using k2,Hs.out.2.2 (by omega)⟩
      ·intro b0 b1
       exact rn (i + 1,z) ⟨by omega,k2,Hs.out.2.1 (by omega) (by omega)⟩
     ·have Hs : Hold (_∧_):=⟨⟨end0,same⟩⟩
      clear end0 same Hk2 Hk
      refine ruA (a6 ?_ ?_ ?_ ?_ ?_ ?_)
      ·intro b0
       obtain rfl:=Hs.out.1 (by omega)
       rfl
      ·intro b0
       obtain rfl:=Hs.out.1 (by omega)
       rfl
      ·intro b0 b1 b2 _ b3
       exact absurd ⟨b2,b3⟩ hc
      ·intro b0 b1 b2 _ b3
       exact rn (i + 1,z) ⟨by omega,k2,Hs.out.2 (by omega) fun h'=>hc h'.2⟩
      ·intro b0 b1 b2
       exact rn (i + 1,z) ⟨by omega,k2,Hs.out.2 (by omega) fun h'=>hc h'.2⟩
      ·intro b0 b1
       exact rn (i + 1,z) ⟨by omega,k2,Hs.out.2 (by omega) fun h'=>hc h'.2⟩
   ·exact absurd a0 (by rw [fl_len];simpa using hi)
  ·obtain rfl : i=s.length:=by omega
   rw [List.drop_length,wallL] at k3
   subst k3
   clear hR
   exact ru⟩
end
attribute [irreducible] Known.allK Known.susB Known.suspectsK Known.freeL Known.wallL Known.learnK
end Go.Proofs.YtkflmidichikjaaGreatDoor.V
end
section
namespace Go.Proofs.YtkflmidichikjaaGreatDoor.V
open Go.RowKit
set_option maxRecDepth 100000
set_option maxHeartbeats 8000000
open Heading BoxP
namespace BoxP
abbrev Che := Int × Int × Int × Box
def cheStep (a : Box) (i : Nat) (s : Che) (k : Nat) (b : Box) : Che :=
 if s.1 < 0∨vol (bhull a b).1 - vol a - vol b < s.2.2.1 then (i,i + 1 + k,vol (bhull a b).1 - vol a - vol b,(bhull a b).1) else s
def cheRow (X : List Box) (i : Nat) (s : Che) : Nat → Che
 | 0=>s
 | k + 1=>cheStep (gt X i) i (cheRow X i s k) k (gt (X.drop (i + 1)) k)
def cheN (X : List Box) : Nat → Che
 | 0=>(-1,-1,0,⟨0,0,0,0,0,0⟩)
 | i + 1=>cheRow X i (cheN X i) (X.length - (i + 1))
def cheap (X : List Box) : Che := cheN X X.length
def delB (X : List Box) (n i : Nat) : List Box := X.take i ++ (X.take n).drop (i + 1) ++ [default] ++ X.drop n
def compS (most : Int) : Nat → Nat → List Box → Nat × List Box
 | 0,n,Z=>(n,Z)
 | f + 1,n,Z=>if (n : Int) > most then compS most f (n - 1) (delB (Z.set (cheap (Z.take n)).1.toNat (cheap (Z.take n)).2.2.2) n (cheap (Z.take n)).2.1.toNat) else (n,Z)
def compact (X : List Box) (most : Int) : Nat × List Box × Int :=
 if most < 1∨most > 64∨X.length > 256 then (0,[],2) else if X.any (fun b=>!vBox b) then (0,[],1) else ((compS most X.length X.length X).1,(compS most X.length X.length X).2,0)
theorem vol_bnd : ∀ b : Box, 0 ≤ vol b ∧ vol b ≤ 1200000000000000
 | ⟨a,b,c,d,e,f⟩=>by
   unfold vol
   split
   ·rename_i h
    have hb:=bnd h
    have h1:=mul_bnd (a:=c - a + 1) (b:=d - b + 1) (A:=2097153) (B:=2097153) (by omega) (by omega)
    have h2:=mul_bnd (a:=(c - a + 1) * (d - b + 1)) (b:=f) (A:=4398050705409) (B:=256) (by omega) (by omega)
    simp only
    have h3 : 0≤(c - a + 1) * (d - b + 1) * f:=Int.mul_nonneg (Int.mul_nonneg (by omega) (by omega)) (by omega)
    omega
   ·omega
def CheOk (n : Nat) (s : Che) : Prop := (s.1 < 0 ∧ s.1 = -1 ∧ s.2.1 = -1 ∧ s.2.2.1 = 0) ∨ (0 ≤ s.1 ∧ s.1 < s.2.1 ∧ s.2.1 < n ∧ -2400000000000000 ≤ s.2.2.1 ∧ s.2.2.1 ≤ 1200000000000000)
theorem cheStep_ok {n : Nat} {a b : Box} {i k : Nat} {s : Che} (h : CheOk n s) (hk : i + 1 + k < n) : CheOk n (cheStep a i s k b) := by
 unfold cheStep
 have h1:=vol_bnd a
 have h2:=vol_bnd b
 have h3:=vol_bnd (bhull a b).1
 split
 ·right
  simp only
  omega
 ·exact h
theorem cheRow_ok {X : List Box} {i : Nat} {s : Che} (h : CheOk X.length s) : ∀ k, i + 1 + k ≤ X.length → CheOk X.length (cheRow X i s k)
 | 0,_=>h
 | k + 1,hk=>cheStep_ok (cheRow_ok h k (by omega)) (by omega)
theorem cheN_ok {X : List Box} : ∀ i, i ≤ X.length → CheOk X.length (cheN X i)
 | 0,_=>Or.inl ⟨by simp [cheN],rfl,rfl,rfl⟩
 | i + 1,hi=>cheRow_ok (cheN_ok i (by omega)) _ (by omega)
theorem cheStep_pos {a b : Box} {i k : Nat} {s : Che} : 0 ≤ (cheStep a i s k b).1 := by
 unfold cheStep
 split
 ·simp only;omega
 ·rename_i h
  omega
theorem cheRow_pos {X : List Box} {i : Nat} {s : Che} : ∀ k, 0 ≤ s.1 ∨ 0 < k → 0 ≤ (cheRow X i s k).1
 | 0,h=>h.elim id fun h=>(Nat.lt_irrefl _ h).elim
 | k + 1,_=>cheStep_pos
theorem cheN_pos {X : List Box} (h : 2 ≤ X.length) : ∀ i, 0 ≤ (cheN X (i + 1)).1
 | 0=>cheRow_pos (X.length - (0 + 1)) (.inr (by omega))
 | i + 1=>cheRow_pos _ (.inl (cheN_pos h i))
theorem cheap_ok {X : List Box} (h : 2 ≤ X.length) : 0 ≤ (cheap X).1 ∧ (cheap X).1 < (cheap X).2.1 ∧ (cheap X).2.1 < X.length := by
 unfold cheap
 have h1 : 0≤(cheN X X.length).1:=by
  obtain ⟨n,e⟩ : ∃ n,X.length=n + 1:=⟨X.length - 1,by omega⟩
  rw [e]
  exact cheN_pos h n
 rcases cheN_ok X.length (Nat.le_refl _) with h2|h2<;>omega
end BoxP
section
variable {C : Ctx} {ob : List OB} {e : TypeId} {sz c : Nat} {A : Option Addr}
theorem ValX_fzTail {α : Type} {enc : α → List Value} {X : List α} {o : Oper} {t : TypeId} {x la : Operand} {m : Int} (n : Nat) {k : SV → Prop} (hT : TabOk C.P C.T) (ho : o.op = .slice t x (some la) none none) (hs : slInfo C t = some (e, sz)) (hm : m = n) (g1 : n ≤ X.length)
 (hk : ∀ A' c',k (.fz A' c' sz (fl enc (X.drop n)))) : ValX C o [.fz A c sz (fl enc X),.v (.int .i64 m)] ob k:=by
 subst hm
 refine ValX_slF (lo:=some (n : Int)) (hi:=none) (mx:=none) hT ho rfl rfl rfl hs (by simp) (by rintro m (h|h|h)<;>simp at h;omega) (by simpa using g1) (by simp) (by simp) fun c'=>?_
 have:=hk (cutA A c n sz) c'
 simpa [List.take_of_length_le] using this
end
instance inVb4_1 {A : Option Addr} {cc : Nat} {X : List Box} : CFc 221 false [.fz A cc 6 (fl Box.e X)] (X.length ≤ 1000000) (.t [I (cheap X).1, I (cheap X).2.1, (cheap X).2.2.2.s]) [] := ⟨fun hp => by
 unfold cheap
 refine CM.of Tryz.func221 rfl tabOk rfl rfl rfl rfl (by simp [SV.nms,SV.nm]) fun w_ M_ π_ G0_=>?_
 refine runA (a1 ?_)
 refine LoopX_keep [0,4,5,6,7,8,16,17,18] ?_
 conv=>whnf
 refine LoopX_c tabOk [] (fun s : Nat × Che=>s.1≤X.length∧s.2=cheN X s.1) (fun s=>[(5,I s.2.1),(6,I s.2.2.1),(7,I s.2.2.2.1),(18,I s.1)]) (fun s=>[(1,.box 85 [I s.2.2.2.2.X0,I s.2.2.2.2.Y0,I s.2.2.2.2.X1,I s.2.2.2.2.Y1,I s.2.2.2.2.From,I s.2.2.2.2.Count])]) (fun s=>X.length - s.1) (0,cheN X 0) ⟨by simp,rfl⟩ ⟨rfl,rfl,rfl,rfl,trivial⟩ ⟨rfl,trivial⟩ ?_
 conv=>whnf
 rintro ⟨i,f,g,v,q0,q1,q2,q3,q4,q5⟩ ⟨h1,h2⟩
 simp only at h1 h2
 by_cases hi : i < X.length
 ·refine runA (a1 ?_)
  intro _
  refine ValX_fzTail (i + 1) tabOk rfl rfl (by simp) (by omega) fun A' c'=>?_
  refine runA (a1 ?_)
  refine LoopX_keep [0,4,5,6,7,8,9,10,16,17,18,26,27,28] ?_
  conv=>whnf
  refine LoopX_c tabOk [] (fun s : Nat × Che=>s.1≤X.length - (i + 1)∧s.2=cheRow X i (cheN X i) s.1) (fun s=>[(5,I s.2.1),(6,I s.2.2.1),(7,I s.2.2.2.1),(28,I s.1)]) (fun s=>[(1,.box 85 [I s.2.2.2.2.X0,I s.2.2.2.2.Y0,I s.2.2.2.2.X1,I s.2.2.2.2.Y1,I s.2.2.2.2.From,I s.2.2.2.2.Count])]) (fun s=>X.length - (i + 1) - s.1) (0,f,g,v,⟨q0,q1,q2,q3,q4,q5⟩) ⟨by simp,h2⟩ ⟨rfl,rfl,rfl,rfl,trivial⟩ ⟨rfl,trivial⟩ ?_
  conv=>whnf
  rintro ⟨k,f',g',v',p0,p1,p2,p3,p4,p5⟩ ⟨j1,j2⟩
  simp only at j1 j2
  have hl : (X.drop (i + 1)).length=X.length - (i + 1):=by simp
  by_cases hk : k < X.length - (i + 1)
  ·have s1:=vol_bnd (gt X i)
   have s2:=vol_bnd (gt (X.drop (i + 1)) k)
   have s3:=vol_bnd (bhull (gt X i) (gt (X.drop (i + 1)) k)).1
   have t1 : -9223372036854775808≤vol (bhull (gt X i) (gt (X.drop (i + 1)) k)).1 - vol (gt X i)∧vol (bhull (gt X i) (gt (X.drop (i + 1)) k)).1 - vol (gt X i)≤9223372036854775807:=by omega
   have t2 : -9223372036854775808≤vol (bhull (gt X i) (gt (X.drop (i + 1)) k)).1 - vol (gt X i) - vol (gt (X.drop (i + 1)) k)∧vol (bhull (gt X i) (gt (X.drop (i + 1)) k)).1 - vol (gt X i) - vol (gt (X.drop (i + 1)) k)≤9223372036854775807:=by omega
   refine runA (a1 ?_)
   intro _
   refine xwr_a ?_ t1.1 t1.2
   refine runA (a2 ?_ ?_)
   ·exact xwr_a rfl t1.1 t1.2
   refine xwr_a ?_ t2.1 t2.2
   have e : cheRow X i (cheN X i) (k + 1)=cheStep (gt X i) i (cheRow X i (cheN X i) k) k (gt (X.drop (i + 1)) k):=rfl
   rw [← j2] at e
   unfold cheStep at e
   refine runA (a4 ?_ ?_ ?_ ?_)
   ·exact xwr_a rfl t2.1 t2.2
   ·intro a
    exact rnd (k + 1,(i : Int),(i : Int) + 1 + k,vol (bhull (gt X i) (gt (X.drop (i + 1)) k)).1 - vol (gt X i) - vol (gt (X.drop (i + 1)) k),(bhull (gt X i) (gt (X.drop (i + 1)) k)).1) ⟨by simp only;omega,by rw [e,if_pos (.inl a)]⟩ (by simp only;omega)
   ·intro a b
    exact rnd (k + 1,(i : Int),(i : Int) + 1 + k,vol (bhull (gt X i) (gt (X.drop (i + 1)) k)).1 - vol (gt X i) - vol (gt (X.drop (i + 1)) k),(bhull (gt X i) (gt (X.drop (i + 1)) k)).1) ⟨by simp only;omega,by rw [e,if_pos (.inr b)]⟩ (by simp only;omega)
   ·intro a b
    exact rnd (k + 1,f',g',v',⟨p0,p1,p2,p3,p4,p5⟩) ⟨by simp only;omega,by rw [e,if_neg];rintro (h|h);exact absurd h (by simpa using a);exact absurd h (by simpa using b)⟩ (by simp only;omega)
  ·obtain rfl : k=X.length - (i + 1):=by omega
   refine runA (a1 ?_)
   intro _
   exact rnd (i + 1,f',g',v',⟨p0,p1,p2,p3,p4,p5⟩) ⟨by simp only;omega,j2⟩ (by simp only;omega)
 ·obtain rfl : i=X.length:=by omega
  refine runA (a1 ?_)
  intro _
  rw [← h2]
  rfl⟩
attribute [irreducible] BoxP.cheap
instance inVb4_2 {a b c d e f : Int} : CFc 220 false [.a [I a, I b, I c, I d, I e, I f]] True (B (!vBox ⟨a, b, c, d, e, f⟩)) [] := ⟨fun _ => by
 refine CM.of Tryz.func220 rfl tabOk rfl rfl rfl rfl (by simp [SV.nms,SV.nm]) fun w_ M_ π_ G0_=>?_
 exact run⟩
instance inVb4_3 {A : Option Addr} {cc : Nat} {X : List Box} {most : Int} : CFc 161 false [.fz A cc 6 (fl Box.e X), I most] (X.length ≤ 1000000) (.t [.sl 0 0 0 (compact X most).1 6, I (compact X most).2.2]) [.row false 85 6 (fl Box.e (compact X most).2.1)] := ⟨fun hp => by
 unfold compact
 refine CM.of Tryz.func161 rfl tabOk rfl rfl rfl rfl (by simp [SV.nms,SV.nm]) fun w_ M_ π_ G0_=>?_
 refine runA (a1 ?_)
 intros
 generalize hR : compS most X.length X.length X=R
 refine LoopX_keep [1,6] ?_
 conv=>whnf
 refine LoopX_c tabOk [] (fun s : Nat × List Box=>s.1≤s.2.length∧s.2.length=X.length∧compS most s.1 s.1 s.2=R) (fun s=>[(6,.sl 0 0 0 s.1 6)]) (fun s=>[(0,.row false 85 6 (fl Box.e s.2))]) (fun s=>s.1) (X.length,X) ⟨Nat.le_refl _,rfl,hR⟩ ⟨rfl,trivial⟩ ⟨rfl,trivial⟩ ?_
 conv=>whnf
 rintro ⟨n,Z⟩ ⟨h1,h2,h3⟩
 simp only at h1 h2 h3
 by_cases hn : (n : Int) > most
 ·obtain ⟨m,rfl⟩ : ∃ m,n=m + 1:=⟨n - 1,by omega⟩
  rw [compS,if_pos hn] at h3
  have hck:=cheap_ok (X:=Z.take (m + 1)) (by simp;omega)
  have hlt : (Z.take (m + 1)).length=m + 1:=by simp;omega
  rw [hlt] at hck
  have Hc : Hold (_=R):=⟨h3⟩
  clear h3 hR
  obtain ⟨k1,k2,k3⟩:=hck
  have e1 : (cheap (Z.take (m + 1))).2.1.toNat + (m + 1 - ((cheap (Z.take (m + 1))).2.1.toNat + 1))=m:=by omega
  have k1' : 0≤(cheap (List.take (m + 1,Z).fst (List.drop 0 (m + 1,Z).snd))).1:=k1
  have k2' : (cheap (List.take (m + 1,Z).fst (List.drop 0 (m + 1,Z).snd))).1 < (cheap (List.take (m + 1,Z).fst (List.drop 0 (m + 1,Z).snd))).2.1:=k2
  have k3' : (cheap (List.take (m + 1,Z).fst (List.drop 0 (m + 1,Z).snd))).2.1 < ((m + 1 : Nat) : Int):=k3
  have j1' : 0≤(cheap (List.take (m + 1) (List.drop 0 Z))).1:=k1
  have j2' : (cheap (List.take (m + 1) (List.drop 0 Z))).1 < (cheap (List.take (m + 1) (List.drop 0 Z))).2.1:=k2
  have j3' : (cheap (List.take (m + 1) (List.drop 0 Z))).2.1 < ((m + 1 : Nat) : Int):=k3
  refine runA (a1 ?_)
  intro _
  exact rnd ((cheap (Z.take (m + 1))).2.1.toNat + (m + 1 - ((cheap (Z.take (m + 1))).2.1.toNat + 1)),delB (Z.set (cheap (Z.take (m + 1))).1.toNat (cheap (Z.take (m + 1))).2.2.2) (m + 1) (cheap (Z.take (m + 1))).2.1.toNat) ⟨by
   simp only [e1,delB,List.length_append,List.length_take,List.length_drop,List.length_set,List.length_cons,List.length_nil];omega,by
   simp only [delB,List.length_append,List.length_take,List.length_drop,List.length_set,List.length_cons,List.length_nil];omega,by
   simp only [e1];exact Hc.out⟩ (by simp only [e1];omega)
 ·have e : compS most n n Z=(n,Z):=by cases n with
   | zero=>rfl
   | succ n=>rw [compS,if_neg hn]
  rw [e] at h3
  subst h3
  exact run⟩
end Go.Proofs.YtkflmidichikjaaGreatDoor.V
end
section
namespace Go.Proofs.YtkflmidichikjaaGreatDoor.V
open Go.RowKit
set_option maxRecDepth 100000
set_option maxHeartbeats 16000000
open Heading BoxP Drive PlanP Zono Known
namespace Mot
theorem floor_t {a b : Int} (hb : 0 < b) : (a.tmod b < 0 → a.tdiv b - 1 = a / b) ∧ (0 ≤ a.tmod b → a.tdiv b = a / b) := by
 have h1:=Int.tmod_add_mul_tdiv a b
 have h2:=Int.lt_tmod_of_pos a hb
 have h3:=Int.tmod_lt_of_pos a hb
 constructor<;>intro h
 ·refine ((Int.ediv_emod_unique (r:=a.tmod b + b) hb).2 ⟨?_,by omega,by omega⟩).1.symm
  rw [Int.mul_sub,Int.mul_one]
  omega
 ·exact ((Int.ediv_emod_unique hb).2 ⟨h1,h,h3⟩).1.symm
theorem tdiv_bnd {a b m : Int} (hb : 0 < b) (h : -m ≤ a ∧ a ≤ m) (hm : 0 ≤ m) : -m ≤ a.tdiv b ∧ a.tdiv b ≤ m := by
 have h1:=Int.natAbs_tdiv_le_natAbs a b
 omega
end Mot
open Mot
instance inVmo_1 {n a b : Int} : CFc 133 false [I n, I a, I b] True (B (between n a b)) [] := ⟨fun _ => by
 unfold between
 refine CM.of Tryz.func133 rfl tabOk rfl rfl rfl rfl (by simp [SV.nms,SV.nm]) fun w_ M_ π_ G0_=>?_
 exact ru⟩
instance inVmo_2 {n : Int} : CFc 132 false [I n] True (B (between n (-1048576) 1048576)) [] := ⟨fun _ => by
 refine CM.of Tryz.func132 rfl tabOk rfl rfl rfl rfl (by simp [SV.nms,SV.nm]) fun w_ M_ π_ G0_=>?_
 exact ru⟩
instance inVmo_3 {a b : Int} : CFc 139 false [I a, I b] (0 < b ∧ -4611686018427387904 ≤ a ∧ a ≤ 4611686018427387904) (I (a / b)) [] := ⟨fun ⟨h1, h2, h3⟩ => by
 have f:=floor_t (a:=a) h1
 have g:=tdiv_bnd (a:=a) (m:=4611686018427387904) h1 ⟨h2,h3⟩ (by omega)
 have n1 : b ≠ 0:=by omega
 refine CM.of Tryz.func139 rfl tabOk rfl rfl rfl rfl (by simp [SV.nms,SV.nm]) fun w_ M_ π_ G0_=>?_
 by_cases h : 0≤a
 ·have:=Int.emod_nonneg a n1
  exact ru
 ·refine roA (a2 ?_ ?_)
  ·intro a1
   refine Fin_j () ?_
   conv=>whnf
   exact ⟨by show SV.v _=SV.v _;rw [f.1 a1],rfl,trivial,rfl⟩
  ·intro a1
   refine Fin_j () ?_
   conv=>whnf
   exact ⟨by show SV.v _=SV.v _;rw [f.2 a1],rfl,trivial,rfl⟩⟩
instance inVmo_4 {a b c d e f : Int} : CFc 84 false [.a [I a, I b, I c, I d, I e, I f]] True (B (!vBox ⟨a, b, c, d, e, f⟩)) [] := ⟨fun _ => by
 refine CM.of Tryz.func84 rfl tabOk rfl rfl rfl rfl (by simp [SV.nms,SV.nm]) fun w_ M_ π_ G0_=>?_
 exact ru⟩
instance inVmo_5 {A : Option Addr} {cc : Nat} {S : List Box} : CFc 40 false [.fz A cc 6 (fl Box.e S)] (S.length ≤ 1000000000) (B (vSet S)) [] := ⟨fun hp => by
 unfold vSet
 refine CM.of Tryz.func40 rfl tabOk rfl rfl rfl rfl (by simp [SV.nms,SV.nm]) fun w_ M_ π_ G0_=>?_
 exact ru⟩
namespace Mot
def hullL (S : List Box) (b : Box) : Box := S.foldl (fun b x => (bhull b x).1) b
def estimate (S : List Box) : Pose × Bool :=
 if S.length=0∨vSet S=false then (⟨0,0,0⟩,false)
 else (⟨((hullL (S.drop 1) (gt S 0)).X0 + (hullL (S.drop 1) (gt S 0)).X1) / 2,((hullL (S.drop 1) (gt S 0)).Y0 + (hullL (S.drop 1) (gt S 0)).Y1) / 2,((hullL (S.drop 1) (gt S 0)).From + ((hullL (S.drop 1) (gt S 0)).Count - 1) / 2) % 256⟩,true)
theorem step_ok {a b best : Arc} {f : Int} (ha : vArc a = true) (hb : vArc b = true) (hf : 0 ≤ f ∧ f < 256) (hbest : vArc best = true) : vArc (hullStep a b best f) = true := by
 have h1:=vArc_iff.1 ha
 have h2:=vArc_iff.1 hb
 have h3:=vArc_iff.1 hbest
 unfold hullStep covers
 split
 ·rename_i h
  refine vArc_iff.2 ?_
  simp only
  omega
 ·exact hbest
theorem hull_ok {a b : Arc} (ha : vArc a = true) (hb : vArc b = true) : vArc (hull a b).1 = true := by
 have h1:=vArc_iff.1 ha
 have h2:=vArc_iff.1 hb
 unfold hull
 rw [if_pos ⟨ha,hb⟩]
 exact step_ok ha hb ⟨h2.1,h2.2.1⟩ (step_ok ha hb ⟨h1.1,h1.2.1⟩ (vArc_iff.2 (by simp)))
theorem bhull_ok {a b : Box} (ha : vBox a = true) (hb : vBox b = true) : vBox (bhull a b).1 = true := by
 have h:=hull_ok (vBox_arc ha) (vBox_arc hb)
 have h1:=vBox_iff.1 ha
 have h2:=vBox_iff.1 hb
 unfold bhull
 rw [if_pos ⟨ha,hb⟩]
 refine vBox_iff.2 ?_
 simp only
 exact ⟨by omega,by omega,by omega,by omega,by omega,by omega,h⟩
theorem hullL_snoc {S : List Box} {b : Box} {i : Nat} (h : i < S.length) : hullL (S.take (i + 1)) b = (bhull (hullL (S.take i) b) (gt S i)).1 := by
 unfold hullL
 rw [take_snoc h,List.foldl_append]
 rfl
end Mot
instance inVmo_6 {A : Option Addr} {cc : Nat} {S : List Box} : CFc 104 false [.fz A cc 6 (fl Box.e S)] (S.length ≤ 1000000000) (.t [.a [I (estimate S).1.X, I (estimate S).1.Y, I (estimate S).1.H], B (estimate S).2]) [] := ⟨fun hp => by
 unfold estimate
 by_cases h0 : S.length=0∨vSet S=false
 ·rw [if_pos h0]
  rcases h0 with h0|h0
  ·refine CM.of Tryz.func104 rfl tabOk rfl rfl rfl rfl (by simp [SV.nms,SV.nm]) fun w_ M_ π_ G0_=>?_
   exact ru
  ·refine CM.of Tryz.func104 rfl tabOk rfl rfl rfl rfl (by simp [SV.nms,SV.nm]) fun w_ M_ π_ G0_=>?_
   exact ru
 ·rw [if_neg h0]
  have h1 : vSet S=true:=by
   cases h : vSet S with
   | true=>rfl
   | false=>exact (h0 (.inr h)).elim
  have h2 : 0 < S.length:=by omega
  have h3:=(vSet_iff.1 h1).2
  clear h0
  have hl : (S.drop 1).length=S.length - 1:=by simp
  have h4 : ∀ b∈S.drop 1,vBox b=true:=fun b hb=>h3 b (List.mem_of_mem_drop hb)
  have h5 : vBox (gt S 0)=true:=h3 _ (gt_mem h2)
  generalize hD : S.drop 1=D at *
  have Hh : Hold (_∧_):=⟨⟨h3,h4⟩⟩
  clear h3 h4
  refine CM.of Tryz.func104 rfl tabOk rfl rfl rfl rfl (by simp [SV.nms,SV.nm]) fun w_ M_ π_ G0_=>?_
  refine ruA (a1 ?_)
  intro _ _
  refine ValX_fzTail 1 tabOk rfl rfl (by simp) (by omega) fun A' c'=>?_
  rw [hD]
  refine ruA (a1 ?_)
  refine LoopX_p [] (fun ((i,b) : Nat × Box)=>i≤D.length∧b=hullL (D.take i) (gt S 0)∧vBox b=true) (fun (i,_)=>[(22,I i)]) (fun (_,b)=>[(1,.box 85 [I b.X0,I b.Y0,I b.X1,I b.Y1,I b.From,I b.Count])]) (fun (i,_)=>D.length - i) (0,gt S 0) ?_ ⟨by omega,rfl,h5⟩
  conv=>whnf
  rintro ⟨i,b⟩ ⟨j1,j2,j3⟩
  by_cases hi : i < D.length
  ·have e:=hullL_snoc (b:=gt S 0) hi
   rw [← j2] at e
   have hx:=Hh.out.2 _ (gt_mem hi)
   have hv:=bhull_ok j3 hx
   have Hj : Hold (_∧_):=⟨⟨e,hv⟩⟩
   clear e hv hx j2
   refine ruA (a1 ?_)
   intro _
   exact rn (i + 1,(bhull b (gt D i)).1) ⟨by omega,Hj.out.1.symm,Hj.out.2⟩
  ·obtain rfl : i=D.length:=by omega
   rw [List.take_length] at j2
   rw [← j2]
   have k1:=vBox_iff.1 j3
   have k2:=vArc_iff.1 (vBox_arc j3)
   simp only at k2
   clear j2
   exact ru⟩
end Go.Proofs.YtkflmidichikjaaGreatDoor.V
end
