import Derived.Test.YtkflmidichikjaaGreatDoorZbQ36
import Derived.Test.YtkflmidichikjaaGreatDoorZbQ22
import Derived.Test.YtkflmidichikjaaGreatDoorZbQ28
import Derived.Test.YtkflmidichikjaaGreatDoorZbQ35
import Derived.Test.YtkflmidichikjaaGreatDoorZbQ27
set_option linter.all false
section
namespace Go.Proofs.YtkflmidichikjaaGreatDoor.V
open Go.RowKit
set_option maxRecDepth 100000
open Heading BoxP Drive Seg PlanP RayP Contr Grow
namespace Sound
theorem at_below {p q : Plan} (hv : vPlan p = true) (hb : Below p q) {c : Cell} {x : Int} (h : at_ p c = x) (hx : x ≠ 0) : at_ q c = x := by
 have hq:=hb.v hv
 obtain ⟨e1,e2,e3,e4,e5⟩:=hb
 unfold at_ at h ⊢
 rw [if_pos hv] at h
 rw [if_pos hq]
 have hi : insideP q c=insideP p c:=by unfold insideP;rw [e1,e2]
 rw [hi]
 split at h
 ·rename_i hin
  rw [if_pos hin,e1]
  rw [← h] at hx ⊢
  have hlt : (c.Y * p.W + c.X).toNat < p.cells.length:=by
   rcases Nat.lt_or_ge (c.Y * p.W + c.X).toNat p.cells.length with h1|h1
   ·exact h1
   ·exfalso
    apply hx
    simp [gt,List.getElem?_eq_none h1]
  exact e5 _ hlt hx
 ·rename_i hin
  rw [if_neg hin]
  exact h
theorem met_near {a : Point} {v : Vector} {lo hi : Int} {c : Cell} (ha : (-500000 ≤ a.X ∧ a.X ≤ 500000) ∧ (-500000 ≤ a.Y ∧ a.Y ≤ 500000)) (hv : vVec v = true) (h2 : hi ≤ 2048) (hm : metQ a v lo hi (sqC c)) : sRect (sqC c) = true := by
 have hV:=vVec_iff.1 hv
 obtain ⟨n,d,hd,hn,e1,e2,e3⟩:=hm
 have h1:=axis_far (vD:=v.D) (vX:=v.X) (px:=a.X) (cx:=c.X) hd hn (by omega) e2 (by have:=e3.1;rw [sqC_eq] at this;exact this)
 have h2:=axis_far (vD:=v.D) (vX:=v.Y) (px:=a.Y) (cx:=c.Y) hd hn (by omega) e2 (by have:=e3.2;rw [sqC_eq] at this;exact this)
 exact sqC_near (by omega)
theorem sqH_eq (c : Cell) : sqH c = sqC c := by
 rw [sqC_eq]
 unfold sqH
 rw [Int.add_mul,Int.add_mul,Int.one_mul]
def rectN (r : Rect) : Prop := (-500000 ≤ r.X0 ∧ r.X0 ≤ r.X1 ∧ r.X1 ≤ 500000) ∧ (-500000 ≤ r.Y0 ∧ r.Y0 ≤ r.Y1 ∧ r.Y1 ≤ 500000)
theorem hidden_no {p p0 : Plan} {r : Rect} {v : Vector} {far : Int} {o : Bool} {a : Point} (hv : vPlan p = true) (hb : Below p p0) (hr : rectN r) (hi : inR r a.X a.Y) (hvv : vVec v = true) (hf : far ≤ 2048)
 (ht : ∀ c,at_ p0 c=2→if o then ¬ befQ a v far (sqC c) else ¬ metQ a v 0 far (sqC c)) : hidden p r v far o=false:=by
 unfold hidden
 split
 ·rfl
 rename_i h0
 rw [List.any_eq_false]
 intro c hc hh
 simp only [Bool.and_eq_true,beq_iff_eq] at hh
 obtain ⟨hw,ha⟩:=hh
 have hr':=hr
 unfold rectN at hr'
 have hm:=(traced_iff (a:=⟨r.X0,r.Y0⟩) (by simp only;omega) hvv (Int.le_refl _) (by omega) hf).1 hc
 have hs:=met_near (by simp only;omega) hvv hf hm
 have t:=ht c (at_below hv hb hw (by omega))
 unfold allMet metB at ha
 rw [sqH_eq] at ha
 have k1 : sPoint ⟨r.X0,r.Y0⟩ = true:=sPoint_iff.2 (by simp only;omega)
 have k2 : sPoint ⟨r.X1,r.Y0⟩ = true:=sPoint_iff.2 (by simp only;omega)
 have k3 : sPoint ⟨r.X0,r.Y1⟩ = true:=sPoint_iff.2 (by simp only;omega)
 have k4 : sPoint ⟨r.X1,r.Y1⟩ = true:=sPoint_iff.2 (by simp only;omega)
 cases o with
 | true =>
   simp only [cond_true,Bool.and_eq_true] at ha
   obtain ⟨⟨⟨a1,a2⟩,a3⟩,a4⟩:=ha
   rw [before_iff k1 hvv hs (by omega) (by omega)] at a1
   rw [before_iff k2 hvv hs (by omega) (by omega)] at a2
   rw [before_iff k3 hvv hs (by omega) (by omega)] at a3
   rw [before_iff k4 hvv hs (by omega) (by omega)] at a4
   exact t (bef_all hi a1 a2 a3 a4)
 | false =>
   simp only [cond_false,Bool.and_eq_true] at ha
   obtain ⟨⟨⟨a1,a2⟩,a3⟩,a4⟩:=ha
   rw [meets_iff k1 hvv hs (by omega) (by omega) (by omega)] at a1
   rw [meets_iff k2 hvv hs (by omega) (by omega) (by omega)] at a2
   rw [meets_iff k3 hvv hs (by omega) (by omega) (by omega)] at a3
   rw [meets_iff k4 hvv hs (by omega) (by omega) (by omega)] at a4
   exact t (met_all hi a1 a2 a3 a4)
theorem empty_no {p p0 : Plan} {r : Rect} {v : Vector} {lo hi : Int} {a : Point} (hv : vPlan p = true) (hb : Below p p0) (hr : rectN r) (hw : r.X1 - r.X0 ≤ 1024 ∧ r.Y1 - r.Y0 ≤ 1024) (hi' : inR r a.X a.Y) (hvv : vVec v = true) (h0 : 0 ≤ lo) (h1 : lo ≤ hi) (hf : hi ≤ 2048)
 (ht : ∃ c,at_ p0 c=2∧metQ a v lo hi (sqC c)) : emptyR p r v lo hi=false:=by
 obtain ⟨c,hc,hm⟩:=ht
 unfold rectN at hr
 have hvr : vRect r=true:=by
  unfold vRect
  simp only [Bool.and_eq_true,decide_eq_true_eq,vPoint_iff]
  omega
 have hin : c∈(sweptL r v lo hi).1:=by
  unfold sweptL
  rw [if_neg (by simp [hvr,hvv]),if_neg (by omega),if_neg (by omega)]
  exact sweep_mem (by omega) hvv h0 h1 hf hi' hm
 unfold emptyR
 simp only [Bool.not_eq_false',List.any_eq_true]
 refine ⟨c,hin,?_⟩
 simp only [bne_iff_ne,ne_eq]
 intro h
 have:=at_below hv hb h (by omega)
 omega
theorem refuted_no {p p0 : Plan} {r : Rect} {a : Pose} {b : Beam} {rng : Int} (hv : vPlan p = true) (hb : Below p p0) (hr : rectN r) (hw : r.X1 - r.X0 ≤ 1024 ∧ r.Y1 - r.Y0 ≤ 1024) (hi : inR r a.X a.Y) (hg : 1 ≤ rng ∧ rng ≤ 32) (ht : trueB p0 a rng b) : refuted p r a.H b rng = false := by
 obtain ⟨t1,t2,t3⟩:=ht
 unfold refuted
 split
 ·rename_i h
  exact hidden_no (a:=⟨a.X,a.Y⟩) hv hb hr hi (beam_v _ _) (by omega) (by simpa using t2 h)
 ·rename_i h
  obtain ⟨q1,q2,q3⟩:=t3 h
  rw [Bool.or_eq_false_iff]
  exact ⟨hidden_no (a:=⟨a.X,a.Y⟩) hv hb hr hi (beam_v _ _) (by omega) (by simpa using q2),empty_no (a:=⟨a.X,a.Y⟩) hv hb hr hw hi (beam_v _ _) (by omega) (by omega) (by omega) q3⟩
theorem bad_no {p p0 : Plan} {r : Rect} {a : Pose} {s : List Beam} {rng : Int} (hv : vPlan p = true) (hb : Below p p0) (hr : rectN r) (hi : inR r a.X a.Y) (hg : 1 ≤ rng ∧ rng ≤ 32) (ht : ∀ b ∈ s, trueB p0 a rng b) : badR p r a.H s rng = false := by
 unfold badR
 split
 ·rename_i h
  unfold admR at h
  simp only [Bool.and_eq_true,between_iff] at h
  rw [List.any_eq_false]
  intro b hb'
  rw [refuted_no hv hb hr (by omega) hi hg (ht b hb')]
  simp
 ·rfl
end Sound
end Go.Proofs.YtkflmidichikjaaGreatDoor.V
end
section
namespace Go.Proofs.YtkflmidichikjaaGreatDoor.V
open Go.RowKit
set_option maxRecDepth 100000
open Heading BoxP Drive Seg PlanP RayP Contr Grow
namespace Sound
theorem take_le {q : Int → Bool} : ∀ {L : List Int} {j : Nat}, j < L.length → q (gt L j) = false → (L.takeWhile q).length ≤ j
 | [],j,h,_=>by simp at h
 | x :: L,0,_,hq=>by
   have : q x=false:=hq
   simp [List.takeWhile_cons,this]
 | x :: L,j + 1,h,hq=>by
   have h1:=take_le (L:=L) (j:=j) (by simpa using h) (by simpa [gt] using hq)
   rw [List.takeWhile_cons]
   split
   ·simp only [List.length_cons];omega
   ·simp
theorem take_not {q : Int → Bool} : ∀ {L : List Int}, (L.takeWhile q).length < L.length → q (gt L (L.takeWhile q).length) = false
 | [],h=>by simp at h
 | x :: L,h=>by
   rw [List.takeWhile_cons] at h ⊢
   by_cases hx : q x=true
   ·rw [if_pos hx] at h ⊢
    have:=take_not (q:=q) (L:=L) (by simpa using h)
    simpa [gt] using this
   ·rw [if_neg hx]
    simpa [gt] using hx
theorem gt_rev {L : List Int} {j : Nat} (h : j < L.length) : gt L.reverse (L.length - 1 - j) = gt L j := by
 have h2 : L.length - 1 - j < L.reverse.length:=by rw [List.length_reverse];omega
 simp only [gt,List.getD_eq_getElem?_getD]
 rw [List.getElem?_eq_getElem h2,List.getElem?_eq_getElem h,List.getElem_reverse]
 simp [show L.length - 1 - (L.length - 1 - j)=j by omega]
theorem list_gt {a : Arc} (hv : vArc a = true) : (list a).length = a.Count.toNat ∧ ∀ i : Nat, (i : Int) < a.Count → gt (list a) i = (a.From + i) % 256 := by
 unfold list
 rw [if_pos hv]
 refine ⟨by simp,fun i hi=>?_⟩
 have h : i < a.Count.toNat:=by omega
 simp [gt,h]
def inP (p : Plan) (b : Box) : Prop := vBox b = true ∧ (0 ≤ b.X0 ∧ b.X1 ≤ 64 * p.W) ∧ (0 ≤ b.Y0 ∧ b.Y1 ≤ 64 * p.H)
theorem trim_in {p : Plan} {b : Box} {s : List Beam} {rng : Int} (hp : vPlan p = true) (hv : vBox b = true) (h : (trimB p b s rng).2 = true) : inP p (trimB p b s rng).1 := by
 have hA:=vArc_iff.1 (vBox_arc hv)
 have hB:=vBox_iff.1 hv
 obtain ⟨w1,w2,_,_⟩:=vPlan_iff.1 hp
 obtain ⟨l1,l2⟩:=list_gt (vBox_arc hv)
 simp only at hA l1 l2
 unfold trimB at h ⊢
 split at h
 ·cases h
 rename_i h1
 rw [if_neg h1]
 split at h
 ·cases h
 rename_i h2
 rw [if_neg h2]
 unfold trI at h2 ⊢
 unfold trJ
 generalize hq : (fun h=>badR p (clipB p b) h s rng)=q at *
 generalize hL : list ⟨b.From,b.Count⟩ = L at *
 have t1 : (L.takeWhile q).length≤L.length:=(List.takeWhile_prefix q).length_le
 have t2 : (L.takeWhile q).length < L.length:=by omega
 have t3:=take_not t2
 have t4 : (L.reverse.takeWhile q).length≤L.length - 1 - (L.takeWhile q).length:=take_le (by rw [List.length_reverse];omega) (by rw [gt_rev t2];exact t3)
 have t5:=l2 (L.takeWhile q).length (by omega)
 unfold clipB at h1 ⊢
 simp only at h1 ⊢
 refine ⟨vBox_iff.2 ?_,?_,?_⟩
 ·simp only
  refine ⟨by omega,by omega,by omega,by omega,by omega,by omega,vArc_iff.2 ?_⟩
  simp only
  rw [t5]
  refine ⟨by omega,by omega,by omega,by omega,?_⟩
  rcases hA.2.2.2.2 with h0|h0
  ·by_cases hz : (L.takeWhile q).length=0
   ·left
    rw [hz,h0]
    rfl
   ·right
    omega
  ·right
   omega
 ·simp only;omega
 ·simp only;omega
theorem trim_keeps {p p0 : Plan} {a : Pose} {b : Box} {s : List Beam} {rng : Int} (hp : vPlan p = true) (hbl : Below p p0) (hv : vBox b = true) (hi : inB b a) (ha : (0 ≤ a.X ∧ a.X ≤ 64 * p.W) ∧ (0 ≤ a.Y ∧ a.Y ≤ 64 * p.H)) (hh : 0 ≤ a.H ∧ a.H < 256) (hg : 1 ≤ rng ∧ rng ≤ 32) (ht : ∀ b ∈ s, trueB p0 a rng b) :
 (trimB p b s rng).2=true∧inB (trimB p b s rng).1 a:=by
 have hA:=vArc_iff.1 (vBox_arc hv)
 have hB:=vBox_iff.1 hv
 obtain ⟨w1,w2,_,_⟩:=vPlan_iff.1 hp
 obtain ⟨l1,l2⟩:=list_gt (vBox_arc hv)
 obtain ⟨i1,i2,i3⟩:=hi
 simp only at hA l1 l2
 have hR : rectN (clipB p b):=by unfold rectN clipB;simp only;omega
 have hI : inR (clipB p b) a.X a.Y:=by unfold inR clipB;simp only;omega
 have hq0 : badR p (clipB p b) a.H s rng=false:=bad_no hp hbl hR hI hg ht
 unfold trimB
 rw [if_neg (by unfold clipB;simp only;omega)]
 unfold trI trJ
 have hq : (fun h=>badR p (clipB p b) h s rng) a.H=false:=hq0
 generalize (fun h=>badR p (clipB p b) h s rng)=q at *
 generalize hL : list ⟨b.From,b.Count⟩ = L at *
 obtain ⟨j,hj⟩ : ∃ j : Nat,j=((a.H - b.From) % 256).toNat:=⟨_,rfl⟩
 have hjl : j < L.length:=by omega
 have hgj : gt L j=a.H:=by
  rw [l2 j (by omega)]
  omega
 have t1 : (L.takeWhile q).length≤j:=take_le hjl (by rw [hgj];exact hq)
 have t2 : (L.reverse.takeWhile q).length≤L.length - 1 - j:=take_le (by rw [List.length_reverse];omega) (by rw [gt_rev hjl,hgj];exact hq)
 rw [if_neg (by omega)]
 refine ⟨rfl,?_⟩
 have t5:=l2 (L.takeWhile q).length (by omega)
 unfold inB
 simp only
 rw [t5]
 unfold inR at hI
 refine ⟨hI.1,hI.2,?_⟩
 omega
theorem split_in {p : Plan} {b : Box} (hb : inP p b) (h : (split b).2.2 = true) : inP p (split b).1 ∧ inP p (split b).2.1 ∧ ∀ a : Pose, inB b a → inB (split b).1 a ∨ inB (split b).2.1 a := by
 obtain ⟨hv,hx,hy⟩:=hb
 have hA:=vArc_iff.1 (vBox_arc hv)
 have hB:=vBox_iff.1 hv
 simp only at hA
 unfold split at h ⊢
 split at h
 ·cases h
 rename_i h0
 rw [if_neg h0]
 unfold vol at h0
 rw [if_pos hv] at h0
 unfold szU
 split at h
 ·rename_i h1
  rw [if_pos (by unfold szU at h1;exact h1)]
  have hw : 2≤b.X1 - b.X0 + 1:=by
   rcases Int.lt_or_le (b.X1 - b.X0 + 1) 2 with hlt|hge
   ·exfalso
    have e1 : b.X1 - b.X0 + 1=1:=by omega
    unfold szU at h1
    rw [e1] at h1 h0
    have e2 : b.Y1 - b.Y0 + 1=1:=by
     have:=h1.1
     split at this<;>split at this<;>omega
    have e3 : b.Count=1:=by
     have:=h1.2
     split at this<;>split at this<;>omega
    rw [e2,e3] at h0
    exact h0 (by decide)
   ·exact hge
  refine ⟨⟨vBox_iff.2 ?_,?_,?_⟩,⟨vBox_iff.2 ?_,?_,?_⟩,fun a ⟨g1,g2,g3⟩=>?_⟩
  ·simp only;exact ⟨by omega,by omega,by omega,by omega,by omega,by omega,hB.2.2.2.2.2.2⟩
  ·simp only;omega
  ·simp only;omega
  ·simp only;exact ⟨by omega,by omega,by omega,by omega,by omega,by omega,hB.2.2.2.2.2.2⟩
  ·simp only;omega
  ·simp only;omega
  ·unfold inB
   simp only
   rcases Int.lt_or_le a.X (b.X0 + (b.X1 - b.X0 + 1) / 2) with hlt|hge
   ·exact .inl ⟨by omega,g2,g3⟩
   ·exact .inr ⟨by omega,g2,g3⟩
 ·rename_i h1
  rw [if_neg (by unfold szU at h1;exact h1)]
  split at h
  ·rename_i h2
   rw [if_pos (by unfold szU at h2;exact h2)]
   have hw : 2≤b.Y1 - b.Y0 + 1:=by
    rcases Int.lt_or_le (b.Y1 - b.Y0 + 1) 2 with hlt|hge
    ·exfalso
     have e1 : b.Y1 - b.Y0 + 1=1:=by omega
     unfold szU at h1 h2
     rw [e1] at h1 h0 h2
     have e3 : b.Count=1:=by
      split at h2<;>split at h2<;>omega
     apply h1
     rw [e3]
     refine ⟨?_,?_⟩
     ·split<;>split<;>omega
     ·split<;>split<;>omega
    ·exact hge
   refine ⟨⟨vBox_iff.2 ?_,?_,?_⟩,⟨vBox_iff.2 ?_,?_,?_⟩,fun a ⟨g1,g2,g3⟩=>?_⟩
   ·simp only;exact ⟨by omega,by omega,by omega,by omega,by omega,by omega,hB.2.2.2.2.2.2⟩
   ·simp only;omega
   ·simp only;omega
   ·simp only;exact ⟨by omega,by omega,by omega,by omega,by omega,by omega,hB.2.2.2.2.2.2⟩
   ·simp only;omega
   ·simp only;omega
   ·unfold inB
    simp only
    rcases Int.lt_or_le a.Y (b.Y0 + (b.Y1 - b.Y0 + 1) / 2) with hlt|hge
    ·exact .inl ⟨g1,by omega,g3⟩
    ·exact .inr ⟨g1,by omega,g3⟩
  ·rename_i h2
   rw [if_neg (by unfold szU at h2;exact h2)]
   have hw : 2≤b.Count:=by
    rcases Int.lt_or_le b.Count 2 with hlt|hge
    ·exfalso
     have e1 : b.Count=1:=by omega
     unfold szU at h2
     rw [e1] at h2
     apply h2
     split<;>split<;>omega
    ·exact hge
   refine ⟨⟨vBox_iff.2 ?_,?_,?_⟩,⟨vBox_iff.2 ?_,?_,?_⟩,fun a ⟨g1,g2,g3⟩=>?_⟩
   ·simp only;exact ⟨by omega,by omega,by omega,by omega,by omega,by omega,vArc_iff.2 (by simp only;omega)⟩
   ·simp only;omega
   ·simp only;omega
   ·simp only;exact ⟨by omega,by omega,by omega,by omega,by omega,by omega,vArc_iff.2 (by simp only;omega)⟩
   ·simp only;omega
   ·simp only;omega
   ·unfold inB
    simp only
    rcases Int.lt_or_le ((a.H - b.From) % 256) (b.Count / 2) with hlt|hge
    ·exact .inl ⟨g1,g2,hlt⟩
    ·exact .inr ⟨g1,g2,by omega⟩
end Sound
end Go.Proofs.YtkflmidichikjaaGreatDoor.V
end
section
namespace Go.Proofs.YtkflmidichikjaaGreatDoor.V
open Go.RowKit
set_option maxRecDepth 100000
open Heading BoxP Drive Seg PlanP RayP Contr Grow Loc Known
namespace Sound
structure Scene (p p0 : Plan) (a : Pose) (rng : Int) (s : List Beam) : Prop where
 (hp : vPlan p=true) (hb : Below p p0) (ha : (0≤a.X∧a.X≤64 * p.W)∧(0≤a.Y∧a.Y≤64 * p.H)) (hh : 0≤a.H∧a.H < 256) (hg : 1≤rng∧rng≤32) (ht : ∀ b∈s,trueB p0 a rng b)
theorem refineQ_keeps {p p0 : Plan} {a : Pose} {rng : Int} {s : List Beam} (h : Scene p p0 a rng s) : ∀ (n : Nat) (Q : List Box) (sp : Int) (out : List Box), Q.length + 2 * sp.toNat < n → (∀ b ∈ Q, vBox b = true) → (∀ b ∈ out, inP p b) →
 (∀ b∈refineQ p s rng n Q sp out,inP p b)∧(((∃ b∈Q,inB b a)∨∃ b∈out,inB b a)→∃ b∈refineQ p s rng n Q sp out,inB b a)
 | 0,_,_,_,hn,_,_=>by omega
 | n + 1,[],sp,out,_,_,ho=>by
   unfold refineQ
   exact ⟨ho,fun h=>h.elim (fun ⟨b,hb,_⟩=>(by cases hb)) id⟩
 | n + 1,b :: r,sp,out,hn,hQ,ho=>by
   have hbv:=hQ b (by simp)
   unfold refineQ
   by_cases h1 : (trimB p b s rng).2=false
   ·rw [if_pos h1]
    obtain ⟨i1,i2⟩:=refineQ_keeps h n r sp out (by simp at hn;omega) (fun x hx=>hQ x (by simp [hx])) ho
    refine ⟨i1,fun hc=>i2 ?_⟩
    rcases hc with ⟨x,hx,hi⟩|hc
    ·rcases List.mem_cons.1 hx with rfl|hx
     ·have:=(trim_keeps h.hp h.hb hbv hi h.ha h.hh h.hg h.ht).1
      rw [h1] at this;cases this
     ·exact .inl ⟨x,hx,hi⟩
    ·exact .inr hc
   ·rw [if_neg h1]
    have h1' : (trimB p b s rng).2=true:=by simpa using h1
    have hin:=trim_in (s:=s) (rng:=rng) h.hp hbv h1'
    by_cases h2 : sp > 0∧(split (trimB p b s rng).1).2.2=true
    ·rw [if_pos h2]
     obtain ⟨s1,s2,s3⟩:=split_in hin h2.2
     obtain ⟨i1,i2⟩:=refineQ_keeps h n (r ++ [(split (trimB p b s rng).1).1,(split (trimB p b s rng).1).2.1]) (sp - 1) out (by simp at hn ⊢;omega) (fun x hx=>by
      rcases List.mem_append.1 hx with hx|hx
      ·exact hQ x (by simp [hx])
      ·simp only [List.mem_cons,List.not_mem_nil,or_false] at hx
       rcases hx with rfl|rfl
       ·exact s1.1
       ·exact s2.1) ho
     refine ⟨i1,fun hc=>i2 ?_⟩
     rcases hc with ⟨x,hx,hi⟩|hc
     ·rcases List.mem_cons.1 hx with rfl|hx
      ·have hk:=(trim_keeps h.hp h.hb hbv hi h.ha h.hh h.hg h.ht).2
       rcases s3 a hk with hk|hk
       ·exact .inl ⟨_,by simp,hk⟩
       ·exact .inl ⟨_,by simp,hk⟩
      ·exact .inl ⟨x,by simp [hx],hi⟩
     ·exact .inr hc
    ·rw [if_neg h2]
     obtain ⟨i1,i2⟩:=refineQ_keeps h n r sp (out ++ [(trimB p b s rng).1]) (by simp at hn;omega) (fun x hx=>hQ x (by simp [hx])) (fun x hx=>by
      rcases List.mem_append.1 hx with hx|hx
      ·exact ho x hx
      ·obtain rfl:=List.mem_singleton.1 hx
       exact hin)
     refine ⟨i1,fun hc=>i2 ?_⟩
     rcases hc with ⟨x,hx,hi⟩|⟨x,hx,hi⟩
     ·rcases List.mem_cons.1 hx with rfl|hx
      ·exact .inr ⟨_,by simp,(trim_keeps h.hp h.hb hbv hi h.ha h.hh h.hg h.ht).2⟩
      ·exact .inl ⟨x,hx,hi⟩
     ·exact .inr ⟨x,by simp [hx],hi⟩
theorem refine_keeps {p p0 : Plan} {a : Pose} {rng : Int} {s : List Beam} {S : List Box} (h : Scene p p0 a rng s) (hs : Contr.vScan s = true) (hl : S.length ≤ 16) (hS : ∀ b ∈ S, vBox b = true) :
 (∀ b∈(refineR p S s rng 32).1,inP p b)∧(refineR p S s rng 32).1.length≤81∧((∃ b∈S,inB b a)→∃ b∈(refineR p S s rng 32).1,inB b a):=by
 unfold refineR
 rw [if_neg (by have:=h.hg;simp [h.hp,hs,between];omega),if_neg (by simpa using hS),if_neg (by simp [between])]
 obtain ⟨i1,i2⟩:=refineQ_keeps h (S.length + 2 * (32 : Int).toNat + 1) S 32 [] (by omega) hS (fun b hb=>(by cases hb))
 refine ⟨i1,?_,fun hc=>i2 (.inl hc)⟩
 have:=refineQ_len (p:=p) (s:=s) (rng:=rng) (S.length + 2 * (32 : Int).toNat + 1) S 32 []
 simp at this ⊢
 omega
theorem hullStep_in {a b best : Arc} {f h : Int} (h0 : inA a h ∨ inA b h) (hb : inA best h) : inA (hullStep a b best f) h := by
 unfold hullStep
 split
 ·unfold inA Heading.covers at *
  simp only
  rcases h0 with h0|h0<;>omega
 ·exact hb
theorem hullStep_v {a b best : Arc} {f : Int} (ha : vArc a = true) (hb : vArc best = true) (hf : 0 ≤ f ∧ f < 256) : vArc (hullStep a b best f) = true := by
 have h1:=vArc_iff.1 ha
 have h2:=vArc_iff.1 hb
 unfold hullStep
 split
 ·rename_i h
  refine vArc_iff.2 ?_
  simp only
  unfold Heading.covers at *
  refine ⟨hf.1,hf.2,by omega,by omega,?_⟩
  rcases h with h|h<;>omega
 ·exact hb
theorem hull_in {x y : Box} {K : Int} {p : Plan} (hx : inP p x) (hy : inP p y) (hK : K = 0) : inP p (bhull x y).1 ∧ ∀ a : Pose, inB x a ∨ inB y a → inB (bhull x y).1 a := by
 obtain ⟨x1,x2,x3⟩:=hx
 obtain ⟨y1,y2,y3⟩:=hy
 have bx:=vBox_iff.1 x1
 have by':=vBox_iff.1 y1
 have ax:=vArc_iff.1 (vBox_arc x1)
 have ay:=vArc_iff.1 (vBox_arc y1)
 simp only at ax ay
 unfold bhull
 rw [if_pos ⟨x1,y1⟩]
 unfold hull
 rw [if_pos ⟨vBox_arc x1,vBox_arc y1⟩]
 have hv0 : vArc ⟨0,256⟩ = true:=vArc_iff.2 ⟨by decide,by decide,by decide,by decide,.inl rfl⟩
 have hv : vArc (hullStep ⟨x.From,x.Count⟩ ⟨y.From,y.Count⟩ (hullStep ⟨x.From,x.Count⟩ ⟨y.From,y.Count⟩ ⟨0,256⟩ x.From) y.From)=true:=hullStep_v (vBox_arc x1) (hullStep_v (vBox_arc x1) hv0 (by omega)) (by omega)
 refine ⟨⟨vBox_iff.2 ?_,?_,?_⟩,fun a ha=>?_⟩
 ·simp only
  exact ⟨by omega,by omega,by omega,by omega,by omega,by omega,hv⟩
 ·simp only;omega
 ·simp only;omega
 ·have h0 : inA ⟨x.From,x.Count⟩ a.H∨inA ⟨y.From,y.Count⟩ a.H:=ha.imp (·.2.2) (·.2.2)
  have hA:=hullStep_in (f:=y.From) h0 (hullStep_in (f:=x.From) h0 (show inA ⟨0,256⟩ a.H by unfold inA;simp only;omega))
  unfold inB at ha ⊢
  refine ⟨?_,?_,hA⟩
  ·simp only;rcases ha with ha|ha<;>omega
  ·simp only;rcases ha with ha|ha<;>omega
theorem che_row {X : List Box} {i : Nat} {s : Che} (h : s.1 < 0 ∨ s.2.2.2 = (bhull (gt X s.1.toNat) (gt X s.2.1.toNat)).1) : ∀ k, (cheRow X i s k).1 < 0 ∨ (cheRow X i s k).2.2.2 = (bhull (gt X (cheRow X i s k).1.toNat) (gt X (cheRow X i s k).2.1.toNat)).1
 | 0=>h
 | k + 1=>by
   have ih:=che_row (X:=X) (i:=i) h k
   unfold cheRow cheStep
   split
   ·right
    simp only
    have e1 : ((i : Int)).toNat=i:=by omega
    have e2 : ((i : Int) + 1 + k).toNat=i + 1 + k:=by omega
    rw [e1,e2]
    congr 2
    simp [gt,List.getElem?_drop]
   ·exact ih
theorem che_n {X : List Box} : ∀ i, (cheN X i).1 < 0 ∨ (cheN X i).2.2.2 = (bhull (gt X (cheN X i).1.toNat) (gt X (cheN X i).2.1.toNat)).1
 | 0=>.inl (by unfold cheN;simp)
 | i + 1=>che_row (che_n i) _
theorem cheap_hull {X : List Box} (h : 2 ≤ X.length) : (cheap X).2.2.2 = (bhull (gt X (cheap X).1.toNat) (gt X (cheap X).2.1.toNat)).1 := by
 have h1:=(cheap_ok h).1
 rcases che_n (X:=X) X.length with h2|h2
 ·unfold cheap at h1;omega
 ·unfold cheap;exact h2
theorem compS_keeps {p : Plan} {most : Int} (hm : 1 ≤ most) : ∀ (f n : Nat) (Z : List Box), n ≤ Z.length → (n : Int) ≤ f + most → (∀ b ∈ Z.take n, inP p b) →
 (∀ b∈(compS most f n Z).2.take (compS most f n Z).1,inP p b)∧((compS most f n Z).1 : Int)≤max most 0∧∀ a : Pose,(∃ b∈Z.take n,inB b a)→∃ b∈(compS most f n Z).2.take (compS most f n Z).1,inB b a
 | 0,n,Z,_,hf,hZ=>by
   unfold compS
   exact ⟨hZ,by simp only;omega,fun a h=>h⟩
 | f + 1,n,Z,hn,hf,hZ=>by
   unfold compS
   by_cases h : (n : Int) > most
   ·rw [if_pos h]
    have hlen : (Z.take n).length=n:=by rw [List.length_take];omega
    obtain ⟨c1,c2,c3⟩:=cheap_ok (X:=Z.take n) (by omega)
    have ch:=cheap_hull (X:=Z.take n) (by omega)
    obtain ⟨i,hi⟩ : ∃ i : Nat,i=(cheap (Z.take n)).1.toNat:=⟨_,rfl⟩
    obtain ⟨k,hk⟩ : ∃ k : Nat,k=(cheap (Z.take n)).2.1.toNat:=⟨_,rfl⟩
    rw [← hi,← hk] at ch ⊢
    rw [ch]
    have hik : i < k∧k < n:=by omega
    have gm : ∀ j,j < n→gt (Z.take n) j∈Z.take n:=fun j hj=>gt_mem (by omega)
    obtain ⟨H1,H2⟩:=hull_in (K:=0) (hZ _ (gm i (by omega))) (hZ _ (gm k (by omega))) rfl
    generalize (bhull (gt (Z.take n) i) (gt (Z.take n) k)).1=hb at *
    have hW : (delB (Z.set i hb) n k).take (n - 1)=((Z.take n).set i hb).take k ++ ((Z.take n).set i hb).drop (k + 1):=by
     unfold delB
     have l1 : ((Z.set i hb).take k).length=k:=by rw [List.length_take,List.length_set];omega
     have l2 : (((Z.set i hb).take n).drop (k + 1)).length=n - (k + 1):=by rw [List.length_drop,List.length_take,List.length_set];omega
     rw [List.append_assoc,List.take_append_of_le_length (by rw [List.length_append];omega),List.take_of_length_le (by rw [List.length_append];omega)]
     rw [List.take_set,List.take_set]
     congr 1
     rw [List.take_set,List.take_take,Nat.min_eq_left (by omega)]
    have hlW : n - 1≤(delB (Z.set i hb) n k).length:=by
     unfold delB
     simp only [List.length_append,List.length_take,List.length_drop,List.length_set,List.length_cons,List.length_nil]
     omega
    have mem : ∀ b∈(delB (Z.set i hb) n k).take (n - 1),b=hb∨b∈Z.take n:=by
     intro b hb'
     rw [hW] at hb'
     have : b∈(Z.take n).set i hb:=by
      rcases List.mem_append.1 hb' with h|h
      ·exact List.mem_of_mem_take h
      ·exact List.mem_of_mem_drop h
     rcases List.mem_or_eq_of_mem_set this with h|h
     ·exact .inr h
     ·exact .inl h
    obtain ⟨r1,r2,r3⟩:=compS_keeps hm f (n - 1) (delB (Z.set i hb) n k) hlW (by omega) (fun b hb'=>by
     rcases mem b hb' with rfl|h
     ·exact H1
     ·exact hZ b h)
    refine ⟨r1,r2,fun a ⟨b,hb',hin⟩=>r3 a ?_⟩
    rw [hW]
    obtain ⟨j,hj,e⟩:=List.getElem_of_mem hb'
    have hjn : j < n:=by omega
    have hgj : gt (Z.take n) j=b:=by simp only [gt,List.getD_eq_getElem?_getD,List.getElem?_eq_getElem hj,e];rfl
    have l3 : ((Z.take n).set i hb).length=n:=by rw [List.length_set];exact hlen
    by_cases hji : j=i∨j=k
    ·refine ⟨hb,?_,H2 a ?_⟩
     ·refine List.mem_append.2 (.inl ?_)
      refine List.mem_of_getElem? (i:=i) ?_
      rw [List.getElem?_take,if_pos hik.1,List.getElem?_set_self (by omega)]
     ·rcases hji with rfl|rfl
      ·left;rw [hgj];exact hin
      ·right;rw [hgj];exact hin
    ·simp only [not_or] at hji
     refine ⟨b,?_,hin⟩
     have hset : ((Z.take n).set i hb)[j]? = some b:=by
      rw [List.getElem?_set_ne (by omega),List.getElem?_eq_getElem hj,e]
     rcases Nat.lt_or_ge j k with hlt|hge
     ·refine List.mem_append.2 (.inl (List.mem_of_getElem? (i:=j) ?_))
      rw [List.getElem?_take,if_pos hlt,hset]
     ·refine List.mem_append.2 (.inr (List.mem_of_getElem? (i:=j - (k + 1)) ?_))
      rw [List.getElem?_drop,show k + 1 + (j - (k + 1))=j by omega,hset]
   ·rw [if_neg h]
    exact ⟨hZ,by simp only;omega,fun a h=>h⟩
theorem comp_keeps {p : Plan} {X : List Box} (hX : ∀ b ∈ X, inP p b) (hl : X.length ≤ 256) : (∀ b ∈ compL X, inP p b) ∧ (compL X).length ≤ 16 ∧ ∀ a : Pose, (∃ b ∈ X, inB b a) → ∃ b ∈ compL X, inB b a := by
 have hv : ¬ (X.any fun b=>!vBox b)=true:=by
  simpa using fun b hb=>(hX b hb).1
 obtain ⟨r1,r2,r3⟩:=compS_keeps (p:=p) (most:=16) (by decide) X.length X.length X (Nat.le_refl _) (by omega) (by rw [List.take_length];exact hX)
 rw [List.take_length] at r3
 unfold compL compact
 rw [if_neg (by omega),if_neg hv]
 refine ⟨r1,?_,r3⟩
 rw [List.length_take]
 simp only
 omega
end Sound
end Go.Proofs.YtkflmidichikjaaGreatDoor.V
end
section
namespace Go.Proofs.YtkflmidichikjaaGreatDoor.V
open Go.RowKit
set_option maxRecDepth 100000
open Heading BoxP Drive Seg PlanP RayP Contr Grow Loc Known
namespace Sound
theorem dedup_has {α : Type} [DecidableEq α] {x : α} : ∀ {L : List α}, x ∈ L → x ∈ dedup L
 | [],h=>h
 | [_],h=>h
 | a :: b :: r,h=>by
   unfold dedup
   split
   ·rename_i e
    rcases List.mem_cons.1 h with rfl|h
    ·exact dedup_has (L:=b :: r) (by rw [e];simp)
    ·exact dedup_has (L:=b :: r) h
   ·rcases List.mem_cons.1 h with rfl|h
    ·simp
    ·exact List.mem_cons.2 (.inr (dedup_has (L:=b :: r) h))
def trueQ (p p0 : Plan) (q : List Int) : Prop := q.length = p.cells.length ∧ goodC q ∧ ∀ i, i < q.length → gt q i ≠ 0 → gt p0.cells i = gt q i
theorem trueQ_below {p p0 : Plan} {q : List Int} (hp : vPlan p = true) (hb : Below p p0) (h : trueQ p p0 q) : vPlan ⟨p.W, p.H, q⟩ = true ∧ Below ⟨p.W, p.H, q⟩ p0 := by
 obtain ⟨h1,h2,h3⟩:=h
 exact ⟨good_vPlan hp h1 h2,hb.1,hb.2.1,by rw [hb.2.2.1];exact h1.symm,hb.2.2.2.1,h3⟩
theorem trueQ_set {p p0 : Plan} {q : List Int} {i : Nat} {v : Int} (h : trueQ p p0 q) (hv : v = 1 ∨ v = 2) (hi : i < q.length → gt p0.cells i = v) : trueQ p p0 (q.set i v) := by
 obtain ⟨h1,h2,h3⟩:=h
 refine ⟨by rw [List.length_set];exact h1,fun j hj=>?_,fun j hj h0=>?_⟩
 ·rw [List.length_set] at hj
  rw [gt_set']
  split
  ·omega
  ·exact h2 j hj
 ·rw [List.length_set] at hj
  rw [gt_set'] at h0 ⊢
  split at h0
  ·rename_i e
   rw [if_pos e]
   obtain ⟨rfl,_⟩:=e
   exact hi hj
  ·rename_i e
   rw [if_neg e]
   exact h3 j hj h0
def full (p0 : Plan) : Prop := vPlan p0 = true ∧ ∀ c, at_ p0 c = 1 ∨ at_ p0 c = 2
theorem at_idx {p p0 : Plan} {c : Cell} {x : Int} (hv : vPlan p0 = true) (hb : Below p p0) (hin : insideP p c = true) (h : at_ p0 c = x) : gt p0.cells (idxC p c) = x := by
 have hi : insideP p0 c=true:=by unfold insideP at hin ⊢;rw [hb.1,hb.2.1];exact hin
 unfold at_ at h
 rw [if_pos hv,if_pos hi] at h
 unfold idxC
 rw [← hb.1]
 exact h
theorem inside_of {p : Plan} {c : Cell} (h1 : between c.X 0 (p.W - 1) = true) (h2 : between c.Y 0 (p.H - 1) = true) : insideP p c = true := by
 rw [between_iff] at h1 h2
 unfold insideP
 simp only [Bool.and_eq_true,decide_eq_true_eq]
 omega
theorem pair_in {S : List Box} {a : Pose} {b : Beam} {x : Box} (hx : x ∈ S) (hv : vBox x = true) (hi : inB x a) (hh : 0 ≤ a.H ∧ a.H < 256) : (⟨x, beam a.H b.Mark⟩ : KPair) ∈ directedL S b := by
 unfold directedL
 refine List.mem_flatMap.2 ⟨x,hx,?_⟩
 unfold dirB
 exact List.mem_map.2 ⟨a.H,list_mem (vBox_arc hv) hi.2.2 hh,rfl⟩
theorem proven_true {p p0 : Plan} {a : Pose} {rng : Int} {s : List Beam} {S : List Box} {b : Beam} {c : Cell} (h : Scene p p0 a rng s) (hf : full p0) (hS : ∀ x ∈ S, inP p x) (hc : ∃ x ∈ S, inB x a) (hb : b ∈ s) (hm : c ∈ provenK p S b rng) : insideP p c = true ∧ at_ p0 c = 1 := by
 obtain ⟨t1,t2,t3⟩:=h.ht b hb
 have hg:=h.hg
 obtain ⟨w1,w2,_,_⟩:=vPlan_iff.1 h.hp
 have hfar : farK b rng≤1024:=by
  unfold farK
  split
  ·omega
  ·rename_i h0
   have:=(t3 h0).1
   omega
 unfold provenK at hm
 split at hm
 ·cases hm
 rename_i h0
 obtain ⟨m1,m2⟩:=List.mem_filter.1 hm
 unfold freeB at m2
 simp only [Bool.and_eq_true] at m2
 obtain ⟨⟨k1,k2⟩,k3⟩:=m2
 have hin:=inside_of k1 k2
 refine ⟨hin,?_⟩
 obtain ⟨x,hx,hi⟩:=hc
 have hpair:=pair_in (b:=b) hx (hS x hx).1 hi h.hh
 have k4 : passesK ⟨x,beam a.H b.Mark⟩ (squareP c).1 (farK b rng)=true:=by
  simp only [Bool.not_eq_true',List.any_eq_false] at k3
  simpa using k3 _ hpair
 have hcb : (0≤c.X∧c.X≤64)∧(0≤c.Y∧c.Y≤64):=by
  rw [between_iff] at k1 k2
  omega
 have hsq : (squareP c).1=sqC c:=by
  unfold squareP
  rw [if_pos ⟨Drive.within_iff.2 (by omega),Drive.within_iff.2 (by omega)⟩]
 have hs : sRect (sqC c)=true:=sqC_near (by omega)
 obtain ⟨v1,v2,v3⟩:=hS x hx
 have vB:=vBox_iff.1 v1
 unfold passesK bcorners at k4
 simp only [v1,if_true,hsq,List.any_cons,List.any_nil,Bool.or_false,Bool.not_eq_true',Bool.or_eq_false_iff,Bool.not_eq_false'] at k4
 obtain ⟨a1,a2,a3,a4⟩:=k4
 have q1 : sPoint ⟨x.X0,x.Y0⟩ = true:=sPoint_iff.2 (by simp only;omega)
 have q2 : sPoint ⟨x.X1,x.Y0⟩ = true:=sPoint_iff.2 (by simp only;omega)
 have q3 : sPoint ⟨x.X0,x.Y1⟩ = true:=sPoint_iff.2 (by simp only;omega)
 have q4 : sPoint ⟨x.X1,x.Y1⟩ = true:=sPoint_iff.2 (by simp only;omega)
 rw [before_iff q1 (beam_v _ _) hs (by omega) (by omega)] at a1
 rw [before_iff q2 (beam_v _ _) hs (by omega) (by omega)] at a2
 rw [before_iff q3 (beam_v _ _) hs (by omega) (by omega)] at a3
 rw [before_iff q4 (beam_v _ _) hs (by omega) (by omega)] at a4
 have hbef : befQ ⟨a.X,a.Y⟩ (beam a.H b.Mark) (farK b rng) (sqC c):=bef_all (q:=⟨x.X0,x.Y0,x.X1,x.Y1⟩) (p:=⟨a.X,a.Y⟩) ⟨hi.1,hi.2.1⟩ a1 a2 a3 a4
 rcases hf.2 c with hw|hw
 ·exact hw
 ·exfalso
  unfold farK at hbef
  split at hbef
  ·rename_i h1
   obtain ⟨n,d,e1,e2,e3,e4⟩:=hbef
   refine t2 h1 c hw ⟨n,d,e1,e2,?_,Int.le_of_lt e3,e4⟩
   rw [Int.zero_mul]
   exact Int.mul_nonneg e2 (by have:=(vVec_iff.1 (beam_v a.H b.Mark)).1;omega)
  ·rename_i h1
   exact (t3 h1).2.1 c hw hbef
theorem free_true {p p0 : Plan} (hp : vPlan p = true) (hb : Below p p0) (hf : full p0) : ∀ {L : List Cell} {q : List Int}, (∀ c ∈ L, insideP p c = true ∧ at_ p0 c = 1) → trueQ p p0 q → ∃ q', freeL p L q = some q' ∧ trueQ p p0 q'
 | [],q,_,hq=>⟨q,by unfold freeL;rfl,hq⟩
 | c :: r,q,hL,hq=>by
   obtain ⟨c1,c2⟩:=hL c (by simp)
   have e:=at_idx hf.1 hb c1 c2
   unfold freeL
   have hn : ¬ gt q (idxC p c)=2:=by
    intro h
    by_cases hlt : idxC p c < q.length
    ·have:=hq.2.2 _ hlt (by omega)
     omega
    ·simp [gt,List.getElem?_eq_none (Nat.le_of_not_lt hlt)] at h
   rw [if_neg hn]
   exact free_true hp hb hf (fun x hx=>hL x (by simp [hx])) (trueQ_set hq (.inl rfl) fun _=>e)
theorem suspect_has {p p0 : Plan} {a : Pose} {rng : Int} {s : List Beam} {S : List Box} {b : Beam} (h : Scene p p0 a rng s) (hS : ∀ x ∈ S, inP p x) (hc : ∃ x ∈ S, inB x a) (hb : b ∈ s) (hr : b.Reading ≠ -1) (htk : taughtK S = true) : ∃ c, at_ p0 c = 2 ∧ c ∈ suspectsK S b rng := by
 obtain ⟨t1,t2,t3⟩:=h.ht b hb
 obtain ⟨r1,r2,c,hw,hm⟩:=t3 hr
 have hg:=h.hg
 obtain ⟨w1,w2,_,_⟩:=vPlan_iff.1 h.hp
 refine ⟨c,hw,?_⟩
 obtain ⟨x,hx,hi⟩:=hc
 obtain ⟨v1,v2,v3⟩:=hS x hx
 have vB:=vBox_iff.1 v1
 have hwide : wideB x=false:=by
  unfold taughtK at htk
  simp only [Bool.and_eq_true,Bool.not_eq_true',List.any_eq_false] at htk
  simpa using htk.2 x hx
 unfold wideB at hwide
 simp only [Bool.or_eq_false_iff,decide_eq_false_iff_not] at hwide
 unfold suspectsK
 rw [if_neg (by simp [hr,htk])]
 refine dedup_has ((isort_perm _).mem_iff.2 (List.mem_flatMap.2 ⟨⟨x,beam a.H b.Mark⟩,pair_in hx v1 hi h.hh,?_⟩))
 unfold susB rectangle
 simp only [v1,if_true]
 unfold sweptL
 have hvr : vRect ⟨x.X0,x.Y0,x.X1,x.Y1⟩ = true:=by
  unfold vRect
  simp only [Bool.and_eq_true,decide_eq_true_eq,vPoint_iff]
  omega
 rw [if_neg (by simp [hvr,beam_v]),if_neg (by omega),if_neg (by simp only;omega)]
 exact sweep_mem (p:=⟨a.X,a.Y⟩) (by simp only;omega) (beam_v _ _) (by omega) (by omega) (by omega) ⟨hi.1,hi.2.1⟩ hm
theorem wall_true {p p0 : Plan} {a : Pose} {rng : Int} {s : List Beam} {S : List Box} (h : Scene p p0 a rng s) (hf : full p0) (hS : ∀ x ∈ S, inP p x) (hc : ∃ x ∈ S, inB x a) (htk : taughtK S = true) : ∀ {l : List Beam} {q : List Int}, (∀ b ∈ l, b ∈ s) → trueQ p p0 q → ∃ q', wallL p S rng l q = some q' ∧ trueQ p p0 q'
 | [],q,_,hq=>⟨q,by unfold wallL;rfl,hq⟩
 | b :: r,q,hl,hq=>by
   unfold wallL
   split
   ·exact wall_true h hf hS hc htk (fun x hx=>hl x (by simp [hx])) hq
   ·rename_i hr
    obtain ⟨c0,hw,hm⟩:=suspect_has h hS hc (hl b (by simp)) hr htk
    obtain ⟨hv,hbq⟩:=trueQ_below h.hp h.hb hq
    have hmem : c0∈(suspectsK S b rng).filter fun c=>!(at_ ⟨p.W,p.H,q⟩ c == 1):=by
     refine List.mem_filter.2 ⟨hm,?_⟩
     simp only [Bool.not_eq_true',beq_eq_false_iff_ne,ne_eq]
     intro h1
     have:=at_below hv hbq h1 (by omega)
     omega
    cases hF : (suspectsK S b rng).filter fun c=>!(at_ ⟨p.W,p.H,q⟩ c == 1) with
    | nil=>rw [hF] at hmem;cases hmem
    | cons c l =>
      simp only
      refine wall_true h hf hS hc htk (fun x hx=>hl x (by simp [hx])) ?_
      split
      ·rename_i hcond
       obtain ⟨e1,e2,e3⟩:=hcond
       rw [hF,e1] at hmem
       obtain rfl:=List.mem_singleton.1 hmem
       exact trueQ_set hq (.inr rfl) fun _=>at_idx hf.1 h.hb (inside_of e2 e3) hw
      ·exact hq
theorem learn_true {p p0 : Plan} {a : Pose} {rng : Int} {s : List Beam} {S : List Box} (h : Scene p p0 a rng s) (hf : full p0) (hg : goodC p.cells) (hs : Contr.vScan s = true) (hl : S.length ≤ 16) (hS : ∀ x ∈ S, inP p x) (hc : ∃ x ∈ S, inB x a) :
 (learnK p S s rng).2=0∧vPlan (learnK p S s rng).1=true∧Below (learnK p S s rng).1 p0∧(learnK p S s rng).1.W=p.W∧(learnK p S s rng).1.H=p.H∧goodC (learnK p S s rng).1.cells:=by
 have hr : rightK p S s rng=true:=by
  obtain ⟨x,hx,_⟩:=hc
  have hsv:=vScan_iff.1 hs
  refine right_iff.2 ⟨h.hp,List.length_pos_of_mem hx,vSet_iff.2 ⟨hl,fun b hb=>(hS b hb).1⟩,by omega,fun b hb=>?_,?_⟩
  ·exact hsv.1 b hb
  ·exact between_iff.2 h.hg
 have hq0 : trueQ p p0 p.cells:=⟨rfl,hg,h.hb.2.2.2.2⟩
 unfold learnK
 rw [if_pos hr]
 by_cases htk : taughtK S=true
 ·rw [if_pos htk]
  obtain ⟨q1,e1,t1⟩:=free_true h.hp h.hb hf (L:=allK p S s rng) (q:=p.cells) (fun c hcm=>by
   unfold allK at hcm
   rw [if_pos htk] at hcm
   have:=(isort_perm _).mem_iff.1 (dedup_mem hcm)
   obtain ⟨b,hb,hcb⟩:=List.mem_flatMap.1 this
   exact proven_true h hf hS hc hb hcb) hq0
  obtain ⟨q2,e2,t2⟩:=wall_true h hf hS hc htk (l:=s) (q:=q1) (fun b hb=>hb) t1
  rw [e1]
  simp only
  rw [e2]
  simp only
  obtain ⟨v,b⟩:=trueQ_below h.hp h.hb t2
  exact ⟨trivial,v,b,trivial,trivial,t2.2.1⟩
 ·rw [if_neg htk]
  exact ⟨rfl,h.hp,h.hb,rfl,rfl,hg⟩
end Sound
end Go.Proofs.YtkflmidichikjaaGreatDoor.V
end
section
namespace Go.Proofs.YtkflmidichikjaaGreatDoor.V
open Go.RowKit
set_option maxRecDepth 100000
open Heading BoxP Drive Pred RobotP Loc
namespace Sound
theorem dirs_unit (h : Int) : -(dir h).D ≤ (dir h).X ∧ (dir h).X ≤ (dir h).D ∧ -(dir h).D ≤ (dir h).Y ∧ (dir h).Y ≤ (dir h).D := by
 have all : ∀ i : _root_.Fin 256,-(dir (i.val : Int)).D≤(dir (i.val : Int)).X∧(dir (i.val : Int)).X≤(dir (i.val : Int)).D∧-(dir (i.val : Int)).D≤(dir (i.val : Int)).Y∧(dir (i.val : Int)).Y≤(dir (i.val : Int)).D:=by decide +kernel
 have e : dir h=dir (((h % 256).toNat : Nat) : Int):=by
  unfold dir
  rw [show (((h % 256).toNat : Nat) : Int) % 256=h % 256 by omega]
 rw [e]
 exact all ⟨(h % 256).toNat,by omega⟩
theorem ahead_len {h n N : Int} (hn : n ≤ N) (hN : 0 ≤ N) : (-N ≤ (aheadP h n).X ∧ (aheadP h n).X ≤ N) ∧ (-N ≤ (aheadP h n).Y ∧ (aheadP h n).Y ≤ N) := by
 have hd:=dirs_unit h
 have hD:=dir_bnd h
 have key : ∀ x : Int,-(dir h).D≤x→x≤(dir h).D→-N≤max 0 n * x / (dir h).D∧max 0 n * x / (dir h).D≤N:=by
  intro x h1 h2
  have hm : 0≤max 0 n∧max 0 n≤N:=by omega
  generalize max 0 n=m at *
  have e1 : m * x≤m * (dir h).D:=Int.mul_le_mul_of_nonneg_left h2 hm.1
  have e2 : m * -(dir h).D≤m * x:=Int.mul_le_mul_of_nonneg_left h1 hm.1
  have e3:=Int.ediv_le_ediv (c:=(dir h).D) (by omega) e1
  have e4:=Int.ediv_le_ediv (c:=(dir h).D) (by omega) e2
  rw [Int.mul_ediv_cancel _ (by omega)] at e3
  rw [Int.mul_neg,← Int.neg_mul,Int.mul_ediv_cancel _ (by omega)] at e4
  omega
 unfold aheadP
 exact ⟨key _ hd.1 hd.2.1,key _ hd.2.2.1 hd.2.2.2⟩
def near (K : Int) (r : Rect) : Prop := (-K ≤ r.X0 ∧ r.X0 ≤ r.X1 ∧ r.X1 ≤ K) ∧ (-K ≤ r.Y0 ∧ r.Y0 ≤ r.Y1 ∧ r.Y1 ≤ K)
theorem reach_near {c : Command} {bd : Bounds} {h : Int} (hc : vCmd c = true) (hb : vBounds bd = true) : near 56 (reach c bd h).1 := by
 have hC:=vCmd_iff.1 hc
 have hB:=vBounds_iff.1 hb
 unfold reach
 rw [if_neg (by simp [hc,hb])]
 split
 ·unfold near;simp
 ·split
  ·unfold near;simp
  ·have e1:=ahead_len (h:=h) (n:=c.Forward - bd.Length) (N:=48) (by omega) (by omega)
   have e2:=ahead_len (h:=h) (n:=c.Forward + bd.Length) (N:=48) (by omega) (by omega)
   unfold near
   simp only
   omega
theorem reachN_near {c : Command} {bd : Bounds} {L : List Int} (hc : vCmd c = true) (hb : vBounds bd = true) : ∀ i, near 56 (reachN c bd L i)
 | 0=>by unfold reachN near;simp
 | i + 1=>by
   have h1:=reach_near (h:=gt L i) hc hb
   have h2:=reachN_near (L:=L) hc hb i
   unfold reachN
   have h3 : near 56 (if i=0 then (reach c bd (gt L i)).1 else reachN c bd L i):=by
    split
    ·exact h1
    ·exact h2
   unfold near hullR at *
   simp only
   omega
def calm (K : Int) (b : Box) : Prop := vBox b = true ∧ (-K ≤ b.X0 ∧ b.X1 ≤ K) ∧ (-K ≤ b.Y0 ∧ b.Y1 ≤ K)
theorem image_ok {b : Box} {c : Command} {bd : Bounds} {K : Int} (hk : 0 ≤ K ∧ K ≤ 1000000) (hv : calm K b) (hc : vCmd c = true) (hb : vBounds bd = true) : (imageP b c bd).2 = 0 ∧ calm (K + 56) (imageP b c bd).1 := by
 obtain ⟨hv,hx,hy⟩:=hv
 have hB:=vBounds_iff.1 hb
 have hA:=vArc_iff.1 (vBox_arc hv)
 have hvb:=vBox_iff.1 hv
 have ha : vArc (turnedA b c.Turn bd.Turn)=true:=by
  unfold turnedA
  have h1 : vArc (shift ⟨b.From,b.Count⟩ c.Turn).1=true:=by
   unfold shift
   rw [if_pos (vBox_arc hv)]
   exact arc_v hA.2.2.1
  have h2:=vArc_iff.1 h1
  unfold grow
  rw [if_pos h1,if_neg (by omega)]
  exact arc_v (by omega)
 have hr : near 56 (reachA c bd (turnedA b c.Turn bd.Turn)):=by unfold reachA;exact reachN_near hc hb _
 unfold imageP
 rw [if_pos (by simp [hv,hc,hb])]
 generalize turnedA b c.Turn bd.Turn=a at *
 generalize reachA c bd a=r at *
 unfold near at hr
 have hq : vBox { b with From:=a.From,Count:=a.Count } = true:=vBox_iff.2 ⟨hvb.1,hvb.2.1,hvb.2.2.1,hvb.2.2.2.1,hvb.2.2.2.2.1,hvb.2.2.2.2.2.1,ha⟩
 unfold movedB bmove
 rw [if_neg (by rw [hq];simp;omega),if_neg (by simp [far2];omega),if_neg (by simp [far];omega)]
 refine ⟨rfl,vBox_iff.2 ?_,?_⟩
 ·simp only
  exact ⟨by omega,by omega,by omega,by omega,by omega,by omega,ha⟩
 ·simp only
  omega
theorem mapE_all {α β : Type} {f : α → β × Int} : ∀ {L : List α} {i : Nat}, (∀ x ∈ L, (f x).2 = 0) → mapE (fun _ => f) L i = (L.map fun x => (f x).1, 0)
 | [],_,_=>by unfold mapE;rfl
 | x :: r,i,h=>by
   have h1:=h x (by simp)
   have h2:=mapE_all (f:=f) (L:=r) (i:=i + 1) fun y hy=>h y (by simp [hy])
   unfold mapE
   rw [if_neg (by simp [h1]),h2]
   simp
def cmdB (c : Command) (bump : Bool) : Command := if bump then ⟨c.Turn, 0⟩ else c
theorem cmdB_v {c : Command} {bump : Bool} (h : vCmd c = true) : vCmd (cmdB c bump) = true := by
 have:=vCmd_iff.1 h
 unfold cmdB
 split
 ·exact vCmd_iff.2 ⟨this.1,by simp⟩
 ·exact h
theorem boxes_ok {S : List Box} {c : Command} {bd : Bounds} {bump : Bool} {K : Int} (hk : 0 ≤ K ∧ K ≤ 1000000) (hl : S.length ≤ 16) (hS : ∀ b ∈ S, calm K b) (hc : vCmd c = true) (hb : vBounds bd = true) :
 boxesP S c bd bump=(S.map fun b=>(imageP b (cmdB c bump) bd).1,0):=by
 unfold boxesP
 rw [if_neg (by simp [hc,hb];omega),if_neg (by simpa using fun b hb'=>(hS b hb').1)]
 exact mapE_all fun b hb'=>(image_ok hk (hS b hb') (cmdB_v hc) hb).1
def movedP (P : Pose) (c : Command) (e : Slip) : Pose :=
 ⟨P.X + (if c.Forward=0 then 0 else (aheadP ((P.H + c.Turn + e.Turn) % 256) (c.Forward + e.Length)).X + e.X),P.Y + (if c.Forward=0 then 0 else (aheadP ((P.H + c.Turn + e.Turn) % 256) (c.Forward + e.Length)).Y + e.Y),(P.H + c.Turn + e.Turn) % 256⟩
theorem move_in {S : List Box} {P : Pose} {c : Command} {bd : Bounds} {e : Slip} {bump : Bool} {K : Int} (hk : 0 ≤ K ∧ K ≤ 1000000) (hl : S.length ≤ 16) (hS : ∀ b ∈ S, calm K b) (hc : vCmd c = true) (hb : vBounds bd = true) (he : fits bd e) (hi : ∃ b ∈ S, inB b P) :
 (boxesP S c bd bump).2=0∧(boxesP S c bd bump).1.length=S.length∧(∀ b∈(boxesP S c bd bump).1,calm (K + 56) b)∧∃ b∈(boxesP S c bd bump).1,inB b (movedP P (cmdB c bump) e):=by
 rw [boxes_ok hk hl hS hc hb]
 refine ⟨rfl,by simp,fun b hb'=>?_,?_⟩
 ·obtain ⟨x,hx,rfl⟩:=List.mem_map.1 hb'
  exact (image_ok hk (hS x hx) (cmdB_v hc) hb).2
 ·obtain ⟨b,hb',hi⟩:=hi
  exact ⟨_,List.mem_map.2 ⟨b,hb',rfl⟩,(image_in (hS b hb').1 (cmdB_v hc) hb he hi (image_ok hk (hS b hb') (cmdB_v hc) hb).1).1⟩
end Sound
end Go.Proofs.YtkflmidichikjaaGreatDoor.V
end
