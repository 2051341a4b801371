import Derived.Test.YtkflmidichikjaaGreatDoorZbQ37
import Derived.Test.YtkflmidichikjaaGreatDoorZbQ36
import Derived.Test.YtkflmidichikjaaGreatDoorZbQ33
import Derived.Test.YtkflmidichikjaaGreatDoorZbQ27
set_option linter.all false
section
namespace Go.Proofs.YtkflmidichikjaaGreatDoor.V
open Go.RowKit
set_option maxRecDepth 100000
open Heading BoxP Drive Seg PlanP RayP Contr Grow Loc Known
namespace Sound
def stands (p : Plan) (a : Pose) : Prop := ((0 ≤ a.X ∧ a.X ≤ 64 * p.W) ∧ (0 ≤ a.Y ∧ a.Y ≤ 64 * p.H)) ∧ 0 ≤ a.H ∧ a.H < 256
theorem gap_0 {p : Point} {r : Rect} (h : (r.X0 ≤ p.X ∧ p.X ≤ r.X1) ∧ (r.Y0 ≤ p.Y ∧ p.Y ≤ r.Y1)) : gap p r = 0 := by
 unfold gap beside
 split
 ·rw [show max (max (r.X0 - p.X) 0) (p.X - r.X1)=0 by omega,show max (max (r.Y0 - p.Y) 0) (p.Y - r.Y1)=0 by omega]
  rfl
 ·rfl
theorem touch_to {a b : Point} {r : Rect} (ha : sPoint a = true) (hb : sPoint b = true) (hr : sRect r = true) (hn : (-1024 ≤ b.X - a.X ∧ b.X - a.X ≤ 1024) ∧ (-1024 ≤ b.Y - a.Y ∧ b.Y - a.Y ≤ 1024)) (h : (r.X0 ≤ b.X ∧ b.X ≤ r.X1) ∧ (r.Y0 ≤ b.Y ∧ b.Y ≤ r.Y1)) : touch a b r 20 = true := by
 unfold touch
 rw [if_neg (by simp [ha,hb,hr]),if_neg (by unfold beside;omega),if_pos (.inr (.inr (by rw [gap_0 h];decide)))]
theorem free_in {p : Plan} {a b : Point} (hp : vPlan p = true) (ha : (0 ≤ a.X ∧ a.X ≤ 64 * p.W) ∧ (0 ≤ a.Y ∧ a.Y ≤ 64 * p.H)) (hn : (-1024 ≤ b.X - a.X ∧ b.X - a.X ≤ 1024) ∧ (-1024 ≤ b.Y - a.Y ∧ b.Y - a.Y ≤ 1024)) (h : blockedD p a b = false) : (0 ≤ b.X ∧ b.X ≤ 64 * p.W) ∧ (0 ≤ b.Y ∧ b.Y ≤ 64 * p.H) := by
 obtain ⟨w1,w2,_,_⟩:=vPlan_iff.1 hp
 unfold blockedD at h
 split at h
 ·cases h
 split at h
 ·cases h
 simp only [Bool.not_eq_false',List.isEmpty_iff] at h
 have key : ¬ (b.X < 0∨64 * p.W < b.X∨b.Y < 0∨64 * p.H < b.Y):=by
  intro ho
  have hm : (⟨b.X / 64,b.Y / 64⟩ : Cell)∈gridL (hitB p a b) (blX a.X b.X) (blX a.Y b.Y):=by
   refine mem_gridL.2 ⟨?_,by unfold blX;simp only;omega,by unfold blX;simp only;omega⟩
   have ht:=touch_to (a:=a) (b:=b) (r:=sqC ⟨b.X / 64,b.Y / 64⟩) (sPoint_iff.2 (by omega)) (sPoint_iff.2 (by omega)) (sqC_near (by simp only;omega)) hn (by rw [sqC_eq];simp only;omega)
   have hi : openC p ⟨b.X / 64,b.Y / 64⟩ = false:=by
    unfold openC
    simp only [Bool.and_eq_false_iff,decide_eq_false_iff_not]
    left
    omega
   have hsb : sqB ⟨b.X / 64,b.Y / 64⟩ = sqC ⟨b.X / 64,b.Y / 64⟩:=by
    rw [sqC_eq]
    unfold sqB
    rw [Int.add_mul,Int.add_mul,Int.one_mul]
   unfold hitB
   rw [hsb]
   simp [ht,hi]
  rw [h] at hm
  cases hm
 omega
theorem next_eq {P : Pose} {p : Plan} {c : Command} {bd : Bounds} {e : Slip} (hp : vPlan p = true) (hs : stands p P) (hc : vCmd c = true) (hb : vBounds bd = true) (he : fits bd e) : next P c e = (movedP P c e, 0) ∧ (-1024 ≤ (movedP P c e).X - P.X ∧ (movedP P c e).X - P.X ≤ 1024) ∧ (-1024 ≤ (movedP P c e).Y - P.Y ∧ (movedP P c e).Y - P.Y ≤ 1024) := by
 obtain ⟨w1,w2,_,_⟩:=vPlan_iff.1 hp
 obtain ⟨⟨s1,s2⟩,s3⟩:=hs
 have hC:=vCmd_iff.1 hc
 have hB:=vBounds_iff.1 hb
 obtain ⟨e1,e2,e3,e4⟩:=he
 have ha:=ahead_len (h:=(P.H + c.Turn + e.Turn) % 256) (n:=c.Forward + e.Length) (N:=48) (by omega) (by omega)
 unfold next movedP
 rw [if_neg (by simp [hc,vPose_iff];omega),if_neg (by simp [within_iff,Drive.within,between];omega)]
 by_cases h0 : c.Forward=0
 ·rw [if_pos h0]
  simp only [if_pos h0,Int.add_zero]
  exact ⟨trivial,by omega,by omega⟩
 ·rw [if_neg h0]
  simp only [if_neg h0]
  rw [if_pos (vPoint_iff.2 (by simp only;omega))]
  exact ⟨rfl,by omega,by omega⟩
theorem step_eq {P : Pose} {p : Plan} {c : Command} {bd : Bounds} {e : Slip} (hp : vPlan p = true) (hk : ¬ cntP p 0 > 0) (hs : stands p P) (hc : vCmd c = true) (hb : vBounds bd = true) (he : fits bd e) :
 (stepD p P c e).1=movedP P (cmdB c (stepD p P c e).2.1) e∧stands p (stepD p P c e).1∧(stepD p P c e).2.2=0:=by
 obtain ⟨hn,hx,hy⟩:=next_eq hp hs hc hb he
 unfold stepD
 rw [if_neg (by simp [hp]),if_neg hk,hn]
 simp only
 rw [if_neg (by simp)]
 have hH : 0≤(movedP P c e).H∧(movedP P c e).H < 256:=by unfold movedP;simp only;omega
 by_cases hbk : c.Forward > 0∧blockedD p ⟨P.X,P.Y⟩ ⟨(movedP P c e).X,(movedP P c e).Y⟩ = true
 ·rw [if_pos hbk]
  refine ⟨?_,⟨hs.1,hH⟩,rfl⟩
  unfold cmdB movedP
  simp
 ·rw [if_neg hbk]
  refine ⟨by simp [cmdB],⟨?_,hH⟩,rfl⟩
  by_cases h0 : c.Forward=0
  ·have : (movedP P c e).X=P.X∧(movedP P c e).Y=P.Y:=by
    unfold movedP
    simp [h0]
   rw [this.1,this.2]
   exact hs.1
  ·have hC:=vCmd_iff.1 hc
   have hbf : blockedD p ⟨P.X,P.Y⟩ ⟨(movedP P c e).X,(movedP P c e).Y⟩ = false:=by
    cases hbb : blockedD p ⟨P.X,P.Y⟩ ⟨(movedP P c e).X,(movedP P c e).Y⟩ with
    | false=>rfl
    | true=>exact (hbk ⟨by omega,hbb⟩).elim
   exact free_in (a:=⟨P.X,P.Y⟩) hp hs.1 ⟨hx,hy⟩ hbf
end Sound
end Go.Proofs.YtkflmidichikjaaGreatDoor.V
end
section
namespace Go.Proofs.YtkflmidichikjaaGreatDoor.V
open Go.RowKit
set_option maxRecDepth 100000
open Heading BoxP Drive PlanP Known Contr Loc Jou Atl RobotP Mon Mot Sys Grow
namespace Sys
structure okN (n : Nat) (S : SS) : Prop where
 (h1 : S.rob.p.cells.length≤1000000000) (h2 : S.marks.length≤32) (h3 : S.marks.any wrongM=false) (h4 : 0≤S.rob.n∧S.rob.n≤n) (h5 : 0≤S.rob.bumps∧S.rob.bumps≤n)
 (h6 : S.ft.set.length≤1000000000) (h7 : vPlan S.ft.p=true) (h7' : goodC S.ft.p.cells) (h8 : 0≤S.mon.age∧S.mon.age≤1073741824) (h9 : S.je.length≤n)
 (h10 : 1≤S.every) (h11 : 0≤S.ticks∧S.ticks≤n) (h12 : 0≤S.scans) (h13 : ∀ k,S.scans≤k→lkM S.sc k=none∧lkM S.pl k=none) (h15 : lastE S.je≤S.rob.n) (h16 : S.vis.length≤n)
theorem plan_len {p : Plan} (h : vPlan p = true) : p.cells.length ≤ 4096 := by
 obtain ⟨h1,h2,h3,_⟩:=vPlan_iff.1 h
 have:=wh_bnd h1 h2
 omega
theorem okN.ok {n : Nat} {S : SS} (h : okN n S) (hn : n ≤ 1000000) : okS S := by
 obtain ⟨h1,h2,h3,h4,h5,h6,h7,h7',h8,h9,h10,h11,h12,h13,h15,h16⟩:=h
 have:=plan_len h7
 exact ⟨h1,h2,h3,by omega,by omega,h6,by omega,h8,by omega,h10,by omega,h12,(h13 _ (Int.le_refl _)).1,(h13 _ (Int.le_refl _)).2,by omega⟩
theorem lastE_app {L : List Evt} {e : Evt} : lastE (L ++ [e]) = e.tick := by
 unfold lastE
 rw [if_neg (by simp)]
 simp [gt]
theorem st_len {α : Type} {κ : Type} [DecidableEq κ] {m : List (κ × α)} {k : κ} {v : α} : (stM m k v).length ≤ m.length + 1 := by
 cases h : ixM m k with
 | none=>rw [ixM_none v h];simp
 | some p=>rw [(ixM_some v h).2];simp
theorem doR_p {R : Rob} {c : Command} {s : Slip} : (doR R c s).p = R.p := by unfold doR; rfl
theorem doR_n {R : Rob} {c : Command} {s : Slip} : (doR R c s).n = R.n + 1 := by unfold doR; rfl
theorem doR_b {R : Rob} {c : Command} {s : Slip} : R.bumps ≤ (doR R c s).bumps ∧ (doR R c s).bumps ≤ R.bumps + 1 := by
 unfold doR
 simp only
 split<;>omega
theorem mon_age {S : SS} {i : Inp} (h : 0 ≤ S.mon.age ∧ S.mon.age ≤ 1073741824) : 0 ≤ (monT S i).age ∧ (monT S i).age ≤ 1073741824 := by
 unfold monT obs
 simp only
 cases scanS S.every (S.ticks + 1 - 1)
 ·simp only [cond_false];omega
 ·simp only [cond_true];omega
theorem rec_keeps {sc : List (Int × List Beam)} {pl : List (Int × Pl)} {n : Int} {F : Filt} {s : List Beam} (h0 : 0 ≤ n) (h : ∀ k, n ≤ k → lkM sc k = none ∧ lkM pl k = none) :
 0≤(recordP sc pl n F s).2.2∧∀ k,(recordP sc pl n F s).2.2≤k→lkM (recordP sc pl n F s).1 k=none∧lkM (recordP sc pl n F s).2.1 k=none:=by
 unfold recordP
 split
 ·exact ⟨h0,h⟩
 ·refine ⟨by simp only;omega,fun k hk=>?_⟩
  simp only at hk ⊢
  obtain ⟨e1,e2⟩:=h k (by omega)
  have hne : k ≠ n:=by omega
  refine ⟨?_,?_⟩
  ·unfold putA
   split
   ·exact e1
   ·split
    ·exact e1
    ·rw [lkM_st,if_neg hne];exact e1
  ·split
   ·unfold placeA
    split
    ·exact e2
    ·split
     ·exact e2
     ·rw [lkM_st,if_neg hne];exact e2
   ·exact e2
theorem tick_keeps {n : Nat} {S : SS} {i : Inp} (h : okN n S) : okN (n + 1) (tickT S i) := by
 obtain ⟨h1,h2,h3,h4,h5,h6,h7,h7',h8,h9,h10,h11,h12,h13,h15,h16⟩:=h
 have hf : Below S.ft.p (filtG S i (cmdT S i) (scanT S)).p:=follow_below h7 h7'
 have hr : 0≤(recG S i (cmdT S i) (scanT S)).2.2∧∀ k,(recG S i (cmdT S i) (scanT S)).2.2≤k→lkM (recG S i (cmdT S i) (scanT S)).1 k=none∧lkM (recG S i (cmdT S i) (scanT S)).2.1 k=none:=by
  unfold recG
  split
  ·exact rec_keeps h12 h13
  ·exact ⟨h12,h13⟩
 have hv : (visG S (filtG S i (cmdT S i) (scanT S))).length≤S.vis.length + 1:=by
  unfold visG
  split
  ·exact st_len
  ·exact Nat.le_succ _
 have hb:=doR_b (R:=S.rob) (c:=cmdT S i) (s:=i.slip)
 refine ⟨?_,h2,h3,?_,?_,follow_len h6,hf.v h7,hf.2.2.2.1,mon_age h8,?_,h10,?_,hr.1,hr.2,?_,?_⟩
 ·show (doR S.rob (cmdT S i) i.slip).p.cells.length≤_
  rw [doR_p];exact h1
 ·show 0≤(doR S.rob (cmdT S i) i.slip).n∧(doR S.rob (cmdT S i) i.slip).n≤_
  rw [doR_n];omega
 ·show 0≤(doR S.rob (cmdT S i) i.slip).bumps∧(doR S.rob (cmdT S i) i.slip).bumps≤_
  omega
 ·show (S.je ++ [_]).length≤_
  rw [List.length_append]
  simp only [List.length_cons,List.length_nil]
  omega
 ·show 0≤S.ticks + 1∧S.ticks + 1≤_
  omega
 ·show lastE (S.je ++ [evG S i (cmdT S i) (scanT S)])≤(doR S.rob (cmdT S i) i.slip).n
  rw [lastE_app,doR_n]
  exact Int.le_refl _
 ·show (visG S (filtG S i (cmdT S i) (scanT S))).length≤_
  omega
theorem new_keeps {s : Setup} (h : errN s = 0) (hl : lenN s) (h0 : ∀ x ∈ s.known.cells, 0 ≤ x) : okN 0 (new0 s) := by
 have hr : rnew s.floor s.bd s.start=0:=by
  unfold errN at h
  split at h
  ·rename_i h0;exact absurd h h0
  ·rename_i h0;simpa using h0
 have hc : checkS s=0:=by
  unfold errN at h
  rwa [if_neg (by simpa using hr)] at h
 obtain ⟨c1,c2,c3,c4,c5,c6,c7,c8,c9,c10,c11,c12⟩:=check_0 hc
 exact ⟨hl.1,c5,c6,⟨Int.le_refl _,Int.le_refl _⟩,⟨Int.le_refl _,Int.le_refl _⟩,hl.2.2.1,c1,good_of c1 h0,⟨Int.le_refl _,show (0 : Int)≤1073741824 by decide⟩,Nat.le_refl _,c9,⟨Int.le_refl _,Int.le_refl _⟩,Int.le_refl _,fun _ _=>⟨rfl,rfl⟩,Int.le_refl _,Nat.le_refl _⟩
end Sys
end Go.Proofs.YtkflmidichikjaaGreatDoor.V
end
section
namespace Go.Proofs.YtkflmidichikjaaGreatDoor.V
open Go.RowKit
set_option maxRecDepth 100000
open Heading BoxP Drive Seg PlanP RayP Contr Grow Loc Known RobotP Mon Mot Sys Pred
namespace Sound
structure TrueI (bd : Bounds) (k : Int) (S : SS) : Prop where
 (h0 : full S.rob.p) (h1 : ¬ cntP S.rob.p 0 > 0) (h2 : S.rob.b=bd) (h3 : S.ft.b=bd) (h4 : vBounds bd=true) (h5 : stands S.rob.p S.rob.at_) (h6 : S.ft.lost=false)
 (h7 : vPlan S.ft.p=true) (h8 : Below S.ft.p S.rob.p) (h9 : goodC S.ft.p.cells) (h10 : S.ft.set.length≤16) (h11 : ∀ b∈S.ft.set,calm k b) (h12 : ∃ b∈S.ft.set,inB b S.rob.at_) (h13 : S.marks.any wrongM=false) (h14 : 4096≤k)
theorem marks_ok {M : List Int} (h : M.any wrongM = false) : ∀ m ∈ M, 0 ≤ m ∧ m ≤ 255 := by
 intro m hm
 have:=List.any_eq_false.1 h m hm
 unfold wrongM at this
 simp at this
 omega
theorem standsR_of {p : Plan} {a : Pose} (hp : vPlan p = true) (h : stands p a) : standsR p a = true := by
 obtain ⟨h1,h2⟩:=h
 unfold standsR
 simp only [Bool.and_eq_true]
 exact ⟨inR_iff.2 ⟨hp,h1⟩,between_iff.2 (by omega)⟩
theorem see_true {F : Filt} {p0 : Plan} {a : Pose} {s : List Beam} {k : Int} (hf : full p0) (hs : Contr.vScan s = true) (hl : F.lost = false) (h : Scene F.p p0 a F.b.Range s) (hg : goodC F.p.cells) (hn : F.set.length ≤ 16) (hS : ∀ b ∈ F.set, calm k b) (hc : ∃ b ∈ F.set, inB b a) (hk : 4096 ≤ k) :
 (seeP F s).1.lost=false∧(seeP F s).1.b=F.b∧vPlan (seeP F s).1.p=true∧Below (seeP F s).1.p p0∧goodC (seeP F s).1.p.cells∧(seeP F s).1.set.length≤16∧(∀ b∈(seeP F s).1.set,calm k b)∧∃ b∈(seeP F s).1.set,inB b a:=by
 obtain ⟨r1,r2,r3⟩:=refine_keeps h hs hn fun b hb=>(hS b hb).1
 obtain ⟨c1,c2,c3⟩:=comp_keeps r1 (by omega)
 have hc2:=c3 a (r3 hc)
 obtain ⟨l1,l2,l3,l4,l5,l6⟩:=learn_true h hf hg hs c2 c1 hc2
 have hne : ¬ (refineR F.p F.set s F.b.Range 32).1.length=0:=by
  obtain ⟨b,hb,_⟩:=r3 hc
  have:=List.length_pos_of_mem hb
  omega
 obtain ⟨w1,w2,_,_⟩:=vPlan_iff.1 h.hp
 unfold seeP
 rw [if_neg (by simp [hs]),if_neg (by simp [hl]),if_neg hne,if_pos l1]
 refine ⟨hl,rfl,l2,l3,l6,c2,fun b hb=>?_,hc2⟩
 obtain ⟨v1,v2,v3⟩:=c1 b hb
 exact ⟨v1,by omega,by omega⟩
theorem tick_sound {bd : Bounds} {k : Int} {S : SS} {i : Inp} (h : TrueI bd k S) (hk : k ≤ 1000000) : TrueI bd (k + 56) (tickT S i) := by
 obtain ⟨h0,h1,h2,h3,h4,h5,h6,h7,h8,h9,h10,h11,h12,h13,h14⟩:=h
 have hc : vCmd (cmdT S i)=true:=gate_ok
 have he : fits bd (clip S.rob.b i.slip).1:=by rw [h2];exact clip_fits h4
 obtain ⟨s1,s2,s3⟩:=step_eq h0.1 h1 h5 hc h4 he
 obtain ⟨m1,m2,m3,m4⟩:=move_in (bump:=stepB S.rob (cmdT S i) i.slip) (K:=k) (by omega) h10 h11 hc h4 he h12
 have hdo : (doR S.rob (cmdT S i) i.slip).at_=(stepD S.rob.p S.rob.at_ (cmdT S i) (clip S.rob.b i.slip).1).1:=by unfold doR;rfl
 have hsb : stepB S.rob (cmdT S i) i.slip=(stepD S.rob.p S.rob.at_ (cmdT S i) (clip S.rob.b i.slip).1).2.1:=by unfold stepB;rfl
 have hat : (doR S.rob (cmdT S i) i.slip).at_=movedP S.rob.at_ (cmdB (cmdT S i) (stepB S.rob (cmdT S i) i.slip)) (clip S.rob.b i.slip).1:=by rw [hdo,hsb];exact s1
 rw [← hat] at m4
 have hst : stands S.rob.p (doR S.rob (cmdT S i) i.slip).at_:=by rw [hdo];exact s2
 have hrp : (doR S.rob (cmdT S i) i.slip).p=S.rob.p:=doR_p
 have hrb : (doR S.rob (cmdT S i) i.slip).b=S.rob.b:=by unfold doR;rfl
 -- the filter behind the motion
 have hmv : (moveP S.ft (cmdT S i) (stepB S.rob (cmdT S i) i.slip)).1 = ⟨S.ft.p,(boxesP S.ft.set (cmdT S i) bd (stepB S.rob (cmdT S i) i.slip)).1,S.ft.b,S.ft.lost⟩:=by
  unfold moveP
  rw [if_neg (by simp [hc]),if_neg (by simp [h6]),h3,if_pos m1]
 have key : (filtG S i (cmdT S i) (scanT S)).lost=false∧(filtG S i (cmdT S i) (scanT S)).b=bd∧vPlan (filtG S i (cmdT S i) (scanT S)).p=true∧Below (filtG S i (cmdT S i) (scanT S)).p S.rob.p∧goodC (filtG S i (cmdT S i) (scanT S)).p.cells∧(filtG S i (cmdT S i) (scanT S)).set.length≤16 ∧
  (∀ b∈(filtG S i (cmdT S i) (scanT S)).set,calm (k + 56) b)∧∃ b∈(filtG S i (cmdT S i) (scanT S)).set,inB b (doR S.rob (cmdT S i) i.slip).at_:=by
  unfold filtG followF bumpG
  rw [if_neg (by simp [h6])]
  split
  ·rename_i ho
   rw [hmv]
   have hsc : Scene S.ft.p S.rob.p (doR S.rob (cmdT S i) i.slip).at_ S.ft.b.Range (beamsG S i (cmdT S i) (scanT S)):=by
    have hB:=vBounds_iff.1 h4
    refine ⟨h7,h8,?_,hst.2,by rw [h3];omega,?_⟩
    ·have e1:=h8.1
     have e2:=h8.2.1
     rw [← e1,← e2]
     exact hst.1
    ·unfold beamsG
     rw [if_pos ho,if_pos ho,h3]
     have : S.rob.b.Range=bd.Range:=by rw [h2]
     intro b hb
     unfold scanR at hb
     rw [this,← hdo] at hb
     exact scan_true (standsR_of h0.1 hst) (by omega) (marks_ok h13) b hb
   have:=see_true (F:=⟨S.ft.p,(boxesP S.ft.set (cmdT S i) bd (stepB S.rob (cmdT S i) i.slip)).1,S.ft.b,S.ft.lost⟩) (k:=k + 56) h0 (by
    unfold beamsG
    rw [if_pos ho,if_pos ho]
    exact (scan_ok h13).1) h6 hsc h9 (by simp only;omega) m3 m4 (by omega)
   rw [← h3] at this ⊢
   exact this
  ·rw [hmv]
   exact ⟨h6,h3,h7,h8,h9,by simp only;omega,m3,m4⟩
 obtain ⟨k1,k2,k3,k4,k5,k6,k7,k8⟩:=key
 have e1 : (tickT S i).rob.p=S.rob.p:=hrp
 have e2 : (tickT S i).rob.b=S.rob.b:=hrb
 exact ⟨by rw [e1];exact h0,by rw [e1];exact h1,by rw [e2];exact h2,k2,h4,by rw [e1];exact hst,k1,k3,by rw [e1];exact k4,k5,k6,k7,k8,h13,by omega⟩
end Sound
end Go.Proofs.YtkflmidichikjaaGreatDoor.V
end
section
namespace Go.Proofs.YtkflmidichikjaaGreatDoor.V
open Go.RowKit
set_option maxRecDepth 100000
open Heading BoxP Drive Seg PlanP RayP Contr Grow Loc Known RobotP Mon Mot Sys Pred FloorP Go.Lib
namespace Sound
theorem index_no {l : List UInt8} {c : UInt8} : indexByte l c < 0 → c ∉ l := by
 induction l with
 | nil=>intro _ h;cases h
 | cons b l ih =>
   intro h
   unfold indexByte at h
   split at h
   ·omega
   ·rename_i hb
    have hb' : b ≠ c:=by simpa using hb
    split at h
    ·rename_i h1
     have h2 : indexByte l c = -1:=by simpa using h1
     intro hm
     rcases List.mem_cons.1 hm with e|hm
     ·exact hb' e.symm
     ·exact ih (by omega) hm
    ·rename_i h1
     have h2:=indexByte_ge l c
     have h3 : indexByte l c ≠ -1:=by simpa using h1
     omega
theorem no_zero {X : List Int} (hX : ∀ x ∈ X, 0 ≤ x ∧ x ≤ 255) (h : ¬ idxB X 0 ≥ 0) : ∀ x ∈ X, x ≠ 0 := by
 intro x hx h0
 subst h0
 unfold idxB at h
 have h1:=index_no (l:=bytesOf X) (c:=(0 : Int).toNat.toUInt8) (by omega)
 apply h1
 unfold bytesOf
 exact List.mem_map.2 ⟨0,hx,rfl⟩
theorem cnt_no {p : Plan} (hX : ∀ x ∈ p.cells, 0 ≤ x ∧ x ≤ 255) (h : ¬ idxB p.cells 0 ≥ 0) : ¬ cntP p 0 > 0 := by
 unfold cntP
 split
 ·unfold cntB countByte
  unfold idxB at h
  have h1:=index_no (l:=bytesOf p.cells) (c:=(0 : Int).toNat.toUInt8) (by omega)
  rw [List.count_eq_zero_of_not_mem h1]
  simp
 ·simp
theorem full_of {p : Plan} (hv : vPlan p = true) (hX : ∀ x ∈ p.cells, 0 ≤ x ∧ x ≤ 255) (h : ¬ idxB p.cells 0 ≥ 0) : full p := by
 refine ⟨hv,fun c=>?_⟩
 unfold at_
 rw [if_pos hv]
 split
 ·rename_i hin
  obtain ⟨w1,w2,w3,w4⟩:=vPlan_iff.1 hv
  unfold insideP at hin
  simp only [Bool.and_eq_true,decide_eq_true_eq] at hin
  have hc:=cell_idx (w:=p.W) (h:=p.H) (x:=c.X) (y:=c.Y) w3 (by omega) (by omega) (by omega) (by omega)
  have hlt : (c.Y * p.W + c.X).toNat < p.cells.length:=by omega
  have hm:=gt_mem hlt
  have h1:=hX _ hm
  have h2:=no_zero hX h _ hm
  have h3:=(maxN_le _).1 w4 (c.Y * p.W + c.X).toNat (by omega)
  omega
 ·right;rfl
theorem init_true {s : Setup} {k : Int} (he : errN s = 0) (hf : ∀ x ∈ s.floor.cells, 0 ≤ x ∧ x ≤ 255) (hb : Below s.known s.floor) (hg : goodC s.known.cells) (hs : ∀ b ∈ s.set, calm k b) (hc : ∃ b ∈ s.set, inB b s.start) (hk : 4096 ≤ k) : TrueI s.bd k (new0 s) := by
 have hr : rnew s.floor s.bd s.start=0:=by
  unfold errN at he
  split at he
  ·rename_i h0;exact absurd he h0
  ·rename_i h0;simpa using h0
 have hcs : checkS s=0:=by
  unfold errN at he
  rwa [if_neg (by simpa using hr)] at he
 obtain ⟨c1,c2,c3,c4,c5,c6,c7,c8,c9,c10,c11,c12⟩:=check_0 hcs
 obtain ⟨r1,r2,r3,r4,r5,r6,r7⟩:=rnew_0 hr
 have hv:=checkF_0 r1
 have hz : ¬ idxB s.floor.cells 0 ≥ 0:=by
  unfold checkF at r1
  rw [if_neg (by simp [hv])] at r1
  split at r1
  ·cases r1
  ·assumption
 have hin : insideF s.floor ⟨s.start.X,s.start.Y⟩ = true:=by
  unfold FloorP.fits at r7
  split at r7
  ·cases r7
  ·split at r7
   ·exact r7
   ·cases r7
 unfold insideF at hin
 simp only [Bool.and_eq_true,decide_eq_true_eq] at hin
 have hl : s.set.length≤16:=by
  unfold vSetL at c7
  simp only [Bool.and_eq_true,decide_eq_true_eq] at c7
  omega
 exact ⟨full_of hv hf hz,cnt_no hf hz,rfl,rfl,c8,⟨⟨⟨by show (0 : Int)≤s.start.X;omega,by show s.start.X≤64 * s.floor.W;omega⟩,by show (0 : Int)≤s.start.Y;omega,by show s.start.Y≤64 * s.floor.H;omega⟩,r5,r6⟩,rfl,c1,hb,hg,hl,hs,hc,c6,hk⟩
theorem covers_of {bd : Bounds} {k : Int} {S : SS} (h : TrueI bd k S) : (∃ b ∈ S.ft.set, vBox b = true ∧ inB b S.rob.at_) ∧ Below S.ft.p S.rob.p ∧ S.ft.lost = false := by
 obtain ⟨b,hb,hi⟩:=h.h12
 exact ⟨⟨b,hb,(h.h11 b hb).1,hi⟩,h.h8,h.h6⟩
end Sound
end Go.Proofs.YtkflmidichikjaaGreatDoor.V
end
section
namespace Go.Proofs.YtkflmidichikjaaGreatDoor.V
open Go.RowKit
set_option maxRecDepth 100000
open Heading BoxP Drive Seg PlanP Zono Mot
namespace Sound
def fN (a b : Int) (g : Point) : Int := absZ (a * g.X + b * g.Y)
theorem spread_sum {a b : Int} : ∀ {X : List Point}, spreadZ X a b = sumF (fN a b) X := by
 have key : ∀ (X : List Point) (s : Int),X.foldl (fun s g=>s + absZ (a * g.X + b * g.Y)) s=s + sumF (fN a b) X:=by
  intro X
  induction X with
  | nil=>intro s;simp [sumF]
  | cons g r ih =>
    intro s
    rw [List.foldl_cons,ih]
    show _=s + (fN a b g + sumF (fN a b) r)
    unfold fN
    omega
 intro X
 have:=key X 0
 unfold spreadZ
 omega
def up (g : Point) : Prop := 0 < g.Y ∨ (g.Y = 0 ∧ 0 < g.X)
theorem fN_flip {a b : Int} (g : Point) : fN a b (flipZ g) = fN a b g := by
 unfold fN flipZ
 split
 ·simp only
  have : a * (0 - g.X) + b * (0 - g.Y)=0 - (a * g.X + b * g.Y):=by grind
  rw [this]
  unfold absZ
  omega
 ·rfl
theorem keep_up {L : List Point} : ∀ g ∈ keepZ L, up g := by
 intro g hg
 unfold keepZ at hg
 obtain ⟨h1,h2⟩:=List.mem_filter.1 hg
 obtain ⟨q,_,rfl⟩:=List.mem_map.1 h1
 simp only [Bool.not_eq_true',Bool.and_eq_false_iff,decide_eq_false_iff_not] at h2
 unfold flipZ at h2 ⊢
 unfold up
 split
 ·rename_i h
  rw [if_pos h] at h2
  simp only at h2 ⊢
  omega
 ·rename_i h
  rw [if_neg h] at h2
  omega
theorem keep_sum {a b : Int} : ∀ {L : List Point}, sumF (fN a b) (keepZ L) = sumF (fN a b) L
 | []=>rfl
 | g :: r=>by
   have ih:=keep_sum (a:=a) (b:=b) (L:=r)
   show sumF (fN a b) (keepZ (g :: r))=fN a b g + sumF (fN a b) r
   unfold keepZ at ih ⊢
   rw [List.map_cons,List.filter_cons]
   split
   ·show fN a b (flipZ g) + sumF (fN a b) _=_
    rw [fN_flip,ih]
   ·rename_i h
    simp only [Bool.not_eq_true',Bool.and_eq_false_iff,decide_eq_false_iff_not,not_or,Decidable.not_not] at h
    have h0 : fN a b (flipZ g)=0:=by
     unfold fN
     rw [h.1,h.2]
     simp [absZ]
    rw [fN_flip] at h0
    rw [ih]
    omega
theorem ins_mem {lt : Point → Point → Bool} {x y : Point} {S : List Point} (h : y ∈ insZ lt x S) : y = x ∨ y ∈ S := by
 unfold insZ at h
 rcases List.mem_append.1 h with h|h
 ·exact .inr (List.mem_of_mem_take h)
 ·rcases List.mem_cons.1 h with h|h
  ·exact .inl h
  ·exact .inr (List.mem_of_mem_drop h)
theorem sort_mem {lt : Point → Point → Bool} {y : Point} : ∀ {L S : List Point}, y ∈ L.foldl (fun S x => insZ lt x S) S → y ∈ L ∨ y ∈ S
 | [],_,h=>.inr h
 | x :: r,S,h=>by
   rcases sort_mem (L:=r) h with h|h
   ·exact .inl (by simp [h])
   ·rcases ins_mem h with rfl|h
    ·exact .inl (by simp)
    ·exact .inr h
theorem fN_add {a b : Int} {g h : Point} (hg : up g) (hh : up h) (hc : crossP g h = 0) : fN a b ⟨g.X + h.X, g.Y + h.Y⟩ = fN a b g + fN a b h := by
 unfold crossP at hc
 unfold fN
 simp only
 have e : a * (g.X + h.X) + b * (g.Y + h.Y)=(a * g.X + b * g.Y) + (a * h.X + b * h.Y):=by grind
 rw [e]
 have same : (0≤a * g.X + b * g.Y∧0≤a * h.X + b * h.Y)∨(a * g.X + b * g.Y≤0∧a * h.X + b * h.Y≤0):=by
  rcases hg with hg|⟨hg,hgx⟩
  ·rcases hh with hh|⟨hh,hhx⟩
   ·have k : (a * g.X + b * g.Y) * h.Y=(a * h.X + b * h.Y) * g.Y:=by grind
    generalize a * g.X + b * g.Y=u at *
    generalize a * h.X + b * h.Y=w at *
    rcases Int.le_total 0 u with hu|hu
    ·left
     refine ⟨hu,?_⟩
     have:=Int.mul_nonneg hu (Int.le_of_lt hh)
     rw [k] at this
     rcases Int.lt_or_le w 0 with hw|hw
     ·have:=Int.mul_neg_of_neg_of_pos hw hg
      omega
     ·exact hw
    ·right
     refine ⟨hu,?_⟩
     have:=Int.mul_nonpos_of_nonpos_of_nonneg hu (Int.le_of_lt hh)
     rw [k] at this
     rcases Int.lt_or_le 0 w with hw|hw
     ·have:=Int.mul_pos hw hg
      omega
     ·exact hw
   ·exfalso
    rw [hh] at hc
    have : g.X * 0 - g.Y * h.X = -(g.Y * h.X):=by omega
    have h2:=Int.mul_pos hg hhx
    omega
  ·rcases hh with hh|⟨hh,hhx⟩
   ·exfalso
    rw [hg] at hc
    have h2:=Int.mul_pos hgx hh
    omega
   ·rw [hg,hh,Int.mul_zero,Int.add_zero,Int.add_zero]
    rcases Int.le_total 0 a with ha|ha
    ·left;exact ⟨Int.mul_nonneg ha (Int.le_of_lt hgx),Int.mul_nonneg ha (Int.le_of_lt hhx)⟩
    ·right;exact ⟨Int.mul_nonpos_of_nonpos_of_nonneg ha (Int.le_of_lt hgx),Int.mul_nonpos_of_nonpos_of_nonneg ha (Int.le_of_lt hhx)⟩
 unfold absZ
 omega
theorem up_add {g h : Point} (hg : up g) (hh : up h) : up ⟨g.X + h.X, g.Y + h.Y⟩ := by
 unfold up at *
 simp only
 omega
theorem merge_sum {a b : Int} {L : List Point} {g : Point} (hL : ∀ x ∈ L, up x) (hg : up g) : sumF (fN a b) (mergeZ L g) = sumF (fN a b) L + fN a b g ∧ ∀ x ∈ mergeZ L g, up x := by
 unfold mergeZ
 split
 ·rename_i h
  have hl : L.length - 1 < L.length:=by omega
  have hm:=hL _ (gt_mem hl)
  refine ⟨?_,fun x hx=>?_⟩
  ·rw [sumF_set hl,fN_add hm hg h.2]
   omega
  ·rcases List.mem_or_eq_of_mem_set hx with hx|rfl
   ·exact hL x hx
   ·exact up_add hm hg
 ·refine ⟨?_,fun x hx=>?_⟩
  ·rw [sumF_app]
   show _ + (fN a b g + 0)=_
   omega
  ·rcases List.mem_append.1 hx with hx|hx
   ·exact hL x hx
   ·obtain rfl:=List.mem_singleton.1 hx
    exact hg
theorem mergeL_sum {a b : Int} : ∀ {Z L : List Point}, (∀ x ∈ L, up x) → (∀ x ∈ Z, up x) → sumF (fN a b) (Z.foldl mergeZ L) = sumF (fN a b) L + sumF (fN a b) Z
 | [],L,_,_=>by show _=_ + 0;simp
 | g :: r,L,hL,hZ=>by
   obtain ⟨m1,m2⟩:=merge_sum (a:=a) (b:=b) hL (hZ g (by simp))
   rw [List.foldl_cons,mergeL_sum m2 fun x hx=>hZ x (by simp [hx]),m1]
   show _=_ + (fN a b g + sumF (fN a b) r)
   omega
theorem canon_spread {a b : Int} {X : List Point} : spreadZ (canonZ X) a b = spreadZ X a b := by
 rw [spread_sum,spread_sum]
 unfold canonZ
 rw [mergeL_sum (L:=[]) (fun x hx=>by cases hx) fun x hx=>by
  unfold sortZ at hx
  rcases sort_mem hx with h|h
  ·exact keep_up x h
  ·cases h]
 rw [sumF_sort,keep_sum]
 show 0 + _=_
 omega
theorem spread_app {a b : Int} {X Y : List Point} : spreadZ (X ++ Y) a b = spreadZ X a b + spreadZ Y a b := by
 rw [spread_sum,spread_sum,spread_sum,sumF_app]
end Sound
end Go.Proofs.YtkflmidichikjaaGreatDoor.V
end
section
namespace Go.Proofs.YtkflmidichikjaaGreatDoor.V
open Go.RowKit
set_option maxRecDepth 100000
open Heading BoxP Drive Seg PlanP Zono Mot
namespace Sound
theorem abs_mul {u v k : Int} (h : -k ≤ v ∧ v ≤ k) : absZ (u * v) ≤ absZ u * k := by
 unfold absZ
 rcases Int.le_total 0 u with hu|hu
 ·have e1:=Int.mul_le_mul_of_nonneg_left h.2 hu
  have e2:=Int.mul_le_mul_of_nonneg_left h.1 hu
  rw [Int.max_eq_left (show 0 - u≤u by omega)]
  rw [Int.mul_neg] at e2
  omega
 ·have e1:=Int.mul_le_mul_of_nonpos_left hu h.2
  have e2:=Int.mul_le_mul_of_nonpos_left hu h.1
  rw [Int.max_eq_right (show u≤0 - u by omega)]
  rw [Int.mul_neg] at e2
  have e3 : (0 - u) * k = -(u * k):=by grind
  omega
theorem abs_add {u v : Int} : absZ (u + v) ≤ absZ u + absZ v := by unfold absZ; omega
def hb (x y : Int) (X : List Point) (D PX PY : Int) : Prop := ∀ a b : Int, absZ (a * (2 * PX - x * D) + b * (2 * PY - y * D)) ≤ spreadZ X a b * D
theorem hb_add {x y x' y' : Int} {X X' : List Point} {D PX PY QX QY : Int} (h : hb x y X D PX PY) (h' : hb x' y' X' D QX QY) : hb (x + x') (y + y') (X ++ X') D (PX + QX) (PY + QY) := by
 intro a b
 have e1:=h a b
 have e2:=h' a b
 have e3:=abs_add (u:=a * (2 * PX - x * D) + b * (2 * PY - y * D)) (v:=a * (2 * QX - x' * D) + b * (2 * QY - y' * D))
 have e4 : a * (2 * (PX + QX) - (x + x') * D) + b * (2 * (PY + QY) - (y + y') * D)=(a * (2 * PX - x * D) + b * (2 * PY - y * D)) + (a * (2 * QX - x' * D) + b * (2 * QY - y' * D)):=by grind
 rw [e4,spread_app,Int.add_mul]
 omega
theorem hb_canon {x y : Int} {X : List Point} {D PX PY : Int} (h : hb x y X D PX PY) : hb x y (canonZ X) D PX PY := by
 intro a b
 rw [canon_spread]
 exact h a b
theorem spread_two {u v a b : Int} (hu : 0 ≤ u) (hv : 0 ≤ v) : spreadZ [⟨u, 0⟩, ⟨0, v⟩] a b = absZ a * u + absZ b * v := by
 rw [spread_sum]
 show fN a b ⟨u,0⟩ + (fN a b ⟨0,v⟩ + 0)=_
 unfold fN absZ
 simp only [Int.mul_zero,Int.add_zero,Int.zero_add]
 have k : ∀ p q : Int,0≤q→max (p * q) (0 - p * q)=max p (0 - p) * q:=by
  intro p q hq
  rcases Int.le_total 0 p with hp|hp
  ·have:=Int.mul_nonneg hp hq
   rw [Int.max_eq_left (show 0 - p≤p by omega),Int.max_eq_left (by omega)]
  ·have:=Int.mul_nonpos_of_nonpos_of_nonneg hp hq
   rw [Int.max_eq_right (show p≤0 - p by omega),Int.max_eq_right (by omega),Int.sub_mul,Int.zero_mul]
 rw [k a u hu,k b v hv]
theorem hb_rect {r : Rect} {D PX PY : Int} (hD : 0 < D) (hx : r.X0 * D ≤ PX ∧ PX ≤ r.X1 * D) (hy : r.Y0 * D ≤ PY ∧ PY ≤ r.Y1 * D) (hr : r.X0 ≤ r.X1 ∧ r.Y0 ≤ r.Y1) : hb (r.X0 + r.X1) (r.Y0 + r.Y1) [⟨r.X1 - r.X0, 0⟩, ⟨0, r.Y1 - r.Y0⟩] D PX PY := by
 intro a b
 rw [spread_two (by omega) (by omega)]
 have e1:=abs_mul (u:=a) (v:=2 * PX - (r.X0 + r.X1) * D) (k:=(r.X1 - r.X0) * D) (by constructor<;>grind)
 have e2:=abs_mul (u:=b) (v:=2 * PY - (r.Y0 + r.Y1) * D) (k:=(r.Y1 - r.Y0) * D) (by constructor<;>grind)
 have e3:=abs_add (u:=a * (2 * PX - (r.X0 + r.X1) * D)) (v:=b * (2 * PY - (r.Y0 + r.Y1) * D))
 have e4 : (absZ a * (r.X1 - r.X0) + absZ b * (r.Y1 - r.Y0)) * D=absZ a * ((r.X1 - r.X0) * D) + absZ b * ((r.Y1 - r.Y0) * D):=by grind
 omega
theorem hb_way {wx wy D n : Int} (hn : 0 ≤ n ∧ n ≤ D) : hb wx wy [⟨wx, wy⟩] D (n * wx) (n * wy) := by
 intro a b
 rw [spread_sum]
 show _≤(fN a b ⟨wx,wy⟩ + 0) * D
 unfold fN
 rw [Int.add_zero]
 have e1:=abs_mul (u:=a * wx + b * wy) (v:=2 * n - D) (k:=D) (by omega)
 have e2 : a * (2 * (n * wx) - wx * D) + b * (2 * (n * wy) - wy * D)=(a * wx + b * wy) * (2 * n - D):=by grind
 rw [e2]
 exact e1
theorem apart_no {x y a b c d D PX PY : Int} {X : List Point} (hD : 0 < D) (hz : hb x y X D PX PY) (hx : a * D ≤ PX ∧ PX ≤ c * D) (hy : b * D ≤ PY ∧ PY ≤ d * D) (hr : a ≤ c ∧ b ≤ d) : apartZ x y X a b c d = false := by
 unfold apartZ
 rw [List.any_eq_false]
 intro n _
 simp only [decide_eq_true_eq]
 rw [canon_spread,spread_app,spread_two (by omega) (by omega)]
 have e1:=hz n.X n.Y
 have e2:=abs_mul (u:=n.X) (v:=(a + c) * D - 2 * PX) (k:=(c - a) * D) (by constructor<;>grind)
 have e3:=abs_mul (u:=n.Y) (v:=(b + d) * D - 2 * PY) (k:=(d - b) * D) (by constructor<;>grind)
 have e4:=abs_add (u:=n.X * ((a + c) * D - 2 * PX)) (v:=n.Y * ((b + d) * D - 2 * PY))
 have e5:=abs_add (u:=n.X * ((a + c) * D - 2 * PX) + n.Y * ((b + d) * D - 2 * PY)) (v:=n.X * (2 * PX - x * D) + n.Y * (2 * PY - y * D))
 have e6 : (n.X * ((a + c) * D - 2 * PX) + n.Y * ((b + d) * D - 2 * PY)) + (n.X * (2 * PX - x * D) + n.Y * (2 * PY - y * D))=(n.X * (a + c - x) + n.Y * (b + d - y)) * D:=by grind
 rw [e6] at e5
 have e7 : absZ ((n.X * (a + c - x) + n.Y * (b + d - y)) * D)=absZ (n.X * (a + c - x) + n.Y * (b + d - y)) * D:=by
  unfold absZ
  generalize n.X * (a + c - x) + n.Y * (b + d - y)=u
  rcases Int.le_total 0 u with hu|hu
  ·have:=Int.mul_nonneg hu (Int.le_of_lt hD)
   rw [Int.max_eq_left (show 0 - u≤u by omega),Int.max_eq_left (by omega)]
  ·have:=Int.mul_nonpos_of_nonpos_of_nonneg hu (Int.le_of_lt hD)
   rw [Int.max_eq_right (show u≤0 - u by omega),Int.max_eq_right (by omega),Int.sub_mul,Int.zero_mul]
 rw [e7] at e5
 have e8 : (spreadZ X n.X n.Y + (absZ n.X * (c - a) + absZ n.Y * (d - b))) * D=spreadZ X n.X n.Y * D + (absZ n.X * ((c - a) * D) + absZ n.Y * ((d - b) * D)):=by grind
 have e9 : absZ (n.X * (a + c - x) + n.Y * (b + d - y)) * D≤(spreadZ X n.X n.Y + (absZ n.X * (c - a) + absZ n.Y * (d - b))) * D:=by omega
 exact Int.not_lt.2 (Int.le_of_mul_le_mul_right e9 hD)
theorem touched_mem {x y D PX PY : Int} {X : List Point} {c : Cell} (hD : 0 < D) (hz : hb x y X D PX PY) (hx : c.X * 64 * D ≤ PX ∧ PX ≤ (c.X * 64 + 64) * D) (hy : c.Y * 64 * D ≤ PY ∧ PY ≤ (c.Y * 64 + 64) * D) (h0 : (touchedP x y X).2 = 0) : c ∈ (touchedP x y X).1 := by
 unfold touchedP at h0 ⊢
 split at h0
 ·rename_i hc
  rw [if_pos hc]
  simp only
  refine List.mem_filter.2 ⟨?_,?_⟩
  ·have b1:=hz 1 0
   have b2:=hz 0 1
   unfold cellsOf cellsP boundsZ at hc ⊢
   split at hc
   ·rename_i hv
    rw [if_pos hv]
    split at hc
    ·cases hc
    ·rename_i hs
     rw [if_neg hs]
     simp only
     refine mem_gridL.2 ⟨rfl,?_,?_⟩
     ·generalize spreadZ X 1 0=w at *
      unfold absZ at b1
      have g1 : (x - w) * D≤2 * PX:=by grind
      have g2 : 2 * PX≤(x + w) * D:=by grind
      have g3 : (x - w) * D≤(2 * (c.X * 64 + 64)) * D:=by grind
      have g4 : (2 * (c.X * 64)) * D≤(x + w) * D:=by grind
      have g5:=Int.le_of_mul_le_mul_right g3 hD
      have g6:=Int.le_of_mul_le_mul_right g4 hD
      unfold span
      simp only
      omega
     ·generalize spreadZ X 0 1=w at *
      unfold absZ at b2
      have g1 : (y - w) * D≤2 * PY:=by grind
      have g2 : 2 * PY≤(y + w) * D:=by grind
      have g3 : (y - w) * D≤(2 * (c.Y * 64 + 64)) * D:=by grind
      have g4 : (2 * (c.Y * 64)) * D≤(y + w) * D:=by grind
      have g5:=Int.le_of_mul_le_mul_right g3 hD
      have g6:=Int.le_of_mul_le_mul_right g4 hD
      unfold span
      simp only
      omega
   ·cases hc
  ·unfold apC
   rw [show (c.X + 1) * 64=c.X * 64 + 64 by omega,show (c.Y + 1) * 64=c.Y * 64 + 64 by omega,apart_no hD hz hx hy (by omega)]
   rfl
 ·rename_i h
  exact (h h0).elim
end Sound
end Go.Proofs.YtkflmidichikjaaGreatDoor.V
end
