import Derived.Test.YtkflmidichikjaaGreatDoorZSystemReplays36
import Derived.Test.YtkflmidichikjaaGreatDoorZSystemReplays34
set_option linter.all false
section
namespace Go.Proofs.YtkflmidichikjaaGreatDoor.V
open Go.RowKit
set_option maxRecDepth 100000
open Heading BoxP Drive PlanP Known Contr Loc Jou Atl RobotP Mon Mot Sys Grow
namespace Sys
structure okN (n : Nat) (S : SS) : Prop where
 (h1 : S.rob.p.cells.length≤1000000000) (h2 : S.marks.length≤32) (h3 : S.marks.any wrongM=false) (h4 : 0≤S.rob.n∧S.rob.n≤n) (h5 : 0≤S.rob.bumps∧S.rob.bumps≤n)
 (h6 : S.ft.set.length≤1000000000) (h7 : vPlan S.ft.p=true) (h7' : goodC S.ft.p.cells) (h8 : 0≤S.mon.age∧S.mon.age≤1073741824) (h9 : S.je.length≤n)
 (h10 : 1≤S.every) (h11 : 0≤S.ticks∧S.ticks≤n) (h12 : 0≤S.scans) (h13 : ∀ k,S.scans≤k→lkM S.sc k=none∧lkM S.pl k=none) (h15 : lastE S.je≤S.rob.n) (h16 : S.vis.length≤n)
theorem plan_len {p : Plan} (h : vPlan p = true) : p.cells.length ≤ 4096 := by
 obtain ⟨h1,h2,h3,_⟩:=vPlan_iff.1 h
 have:=wh_bnd h1 h2
 omega
theorem okN.ok {n : Nat} {S : SS} (h : okN n S) (hn : n ≤ 1000000) : okS S := by
 obtain ⟨h1,h2,h3,h4,h5,h6,h7,h7',h8,h9,h10,h11,h12,h13,h15,h16⟩:=h
 have:=plan_len h7
 exact ⟨h1,h2,h3,by omega,by omega,h6,by omega,h8,by omega,h10,by omega,h12,(h13 _ (Int.le_refl _)).1,(h13 _ (Int.le_refl _)).2,by omega⟩
theorem lastE_app {L : List Evt} {e : Evt} : lastE (L ++ [e]) = e.tick := by
 unfold lastE
 rw [if_neg (by simp)]
 simp [gt]
theorem st_len {α : Type} {κ : Type} [DecidableEq κ] {m : List (κ × α)} {k : κ} {v : α} : (stM m k v).length ≤ m.length + 1 := by
 cases h : ixM m k with
 | none=>rw [ixM_none v h];simp
 | some p=>rw [(ixM_some v h).2];simp
theorem doR_p {R : Rob} {c : Command} {s : Slip} : (doR R c s).p = R.p := by unfold doR; rfl
theorem doR_n {R : Rob} {c : Command} {s : Slip} : (doR R c s).n = R.n + 1 := by unfold doR; rfl
theorem doR_b {R : Rob} {c : Command} {s : Slip} : R.bumps ≤ (doR R c s).bumps ∧ (doR R c s).bumps ≤ R.bumps + 1 := by
 unfold doR
 simp only
 split<;>omega
theorem mon_age {S : SS} {i : Inp} (h : 0 ≤ S.mon.age ∧ S.mon.age ≤ 1073741824) : 0 ≤ (monT S i).age ∧ (monT S i).age ≤ 1073741824 := by
 unfold monT obs
 simp only
 cases scanS S.every (S.ticks + 1 - 1)
 ·simp only [cond_false];omega
 ·simp only [cond_true];omega
theorem rec_keeps {sc : List (Int × List Beam)} {pl : List (Int × Pl)} {n : Int} {F : Filt} {s : List Beam} (h0 : 0 ≤ n) (h : ∀ k, n ≤ k → lkM sc k = none ∧ lkM pl k = none) :
 0≤(recordP sc pl n F s).2.2∧∀ k,(recordP sc pl n F s).2.2≤k→lkM (recordP sc pl n F s).1 k=none∧lkM (recordP sc pl n F s).2.1 k=none:=by
 unfold recordP
 split
 ·exact ⟨h0,h⟩
 ·refine ⟨by simp only;omega,fun k hk=>?_⟩
  simp only at hk ⊢
  obtain ⟨e1,e2⟩:=h k (by omega)
  have hne : k ≠ n:=by omega
  refine ⟨?_,?_⟩
  ·unfold putA
   split
   ·exact e1
   ·split
    ·exact e1
    ·rw [lkM_st,if_neg hne];exact e1
  ·split
   ·unfold placeA
    split
    ·exact e2
    ·split
     ·exact e2
     ·rw [lkM_st,if_neg hne];exact e2
   ·exact e2
theorem tick_keeps {n : Nat} {S : SS} {i : Inp} (h : okN n S) : okN (n + 1) (tickT S i) := by
 obtain ⟨h1,h2,h3,h4,h5,h6,h7,h7',h8,h9,h10,h11,h12,h13,h15,h16⟩:=h
 have hf : Below S.ft.p (filtG S i (cmdT S i) (scanT S)).p:=follow_below h7 h7'
 have hr : 0≤(recG S i (cmdT S i) (scanT S)).2.2∧∀ k,(recG S i (cmdT S i) (scanT S)).2.2≤k→lkM (recG S i (cmdT S i) (scanT S)).1 k=none∧lkM (recG S i (cmdT S i) (scanT S)).2.1 k=none:=by
  unfold recG
  split
  ·exact rec_keeps h12 h13
  ·exact ⟨h12,h13⟩
 have hv : (visG S (filtG S i (cmdT S i) (scanT S))).length≤S.vis.length + 1:=by
  unfold visG
  split
  ·exact st_len
  ·exact Nat.le_succ _
 have hb:=doR_b (R:=S.rob) (c:=cmdT S i) (s:=i.slip)
 refine ⟨?_,h2,h3,?_,?_,follow_len h6,hf.v h7,hf.2.2.2.1,mon_age h8,?_,h10,?_,hr.1,hr.2,?_,?_⟩
 ·show (doR S.rob (cmdT S i) i.slip).p.cells.length≤_
  rw [doR_p];exact h1
 ·show 0≤(doR S.rob (cmdT S i) i.slip).n∧(doR S.rob (cmdT S i) i.slip).n≤_
  rw [doR_n];omega
 ·show 0≤(doR S.rob (cmdT S i) i.slip).bumps∧(doR S.rob (cmdT S i) i.slip).bumps≤_
  omega
 ·show (S.je ++ [_]).length≤_
  rw [List.length_append]
  simp only [List.length_cons,List.length_nil]
  omega
 ·show 0≤S.ticks + 1∧S.ticks + 1≤_
  omega
 ·show lastE (S.je ++ [evG S i (cmdT S i) (scanT S)])≤(doR S.rob (cmdT S i) i.slip).n
  rw [lastE_app,doR_n]
  exact Int.le_refl _
 ·show (visG S (filtG S i (cmdT S i) (scanT S))).length≤_
  omega
theorem new_keeps {s : Setup} (h : errN s = 0) (hl : lenN s) (h0 : ∀ x ∈ s.known.cells, 0 ≤ x) : okN 0 (new0 s) := by
 have hr : rnew s.floor s.bd s.start=0:=by
  unfold errN at h
  split at h
  ·rename_i h0;exact absurd h h0
  ·rename_i h0;simpa using h0
 have hc : checkS s=0:=by
  unfold errN at h
  rwa [if_neg (by simpa using hr)] at h
 obtain ⟨c1,c2,c3,c4,c5,c6,c7,c8,c9,c10,c11,c12⟩:=check_0 hc
 exact ⟨hl.1,c5,c6,⟨Int.le_refl _,Int.le_refl _⟩,⟨Int.le_refl _,Int.le_refl _⟩,hl.2.2.1,c1,good_of c1 h0,⟨Int.le_refl _,show (0 : Int)≤1073741824 by decide⟩,Nat.le_refl _,c9,⟨Int.le_refl _,Int.le_refl _⟩,Int.le_refl _,fun _ _=>⟨rfl,rfl⟩,Int.le_refl _,Nat.le_refl _⟩
end Sys
end Go.Proofs.YtkflmidichikjaaGreatDoor.V
end
section
namespace Go.Proofs.YtkflmidichikjaaGreatDoor.V
open Go.RowKit
set_option maxRecDepth 100000
open Heading BoxP Drive PlanP Known Contr Loc Jou Atl RobotP Mon Mot Sys Grow
namespace Sys
def roomP : Plan := ⟨3, 3, [1, 1, 1, 1, 1, 1, 1, 1, 1]⟩
def roomS : Setup := ⟨roomP, roomP, ⟨0, 0, 0, 1⟩, ⟨96, 96, 0⟩, [⟨96, 96, 96, 96, 0, 1⟩], [0, 64], 1, 5⟩
def inW : Inp := ⟨⟨0, 32⟩, false, false, false, ⟨0, 0, 0, 0⟩, []⟩
abbrev S0 : SS := new0 roomS
abbrev S1 : SS := tickT S0 inW
abbrev S2 : SS := tickT S1 inW
abbrev S3 : SS := tickT S2 inW
theorem room_ok : errN roomS = 0 := by decide +kernel
theorem aw1 : (cmdT S0 inW).Forward = 32 := by decide +kernel
theorem aw2 : (cmdT S2 inW).Turn = 0 ∧ (cmdT S2 inW).Forward = 0 := by decide +kernel
theorem aw3 : S3.rob.at_.X = 160 ∧ S3.rob.at_.Y = 96 ∧ S3.rob.at_.H = 0 := by decide +kernel
theorem aw4 : S3.ft.lost = false := by decide +kernel
theorem aw5 : S0.jb.length ≤ 65280 ∧ S1.jb.length ≤ 65280 ∧ S2.jb.length ≤ 65280 := by decide +kernel
theorem aw6 : (repT S0 inW).cmd.Forward = 32 ∧ (repT S1 inW).tick = 2 ∧ (repT S2 inW).cmd.Turn = 0 ∧ (repT S2 inW).cmd.Forward = 0 := ⟨aw1, by decide +kernel, aw2⟩
theorem len0 : lenN roomS := by decide
theorem ok0 : okN 0 S0 := new_keeps room_ok len0 (by decide)
theorem ok1 : okN 1 S1 := tick_keeps ok0
theorem ok2 : okN 2 S2 := tick_keeps ok1
end Sys
end Go.Proofs.YtkflmidichikjaaGreatDoor.V
end
