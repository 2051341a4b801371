import Derived.Test.YtkapdopamgedbaaGreatDoorZSystemGrows36
import Derived.Test.YtkapdopamgedbaaGreatDoorZSystemGrows34
import Derived.Test.YtkapdopamgedbaaGreatDoorZSystemGrows32
set_option linter.all false
section
namespace Go.Proofs.YtkapdopamgedbaaGreatDoor.V
open Go.RowKit
set_option maxRecDepth 100000
open Heading BoxP Drive PlanP Known Contr Loc Jou Atl RobotP Mon Mot Sys Grow
namespace Sys
structure okN (n : Nat) (S : SS) : Prop where
 (h1 : S.rob.p.cells.length≤1000000000) (h2 : S.marks.length≤32) (h3 : S.marks.any wrongM=false) (h4 : 0≤S.rob.n∧S.rob.n≤n) (h5 : 0≤S.rob.bumps∧S.rob.bumps≤n)
 (h6 : S.ft.set.length≤1000000000) (h7 : vPlan S.ft.p=true) (h7' : goodC S.ft.p.cells) (h8 : 0≤S.mon.age∧S.mon.age≤1073741824) (h9 : S.je.length≤n)
 (h10 : 1≤S.every) (h11 : 0≤S.ticks∧S.ticks≤n) (h12 : 0≤S.scans) (h13 : ∀ k,S.scans≤k→lkM S.sc k=none∧lkM S.pl k=none) (h15 : lastE S.je≤S.rob.n) (h16 : S.vis.length≤n)
theorem plan_len {p : Plan} (h : vPlan p = true) : p.cells.length ≤ 4096 := by
 obtain ⟨h1,h2,h3,_⟩:=vPlan_iff.1 h
 have:=wh_bnd h1 h2
 omega
theorem okN.ok {n : Nat} {S : SS} (h : okN n S) (hn : n ≤ 1000000) : okS S := by
 obtain ⟨h1,h2,h3,h4,h5,h6,h7,h7',h8,h9,h10,h11,h12,h13,h15,h16⟩:=h
 have:=plan_len h7
 exact ⟨h1,h2,h3,by omega,by omega,h6,by omega,h8,by omega,h10,by omega,h12,(h13 _ (Int.le_refl _)).1,(h13 _ (Int.le_refl _)).2,by omega⟩
theorem lastE_app {L : List Evt} {e : Evt} : lastE (L ++ [e]) = e.tick := by
 unfold lastE
 rw [if_neg (by simp)]
 simp [gt]
theorem st_len {α : Type} {κ : Type} [DecidableEq κ] {m : List (κ × α)} {k : κ} {v : α} : (stM m k v).length ≤ m.length + 1 := by
 cases h : ixM m k with
 | none=>rw [ixM_none v h];simp
 | some p=>rw [(ixM_some v h).2];simp
theorem doR_p {R : Rob} {c : Command} {s : Slip} : (doR R c s).p = R.p := by unfold doR; rfl
theorem doR_n {R : Rob} {c : Command} {s : Slip} : (doR R c s).n = R.n + 1 := by unfold doR; rfl
theorem doR_b {R : Rob} {c : Command} {s : Slip} : R.bumps ≤ (doR R c s).bumps ∧ (doR R c s).bumps ≤ R.bumps + 1 := by
 unfold doR
 simp only
 split<;>omega
theorem mon_age {S : SS} {i : Inp} (h : 0 ≤ S.mon.age ∧ S.mon.age ≤ 1073741824) : 0 ≤ (monT S i).age ∧ (monT S i).age ≤ 1073741824 := by
 unfold monT obs
 simp only
 cases scanS S.every (S.ticks + 1 - 1)
 ·simp only [cond_false];omega
 ·simp only [cond_true];omega
theorem rec_keeps {sc : List (Int × List Beam)} {pl : List (Int × Pl)} {n : Int} {F : Filt} {s : List Beam} (h0 : 0 ≤ n) (h : ∀ k, n ≤ k → lkM sc k = none ∧ lkM pl k = none) :
 0≤(recordP sc pl n F s).2.2∧∀ k,(recordP sc pl n F s).2.2≤k→lkM (recordP sc pl n F s).1 k=none∧lkM (recordP sc pl n F s).2.1 k=none:=by
 unfold recordP
 split
 ·exact ⟨h0,h⟩
 ·refine ⟨by simp only;omega,fun k hk=>?_⟩
  simp only at hk ⊢
  obtain ⟨e1,e2⟩:=h k (by omega)
  have hne : k ≠ n:=by omega
  refine ⟨?_,?_⟩
  ·unfold putA
   split
   ·exact e1
   ·split
    ·exact e1
    ·rw [lkM_st,if_neg hne];exact e1
  ·split
   ·unfold placeA
    split
    ·exact e2
    ·split
     ·exact e2
     ·rw [lkM_st,if_neg hne];exact e2
   ·exact e2
theorem tick_keeps {n : Nat} {S : SS} {i : Inp} (h : okN n S) : okN (n + 1) (tickT S i) := by
 obtain ⟨h1,h2,h3,h4,h5,h6,h7,h7',h8,h9,h10,h11,h12,h13,h15,h16⟩:=h
 have hf : Below S.ft.p (filtG S i (cmdT S i) (scanT S)).p:=follow_below h7 h7'
 have hr : 0≤(recG S i (cmdT S i) (scanT S)).2.2∧∀ k,(recG S i (cmdT S i) (scanT S)).2.2≤k→lkM (recG S i (cmdT S i) (scanT S)).1 k=none∧lkM (recG S i (cmdT S i) (scanT S)).2.1 k=none:=by
  unfold recG
  split
  ·exact rec_keeps h12 h13
  ·exact ⟨h12,h13⟩
 have hv : (visG S (filtG S i (cmdT S i) (scanT S))).length≤S.vis.length + 1:=by
  unfold visG
  split
  ·exact st_len
  ·exact Nat.le_succ _
 have hb:=doR_b (R:=S.rob) (c:=cmdT S i) (s:=i.slip)
 refine ⟨?_,h2,h3,?_,?_,follow_len h6,hf.v h7,hf.2.2.2.1,mon_age h8,?_,h10,?_,hr.1,hr.2,?_,?_⟩
 ·show (doR S.rob (cmdT S i) i.slip).p.cells.length≤_
  rw [doR_p];exact h1
 ·show 0≤(doR S.rob (cmdT S i) i.slip).n∧(doR S.rob (cmdT S i) i.slip).n≤_
  rw [doR_n];omega
 ·show 0≤(doR S.rob (cmdT S i) i.slip).bumps∧(doR S.rob (cmdT S i) i.slip).bumps≤_
  omega
 ·show (S.je ++ [_]).length≤_
  rw [List.length_append]
  simp only [List.length_cons,List.length_nil]
  omega
 ·show 0≤S.ticks + 1∧S.ticks + 1≤_
  omega
 ·show lastE (S.je ++ [evG S i (cmdT S i) (scanT S)])≤(doR S.rob (cmdT S i) i.slip).n
  rw [lastE_app,doR_n]
  exact Int.le_refl _
 ·show (visG S (filtG S i (cmdT S i) (scanT S))).length≤_
  omega
theorem new_keeps {s : Setup} (h : errN s = 0) (hl : lenN s) (h0 : ∀ x ∈ s.known.cells, 0 ≤ x) : okN 0 (new0 s) := by
 have hr : rnew s.floor s.bd s.start=0:=by
  unfold errN at h
  split at h
  ·rename_i h0;exact absurd h h0
  ·rename_i h0;simpa using h0
 have hc : checkS s=0:=by
  unfold errN at h
  rwa [if_neg (by simpa using hr)] at h
 obtain ⟨c1,c2,c3,c4,c5,c6,c7,c8,c9,c10,c11,c12⟩:=check_0 hc
 exact ⟨hl.1,c5,c6,⟨Int.le_refl _,Int.le_refl _⟩,⟨Int.le_refl _,Int.le_refl _⟩,hl.2.2.1,c1,good_of c1 h0,⟨Int.le_refl _,show (0 : Int)≤1073741824 by decide⟩,Nat.le_refl _,c9,⟨Int.le_refl _,Int.le_refl _⟩,Int.le_refl _,fun _ _=>⟨rfl,rfl⟩,Int.le_refl _,Nat.le_refl _⟩
theorem tick_grows {n : Nat} {S : SS} {i : Inp} (h : okN n S) : Below S.ft.p (tickT S i).ft.p ∧ (visL S.vis).Sublist (visL (tickT S i).vis) ∧ (visL S.vis).length ≤ (visL (tickT S i).vis).length ∧ (visL (tickT S i).vis).length ≤ (visL S.vis).length + 1 := by
 refine ⟨follow_below h.h7 h.h7',?_⟩
 show (visL S.vis).Sublist (visL (visG S (filtG S i (cmdT S i) (scanT S))))∧_
 unfold visG
 show (visL S.vis).Sublist (visL (if _ then _ else _))∧(visL S.vis).length≤(visL (visG S (filtG S i (cmdT S i) (scanT S)))).length∧(visL (visG S (filtG S i (cmdT S i) (scanT S)))).length≤_
 unfold visG
 split
 ·exact vis_grow
 ·exact ⟨List.Sublist.refl _,Nat.le_refl _,Nat.le_succ _⟩
end Sys
end Go.Proofs.YtkapdopamgedbaaGreatDoor.V
end
section
namespace Go.Proofs.YtkapdopamgedbaaGreatDoor.V
open Go.RowKit
set_option maxRecDepth 100000
open Heading BoxP Drive PlanP Known Contr Loc Jou Atl RobotP Mon Mot Sys Grow
namespace Sys
def roomP : Plan := ⟨3, 3, [1, 1, 1, 1, 1, 1, 1, 1, 1]⟩
def roomS : Setup := ⟨roomP, roomP, ⟨0, 0, 0, 1⟩, ⟨96, 96, 0⟩, [⟨96, 96, 96, 96, 0, 1⟩], [0, 64], 1, 5⟩
def inW : Inp := ⟨⟨0, 32⟩, false, false, false, ⟨0, 0, 0, 0⟩, []⟩
abbrev S0 : SS := new0 roomS
abbrev S1 : SS := tickT S0 inW
abbrev S2 : SS := tickT S1 inW
abbrev S3 : SS := tickT S2 inW
theorem room_ok : errN roomS = 0 := by decide +kernel
theorem aw1 : (cmdT S0 inW).Forward = 32 := by decide +kernel
theorem aw2 : (cmdT S2 inW).Turn = 0 ∧ (cmdT S2 inW).Forward = 0 := by decide +kernel
theorem aw3 : S3.rob.at_.X = 160 ∧ S3.rob.at_.Y = 96 ∧ S3.rob.at_.H = 0 := by decide +kernel
theorem aw4 : S3.ft.lost = false := by decide +kernel
theorem aw5 : S0.jb.length ≤ 65280 ∧ S1.jb.length ≤ 65280 ∧ S2.jb.length ≤ 65280 := by decide +kernel
theorem aw6 : (repT S0 inW).cmd.Forward = 32 ∧ (repT S1 inW).tick = 2 ∧ (repT S2 inW).cmd.Turn = 0 ∧ (repT S2 inW).cmd.Forward = 0 := ⟨aw1, by decide +kernel, aw2⟩
theorem len0 : lenN roomS := by decide
theorem ok0 : okN 0 S0 := new_keeps room_ok len0 (by decide)
theorem ok1 : okN 1 S1 := tick_keeps ok0
theorem ok2 : okN 2 S2 := tick_keeps ok1
end Sys
end Go.Proofs.YtkapdopamgedbaaGreatDoor.V
end
section
namespace Go.Proofs.YtkapdopamgedbaaGreatDoor.V
open Go.RowKit
set_option maxRecDepth 100000
set_option maxHeartbeats 16000000
set_option pp.deepTerms false
set_option pp.deepTerms.threshold 6
open Heading BoxP Drive PlanP Known Contr Loc Jou Atl RobotP Mon Mot Sys
theorem tick_lt {g : Gh} {S : SS} {i : Inp} {A : Option Addr} {k : Nat} (h : vCmd i.want = true) (hj : S.jb.length ≤ 65280) (hl : S.ft.lost = true) (hs : scanS S.every (S.ticks + 1) = true) : TickC g S i A k (cmd0 S i) true := fun ⟨⟨h1, h2, h3, h4, h5, h6, h7, h8, h9, h10, h11, h12, h13, h14, h15⟩, p1⟩ => by
 have h':=vCmd_iff.1 h
 have hg : vCmd (cmd0 S i)=true:=gate_ok
 obtain ⟨hbs,hbl0⟩ : Contr.vScan (beamsG S i (cmd0 S i) true)=true∧(beamsG S i (cmd0 S i) true).length≤32:=scan_ok h3
 have hbl : (beamsG S i (cmd0 S i) true).length≤1000000000:=by omega
 have hfr : S.jb.length + (frmJ (S.rob.n + 1) (cmd0 S i).Turn (cmd0 S i).Forward (bumpG S i (cmd0 S i)) (beamsG S i (cmd0 S i) true)).length≤65536:=by
  have:=frm_256 (t:=S.rob.n + 1) (u:=(cmd0 S i).Turn) (f:=(cmd0 S i).Forward) (b:=bumpG S i (cmd0 S i)) (by omega) hg hbs
  omega
 have hfl : (filtG S i (cmd0 S i) true).set.length≤1000000000:=follow_len h6
 dsimp only [sysO,sysN,Rep.s,Sys.Inp.s] at *
 refine CM.of Tryz.func11 rfl tabOk rfl rfl rfl rfl (by simp [SV.nms,SV.nm]) fun w_ M_ π_ G0_=>?_
 refine rusA (a1 ?_)
 all_goals intros
 apply CallX_me (g,{ S with ticks:=S.ticks + 1 },S.ticks + 1 - 1)
 conv=>whnf
 refine ⟨⟨rfl,rfl⟩,⟨by omega,h10⟩,by kernel_rfl,fun _=>?_⟩
 refine rusA (a1 ?_)
 all_goals intros
 apply CallX_me (g,{ S with ticks:=S.ticks + 1,mon:=monT S i },i.want.Turn,i.want.Forward,i.auto,i.stop,i.reset,i.slip.Turn,i.slip.Length,i.slip.X,i.slip.Y,A,k,i.errs)
 conv=>whnf
 refine ⟨⟨rfl,rfl⟩,trivial,by kernel_rfl,fun _=>?_⟩
 refine rusA (a1 ?_)
 all_goals intros
 apply CallX_me (h:=scan_c (g:=g) (S:={ S with ticks:=S.ticks + 1,mon:=monT S i }) (t:=S.ticks + 1) true hs (by omega) h10) ()
 conv=>whnf
 refine ⟨⟨rfl,rfl⟩,trivial,by kernel_rfl,fun _=>?_⟩
 refine rusA (a1 ?_)
 all_goals intros
 apply CallX_me (g.rp,S.rob,(cmd0 S i).Turn,(cmd0 S i).Forward,i.slip.Turn,i.slip.Length,i.slip.X,i.slip.Y,g.mr.1,g.mr.2,S.marks,A,k,i.errs)
 conv=>whnf
 refine ⟨⟨rfl,rfl⟩,⟨h1,hg,h2,p1,h3,h4.1,by omega,h5.1,by omega⟩,by kernel_rfl,fun q1=>?_⟩
 refine rusA (a1 ?_)
 all_goals intros
 apply CallX_me ((g.fp,g.fs),S.ft,S.rob.n + 1,(cmd0 S i).Turn,(cmd0 S i).Forward,bumpG S i (cmd0 S i),q1.1,q1.2,beamsG S i (cmd0 S i) true,true)
 conv=>whnf
 refine ⟨⟨rfl,rfl⟩,⟨h7,h6,hbl⟩,by kernel_rfl,fun q2=>?_⟩
 refine rusA (a1 ?_)
 all_goals intros
 apply CallX_me ((⟨g.rp,q2.1,q2.2,g.mr,g.ms,g.mp,g.mv⟩ : Gh),({ S with ticks:=S.ticks + 1,mon:=monT S i,rob:=doR S.rob (cmd0 S i) i.slip,ft:=filtG S i (cmd0 S i) true,bumped:=bumpG S i (cmd0 S i) } : SS),q1.1,q1.2,beamsG S i (cmd0 S i) true)
 conv=>whnf
 refine ⟨⟨rfl,rfl⟩,⟨hfl,hbl,h12,h13,h14⟩,by kernel_rfl,fun _=>?_⟩
 refine rusA (a1 ?_)
 all_goals intros
 apply CallX_me ((⟨g.rp,q2.1,q2.2,g.mr,g.ms,g.mp,g.mv⟩ : Gh),({ S with ticks:=S.ticks + 1,mon:=monT S i,rob:=doR S.rob (cmd0 S i) i.slip,ft:=filtG S i (cmd0 S i) true,bumped:=bumpG S i (cmd0 S i),sc:=(recG S i (cmd0 S i) true).1,pl:=(recG S i (cmd0 S i) true).2.1,scans:=(recG S i (cmd0 S i) true).2.2 } : SS))
 conv=>whnf
 refine ⟨⟨rfl,rfl⟩,hfl,by kernel_rfl,fun _=>?_⟩
 refine rusA (a2 ?_ ?_)
 all_goals intros
 ·have hv : (tickG S i (monT S i) (cmd0 S i) true).vis=(stM S.vis (hereF (filtG S i (cmd0 S i) true)).1 true):=if_pos (by assumption)
  refine OpX_updM (ke:=keC) (dv:=dvB) (k:=(hereF (filtG S i (cmd0 S i) true)).1) (a:=true) 2 rfl rfl Tryz.underlying74 rfl (by exact fun _=>rfl) (by exact fun σ E h=>rfl) ?_
  conv=>whnf
  refine rusA (a1 ?_)
  all_goals intros
  apply CallX_me (S.jb,S.je,S.rob.n + 1,(cmd0 S i).Turn,(cmd0 S i).Forward,bumpG S i (cmd0 S i),q1.1,q1.2,beamsG S i (cmd0 S i) true)
  conv=>whnf
  refine ⟨⟨rfl,rfl⟩,⟨hg,hbs,h15,by omega,hfr,by omega⟩,by kernel_rfl,fun _=>?_⟩
  refine rusA (a1 ?_)
  all_goals intros
  rw [hv]
  refine Fin_ja ((⟨g.rp,q2.1,q2.2,g.mr,g.ms,g.mp,g.mv⟩ : Gh),q1) ?_
  conv=>whnf
  exact ⟨rfl,rfl,rfl⟩
 ·have hv : (tickG S i (monT S i) (cmd0 S i) true).vis=S.vis:=if_neg (by simp only [*];simp)
  apply CallX_me (S.jb,S.je,S.rob.n + 1,(cmd0 S i).Turn,(cmd0 S i).Forward,bumpG S i (cmd0 S i),q1.1,q1.2,beamsG S i (cmd0 S i) true)
  conv=>whnf
  refine ⟨⟨rfl,rfl⟩,⟨hg,hbs,h15,by omega,hfr,by omega⟩,by kernel_rfl,fun _=>?_⟩
  refine rusA (a1 ?_)
  all_goals intros
  rw [hv]
  refine Fin_ja ((⟨g.rp,q2.1,q2.2,g.mr,g.ms,g.mp,g.mv⟩ : Gh),q1) ?_
  conv=>whnf
  exact ⟨rfl,rfl,rfl⟩
end Go.Proofs.YtkapdopamgedbaaGreatDoor.V
end
section
namespace Go.Proofs.YtkapdopamgedbaaGreatDoor.V
open Go.RowKit
set_option maxRecDepth 100000
set_option maxHeartbeats 16000000
set_option pp.deepTerms false
set_option pp.deepTerms.threshold 6
open Heading BoxP Drive PlanP Known Contr Loc Jou Atl RobotP Mon Mot Sys
theorem tick_lf {g : Gh} {S : SS} {i : Inp} {A : Option Addr} {k : Nat} (h : vCmd i.want = true) (hj : S.jb.length ≤ 65280) (hl : S.ft.lost = true) (hs : scanS S.every (S.ticks + 1) = false) : TickC g S i A k (cmd0 S i) false := fun ⟨⟨h1, h2, h3, h4, h5, h6, h7, h8, h9, h10, h11, h12, h13, h14, h15⟩, p1⟩ => by
 have h':=vCmd_iff.1 h
 have hg : vCmd (cmd0 S i)=true:=gate_ok
 obtain ⟨hbs,hbl0⟩ : Contr.vScan (beamsG S i (cmd0 S i) false)=true∧(beamsG S i (cmd0 S i) false).length≤32:=scan_ok (M:=[]) rfl
 have hbl : (beamsG S i (cmd0 S i) false).length≤1000000000:=by omega
 have hfr : S.jb.length + (frmJ (S.rob.n + 1) (cmd0 S i).Turn (cmd0 S i).Forward (bumpG S i (cmd0 S i)) (beamsG S i (cmd0 S i) false)).length≤65536:=by
  have:=frm_256 (t:=S.rob.n + 1) (u:=(cmd0 S i).Turn) (f:=(cmd0 S i).Forward) (b:=bumpG S i (cmd0 S i)) (by omega) hg hbs
  omega
 have hfl : (filtG S i (cmd0 S i) false).set.length≤1000000000:=follow_len h6
 dsimp only [sysO,sysN,Rep.s,Sys.Inp.s] at *
 refine CM.of Tryz.func11 rfl tabOk rfl rfl rfl rfl (by simp [SV.nms,SV.nm]) fun w_ M_ π_ G0_=>?_
 refine rusA (a1 ?_)
 all_goals intros
 apply CallX_me (g,{ S with ticks:=S.ticks + 1 },S.ticks + 1 - 1)
 conv=>whnf
 refine ⟨⟨rfl,rfl⟩,⟨by omega,h10⟩,by kernel_rfl,fun _=>?_⟩
 refine rusA (a1 ?_)
 all_goals intros
 apply CallX_me (g,{ S with ticks:=S.ticks + 1,mon:=monT S i },i.want.Turn,i.want.Forward,i.auto,i.stop,i.reset,i.slip.Turn,i.slip.Length,i.slip.X,i.slip.Y,A,k,i.errs)
 conv=>whnf
 refine ⟨⟨rfl,rfl⟩,trivial,by kernel_rfl,fun _=>?_⟩
 refine rusA (a1 ?_)
 all_goals intros
 apply CallX_me (h:=scan_c (g:=g) (S:={ S with ticks:=S.ticks + 1,mon:=monT S i }) (t:=S.ticks + 1) false hs (by omega) h10) ()
 conv=>whnf
 refine ⟨⟨rfl,rfl⟩,trivial,by kernel_rfl,fun _=>?_⟩
 refine rusA (a1 ?_)
 all_goals intros
 refine CallX_sim [.p 4 0,.a [I (cmd0 S i).Turn,I (cmd0 S i).Forward,I i.slip.Turn,I i.slip.Length,I i.slip.X,I i.slip.Y,.fz none 0 1 (fl ie []),.fz none 0 1 (fl ie [])]] ?_ (by intro σ;rfl) (fun E hE=>⟨hE.1,⟨trivial,trivial,trivial,trivial,trivial,trivial,⟨none,0,rfl,Nat.le_refl _,fun h=>(h rfl).elim⟩,⟨none,0,rfl,Nat.le_refl _,fun h=>(h rfl).elim⟩,trivial⟩,trivial⟩)
 apply CallX_me (g.rp,S.rob,(cmd0 S i).Turn,(cmd0 S i).Forward,i.slip.Turn,i.slip.Length,i.slip.X,i.slip.Y,none,0,[],none,0,[])
 conv=>whnf
 refine ⟨⟨rfl,rfl⟩,⟨h1,hg,Nat.zero_le _,Nat.zero_le _,rfl,h4.1,by omega,h5.1,by omega⟩,by kernel_rfl,fun q1=>?_⟩
 refine rusA (a1 ?_)
 all_goals intros
 apply CallX_me ((g.fp,g.fs),S.ft,S.rob.n + 1,(cmd0 S i).Turn,(cmd0 S i).Forward,bumpG S i (cmd0 S i),q1.1,q1.2,beamsG S i (cmd0 S i) false,false)
 conv=>whnf
 refine ⟨⟨rfl,rfl⟩,⟨h7,h6,hbl⟩,by kernel_rfl,fun q2=>?_⟩
 refine rusA (a1 ?_)
 all_goals intros
 apply CallX_me ((⟨g.rp,q2.1,q2.2,g.mr,g.ms,g.mp,g.mv⟩ : Gh),({ S with ticks:=S.ticks + 1,mon:=monT S i,rob:=doR S.rob (cmd0 S i) i.slip,ft:=filtG S i (cmd0 S i) false,bumped:=bumpG S i (cmd0 S i) } : SS))
 conv=>whnf
 refine ⟨⟨rfl,rfl⟩,hfl,by kernel_rfl,fun _=>?_⟩
 refine rusA (a2 ?_ ?_)
 all_goals intros
 ·have hv : (tickG S i (monT S i) (cmd0 S i) false).vis=(stM S.vis (hereF (filtG S i (cmd0 S i) false)).1 true):=if_pos (by assumption)
  refine OpX_updM (ke:=keC) (dv:=dvB) (k:=(hereF (filtG S i (cmd0 S i) false)).1) (a:=true) 2 rfl rfl Tryz.underlying74 rfl (by exact fun _=>rfl) (by exact fun σ E h=>rfl) ?_
  conv=>whnf
  refine rusA (a1 ?_)
  all_goals intros
  apply CallX_me (S.jb,S.je,S.rob.n + 1,(cmd0 S i).Turn,(cmd0 S i).Forward,bumpG S i (cmd0 S i),q1.1,q1.2,beamsG S i (cmd0 S i) false)
  conv=>whnf
  refine ⟨⟨rfl,rfl⟩,⟨hg,hbs,h15,by omega,hfr,by omega⟩,by kernel_rfl,fun _=>?_⟩
  refine rusA (a1 ?_)
  all_goals intros
  rw [hv]
  refine Fin_ja ((⟨g.rp,q2.1,q2.2,g.mr,g.ms,g.mp,g.mv⟩ : Gh),q1) ?_
  conv=>whnf
  exact ⟨rfl,rfl,rfl⟩
 ·have hv : (tickG S i (monT S i) (cmd0 S i) false).vis=S.vis:=if_neg (by simp only [*];simp)
  apply CallX_me (S.jb,S.je,S.rob.n + 1,(cmd0 S i).Turn,(cmd0 S i).Forward,bumpG S i (cmd0 S i),q1.1,q1.2,beamsG S i (cmd0 S i) false)
  conv=>whnf
  refine ⟨⟨rfl,rfl⟩,⟨hg,hbs,h15,by omega,hfr,by omega⟩,by kernel_rfl,fun _=>?_⟩
  refine rusA (a1 ?_)
  all_goals intros
  rw [hv]
  refine Fin_ja ((⟨g.rp,q2.1,q2.2,g.mr,g.ms,g.mp,g.mv⟩ : Gh),q1) ?_
  conv=>whnf
  exact ⟨rfl,rfl,rfl⟩
end Go.Proofs.YtkapdopamgedbaaGreatDoor.V
end
section
namespace Go.Proofs.YtkapdopamgedbaaGreatDoor.V
open Go.RowKit
set_option maxRecDepth 100000
set_option maxHeartbeats 16000000
set_option pp.deepTerms false
set_option pp.deepTerms.threshold 6
open Heading BoxP Drive PlanP Known Contr Loc Jou Atl RobotP Mon Mot Sys
theorem tick_nt {g : Gh} {S : SS} {i : Inp} {A : Option Addr} {k : Nat} (h : vCmd i.want = true) (hj : S.jb.length ≤ 65280) (hl : S.ft.lost = false) (hs : scanS S.every (S.ticks + 1) = true) : TickC g S i A k (cmd1 S i) true := fun ⟨⟨h1, h2, h3, h4, h5, h6, h7, h8, h9, h10, h11, h12, h13, h14, h15⟩, p1⟩ => by
 have h':=vCmd_iff.1 h
 have hg : vCmd (cmd1 S i)=true:=gate_ok
 obtain ⟨hbs,hbl0⟩ : Contr.vScan (beamsG S i (cmd1 S i) true)=true∧(beamsG S i (cmd1 S i) true).length≤32:=scan_ok h3
 have hbl : (beamsG S i (cmd1 S i) true).length≤1000000000:=by omega
 have hfr : S.jb.length + (frmJ (S.rob.n + 1) (cmd1 S i).Turn (cmd1 S i).Forward (bumpG S i (cmd1 S i)) (beamsG S i (cmd1 S i) true)).length≤65536:=by
  have:=frm_256 (t:=S.rob.n + 1) (u:=(cmd1 S i).Turn) (f:=(cmd1 S i).Forward) (b:=bumpG S i (cmd1 S i)) (by omega) hg hbs
  omega
 have hfl : (filtG S i (cmd1 S i) true).set.length≤1000000000:=follow_len h6
 dsimp only [sysO,sysN,Rep.s,Sys.Inp.s] at *
 refine CM.of Tryz.func11 rfl tabOk rfl rfl rfl rfl (by simp [SV.nms,SV.nm]) fun w_ M_ π_ G0_=>?_
 refine rusA (a1 ?_)
 all_goals intros
 apply CallX_me (g,{ S with ticks:=S.ticks + 1 },S.ticks + 1 - 1)
 conv=>whnf
 refine ⟨⟨rfl,rfl⟩,⟨by omega,h10⟩,by kernel_rfl,fun _=>?_⟩
 refine rusA (a1 ?_)
 all_goals intros
 apply CallX_me (g,{ S with ticks:=S.ticks + 1,mon:=monT S i },i.want.Turn,i.want.Forward,i.auto,i.stop,i.reset,i.slip.Turn,i.slip.Length,i.slip.X,i.slip.Y,A,k,i.errs)
 conv=>whnf
 refine ⟨⟨rfl,rfl⟩,trivial,by kernel_rfl,fun _=>?_⟩
 refine rusA (a1 ?_)
 all_goals intros
 apply CallX_me (h:=scan_c (g:=g) (S:={ S with ticks:=S.ticks + 1,mon:=monT S i }) (t:=S.ticks + 1) true hs (by omega) h10) ()
 conv=>whnf
 refine ⟨⟨rfl,rfl⟩,trivial,by kernel_rfl,fun _=>?_⟩
 refine rusA (a1 ?_)
 all_goals intros
 apply CallX_me (g.rp,S.rob,(cmd1 S i).Turn,(cmd1 S i).Forward,i.slip.Turn,i.slip.Length,i.slip.X,i.slip.Y,g.mr.1,g.mr.2,S.marks,A,k,i.errs)
 conv=>whnf
 refine ⟨⟨rfl,rfl⟩,⟨h1,hg,h2,p1,h3,h4.1,by omega,h5.1,by omega⟩,by kernel_rfl,fun q1=>?_⟩
 refine rusA (a1 ?_)
 all_goals intros
 apply CallX_me ((g.fp,g.fs),S.ft,S.rob.n + 1,(cmd1 S i).Turn,(cmd1 S i).Forward,bumpG S i (cmd1 S i),q1.1,q1.2,beamsG S i (cmd1 S i) true,true)
 conv=>whnf
 refine ⟨⟨rfl,rfl⟩,⟨h7,h6,hbl⟩,by kernel_rfl,fun q2=>?_⟩
 refine rusA (a1 ?_)
 all_goals intros
 apply CallX_me ((⟨g.rp,q2.1,q2.2,g.mr,g.ms,g.mp,g.mv⟩ : Gh),({ S with ticks:=S.ticks + 1,mon:=monT S i,rob:=doR S.rob (cmd1 S i) i.slip,ft:=filtG S i (cmd1 S i) true,bumped:=bumpG S i (cmd1 S i) } : SS),q1.1,q1.2,beamsG S i (cmd1 S i) true)
 conv=>whnf
 refine ⟨⟨rfl,rfl⟩,⟨hfl,hbl,h12,h13,h14⟩,by kernel_rfl,fun _=>?_⟩
 refine rusA (a1 ?_)
 all_goals intros
 apply CallX_me ((⟨g.rp,q2.1,q2.2,g.mr,g.ms,g.mp,g.mv⟩ : Gh),({ S with ticks:=S.ticks + 1,mon:=monT S i,rob:=doR S.rob (cmd1 S i) i.slip,ft:=filtG S i (cmd1 S i) true,bumped:=bumpG S i (cmd1 S i),sc:=(recG S i (cmd1 S i) true).1,pl:=(recG S i (cmd1 S i) true).2.1,scans:=(recG S i (cmd1 S i) true).2.2 } : SS))
 conv=>whnf
 refine ⟨⟨rfl,rfl⟩,hfl,by kernel_rfl,fun _=>?_⟩
 refine rusA (a2 ?_ ?_)
 all_goals intros
 ·have hv : (tickG S i (monT S i) (cmd1 S i) true).vis=(stM S.vis (hereF (filtG S i (cmd1 S i) true)).1 true):=if_pos (by assumption)
  refine OpX_updM (ke:=keC) (dv:=dvB) (k:=(hereF (filtG S i (cmd1 S i) true)).1) (a:=true) 2 rfl rfl Tryz.underlying74 rfl (by exact fun _=>rfl) (by exact fun σ E h=>rfl) ?_
  conv=>whnf
  refine rusA (a1 ?_)
  all_goals intros
  apply CallX_me (S.jb,S.je,S.rob.n + 1,(cmd1 S i).Turn,(cmd1 S i).Forward,bumpG S i (cmd1 S i),q1.1,q1.2,beamsG S i (cmd1 S i) true)
  conv=>whnf
  refine ⟨⟨rfl,rfl⟩,⟨hg,hbs,h15,by omega,hfr,by omega⟩,by kernel_rfl,fun _=>?_⟩
  refine rusA (a1 ?_)
  all_goals intros
  rw [hv]
  refine Fin_ja ((⟨g.rp,q2.1,q2.2,g.mr,g.ms,g.mp,g.mv⟩ : Gh),q1) ?_
  conv=>whnf
  exact ⟨rfl,rfl,rfl⟩
 ·have hv : (tickG S i (monT S i) (cmd1 S i) true).vis=S.vis:=if_neg (by simp only [*];simp)
  apply CallX_me (S.jb,S.je,S.rob.n + 1,(cmd1 S i).Turn,(cmd1 S i).Forward,bumpG S i (cmd1 S i),q1.1,q1.2,beamsG S i (cmd1 S i) true)
  conv=>whnf
  refine ⟨⟨rfl,rfl⟩,⟨hg,hbs,h15,by omega,hfr,by omega⟩,by kernel_rfl,fun _=>?_⟩
  refine rusA (a1 ?_)
  all_goals intros
  rw [hv]
  refine Fin_ja ((⟨g.rp,q2.1,q2.2,g.mr,g.ms,g.mp,g.mv⟩ : Gh),q1) ?_
  conv=>whnf
  exact ⟨rfl,rfl,rfl⟩
end Go.Proofs.YtkapdopamgedbaaGreatDoor.V
end
section
namespace Go.Proofs.YtkapdopamgedbaaGreatDoor.V
open Go.RowKit
set_option maxRecDepth 100000
set_option maxHeartbeats 16000000
set_option pp.deepTerms false
set_option pp.deepTerms.threshold 6
open Heading BoxP Drive PlanP Known Contr Loc Jou Atl RobotP Mon Mot Sys
theorem tick_nf {g : Gh} {S : SS} {i : Inp} {A : Option Addr} {k : Nat} (h : vCmd i.want = true) (hj : S.jb.length ≤ 65280) (hl : S.ft.lost = false) (hs : scanS S.every (S.ticks + 1) = false) : TickC g S i A k (cmd1 S i) false := fun ⟨⟨h1, h2, h3, h4, h5, h6, h7, h8, h9, h10, h11, h12, h13, h14, h15⟩, p1⟩ => by
 have h':=vCmd_iff.1 h
 have hg : vCmd (cmd1 S i)=true:=gate_ok
 obtain ⟨hbs,hbl0⟩ : Contr.vScan (beamsG S i (cmd1 S i) false)=true∧(beamsG S i (cmd1 S i) false).length≤32:=scan_ok (M:=[]) rfl
 have hbl : (beamsG S i (cmd1 S i) false).length≤1000000000:=by omega
 have hfr : S.jb.length + (frmJ (S.rob.n + 1) (cmd1 S i).Turn (cmd1 S i).Forward (bumpG S i (cmd1 S i)) (beamsG S i (cmd1 S i) false)).length≤65536:=by
  have:=frm_256 (t:=S.rob.n + 1) (u:=(cmd1 S i).Turn) (f:=(cmd1 S i).Forward) (b:=bumpG S i (cmd1 S i)) (by omega) hg hbs
  omega
 have hfl : (filtG S i (cmd1 S i) false).set.length≤1000000000:=follow_len h6
 dsimp only [sysO,sysN,Rep.s,Sys.Inp.s] at *
 refine CM.of Tryz.func11 rfl tabOk rfl rfl rfl rfl (by simp [SV.nms,SV.nm]) fun w_ M_ π_ G0_=>?_
 refine rusA (a1 ?_)
 all_goals intros
 apply CallX_me (g,{ S with ticks:=S.ticks + 1 },S.ticks + 1 - 1)
 conv=>whnf
 refine ⟨⟨rfl,rfl⟩,⟨by omega,h10⟩,by kernel_rfl,fun _=>?_⟩
 refine rusA (a1 ?_)
 all_goals intros
 apply CallX_me (g,{ S with ticks:=S.ticks + 1,mon:=monT S i },i.want.Turn,i.want.Forward,i.auto,i.stop,i.reset,i.slip.Turn,i.slip.Length,i.slip.X,i.slip.Y,A,k,i.errs)
 conv=>whnf
 refine ⟨⟨rfl,rfl⟩,trivial,by kernel_rfl,fun _=>?_⟩
 refine rusA (a1 ?_)
 all_goals intros
 apply CallX_me (h:=scan_c (g:=g) (S:={ S with ticks:=S.ticks + 1,mon:=monT S i }) (t:=S.ticks + 1) false hs (by omega) h10) ()
 conv=>whnf
 refine ⟨⟨rfl,rfl⟩,trivial,by kernel_rfl,fun _=>?_⟩
 refine rusA (a1 ?_)
 all_goals intros
 refine CallX_sim [.p 4 0,.a [I (cmd1 S i).Turn,I (cmd1 S i).Forward,I i.slip.Turn,I i.slip.Length,I i.slip.X,I i.slip.Y,.fz none 0 1 (fl ie []),.fz none 0 1 (fl ie [])]] ?_ (by intro σ;rfl) (fun E hE=>⟨hE.1,⟨trivial,trivial,trivial,trivial,trivial,trivial,⟨none,0,rfl,Nat.le_refl _,fun h=>(h rfl).elim⟩,⟨none,0,rfl,Nat.le_refl _,fun h=>(h rfl).elim⟩,trivial⟩,trivial⟩)
 apply CallX_me (g.rp,S.rob,(cmd1 S i).Turn,(cmd1 S i).Forward,i.slip.Turn,i.slip.Length,i.slip.X,i.slip.Y,none,0,[],none,0,[])
 conv=>whnf
 refine ⟨⟨rfl,rfl⟩,⟨h1,hg,Nat.zero_le _,Nat.zero_le _,rfl,h4.1,by omega,h5.1,by omega⟩,by kernel_rfl,fun q1=>?_⟩
 refine rusA (a1 ?_)
 all_goals intros
 apply CallX_me ((g.fp,g.fs),S.ft,S.rob.n + 1,(cmd1 S i).Turn,(cmd1 S i).Forward,bumpG S i (cmd1 S i),q1.1,q1.2,beamsG S i (cmd1 S i) false,false)
 conv=>whnf
 refine ⟨⟨rfl,rfl⟩,⟨h7,h6,hbl⟩,by kernel_rfl,fun q2=>?_⟩
 refine rusA (a1 ?_)
 all_goals intros
 apply CallX_me ((⟨g.rp,q2.1,q2.2,g.mr,g.ms,g.mp,g.mv⟩ : Gh),({ S with ticks:=S.ticks + 1,mon:=monT S i,rob:=doR S.rob (cmd1 S i) i.slip,ft:=filtG S i (cmd1 S i) false,bumped:=bumpG S i (cmd1 S i) } : SS))
 conv=>whnf
 refine ⟨⟨rfl,rfl⟩,hfl,by kernel_rfl,fun _=>?_⟩
 refine rusA (a2 ?_ ?_)
 all_goals intros
 ·have hv : (tickG S i (monT S i) (cmd1 S i) false).vis=(stM S.vis (hereF (filtG S i (cmd1 S i) false)).1 true):=if_pos (by assumption)
  refine OpX_updM (ke:=keC) (dv:=dvB) (k:=(hereF (filtG S i (cmd1 S i) false)).1) (a:=true) 2 rfl rfl Tryz.underlying74 rfl (by exact fun _=>rfl) (by exact fun σ E h=>rfl) ?_
  conv=>whnf
  refine rusA (a1 ?_)
  all_goals intros
  apply CallX_me (S.jb,S.je,S.rob.n + 1,(cmd1 S i).Turn,(cmd1 S i).Forward,bumpG S i (cmd1 S i),q1.1,q1.2,beamsG S i (cmd1 S i) false)
  conv=>whnf
  refine ⟨⟨rfl,rfl⟩,⟨hg,hbs,h15,by omega,hfr,by omega⟩,by kernel_rfl,fun _=>?_⟩
  refine rusA (a1 ?_)
  all_goals intros
  rw [hv]
  refine Fin_ja ((⟨g.rp,q2.1,q2.2,g.mr,g.ms,g.mp,g.mv⟩ : Gh),q1) ?_
  conv=>whnf
  exact ⟨rfl,rfl,rfl⟩
 ·have hv : (tickG S i (monT S i) (cmd1 S i) false).vis=S.vis:=if_neg (by simp only [*];simp)
  apply CallX_me (S.jb,S.je,S.rob.n + 1,(cmd1 S i).Turn,(cmd1 S i).Forward,bumpG S i (cmd1 S i),q1.1,q1.2,beamsG S i (cmd1 S i) false)
  conv=>whnf
  refine ⟨⟨rfl,rfl⟩,⟨hg,hbs,h15,by omega,hfr,by omega⟩,by kernel_rfl,fun _=>?_⟩
  refine rusA (a1 ?_)
  all_goals intros
  rw [hv]
  refine Fin_ja ((⟨g.rp,q2.1,q2.2,g.mr,g.ms,g.mp,g.mv⟩ : Gh),q1) ?_
  conv=>whnf
  exact ⟨rfl,rfl,rfl⟩
end Go.Proofs.YtkapdopamgedbaaGreatDoor.V
end
section
namespace Go.Proofs.YtkapdopamgedbaaGreatDoor.V
open Go.RowKit
set_option maxRecDepth 100000
set_option maxHeartbeats 16000000
set_option pp.deepTerms false
set_option pp.deepTerms.threshold 6
open Heading BoxP Drive PlanP Known Contr Loc Jou Atl RobotP Mon Mot Sys
theorem tick_ok {g : Gh} {S : SS} {i : Inp} {A : Option Addr} {k : Nat} (h : vCmd i.want = true) (hj : S.jb.length ≤ 65280) :
 CMe 11 Unit true (fun _=>[.p 3 0,i.s A k]) (fun _=>sysO g S) (fun _=>okS S∧i.errs.length≤1000000000) (Gh × Option Addr × Nat) (fun _ q=>.t [(repT S i).s q.2,I 0]) (fun _ q=>sysN q.1 (tickT S i)):=⟨fun _ hp=>by
 unfold tickT repT scanT
 rcases Bool.eq_false_or_eq_true S.ft.lost with hl|hl
 ·rw [cmd_l hl]
  rcases Bool.eq_false_or_eq_true (scanS S.every (S.ticks + 1)) with hs|hs
  ·rw [hs];exact tick_lt h hj hl hs hp
  ·rw [hs];exact tick_lf h hj hl hs hp
 ·rw [cmd_n hl]
  rcases Bool.eq_false_or_eq_true (scanS S.every (S.ticks + 1)) with hs|hs
  ·rw [hs];exact tick_nt h hj hl hs hp
  ·rw [hs];exact tick_nf h hj hl hs hp⟩
end Go.Proofs.YtkapdopamgedbaaGreatDoor.V
end
section
namespace Go.Proofs.YtkapdopamgedbaaGreatDoor.V
open Go.RowKit
set_option maxRecDepth 100000
set_option maxHeartbeats 16000000
set_option pp.deepTerms false
set_option pp.deepTerms.threshold 6
open Heading BoxP Drive PlanP Known Contr Loc Jou Atl RobotP Mon Mot Sys
instance inVsy6_1 : CMe 8 (Gh × SS) true (fun _ => [.p 3 0]) (fun (g, S) => sysO g S) (fun (_, S) => S.ft.p.cells.length ≤ 1000000000) (Option Addr × Nat) (fun (_, S) q => .a [I S.ft.p.W, I S.ft.p.H, .fz q.1 q.2 1 (fl ye S.ft.p.cells)]) (fun (g, S) _ => sysO g S) := ⟨fun (g, S) p1 => by
 dsimp only [sysO] at *
 refine CM.of Tryz.func8 rfl tabOk rfl rfl rfl rfl (by simp [SV.nms,SV.nm]) fun w_ M_ π_ G0_=>?_
 refine roA (a1 ?_)
 all_goals intros
 (first|refine Fin_fr 30 rfl fun A1 c1=>?_|refine Fin_fr 29 rfl fun A1 c1=>?_|refine Fin_fr 28 rfl fun A1 c1=>?_|refine Fin_fr 27 rfl fun A1 c1=>?_|refine Fin_fr 26 rfl fun A1 c1=>?_|refine Fin_fr 25 rfl fun A1 c1=>?_|refine Fin_fr 24 rfl fun A1 c1=>?_|refine Fin_fr 23 rfl fun A1 c1=>?_|refine Fin_fr 22 rfl fun A1 c1=>?_|refine Fin_fr 21 rfl fun A1 c1=>?_|refine Fin_fr 20 rfl fun A1 c1=>?_|refine Fin_fr 19 rfl fun A1 c1=>?_|refine Fin_fr 18 rfl fun A1 c1=>?_|refine Fin_fr 17 rfl fun A1 c1=>?_|refine Fin_fr 16 rfl fun A1 c1=>?_|refine Fin_fr 15 rfl fun A1 c1=>?_|refine Fin_fr 14 rfl fun A1 c1=>?_|refine Fin_fr 13 rfl fun A1 c1=>?_|refine Fin_fr 12 rfl fun A1 c1=>?_|refine Fin_fr 11 rfl fun A1 c1=>?_|refine Fin_fr 10 rfl fun A1 c1=>?_)
 conv=>whnf
 (repeat ((with_reducible show ViewE _ _ _ _);(first|refine view_w zLn ?_|refine view_pf zSd ?_|refine view_p zSd ?_);(conv=>whnf)))
 refine Fin_ja (A1,c1) ?_
 conv=>whnf
 exact ⟨rfl,rfl,rfl⟩⟩
instance inVsy6_2 : AR 8 2 := ⟨trivial⟩
instance inVsy6_3 : CMe 15 (Gh × SS) true (fun _ => [.p 3 0]) (fun (g, S) => sysO g S) (fun _ => True) Unit (fun (_, S) _ => B S.ft.lost) (fun (g, S) _ => sysO g S) := ⟨fun (g, S) _ => by
 dsimp only [sysO] at *
 refine CM.of Tryz.func15 rfl tabOk rfl rfl rfl rfl (by simp [SV.nms,SV.nm]) fun w_ M_ π_ G0_=>?_
 refine roA (a1 ?_)
 all_goals intros
 refine Fin_ja () ?_
 conv=>whnf
 exact ⟨rfl,rfl,rfl⟩⟩
instance inVsy6_4 : AR 15 2 := ⟨trivial⟩
instance inVsy6_5 : CMe 14 (Gh × SS) true (fun _ => [.p 3 0]) (fun (g, S) => sysO g S) (fun _ => True) Unit (fun (_, S) _ => .a [I S.rob.at_.X, I S.rob.at_.Y, I S.rob.at_.H]) (fun (g, S) _ => sysO g S) := ⟨fun (g, S) _ => by
 dsimp only [sysO] at *
 refine CM.of Tryz.func14 rfl tabOk rfl rfl rfl rfl (by simp [SV.nms,SV.nm]) fun w_ M_ π_ G0_=>?_
 refine roA (a1 ?_)
 all_goals intros
 refine Fin_ja () ?_
 conv=>whnf
 exact ⟨rfl,rfl,rfl⟩⟩
instance inVsy6_6 : AR 14 2 := ⟨trivial⟩
end Go.Proofs.YtkapdopamgedbaaGreatDoor.V
end
