import Derived.Test.YtkflmidichikjaaGreatDoorZSystemReplays36
set_option linter.all false
section
namespace Go.Proofs.YtkflmidichikjaaGreatDoor.V
open Go.RowKit
set_option maxRecDepth 100000
set_option maxHeartbeats 16000000
open Heading BoxP Drive PlanP Known Contr Loc Jou Atl RobotP Mon Mot Sys
theorem tick_nf {g : Gh} {S : SS} {i : Inp} {A : Option Addr} {k : Nat} (h : vCmd i.want = true) (hj : S.jb.length ≤ 65280) (hl : S.ft.lost = false) (hs : scanS S.every (S.ticks + 1) = false) : TickC g S i A k (cmd1 S i) false := fun ⟨⟨h1, h2, h3, h4, h5, h6, h7, h8, h9, h10, h11, h12, h13, h14, h15⟩, p1⟩ => by
 have h':=vCmd_iff.1 h
 have hg : vCmd (cmd1 S i)=true:=gate_ok
 obtain ⟨hbs,hbl0⟩ : Contr.vScan (beamsG S i (cmd1 S i) false)=true∧(beamsG S i (cmd1 S i) false).length≤32:=scan_ok (M:=[]) rfl
 have hbl : (beamsG S i (cmd1 S i) false).length≤1000000000:=by omega
 have hfr : S.jb.length + (frmJ (S.rob.n + 1) (cmd1 S i).Turn (cmd1 S i).Forward (bumpG S i (cmd1 S i)) (beamsG S i (cmd1 S i) false)).length≤65536:=by
  have:=frm_256 (t:=S.rob.n + 1) (u:=(cmd1 S i).Turn) (f:=(cmd1 S i).Forward) (b:=bumpG S i (cmd1 S i)) (by omega) hg hbs
  omega
 have hfl : (filtG S i (cmd1 S i) false).set.length≤1000000000:=follow_len h6
 dsimp only [sysO,sysN,Rep.s,Sys.Inp.s] at *
 refine CM.of Tryz.func13 rfl tabOk rfl rfl rfl rfl (by simp [SV.nms,SV.nm]) fun w_ M_ π_ G0_=>?_
 refine rusA (a1 ?_)
 all_goals intros
 apply CallX_me (g,{ S with ticks:=S.ticks + 1 },S.ticks + 1 - 1)
 conv=>whnf
 refine ⟨⟨rfl,rfl⟩,⟨by omega,h10⟩,by kernel_rfl,fun _=>?_⟩
 refine rusA (a1 ?_)
 all_goals intros
 apply CallX_me (g,{ S with ticks:=S.ticks + 1,mon:=monT S i },i.want.Turn,i.want.Forward,i.auto,i.stop,i.reset,i.slip.Turn,i.slip.Length,i.slip.X,i.slip.Y,A,k,i.errs)
 conv=>whnf
 refine ⟨⟨rfl,rfl⟩,trivial,by kernel_rfl,fun _=>?_⟩
 refine rusA (a1 ?_)
 all_goals intros
 apply CallX_me (h:=scan_c (g:=g) (S:={ S with ticks:=S.ticks + 1,mon:=monT S i }) (t:=S.ticks + 1) false hs (by omega) h10) ()
 conv=>whnf
 refine ⟨⟨rfl,rfl⟩,trivial,by kernel_rfl,fun _=>?_⟩
 refine rusA (a1 ?_)
 all_goals intros
 refine CallX_sim [.p 4 0,.a [I (cmd1 S i).Turn,I (cmd1 S i).Forward,I i.slip.Turn,I i.slip.Length,I i.slip.X,I i.slip.Y,.fz none 0 1 (fl ie []),.fz none 0 1 (fl ie [])]] ?_ (by intro σ;rfl) (fun E hE=>⟨hE.1,⟨trivial,trivial,trivial,trivial,trivial,trivial,⟨none,0,rfl,Nat.le_refl _,fun h=>(h rfl).elim⟩,⟨none,0,rfl,Nat.le_refl _,fun h=>(h rfl).elim⟩,trivial⟩,trivial⟩)
 apply CallX_me (g.rp,S.rob,(cmd1 S i).Turn,(cmd1 S i).Forward,i.slip.Turn,i.slip.Length,i.slip.X,i.slip.Y,none,0,[],none,0,[])
 conv=>whnf
 refine ⟨⟨rfl,rfl⟩,⟨h1,hg,Nat.zero_le _,Nat.zero_le _,rfl,h4.1,by omega,h5.1,by omega⟩,by kernel_rfl,fun q1=>?_⟩
 refine rusA (a1 ?_)
 all_goals intros
 apply CallX_me ((g.fp,g.fs),S.ft,S.rob.n + 1,(cmd1 S i).Turn,(cmd1 S i).Forward,bumpG S i (cmd1 S i),q1.1,q1.2,beamsG S i (cmd1 S i) false,false)
 conv=>whnf
 refine ⟨⟨rfl,rfl⟩,⟨h7,h6,hbl⟩,by kernel_rfl,fun q2=>?_⟩
 refine rusA (a1 ?_)
 all_goals intros
 apply CallX_me ((⟨g.rp,q2.1,q2.2,g.mr,g.ms,g.mp,g.mv⟩ : Gh),({ S with ticks:=S.ticks + 1,mon:=monT S i,rob:=doR S.rob (cmd1 S i) i.slip,ft:=filtG S i (cmd1 S i) false,bumped:=bumpG S i (cmd1 S i) } : SS))
 conv=>whnf
 refine ⟨⟨rfl,rfl⟩,hfl,by kernel_rfl,fun _=>?_⟩
 refine rusA (a2 ?_ ?_)
 all_goals intros
 ·have hv : (tickG S i (monT S i) (cmd1 S i) false).vis=(stM S.vis (hereF (filtG S i (cmd1 S i) false)).1 true):=if_pos (by assumption)
  refine OpX_updM (ke:=keC) (dv:=dvB) (k:=(hereF (filtG S i (cmd1 S i) false)).1) (a:=true) 2 rfl rfl Tryz.underlying94 rfl (by exact fun _=>rfl) (by exact fun σ E h=>rfl) ?_
  conv=>whnf
  refine rusA (a1 ?_)
  all_goals intros
  apply CallX_me (S.jb,S.je,S.rob.n + 1,(cmd1 S i).Turn,(cmd1 S i).Forward,bumpG S i (cmd1 S i),q1.1,q1.2,beamsG S i (cmd1 S i) false)
  conv=>whnf
  refine ⟨⟨rfl,rfl⟩,⟨hg,hbs,h15,by omega,hfr,by omega⟩,by kernel_rfl,fun _=>?_⟩
  refine rusA (a1 ?_)
  all_goals intros
  rw [hv]
  refine Fin_ja ((⟨g.rp,q2.1,q2.2,g.mr,g.ms,g.mp,g.mv⟩ : Gh),q1) ?_
  conv=>whnf
  exact ⟨rfl,rfl,rfl⟩
 ·have hv : (tickG S i (monT S i) (cmd1 S i) false).vis=S.vis:=if_neg (by simp only [*];simp)
  apply CallX_me (S.jb,S.je,S.rob.n + 1,(cmd1 S i).Turn,(cmd1 S i).Forward,bumpG S i (cmd1 S i),q1.1,q1.2,beamsG S i (cmd1 S i) false)
  conv=>whnf
  refine ⟨⟨rfl,rfl⟩,⟨hg,hbs,h15,by omega,hfr,by omega⟩,by kernel_rfl,fun _=>?_⟩
  refine rusA (a1 ?_)
  all_goals intros
  rw [hv]
  refine Fin_ja ((⟨g.rp,q2.1,q2.2,g.mr,g.ms,g.mp,g.mv⟩ : Gh),q1) ?_
  conv=>whnf
  exact ⟨rfl,rfl,rfl⟩
end Go.Proofs.YtkflmidichikjaaGreatDoor.V
end
