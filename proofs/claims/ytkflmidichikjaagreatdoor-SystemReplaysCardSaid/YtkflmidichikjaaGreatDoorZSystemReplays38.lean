import Derived.Test.YtkflmidichikjaaGreatDoorZSystemReplays36
set_option linter.all false
section
namespace Go.Proofs.YtkflmidichikjaaGreatDoor.V
open Go.RowKit
set_option maxRecDepth 100000
set_option maxHeartbeats 16000000
open Heading BoxP Drive PlanP Known Contr Loc Jou Atl RobotP Mon Mot Sys
theorem tick_lt {g : Gh} {S : SS} {i : Inp} {A : Option Addr} {k : Nat} (h : vCmd i.want = true) (hj : S.jb.length ≤ 65280) (hl : S.ft.lost = true) (hs : scanS S.every (S.ticks + 1) = true) : TickC g S i A k (cmd0 S i) true := fun ⟨⟨h1, h2, h3, h4, h5, h6, h7, h8, h9, h10, h11, h12, h13, h14, h15⟩, p1⟩ => by
 have h':=vCmd_iff.1 h
 have hg : vCmd (cmd0 S i)=true:=gate_ok
 obtain ⟨hbs,hbl0⟩ : Contr.vScan (beamsG S i (cmd0 S i) true)=true∧(beamsG S i (cmd0 S i) true).length≤32:=scan_ok h3
 have hbl : (beamsG S i (cmd0 S i) true).length≤1000000000:=by omega
 have hfr : S.jb.length + (frmJ (S.rob.n + 1) (cmd0 S i).Turn (cmd0 S i).Forward (bumpG S i (cmd0 S i)) (beamsG S i (cmd0 S i) true)).length≤65536:=by
  have:=frm_256 (t:=S.rob.n + 1) (u:=(cmd0 S i).Turn) (f:=(cmd0 S i).Forward) (b:=bumpG S i (cmd0 S i)) (by omega) hg hbs
  omega
 have hfl : (filtG S i (cmd0 S i) true).set.length≤1000000000:=follow_len h6
 dsimp only [sysO,sysN,Rep.s,Sys.Inp.s] at *
 refine CM.of Tryz.func13 rfl tabOk rfl rfl rfl rfl (by simp [SV.nms,SV.nm]) fun w_ M_ π_ G0_=>?_
 refine rusA (a1 ?_)
 all_goals intros
 apply CallX_me (g,{ S with ticks:=S.ticks + 1 },S.ticks + 1 - 1)
 conv=>whnf
 refine ⟨⟨rfl,rfl⟩,⟨by omega,h10⟩,by kernel_rfl,fun _=>?_⟩
 refine rusA (a1 ?_)
 all_goals intros
 apply CallX_me (g,{ S with ticks:=S.ticks + 1,mon:=monT S i },i.want.Turn,i.want.Forward,i.auto,i.stop,i.reset,i.slip.Turn,i.slip.Length,i.slip.X,i.slip.Y,A,k,i.errs)
 conv=>whnf
 refine ⟨⟨rfl,rfl⟩,trivial,by kernel_rfl,fun _=>?_⟩
 refine rusA (a1 ?_)
 all_goals intros
 apply CallX_me (h:=scan_c (g:=g) (S:={ S with ticks:=S.ticks + 1,mon:=monT S i }) (t:=S.ticks + 1) true hs (by omega) h10) ()
 conv=>whnf
 refine ⟨⟨rfl,rfl⟩,trivial,by kernel_rfl,fun _=>?_⟩
 refine rusA (a1 ?_)
 all_goals intros
 apply CallX_me (g.rp,S.rob,(cmd0 S i).Turn,(cmd0 S i).Forward,i.slip.Turn,i.slip.Length,i.slip.X,i.slip.Y,g.mr.1,g.mr.2,S.marks,A,k,i.errs)
 conv=>whnf
 refine ⟨⟨rfl,rfl⟩,⟨h1,hg,h2,p1,h3,h4.1,by omega,h5.1,by omega⟩,by kernel_rfl,fun q1=>?_⟩
 refine rusA (a1 ?_)
 all_goals intros
 apply CallX_me ((g.fp,g.fs),S.ft,S.rob.n + 1,(cmd0 S i).Turn,(cmd0 S i).Forward,bumpG S i (cmd0 S i),q1.1,q1.2,beamsG S i (cmd0 S i) true,true)
 conv=>whnf
 refine ⟨⟨rfl,rfl⟩,⟨h7,h6,hbl⟩,by kernel_rfl,fun q2=>?_⟩
 refine rusA (a1 ?_)
 all_goals intros
 apply CallX_me ((⟨g.rp,q2.1,q2.2,g.mr,g.ms,g.mp,g.mv⟩ : Gh),({ S with ticks:=S.ticks + 1,mon:=monT S i,rob:=doR S.rob (cmd0 S i) i.slip,ft:=filtG S i (cmd0 S i) true,bumped:=bumpG S i (cmd0 S i) } : SS),q1.1,q1.2,beamsG S i (cmd0 S i) true)
 conv=>whnf
 refine ⟨⟨rfl,rfl⟩,⟨hfl,hbl,h12,h13,h14⟩,by kernel_rfl,fun _=>?_⟩
 refine rusA (a1 ?_)
 all_goals intros
 apply CallX_me ((⟨g.rp,q2.1,q2.2,g.mr,g.ms,g.mp,g.mv⟩ : Gh),({ S with ticks:=S.ticks + 1,mon:=monT S i,rob:=doR S.rob (cmd0 S i) i.slip,ft:=filtG S i (cmd0 S i) true,bumped:=bumpG S i (cmd0 S i),sc:=(recG S i (cmd0 S i) true).1,pl:=(recG S i (cmd0 S i) true).2.1,scans:=(recG S i (cmd0 S i) true).2.2 } : SS))
 conv=>whnf
 refine ⟨⟨rfl,rfl⟩,hfl,by kernel_rfl,fun _=>?_⟩
 refine rusA (a2 ?_ ?_)
 all_goals intros
 ·have hv : (tickG S i (monT S i) (cmd0 S i) true).vis=(stM S.vis (hereF (filtG S i (cmd0 S i) true)).1 true):=if_pos (by assumption)
  refine OpX_updM (ke:=keC) (dv:=dvB) (k:=(hereF (filtG S i (cmd0 S i) true)).1) (a:=true) 2 rfl rfl Tryz.underlying94 rfl (by exact fun _=>rfl) (by exact fun σ E h=>rfl) ?_
  conv=>whnf
  refine rusA (a1 ?_)
  all_goals intros
  apply CallX_me (S.jb,S.je,S.rob.n + 1,(cmd0 S i).Turn,(cmd0 S i).Forward,bumpG S i (cmd0 S i),q1.1,q1.2,beamsG S i (cmd0 S i) true)
  conv=>whnf
  refine ⟨⟨rfl,rfl⟩,⟨hg,hbs,h15,by omega,hfr,by omega⟩,by kernel_rfl,fun _=>?_⟩
  refine rusA (a1 ?_)
  all_goals intros
  rw [hv]
  refine Fin_ja ((⟨g.rp,q2.1,q2.2,g.mr,g.ms,g.mp,g.mv⟩ : Gh),q1) ?_
  conv=>whnf
  exact ⟨rfl,rfl,rfl⟩
 ·have hv : (tickG S i (monT S i) (cmd0 S i) true).vis=S.vis:=if_neg (by simp only [*];simp)
  apply CallX_me (S.jb,S.je,S.rob.n + 1,(cmd0 S i).Turn,(cmd0 S i).Forward,bumpG S i (cmd0 S i),q1.1,q1.2,beamsG S i (cmd0 S i) true)
  conv=>whnf
  refine ⟨⟨rfl,rfl⟩,⟨hg,hbs,h15,by omega,hfr,by omega⟩,by kernel_rfl,fun _=>?_⟩
  refine rusA (a1 ?_)
  all_goals intros
  rw [hv]
  refine Fin_ja ((⟨g.rp,q2.1,q2.2,g.mr,g.ms,g.mp,g.mv⟩ : Gh),q1) ?_
  conv=>whnf
  exact ⟨rfl,rfl,rfl⟩
end Go.Proofs.YtkflmidichikjaaGreatDoor.V
end
