import Derived.Test.YtkflmidichikjaaGreatDoorZSystemReplays30
import Derived.Test.YtkflmidichikjaaGreatDoorZSystemReplays31
set_option linter.all false
section
namespace Go.Proofs.YtkflmidichikjaaGreatDoor.V
open Go.RowKit
set_option maxRecDepth 100000
set_option maxHeartbeats 16000000
open Heading BoxP Drive PlanP Known Contr Loc Jou Atl RobotP Mon Mot
theorem CallX_sim {C : Ctx} {f : FuncId} {args : List SV} {ob : List OB} {k : SV → List OB → Prop} (args' : List SV) (h : CallX C f args' ob k) (hv : ∀ σ, SV.vals σ args' = SV.vals σ args := by intro σ; rfl) (hw : ∀ E, SV.wfs E args → SV.wfs E args') : CallX C f args ob k := by
 unfold CallX at *
 intro σ G fp w hm hx
 rw [← hv σ]
 exact h σ G fp w hm (hw _ hx)
namespace Sys
structure Gh where
 (rp fp fs mr : Option Addr × Nat) (ms mp mv : Nat)
structure SS where
 (start : Pose) (bd : Bounds) (marks : List Int) (every late : Int)
 (rob : Rob) (ft : Filt) (mon : Mon.St) (jb : List Int) (je : List Evt)
 (sc : List (Int × List Beam)) (pl : List (Int × Pl)) (vis : List (Cell × Bool))
 (ticks scans : Int) (bumped : Bool)
structure Inp where
 (want : Command) (auto stop reset : Bool) (slip : Slip) (errs : List Int)
 deriving Inhabited
abbrev dvB (b : Bool) : DV := .v (.bool b)
abbrev nilS : SV := .v (.slice none 0 0)
abbrev sysO (g : Gh) (S : SS) : List OB := [
 mapO keI dvS g.ms S.sc,mapO keI dvP g.mp S.pl,mapO keC dvB g.mv S.vis,
 .box 100 [I 0,I 0,nilS,I 0,I 0,nilS,I S.bd.Turn,I S.bd.Length,I S.bd.Slip,I S.bd.Range,I S.start.X,I S.start.Y,I S.start.H,nilS,.fz g.mr.1 g.mr.2 1 (fl ie S.marks),I S.every,I S.late,
  .p 4 0,.p 5 0,.p 6 0,.p 7 0,.p 10 0,.v (.pointer none),nilS,.v (.map (some g.mv)),I S.ticks,I S.scans,B S.bumped],
 robO g.rp S.rob,filtO (g.fp,g.fs) S.ft,.box 161 [I S.mon.limit,I S.mon.faults,I S.mon.age],
 .box 143 [.sl 8 0 0 S.jb.length 1,.sl 9 0 0 S.je.length 5],.row false 5 1 (fl ye S.jb),.row false 57 5 (flD Evt.e S.je),
 .box 155 [.v (.map (some g.ms)),.v (.map (some g.mp))]]
def hereF (F : Filt) : Cell × Bool := if (estimate F.set).2 = false ∨ F.lost = true then (⟨0, 0⟩, false) else ofP ⟨(estimate F.set).1.X, (estimate F.set).1.Y⟩
def scanS (every t : Int) : Bool := t % every == 0
def followF (F : Filt) (c : Command) (bump : Bool) (s : List Beam) (scan : Bool) : Filt :=
 if F.lost=true then F else if scan=true then (seeP (moveP F c bump).1 s).1 else (moveP F c bump).1
def recordP (sc : List (Int × List Beam)) (pl : List (Int × Pl)) (n : Int) (F : Filt) (s : List Beam) : List (Int × List Beam) × List (Int × Pl) × Int :=
 if n ≥ 64 then (sc,pl,n) else
 ((putA sc n s).1,if (estimate F.set).2=true∧F.lost=false then (placeA pl n ⟨1,false,(estimate F.set).1.X,(estimate F.set).1.Y,(estimate F.set).1.H⟩).1 else pl,n + 1)
structure Rep where
 (tick : Int) (cmd : Command) (ev : Evt) (faults : Int) (lost : Bool) (status : Int)
def bumpG (S : SS) (i : Inp) (c : Command) : Bool := stepB S.rob c i.slip
def beamsG (S : SS) (i : Inp) (c : Command) (o : Bool) : List Beam := scanR S.rob c i.slip (if o = true then S.marks else []) (if o = true then i.errs else [])
def filtG (S : SS) (i : Inp) (c : Command) (o : Bool) : Filt := followF S.ft c (bumpG S i c) (beamsG S i c o) o
def recG (S : SS) (i : Inp) (c : Command) (o : Bool) : List (Int × List Beam) × List (Int × Pl) × Int := if o = true then recordP S.sc S.pl S.scans (filtG S i c o) (beamsG S i c o) else (S.sc, S.pl, S.scans)
def visG (S : SS) (F : Filt) : List (Cell × Bool) := if (hereF F).2 = true then stM S.vis (hereF F).1 true else S.vis
def evG (S : SS) (i : Inp) (c : Command) (o : Bool) : Evt := ⟨S.rob.n + 1, c.Turn, c.Forward, bumpG S i c, beamsG S i c o⟩
def frmE (e : Evt) : List Int := frmJ e.tick e.turn e.fwd e.bump e.scan
def tickG (S : SS) (i : Inp) (m : Mon.St) (c : Command) (o : Bool) : SS :=
 ⟨S.start,S.bd,S.marks,S.every,S.late,doR S.rob c i.slip,filtG S i c o,m,S.jb ++ frmE (evG S i c o),S.je ++ [evG S i c o],(recG S i c o).1,(recG S i c o).2.1,visG S (filtG S i c o),S.ticks + 1,(recG S i c o).2.2,bumpG S i c⟩
def monT (S : SS) (i : Inp) : Mon.St := obs S.mon i.stop S.ft.lost S.bumped (scanS S.every (S.ticks + 1 - 1)) i.reset
def safeT (S : SS) (i : Inp) : Bool := if S.ft.lost = true then false else (safeP S.ft.p S.ft.set i.want S.bd).1
def cmdT (S : SS) (i : Inp) : Command := gate (monT S i) i.want (safeT S i)
def scanT (S : SS) : Bool := scanS S.every (S.ticks + 1)
def tickT (S : SS) (i : Inp) : SS := tickG S i (monT S i) (cmdT S i) (scanT S)
def repG (S : SS) (i : Inp) (m : Mon.St) (c : Command) (o : Bool) : Rep := ⟨S.ticks + 1, c, evG S i c o, m.faults, (filtG S i c o).lost, 0⟩
def repT (S : SS) (i : Inp) : Rep := repG S i (monT S i) (cmdT S i) (scanT S)
abbrev Rep.s (r : Rep) (q : Option Addr × Nat) : SV := .a [I r.tick, I r.cmd.Turn, I r.cmd.Forward, I r.ev.tick, I r.ev.turn, I r.ev.fwd, B r.ev.bump, .fz q.1 q.2 2 (fl Beam.e r.ev.scan), I r.faults, B r.lost, I r.status]
end Sys
open Sys
abbrev sysN (g : Gh) (S : SS) : List OB := [
 mapO keI dvS g.ms S.sc,mapO keI dvP g.mp S.pl,mapO keC dvB g.mv S.vis,
 .box 100 [I 0,I 0,nilS,I 0,I 0,nilS,I S.bd.Turn,I S.bd.Length,I S.bd.Slip,I S.bd.Range,I S.start.X,I S.start.Y,I S.start.H,nilS,.fz g.mr.1 g.mr.2 1 (fl ie S.marks),I S.every,I S.late,
  .p 4 0,.p 5 0,.p 6 0,.p 7 0,.p 10 0,.v (.pointer none),nilS,.v (.map (some g.mv)),I S.ticks,I S.scans,B S.bumped],
 robO g.rp S.rob,filtO (g.fp,g.fs) S.ft,.box 161 [I S.mon.limit,I S.mon.faults,I S.mon.age],
 .box 143 [.sl 11 0 0 S.jb.length 1,.sl 12 0 0 S.je.length 5],dead,dead,
 .box 155 [.v (.map (some g.ms)),.v (.map (some g.mp))],.row false 5 1 (fl ye S.jb),.row false 57 5 (flD Evt.e S.je)]
instance inVsy_1 : CMe 58 (Gh × SS) true (fun _ => [.p 3 0]) (fun (g, S) => sysO g S) (fun (_, S) => S.ft.set.length ≤ 1000000000) Unit (fun (_, S) _ => .t [(hereF S.ft).1.s, B (hereF S.ft).2]) (fun (g, S) _ => sysO g S) := ⟨fun (g, S) p1 => by
 dsimp only [sysO] at *
 unfold hereF
 rcases Bool.eq_false_or_eq_true (estimate S.ft.set).2 with h1|h1
 ·rcases Bool.eq_false_or_eq_true S.ft.lost with h2|h2
  ·rw [if_pos (.inr h2)]
   refine CM.of Tryz.func58 rfl tabOk rfl rfl rfl rfl (by simp [SV.nms,SV.nm]) fun w_ M_ π_ G0_=>?_
   refine roA (a1 ?_)
   all_goals intros
   refine Fin_ja () ?_
   conv=>whnf
   exact ⟨rfl,rfl,rfl⟩
  ·rw [if_neg (by simp [h1,h2])]
   refine CM.of Tryz.func58 rfl tabOk rfl rfl rfl rfl (by simp [SV.nms,SV.nm]) fun w_ M_ π_ G0_=>?_
   refine roA (a1 ?_)
   all_goals intros
   refine Fin_ja () ?_
   conv=>whnf
   exact ⟨rfl,rfl,rfl⟩
 ·rw [if_pos (.inl h1)]
  refine CM.of Tryz.func58 rfl tabOk rfl rfl rfl rfl (by simp [SV.nms,SV.nm]) fun w_ M_ π_ G0_=>?_
  refine roA (a1 ?_)
  all_goals intros
  all_goals
   refine Fin_ja () ?_
   conv=>whnf
   exact ⟨rfl,rfl,rfl⟩⟩
instance inVsy_2 : AR 58 2 := ⟨trivial⟩
instance inVsy_3 : CMe 52 (Gh × SS × Int) true (fun (_, _, t) => [.p 3 0, I t]) (fun (g, S, _) => sysO g S) (fun (_, S, t) => 0 ≤ t ∧ 1 ≤ S.every) Unit (fun (_, S, t) _ => B (scanS S.every t)) (fun (g, S, _) _ => sysO g S) := ⟨fun (g, S, t) ⟨p1, p2⟩ => by
 dsimp only [sysO] at *
 unfold scanS
 refine CM.of Tryz.func52 rfl tabOk rfl rfl rfl rfl (by simp [SV.nms,SV.nm]) fun w_ M_ π_ G0_=>?_
 refine roA (a1 ?_)
 all_goals intros
 refine Fin_ja () ?_
 conv=>whnf
 exact ⟨rfl,rfl,rfl⟩⟩
instance inVsy_4 : AR 52 3 := ⟨trivial⟩
instance inVsy_5 : CMe 53 (Gh × SS × Int × Int × Bool × Bool × Bool × Int × Int × Int × Int × Option Addr × Nat × List Int) true (fun (_, _, t, f, au, sp, rs, a, b, c, d, A, k, E) => [.p 3 0, .a [I t, I f, B au, B sp, B rs, I a, I b, I c, I d, .fz A k 1 (fl ie E)]]) (fun (g, S, _) => sysO g S) (fun _ => True) Unit (fun (_, _, t, f, _) _ => .a [I t, I f]) (fun (g, S, _) _ => sysO g S) := ⟨fun (g, S, t, f, au, sp, rs, a, b, c, d, A, k, E) _ => by
 dsimp only [sysO] at *
 refine CM.of Tryz.func53 rfl tabOk rfl rfl rfl rfl (by simp [SV.nms,SV.nm]) fun w_ M_ π_ G0_=>?_
 refine roA (a2 ?_ ?_)
 all_goals intros
 all_goals
  refine Fin_ja () ?_
  conv=>whnf
  exact ⟨rfl,rfl,rfl⟩⟩
instance inVsy_6 : AR 53 14 := ⟨trivial⟩
end Go.Proofs.YtkflmidichikjaaGreatDoor.V
end
