import Derived.Test.YtkflmidichikjaaGreatDoorZSystemReplays38
import Derived.Test.YtkflmidichikjaaGreatDoorZSystemReplays39
import Derived.Test.YtkflmidichikjaaGreatDoorZSystemReplays40
import Derived.Test.YtkflmidichikjaaGreatDoorZSystemReplays41
import Derived.Test.YtkflmidichikjaaGreatDoorZSystemReplays33
set_option linter.all false
section
namespace Go.Proofs.YtkflmidichikjaaGreatDoor.V
open Go.RowKit
set_option maxRecDepth 100000
set_option maxHeartbeats 16000000
open Heading BoxP Drive PlanP Known Contr Loc Jou Atl RobotP Mon Mot Sys
theorem tick_ok {g : Gh} {S : SS} {i : Inp} {A : Option Addr} {k : Nat} (h : vCmd i.want = true) (hj : S.jb.length ≤ 65280) :
 CMe 13 Unit true (fun _=>[.p 3 0,i.s A k]) (fun _=>sysO g S) (fun _=>okS S∧i.errs.length≤1000000000) (Gh × Option Addr × Nat) (fun _ q=>.t [(repT S i).s q.2,I 0]) (fun _ q=>sysN q.1 (tickT S i)):=⟨fun _ hp=>by
 unfold tickT repT scanT
 rcases Bool.eq_false_or_eq_true S.ft.lost with hl|hl
 ·rw [cmd_l hl]
  rcases Bool.eq_false_or_eq_true (scanS S.every (S.ticks + 1)) with hs|hs
  ·rw [hs];exact tick_lt h hj hl hs hp
  ·rw [hs];exact tick_lf h hj hl hs hp
 ·rw [cmd_n hl]
  rcases Bool.eq_false_or_eq_true (scanS S.every (S.ticks + 1)) with hs|hs
  ·rw [hs];exact tick_nt h hj hl hs hp
  ·rw [hs];exact tick_nf h hj hl hs hp⟩
end Go.Proofs.YtkflmidichikjaaGreatDoor.V
end
section
namespace Go.Proofs.YtkflmidichikjaaGreatDoor.V
open Go.RowKit
set_option maxRecDepth 100000
set_option maxHeartbeats 16000000
open Heading BoxP Drive PlanP Known Contr Loc Jou Atl RobotP Mon Mot Sys
instance inVsy6_1 : CMe 11 (Gh × SS) true (fun _ => [.p 3 0]) (fun (g, S) => sysO g S) (fun (_, S) => S.ft.p.cells.length ≤ 1000000000) (Option Addr × Nat) (fun (_, S) q => .a [I S.ft.p.W, I S.ft.p.H, .fz q.1 q.2 1 (fl ye S.ft.p.cells)]) (fun (g, S) _ => sysO g S) := ⟨fun (g, S) p1 => by
 dsimp only [sysO] at *
 refine CM.of Tryz.func11 rfl tabOk rfl rfl rfl rfl (by simp [SV.nms,SV.nm]) fun w_ M_ π_ G0_=>?_
 refine roA (a1 ?_)
 all_goals intros
 (first|refine Fin_fr 30 rfl fun A1 c1=>?_|refine Fin_fr 29 rfl fun A1 c1=>?_|refine Fin_fr 28 rfl fun A1 c1=>?_|refine Fin_fr 27 rfl fun A1 c1=>?_|refine Fin_fr 26 rfl fun A1 c1=>?_|refine Fin_fr 25 rfl fun A1 c1=>?_|refine Fin_fr 24 rfl fun A1 c1=>?_|refine Fin_fr 23 rfl fun A1 c1=>?_|refine Fin_fr 22 rfl fun A1 c1=>?_|refine Fin_fr 21 rfl fun A1 c1=>?_|refine Fin_fr 20 rfl fun A1 c1=>?_|refine Fin_fr 19 rfl fun A1 c1=>?_|refine Fin_fr 18 rfl fun A1 c1=>?_|refine Fin_fr 17 rfl fun A1 c1=>?_|refine Fin_fr 16 rfl fun A1 c1=>?_|refine Fin_fr 15 rfl fun A1 c1=>?_|refine Fin_fr 14 rfl fun A1 c1=>?_|refine Fin_fr 13 rfl fun A1 c1=>?_|refine Fin_fr 12 rfl fun A1 c1=>?_|refine Fin_fr 11 rfl fun A1 c1=>?_|refine Fin_fr 10 rfl fun A1 c1=>?_)
 conv=>whnf
 (repeat ((with_reducible show ViewE _ _ _ _);(first|refine view_w zLn ?_|refine view_pf zSd ?_|refine view_p zSd ?_);(conv=>whnf)))
 refine Fin_ja (A1,c1) ?_
 conv=>whnf
 exact ⟨rfl,rfl,rfl⟩⟩
instance inVsy6_2 : AR 11 2 := ⟨trivial⟩
instance inVsy6_3 : CMe 18 (Gh × SS) true (fun _ => [.p 3 0]) (fun (g, S) => sysO g S) (fun _ => True) Unit (fun (_, S) _ => B S.ft.lost) (fun (g, S) _ => sysO g S) := ⟨fun (g, S) _ => by
 dsimp only [sysO] at *
 refine CM.of Tryz.func18 rfl tabOk rfl rfl rfl rfl (by simp [SV.nms,SV.nm]) fun w_ M_ π_ G0_=>?_
 refine roA (a1 ?_)
 all_goals intros
 refine Fin_ja () ?_
 conv=>whnf
 exact ⟨rfl,rfl,rfl⟩⟩
instance inVsy6_4 : AR 18 2 := ⟨trivial⟩
instance inVsy6_5 : CMe 16 (Gh × SS) true (fun _ => [.p 3 0]) (fun (g, S) => sysO g S) (fun _ => True) Unit (fun (_, S) _ => .a [I S.rob.at_.X, I S.rob.at_.Y, I S.rob.at_.H]) (fun (g, S) _ => sysO g S) := ⟨fun (g, S) _ => by
 dsimp only [sysO] at *
 refine CM.of Tryz.func16 rfl tabOk rfl rfl rfl rfl (by simp [SV.nms,SV.nm]) fun w_ M_ π_ G0_=>?_
 refine roA (a1 ?_)
 all_goals intros
 refine Fin_ja () ?_
 conv=>whnf
 exact ⟨rfl,rfl,rfl⟩⟩
instance inVsy6_6 : AR 16 2 := ⟨trivial⟩
end Go.Proofs.YtkflmidichikjaaGreatDoor.V
end
