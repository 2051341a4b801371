import Derived.Test.YtkflmidichikjaaGreatDoorZSystemReplays32
set_option linter.all false
section
namespace Go.Proofs.YtkflmidichikjaaGreatDoor.V
open Go.RowKit
set_option maxRecDepth 100000
set_option maxHeartbeats 16000000
open Heading BoxP Drive PlanP Known Contr Loc Jou Atl RobotP Mon Mot Sys
theorem mapE_len {α β : Type} {f : Nat → α → β × Int} : ∀ (M : List α) (s : Nat), (mapE f M s).1.length ≤ M.length
 | [],_=>by simp [mapE]
 | x :: r,s=>by
   have:=mapE_len (f:=f) r (s + 1)
   unfold mapE
   split
   ·simp
   ·split
    ·simp
    ·simp only [List.length_cons];omega
theorem move_len {F : Filt} {c : Command} {b : Bool} : (moveP F c b).1.set.length ≤ F.set.length := by
 unfold moveP
 split
 ·exact Nat.le_refl _
 ·split
  ·exact Nat.le_refl _
  ·split
   ·simp only
    unfold Pred.boxesP
    split
    ·simp
    ·split
     ·simp
     ·exact mapE_len _ _
   ·exact Nat.le_refl _
theorem move_pl {F : Filt} {c : Command} {b : Bool} : (moveP F c b).1.p = F.p := by
 unfold moveP
 split
 ·rfl
 ·split
  ·rfl
  ·split<;>rfl
instance inVsy2_1 : CMe 56 (((Option Addr × Nat) × Option Addr × Nat) × Filt × Int × Int × Int × Bool × Option Addr × Nat × List Beam × Bool) true (fun (_, _, t, u, f, bm, A, c, s, o) => [.p 0 0, .a [I t, I u, I f, B bm, .fz A c 2 (fl Beam.e s)], B o]) (fun (q, F, _) => [filtO q F])
 (fun (_,F,_,_,_,_,_,_,s,_)=>F.p.cells.length≤1000000000∧F.set.length≤1000000000∧s.length≤1000000000) ((Option Addr × Nat) × Option Addr × Nat) (fun _ _=>.t []) (fun (_,F,_,u,f,bm,_,_,s,o) q=>[filtO q (followF F ⟨u,f⟩ bm s o)]):=⟨fun (q,F,t,u,f,bm,A,c,s,o) ⟨p1,p2,p3⟩=>by
 dsimp only [filtO] at *
 unfold followF
 have m1:=move_len (F:=F) (c:=⟨u,f⟩) (b:=bm)
 have m2:=move_pl (F:=F) (c:=⟨u,f⟩) (b:=bm)
 have m3 : (moveP F ⟨u,f⟩ bm).1.p.cells.length≤1000000000:=by rw [m2];exact p1
 have m4 : (moveP F ⟨u,f⟩ bm).1.set.length≤1000000000:=by omega
 rcases Bool.eq_false_or_eq_true F.lost with h1|h1
 ·rw [if_pos h1]
  refine CM.of Tryz.func56 rfl tabOk rfl rfl rfl rfl (by simp [SV.nms,SV.nm]) fun w_ M_ π_ G0_=>?_
  refine roA (a1 ?_)
  all_goals intros
  refine Fin_ja q ?_
  conv=>whnf
  exact ⟨rfl,rfl,rfl⟩
 ·rw [if_neg (by simp [h1])]
  cases o with
  | false =>
    simp only [Bool.false_eq_true,if_false]
    refine CM.of Tryz.func56 rfl tabOk rfl rfl rfl rfl (by simp [SV.nms,SV.nm]) fun w_ M_ π_ G0_=>?_
    refine roA (a1 ?_)
    all_goals intros
    rename_i q2
    refine Fin_ja q2 ?_
    conv=>whnf
    exact ⟨rfl,rfl,rfl⟩
  | true =>
    simp only [if_true]
    refine CM.of Tryz.func56 rfl tabOk rfl rfl rfl rfl (by simp [SV.nms,SV.nm]) fun w_ M_ π_ G0_=>?_
    refine roA (a1 ?_)
    all_goals intros
    rename_i q2
    refine Fin_ja q2 ?_
    conv=>whnf
    exact ⟨rfl,rfl,rfl⟩⟩
instance inVsy2_2 : AR 56 10 := ⟨trivial⟩
instance inVsy2_3 : CMe 57 (Gh × SS × Option Addr × Nat × List Beam) true (fun (_, _, A, c, s) => [.p 3 0, .fz A c 2 (fl Beam.e s)]) (fun (g, S, _) => sysO g S)
 (fun (_,S,_,_,s)=>S.ft.set.length≤1000000000∧s.length≤1000000000∧0≤S.scans∧lkM S.sc S.scans=none∧lkM S.pl S.scans=none) Unit (fun _ _=>.t [])
 (fun (g,S,_,_,s) _=>sysO g { S with sc:=(recordP S.sc S.pl S.scans S.ft s).1,pl:=(recordP S.sc S.pl S.scans S.ft s).2.1,scans:=(recordP S.sc S.pl S.scans S.ft s).2.2 }):=⟨fun (g,S,A,c,s) ⟨p1,p2,p3,p4,p5⟩=>by
 dsimp only [sysO] at *
 unfold recordP
 by_cases h0 : S.scans ≥ 64
 ·rw [if_pos h0]
  refine CM.of Tryz.func57 rfl tabOk rfl rfl rfl rfl (by simp [SV.nms,SV.nm]) fun w_ M_ π_ G0_=>?_
  refine roA (a1 ?_)
  all_goals intros
  refine Fin_ja () ?_
  conv=>whnf
  exact ⟨rfl,rfl,rfl⟩
 ·rw [if_neg h0]
  rcases Bool.eq_false_or_eq_true (estimate S.ft.set).2 with h1|h1
  ·rcases Bool.eq_false_or_eq_true S.ft.lost with h2|h2
   ·rw [if_neg (by simp [h2])]
    refine CM.of Tryz.func57 rfl tabOk rfl rfl rfl rfl (by simp [SV.nms,SV.nm]) fun w_ M_ π_ G0_=>?_
    refine roA (a1 ?_)
    all_goals intros
    refine Fin_ja () ?_
    conv=>whnf
    exact ⟨rfl,rfl,rfl⟩
   ·rw [if_pos ⟨h1,h2⟩]
    refine CM.of Tryz.func57 rfl tabOk rfl rfl rfl rfl (by simp [SV.nms,SV.nm]) fun w_ M_ π_ G0_=>?_
    refine roA (a1 ?_)
    all_goals intros
    refine Fin_ja () ?_
    conv=>whnf
    exact ⟨rfl,rfl,rfl⟩
  ·rw [if_neg (by simp [h1])]
   refine CM.of Tryz.func57 rfl tabOk rfl rfl rfl rfl (by simp [SV.nms,SV.nm]) fun w_ M_ π_ G0_=>?_
   refine roA (a1 ?_)
   all_goals intros
   refine Fin_ja () ?_
   conv=>whnf
   exact ⟨rfl,rfl,rfl⟩⟩
instance inVsy2_4 : AR 57 5 := ⟨trivial⟩
end Go.Proofs.YtkflmidichikjaaGreatDoor.V
end
