import Derived.Lay
import Derived.SevenTiedAt
import Derived.Stop.LaidErr
import Derived.Test.YtkflmidichikjaaGreatDoorCards
import Derived.Test.YtkflmidichikjaaGreatDoorTie
import Derived.Test.YtkflmidichikjaaGreatDoorZbQ47
set_option linter.all false
section
namespace Go.Proofs.YtkflmidichikjaaGreatDoor.systemClear
open Go
theorem and_t {a b : Bool} (ha : a = true) (hb : b = true) : (a && b) = true := by rw [ha, hb]; rfl
set_option maxHeartbeats 16000000 in
theorem facts : joinedFacts Tryz.prog 3 Tryz.f3 Rows.systemClearSpec Rows.systemClearRow = true := by
 unfold joinedFacts
 repeat' (with_reducible refine and_t ?_ ?_)
 all_goals (as_aux_lemma=>kernel_rfl)
end Go.Proofs.YtkflmidichikjaaGreatDoor.systemClear
end
section
namespace Go.Proofs.YtkflmidichikjaaGreatDoor.systemClear
open Go
theorem named : Tryz.prog.funcNamed Rows.systemClearRow.func = some 3 := by kernel_rfl
theorem wrapped : Tryz.f3.isWrapper Tryz.prog Rows.systemClearRow.wrapper Rows.systemClearRow.mainSum := by
 unfold Func.isWrapper
 first|(rw [if_pos (by decide +kernel)];kernel_rfl)|(rw [if_neg (by decide +kernel)];exact ⟨rfl,rfl⟩)
theorem instanced : Tryz.f3.isInstance Tryz.prog Rows.systemClearRow.origin Rows.systemClearRow.targs := of_decide_eq_true (by kernel_rfl)
theorem over_of (h : ∀ os : Os, os.Started → ∀ (H : Type) (enc : TypeId × Value → H), ReturnsInHanded {} Tryz.checked os 3 .any (fun w args => (Rows.systemClearSpec.pre enc Tryz.prog Tryz.f3 [] false w args ∧ laidMetH Tryz.prog Rows.systemClearRow.laid w) ∧ sizedMet enc Tryz.prog Tryz.f3 (OpenSpec.ofChange Rows.systemClearSpec) false w args)
 (Rows.systemClearSpec.post enc Tryz.prog Tryz.f3 false true false false)) : Rows.systemClearRow.holds Tryz.pinned (OpenSpec.ofChange Rows.systemClearSpec) :=
 OpenClaim.holds_of_wide 3 Tryz.f3 rfl rfl rfl rfl rfl rfl rfl ⟨rfl,rfl,rfl,rfl,rfl⟩ rfl rfl rfl rfl rfl named Tryz.func3 facts
  instanced wrapped
  (fun os started H enc _=>h os started H enc)
end Go.Proofs.YtkflmidichikjaaGreatDoor.systemClear
end
section
namespace Go.Proofs.YtkflmidichikjaaGreatDoor.systemClear
open Go
theorem wft : Rows.systemClearRow.wfByText (OpenSpec.ofChange Rows.systemClearSpec) = true := by kernel_rfl
theorem mains : Tryz.pinned.checked.prog.mainIs = some ((true : Bool), Rows.systemClearCard.stood.harness.2.toList) := by kernel_rfl
theorem lookd : Rows.systemClearCard.stood.looks = Tryz.pinned.checked.prog.looks [] := by kernel_rfl
theorem goesb : false = Rows.systemClearRow.goesBy Tryz.pinned.checked.prog := by kernel_rfl
theorem wants : ([32, 33].all fun u => !Tryz.prog.wantsStandIn u) = true := by kernel_rfl
theorem proved_of (over : Rows.systemClearRow.holds Tryz.pinned (OpenSpec.ofChange Rows.systemClearSpec)) : Rows.SystemClearCardSaid :=
 Claim7.holds_tied_plain_at .later [] [.data] true (true,Rows.systemClearCard.stood.harness.2) Rows.systemClearCard.stood.looks over (fun _ h=>by cases h) wft (fun _ h=>by cases h) systemClear_row_tie rfl ⟨rfl,rfl⟩ mains rfl
  (fun f fn hf hfn=>by
   obtain rfl : f=3:=Option.some.inj (named.symm.trans hf) |>.symm
   obtain rfl : fn=Tryz.f3:=(Option.some.inj (Tryz.func3.symm.trans hfn)).symm
   exact ⟨lookd,fun j t ht=>by
    rw [Tryz.params3] at ht
    have hm : t∈[32,33]:=by simpa using Array.mem_of_getElem? ht
    exact (show Tryz.prog.wantsStandIn t=false by simpa using List.all_eq_true.1 wants t hm)⟩)
  goesb
end Go.Proofs.YtkflmidichikjaaGreatDoor.systemClear
end
section
namespace Go.Proofs.YtkflmidichikjaaGreatDoor.V
open Go.RowKit
set_option maxRecDepth 100000
set_option maxHeartbeats 16000000
open Heading BoxP Drive PlanP Known Contr Loc Jou Atl RobotP Mon Mot Sys Grow Hon Sound
structure Sound.ClrI (x : Sc) (i : Nat) (S : SS) : Prop where
 (h1 : PoseI x i S) (h2 : S.bd=x.bd) (h3 : S.bumped=false) (h4 : okF S.mon.faults)
theorem Sound.ClrI.mono {x : Sc} {i : Nat} {S : SS} (h : ClrI x i S) : ClrI x (i + 1) S := ⟨h.h1.mono, h.h2, h.h3, h.h4⟩
theorem new_clr {x : Sc} (hx : x.ok) (hg : grdB x = true) (he : errN (honS x) = 0) : ClrI x 0 (new0 (honS x)) ∧ lenN (honS x) := by
 have hi:=hon_init he hx.h1 hx.h3
 obtain ⟨h1,h2⟩:=new_pose hx hg he
 exact ⟨⟨h1,hi.2.1,hi.2.2.1,hi.2.2.2⟩,h2⟩
theorem clr_step {x : Sc} {i : Nat} {S : SS} {n : Inp} (h : ClrI x i S) (hi : i ≤ 100) : ClrI x (i + 1) (tickT S n) ∧ (repT S n).ev.bump = false ∧ bits .and .i64 (repT S n).faults 6 = 0 ∧ ((repT S n).cmd = n.want ∨ (repT S n).cmd = ⟨0, 0⟩) ∧ ((repT S n).cmd ≠ ⟨0, 0⟩ → (safeP S.ft.p S.ft.set n.want x.bd).1 = true ∧ (repT S n).faults = 0) := by
 obtain ⟨h1,h2,h3,h4⟩:=h
 obtain ⟨c1,c2,c3,c4,c5,c6,c7⟩:=clear_tick (i:=n) h1.h3 h2 h3 h4
 exact ⟨⟨pose_step h1 hi,c5,c6,c7⟩,c1,okF_and c2,c3,c4⟩
theorem safe_err {p : Plan} {S : List Box} {c : Command} {bd : Bounds} (h : vCmd c = false) : (safeP p S c bd).2 = 1 := by
 unfold safeP
 rw [if_pos (.inr (.inr (.inl h)))]
theorem clear_c {x : Sc} {g : Gs} {A : Option Addr} {c : Nat} {l : List Inp} : CFc 3 false [x.s g, .fz A c 10 (flD Inp.e l)] (Hold x.ok) (B true) [] := ⟨fun hx => by
 have hln : (flD Inp.e l).length=l.length:=flD_len _ _
 rcases Bool.eq_false_or_eq_true (fewP l) with h3|h3
 ·rcases Bool.eq_false_or_eq_true (grdB x) with h1|h1
  ·by_cases he : errN (honS x)=0
   ·obtain ⟨hp,hlen⟩:=new_clr hx.out h1 he
    have Hp : Hold (ClrI x 0 (new0 (honS x))):=⟨hp⟩
    clear hp
    dsimp only [Sc.s] at *
    refine CM.of Tryz.func3 rfl tabOk rfl rfl rfl rfl (by simp [SV.nms,SV.nm]) fun w_ M_ π_ G0_=>?_
    refine ruhA (a1 ?_)
    all_goals intros
    apply CallX_me (h:=honest_yes (x:=x) (g:=g) h1 hx.out he) ()
    conv=>whnf
    refine ⟨⟨rfl,rfl⟩,trivial,by kernel_rfl,fun q=>?_⟩
    dsimp only [Setup.s] at *
    refine ruhA (a1 ?_)
    all_goals intros
    apply CallX_me (h:=new_ok (s:=honS x) (g:=⟨g.a,q.1,q.2.1,q.2.2⟩) he) ()
    conv=>whnf
    refine ⟨⟨rfl,rfl⟩,hlen,by kernel_rfl,fun g0=>?_⟩
    refine ruhA (a1 ?_)
    all_goals intros
    refine LoopX_keep [1,5,7,9] ?_
    conv=>whnf
    refine LoopX_p [10,11] (fun ((i,S,_) : Nat × SS × Gh)=>i≤l.length∧Hold (ClrI x i S)) (fun (i,_,_)=>[(9,I i)]) (fun (_,S,g)=>sysQ g S) (fun (i,_,_)=>l.length - i) (0,new0 (honS x),g0) ?_ ⟨Nat.zero_le _,Hp⟩
    conv=>whnf
    rintro ⟨i,S,g1⟩ ⟨j1,⟨j2⟩⟩
    conv=>whnf
    by_cases hlt : i < l.length
    ·have hx1 : (gt l i).errs.length≤1000000000:=Nat.le_trans ((few_l h3).2 _ (gt_mem hlt)) (by decide)
     have hl8:=(few_l h3).1
     have m4:=plan_len j2.h1.h1.h7
     have m5:=j2.h1.h1.h6
     have m6:=j2.h1.h2
     refine ruhA (a1 ?_)
     all_goals intros
     refine CallX_mr [2,3,4,5,6,7,8,9,10,11,12] (g1,S) rfl rfl (Nat.le_trans m4 (by decide)) rfl (fun kq=>?_)
     conv=>whnf
     refine ruhA (a1 ?_)
     all_goals intros
     refine CallX_mr [2,3,4,5,6,7,8,9,10,11,12] (g1,S) rfl rfl m5 rfl (fun sq=>?_)
     conv=>whnf
     refine ruhA (a1 ?_)
     all_goals intros
     refine CallX_i ?_ ⟨by omega,by omega⟩
     conv=>whnf
     refine ruhA (a1 ?_)
     all_goals intros
     by_cases hw : vCmd (gt l i).want=true
     ·obtain ⟨S',hS⟩ : ∃ S',tickT S ⟨(gt l i).want,false,(gt l i).stop,(gt l i).reset,(gt l i).slip,(gt l i).errs⟩ = S':=⟨_,rfl⟩
      obtain ⟨R,hR⟩ : ∃ R,repT S ⟨(gt l i).want,false,(gt l i).stop,(gt l i).reset,(gt l i).slip,(gt l i).errs⟩ = R:=⟨_,rfl⟩
      obtain ⟨n1,n2,n3,n4,n5⟩:=clr_step (n:=⟨(gt l i).want,false,(gt l i).stop,(gt l i).reset,(gt l i).slip,(gt l i).errs⟩) j2 (by omega)
      have r3 : R.ev.turn=R.cmd.Turn:=by rw [← hR];rfl
      have r4 : R.ev.fwd=R.cmd.Forward:=by rw [← hR];rfl
      have c1 : (R.cmd.Turn == R.ev.turn && (R.cmd.Forward == R.ev.fwd && true))=true:=by rw [r3,r4];simp
      rw [hR] at n2 n3 n4 n5
      rw [hS] at n1
      have N1 : Hold (ClrI x (i + 1) S'):=⟨n1⟩
      clear n1
      refine CallX_mr (h:=tick_okS (g:=g1) (S:=S) (S':=S') (R:=R) (i:=⟨(gt l i).want,false,(gt l i).stop,(gt l i).reset,(gt l i).slip,(gt l i).errs⟩) (A:=_) (k:=_) hw (by omega) hS hR) [2,3,4,5,6,7,8,9,10,11,12] () rfl rfl ⟨j2.h1.h1.ok (by omega),hx1⟩ rfl (fun q1=>?_)
      conv=>whnf
      by_cases hz : R.cmd.Turn=0∧R.cmd.Forward=0
      ·obtain ⟨z1,z2⟩:=hz
       have c2 : (R.cmd.Turn == 0 && (R.cmd.Forward == 0 && true))=true:=by rw [z1,z2];rfl
       clear n4 n5 hR hS
       refine ruhA (a2 ?_ ?_)
       all_goals intros
       all_goals exact rn (i + 1,S',q1.1) ⟨by omega,N1⟩
      ·have z0 : R.cmd ≠ ⟨0,0⟩:=fun h=>hz ⟨by rw [h],by rw [h]⟩
       obtain ⟨z1,z2⟩:=n5 z0
       have z3 : R.cmd=(gt l i).want:=n4.resolve_right z0
       have z4 : R.cmd.Turn=(gt l i).want.Turn:=congrArg Command.Turn z3
       have z5 : R.cmd.Forward=(gt l i).want.Forward:=congrArg Command.Forward z3
       have z6 : (safeP ⟨S.ft.p.W,S.ft.p.H,S.ft.p.cells⟩ S.ft.set ⟨(gt l i).want.Turn,(gt l i).want.Forward⟩ ⟨(honS x).bd.Turn,(honS x).bd.Length,(honS x).bd.Slip,(honS x).bd.Range⟩).1=true:=z1
       have c3 : (R.cmd.Turn == (gt l i).want.Turn && (R.cmd.Forward == (gt l i).want.Forward && true))=true:=by rw [z4,z5];simp
       clear n4 n5 hR hS z0 z3 z1
       refine ruhA (a1 ?_)
       all_goals intros
       all_goals exact rn (i + 1,S',q1.1) ⟨by omega,N1⟩
     ·have hw' : vCmd ⟨(gt l i).want.Turn,(gt l i).want.Forward⟩ = false:=by simpa using hw
      have hn:=cmd_no hw'
      have he1 : (safeP ⟨S.ft.p.W,S.ft.p.H,S.ft.p.cells⟩ S.ft.set ⟨(gt l i).want.Turn,(gt l i).want.Forward⟩ ⟨(honS x).bd.Turn,(honS x).bd.Length,(honS x).bd.Slip,(honS x).bd.Range⟩).2=1:=safe_err hw'
      refine CallX_mr (h:=tick_no1 (g:=g1) (S:=S) (t:=(gt l i).want.Turn) (f:=(gt l i).want.Forward) (au:=false) (sp:=(gt l i).stop) (rs:=(gt l i).reset) (a:=(gt l i).slip.Turn) (b:=(gt l i).slip.Length) (c:=(gt l i).slip.X) (d:=(gt l i).slip.Y) (A:=_) (k:=_) (E:=(gt l i).errs) hw') [2,3,4,5,6,7,8,9,10,11,12] () rfl rfl (by omega) rfl (fun q1=>?_)
      conv=>whnf
      have N1 : Hold (ClrI x (i + 1) S):=⟨j2.mono⟩
      clear hw
      refine ruhA (a1 ?_)
      all_goals intros
      exact rn (i + 1,S,g1) ⟨by omega,N1⟩
    ·refine ruhA (a1 ?_)
     all_goals intros
     ((refine Fin_j () ?_;(conv=>whnf);refine ⟨?_,?_,?_,?_⟩)<;>try first|rfl|exact trivial|((simp only [OB.flats,flatD_fl,and_self]);done)|(first|exact zCl|(subst_vars;exact zCl)))
   ·dsimp only [Sc.s] at *
    refine CM.of Tryz.func3 rfl tabOk rfl rfl rfl rfl (by simp [SV.nms,SV.nm]) fun w_ M_ π_ G0_=>?_
    refine ruhA (a1 ?_)
    all_goals intros
    apply CallX_me (h:=honest_err (x:=x) (g:=g) h1 hx.out he) ()
    conv=>whnf
    refine ⟨⟨rfl,rfl⟩,trivial,by kernel_rfl,fun q=>?_⟩
    dsimp only [Setup.s] at *
    refine ruhA (a1 ?_)
    all_goals intros
    ((refine Fin_j () ?_;(conv=>whnf);refine ⟨?_,?_,?_,?_⟩)<;>try first|rfl|exact trivial|((simp only [OB.flats,flatD_fl,and_self]);done)|(first|exact zCl|(subst_vars;exact zCl)))
  ·dsimp only [Sc.s] at *
   refine CM.of Tryz.func3 rfl tabOk rfl rfl rfl rfl (by simp [SV.nms,SV.nm]) fun w_ M_ π_ G0_=>?_
   refine ruhA (a1 ?_)
   all_goals intros
   refine CallX_i (h:=honest_no (x:=x) (g:=g) h1) ?_ trivial
   conv=>whnf
   refine ruhA (a1 ?_)
   all_goals intros
   ((refine Fin_j () ?_;(conv=>whnf);refine ⟨?_,?_,?_,?_⟩)<;>try first|rfl|exact trivial|((simp only [OB.flats,flatD_fl,and_self]);done)|(first|exact zCl|(subst_vars;exact zCl)))
 ·dsimp only [Sc.s] at *
  refine CM.of Tryz.func3 rfl tabOk rfl rfl rfl rfl (by simp [SV.nms,SV.nm]) fun w_ M_ π_ G0_=>?_
  refine ruhA (a1 ?_)
  all_goals intros
  ((refine Fin_j () ?_;(conv=>whnf);refine ⟨?_,?_,?_,?_⟩)<;>try first|rfl|exact trivial|((simp only [OB.flats,flatD_fl,and_self]);done)|(first|exact zCl|(subst_vars;exact zCl)))⟩
end Go.Proofs.YtkflmidichikjaaGreatDoor.V
end
