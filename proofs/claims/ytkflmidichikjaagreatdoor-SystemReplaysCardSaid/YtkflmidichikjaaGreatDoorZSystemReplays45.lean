import Derived.Test.YtkflmidichikjaaGreatDoorZSystemReplays44
import Derived.Test.YtkflmidichikjaaGreatDoorZSystemReplays31
import Derived.Test.YtkflmidichikjaaGreatDoorZSystemReplays34
import Derived.Test.YtkflmidichikjaaGreatDoorZSystemReplays35
import Derived.Test.YtkflmidichikjaaGreatDoorZSystemReplays37
import Derived.Test.YtkflmidichikjaaGreatDoorZSystemReplays36
import Derived.Test.YtkflmidichikjaaGreatDoorZSystemReplays42
import Derived.Test.YtkflmidichikjaaGreatDoorZSystemReplays29
import Derived.Test.YtkflmidichikjaaGreatDoorZSystemReplays32
import Derived.Test.YtkflmidichikjaaGreatDoorZSystemReplays43
set_option linter.all false
section
namespace Go.Proofs.YtkflmidichikjaaGreatDoor.V
open Go.RowKit
set_option maxRecDepth 100000
set_option maxHeartbeats 16000000
open Heading BoxP Drive PlanP Known Contr Loc Jou Wire
theorem equal_yes {A A' : Option Addr} {c c' : Nat} {X Y : List Int} (h : X = Y) : CFc 115 false [.fz A c 1 (fl ye X), .fz A' c' 1 (fl ye Y)] (X.length ≤ 1000000000) (B true) [] := ⟨fun p1 => by
 subst h
 refine CM.of Tryz.func115 rfl tabOk rfl rfl rfl rfl (by simp [SV.nms,SV.nm]) fun w_ M_ π_ G0_=>?_
 refine roA (a1 ?_)
 intros
 refine LoopX_keep [0,1,12,13] ?_
 conv=>whnf
 refine LoopX_p [] (fun (i : Nat)=>i≤X.length) (fun i=>[(13,I i)]) (fun _=>[]) (fun i=>X.length - i) 0 ?_ (Nat.zero_le _)
 conv=>whnf
 intro i hi
 by_cases hlt : i < X.length
 ·refine roA (a1 ?_)
  intros
  exact rn (i + 1) (show i + 1≤X.length by omega)
 ·exact ru⟩
namespace Wire
def ckB (D : List Int) : List Int := [sumB ([1] ++ (uintB D.length ++ D)) % 256, sumB ([1] ++ (uintB D.length ++ D)) / 256 % 256, sumB ([1] ++ (uintB D.length ++ D)) / 256 / 256 % 256, sumB ([1] ++ (uintB D.length ++ D)) / 256 / 256 / 256]
theorem ckB_len {D : List Int} : (ckB D).length = 4 := rfl
theorem frm_chk {D : List Int} (h : D.length ≤ 4096) : (frameB 1 D).1 = checkedB ([1] ++ (uintB D.length ++ D)) := by
 unfold frameB
 rw [if_neg (by omega)]
theorem chk_eq {D : List Int} : checkedB ([1] ++ (uintB D.length ++ D)) = 1 :: (uintB D.length ++ (D ++ ckB D)) := by
 unfold checkedB ckB
 simp
end Wire
attribute [local irreducible] ckB
instance inVrr4_1 : CMe 67 (Option Addr × Nat × List Int × List Int) true (fun (A, c, D, R) => [.fz A c 1 (fl ye ((frameB 1 D).1 ++ R))]) (fun _ => []) (fun (_, _, D, R) => D.length ≤ 4096 ∧ R.length ≤ 1000000) ((Option Addr × Nat) × Option Addr × Nat)
 (fun (_,_,D,R) q=>.t [.v (.int .u8 1),.fz q.1.1 q.1.2 1 (fl ye D),.fz q.2.1 q.2.2 1 (fl ye R),I 0]) (fun _ _=>[]):=⟨fun (A,c,D,R) ⟨p1,p2⟩=>by
 dsimp only at *
 have hb0 : (frameB 1 D).1 ++ R=1 :: (uintB D.length ++ (D ++ (ckB D ++ R))):=by rw [frm_chk p1,chk_eq];simp
 rw [hb0]
 have k1 : (uintB (D.length : Int)).length≤10:=uintB_len
 have k2:=ckB_len (D:=D)
 have l0 : (D ++ (ckB D ++ R)).length=D.length + 4 + R.length:=by simp only [List.length_append,k2];omega
 have l1 : (1 :: (uintB (D.length : Int) ++ (D ++ (ckB D ++ R)))).length=1 + (uintB (D.length : Int)).length + D.length + 4 + R.length:=by simp only [List.length_cons,List.length_append,k2];omega
 have l2 : (fl ye (D ++ (ckB D ++ R))).length=D.length + 4 + R.length:=by rw [fl_len];exact l0
 have l3 : (fl ye (1 :: (uintB (D.length : Int) ++ (D ++ (ckB D ++ R))))).length=1 + (uintB (D.length : Int)).length + D.length + 4 + R.length:=by rw [fl_len];exact l1
 have g0 : Hold (0≤(D.length : Int)∧(D.length : Int) < 16384):=⟨by omega⟩
 have g1 : (D ++ (ckB D ++ R)).length≤1000000000:=by omega
 have hQ : List.take (1 + (uintB (D.length : Int)).length + D.length) (1 :: (uintB (D.length : Int) ++ (D ++ (ckB D ++ R))))=1 :: (uintB (D.length : Int) ++ D):=by
  rw [show 1 :: (uintB (D.length : Int) ++ (D ++ (ckB D ++ R)))=(1 :: (uintB (D.length : Int) ++ D)) ++ (ckB D ++ R) by simp]
  exact List.take_left' (by simp only [List.length_cons,List.length_append];omega)
 have hQ4 : List.take (1 + (uintB (D.length : Int)).length + D.length + 4) (1 :: (uintB (D.length : Int) ++ (D ++ (ckB D ++ R))))=checkedB (1 :: (uintB (D.length : Int) ++ D)):=by
  rw [show checkedB (1 :: (uintB (D.length : Int) ++ D))=checkedB ([1] ++ (uintB (D.length : Int) ++ D)) from rfl,chk_eq,show 1 :: (uintB (D.length : Int) ++ (D ++ (ckB D ++ R)))=(1 :: (uintB (D.length : Int) ++ (D ++ ckB D))) ++ R by simp]
  exact List.take_left' (by simp only [List.length_cons,List.length_append,k2];omega)
 have lQ : (1 :: (uintB (D.length : Int) ++ D)).length=1 + (uintB (D.length : Int)).length + D.length:=by simp only [List.length_cons,List.length_append];omega
 have hD1 : List.take D.length (D ++ (ckB D ++ R))=D:=List.take_left' rfl
 have hD2 : List.drop (D.length + 4) (D ++ (ckB D ++ R))=R:=by
  rw [← List.append_assoc]
  exact List.drop_left' (by rw [List.length_append,k2])
 refine CM.of Tryz.func67 rfl tabOk rfl rfl rfl rfl (by simp [SV.nms,SV.nm]) fun w_ M_ π_ G0_=>?_
 refine roA (a1 ?_)
 intros
 refine ValX_fzTail 1 tabOk rfl rfl rfl (by omega) fun A1 c1=>?_
 conv=>whnf
 rw [show List.drop 1 (1 :: (uintB (D.length : Int) ++ (D ++ (ckB D ++ R))))=uintB (D.length : Int) ++ (D ++ (ckB D ++ R)) from rfl]
 refine rudA (a1 ?_)
 intros
 refine DrawX_tree tabOk folOk (.op 0 (.op 1 (.op 2 (.op 5 (.op 6 (.op 7 (.op 8 (.op 3 (.op 4 (.op 9 (.op 10 .nil))))))))))) (by kernel_rfl) ?_
 conv=>whnf
 refine ValX_fzHeadD (1 + (uintB (D.length : Int)).length + D.length) tabOk rfl rfl (by omega) (by omega) ?_
 conv=>whnf
 refine roA (a1 ?_)
 intros
 refine ValX_fzHeadD (1 + (uintB (D.length : Int)).length + D.length + 4) tabOk rfl rfl (by omega) (by omega) ?_
 conv=>whnf
 refine roA (a2 ?_ ?_)
 ·intros
  refine ValX_fzHeadD (1 + (uintB (D.length : Int)).length + D.length + 4) tabOk rfl rfl (by omega) (by omega) ?_
  rfl
 ·intros
  rw [hQ]
  refine roA (a2 ?_ ?_)
  ·intros
   refine ValX_fzHeadD (1 + (uintB (D.length : Int)).length + D.length + 4) tabOk rfl rfl (by omega) (by omega) ?_
   rfl
  ·intros
   refine CallX_v fun φ=>?_
   conv=>whnf
   refine view_w (by rw [fl_len,checkedB_len]) ?_
   conv=>whnf
   refine CallB_i (h:=equal_yes hQ4.symm) ?_ (by rw [checkedB_len];omega)
   conv=>whnf
   refine rudA (a1 ?_)
   intros
   refine DrawX_tree tabOk folOk (.op 0 (.op 1 (.op 2 (.op 3 (.op 4 (.op 5 (.op 6 (.op 7 (.op 8 (.op 9 (.op 10 (.op 11 (.op 12 (.op 13 (.op 14 (.op 15 .nil)))))))))))))))) (by kernel_rfl) ?_
   conv=>whnf
   refine roA (a1 ?_)
   intros
   refine ValX_fzTop D.length tabOk rfl rfl rfl (by omega) fun A2 c2=>?_
   conv=>whnf
   refine roA (a1 ?_)
   intros
   refine ValX_fzTail (D.length + 4) tabOk rfl rfl (by omega) (by omega) fun A3 c3=>?_
   conv=>whnf
   refine roA (a1 ?_)
   intros
   rw [hD1,hD2]
   refine Fin_ja ((A2,c2),A3,c3) ?_
   conv=>whnf
   exact ⟨rfl,rfl,rfl⟩⟩
instance inVrr4_2 : AR 67 4 := ⟨trivial⟩
theorem unframe_nil {A : Option Addr} {c : Nat} : CFc 67 false [.fz A c 1 (fl ye [])] True (.t [.v (.int .u8 0), .v (.slice none 0 0), .v (.slice none 0 0), I 4]) [] := ⟨fun _ => by
 have l0 : (fl ye []).length=0:=rfl
 refine CM.of Tryz.func67 rfl tabOk rfl rfl rfl rfl (by simp [SV.nms,SV.nm]) fun w_ M_ π_ G0_=>?_
 exact ru⟩
end Go.Proofs.YtkflmidichikjaaGreatDoor.V
end
section
namespace Go.Proofs.YtkflmidichikjaaGreatDoor.V
open Go.RowKit
set_option maxRecDepth 100000
set_option maxHeartbeats 16000000
open Heading BoxP Drive PlanP Known Contr Loc Jou Wire
instance inVrr5_1 : CMe 26 (List Int × List Evt) true (fun _ => [.p 0 0]) (fun (b, L) => jourO b L) (fun (_, L) => L.length ≤ 1000000 ∧ Hold (∀ e ∈ L, e.scan.length ≤ 1000000)) (Option Addr × Nat) (fun (_, L) q => .fz q.1 q.2 5 (flD Evt.e L)) (fun (b, L) _ => jourO b L) := ⟨fun (b, L) ⟨p1, p2⟩ => by
 dsimp only [jourO] at *
 refine CM.of Tryz.func26 rfl tabOk rfl rfl rfl rfl (by simp [SV.nms,SV.nm]) fun w_ M_ π_ G0_=>?_
 refine roA (a1 ?_)
 intros
 refine LoopX_nil 3 57 5 rfl ?_
 conv=>whnf
 refine LoopX_keep [3,11,12,13] ?_
 conv=>whnf
 refine LoopX_p [3] (fun ((i,m,M) : Nat × Nat × List Evt)=>i≤L.length∧m=M.length∧Hold (M=L.take i)) (fun (i,m,_)=>[(3,.sl 3 0 0 m 5),(13,I i)]) (fun (_,_,M)=>[(3,.row false 57 5 (flD Evt.e M))]) (fun (i,_,_)=>L.length - i) (0,0,[]) ?_ ⟨Nat.zero_le _,rfl,⟨rfl⟩⟩
 conv=>whnf
 rintro ⟨i,m,M⟩ ⟨h1,rfl,h2⟩
 conv=>whnf
 by_cases hi : i < L.length
 ·have hs : (gt L ((i : Int).toNat + 0)).scan.length≤1000000000:=Nat.le_trans (p2.out _ (gt_mem hi)) (by decide)
  have hM : M.length≤1000000:=by rw [h2.out,List.length_take];omega
  refine roA (a1 ?_)
  intros
  refine OpX_fr 5 rfl fun A1 c1=>?_
  conv=>whnf
  refine roA (a1 ?_)
  intros
  refine OpX_appD (enc:=Evt.e) (X:=M) (m:=1) (Z:=flD Evt.e [gt L i]) tabOk rfl rfl rfl rfl rfl (Sees.allD (enc:=Evt.e) (X:=[gt L i]) rfl rfl) rfl zSd zSd ?_
  conv=>whnf
  rw [show flD Evt.e M ++ flD Evt.e [gt L i]=flD Evt.e (M ++ [gt L i]) by simp [flD]]
  refine roA (a1 ?_)
  intros
  exact rn (i + 1,M.length + 1,M ++ [gt L i]) ⟨by omega,by rw [List.length_append];rfl,⟨by rw [h2.out,take_snoc hi]⟩⟩
 ·have e : M=L:=by rw [h2.out,List.take_of_length_le (by omega)]
  subst e
  refine roA (a1 ?_)
  intros
  refine Fin_fr 3 rfl fun A1 c1=>?_
  conv=>whnf
  refine view_w (flD_len _ _).symm ?_
  conv=>whnf
  refine Fin_ja (A1,c1) ?_
  conv=>whnf
  exact ⟨rfl,rfl,rfl⟩⟩
instance inVrr5_2 : AR 26 2 := ⟨trivial⟩
end Go.Proofs.YtkflmidichikjaaGreatDoor.V
end
section
namespace Go.Proofs.YtkflmidichikjaaGreatDoor.V
open Go.RowKit
set_option maxRecDepth 100000
set_option maxHeartbeats 16000000
open Heading BoxP Drive PlanP Known Contr Loc Jou Wire Sys
theorem ValX_strne {C : Ctx} {ob : List OB} {k : SV → Prop} {o : Oper} {x y : Operand} {t : TypeId} {a b : ByteArray} (hP : C.P = Tryz.prog) (ho : o.op = .binOp .neq 9 x y t) (hk : k (.v (.bool (a.toList != b.toList)))) : ValX C o [.v (.string a), .v (.string b)] ob k := by
 unfold ValX
 intro σ G fp w ρ hm hw hx
 rw [ho] at hx
 simp [Op.operands,SV.vals,SV.val] at hx
 refine ⟨_,hk,?_,trivial⟩
 have hc : (binOp .neq 9 (.string a) (.string b)).run Tryz.prog w = .ok (.bool (a.toList != b.toList)) w:=rfl
 have hg : (eqGuard .neq 9 x y (.string a) (.string b)).run Tryz.prog w = .ok () w:=by
  unfold eqGuard
  rfl
 simp only [execOp,ho,hx.1,hx.2,hP,Sem.run_bind,hg,hc,Result.andThen_ok,Sem.run_pure]
 rfl
namespace Jou
structure goodL (L : List Evt) : Prop where
 (h1 : L.length≤1000) (h2 : ∀ e∈L,vCmd ⟨e.turn,e.fwd⟩ = true∧Contr.vScan e.scan=true) (h3 : ∀ k,k < L.length→lastE (L.take k) < (gt L k).tick∧0≤(gt L k).tick∧(gt L k).tick < 8192) (h4 : 4 + (L.flatMap frmE).length≤65536)
abbrev magic : List Int := [87, 70, 74, 49]
end Jou
theorem flat_take {α β : Type} {f : α → List β} {L : List α} (k : Nat) : ((L.take k).flatMap f).length + ((L.drop k).flatMap f).length = (L.flatMap f).length := by
 rw [← List.length_append,← List.flatMap_append,List.take_append_drop]
instance inVrr6_1 : CMe 22 (Option Addr × Nat × List Evt) true (fun (A, c, L) => [.fz A c 1 (fl ye (magic ++ L.flatMap frmE))]) (fun _ => []) (fun (_, _, L) => Hold (goodL L)) Unit (fun _ _ => .t [.p 0 0, I 0, I 0]) (fun (_, _, L) _ => jourO (magic ++ L.flatMap frmE) L) := ⟨fun (A, c, L) ⟨⟨p1, p2, p3, p4⟩⟩ => by
 dsimp only [jourO] at *
 have l0 : (fl ye (magic ++ L.flatMap frmE)).length=4 + (L.flatMap frmE).length:=by rw [fl_len,List.length_append];rfl
 have l1 : (magic ++ L.flatMap frmE).length=4 + (L.flatMap frmE).length:=by rw [List.length_append];rfl
 refine CM.of Tryz.func22 rfl tabOk rfl rfl rfl rfl (by simp [SV.nms,SV.nm]) fun w_ M_ π_ G0_=>?_
 refine roA (a1 ?_)
 intros
 refine ValX_fzHead 4 tabOk rfl rfl rfl (by omega) fun A1 c1=>?_
 conv=>whnf
 rw [show List.take 4 (magic ++ L.flatMap frmE)=magic from rfl]
 refine roA (a1 ?_)
 intros
 refine ValX_convF rfl rfl (by decide) ?_
 conv=>whnf
 refine roA (a1 ?_)
 intros
 refine ValX_strne rfl rfl ?_
 conv=>whnf
 rw [show ((strOfNums magic).toList != (ByteArray.mk #[87,70,74,49]).toList)=false by decide +kernel]
 refine roA (a1 ?_)
 intros
 refine ValX_fzTailD 4 tabOk rfl rfl rfl (by omega) ?_
 conv=>whnf
 rw [show List.drop 4 (magic ++ L.flatMap frmE)=L.flatMap frmE from rfl]
 refine roA (a3 ?_ ?_ ?_)
 ·intros
  refine ValX_fzTailD 4 tabOk rfl rfl rfl (by omega) ?_
  rfl
 ·intros
  refine ValX_fzTailD 4 tabOk rfl rfl rfl (by omega) ?_
  rfl
 intros
 refine LoopX_keep [5,6] ?_
 conv=>whnf
 refine LoopX_p [1,2] (fun ((k,_,Z,b,M) : Nat × (Option Addr × Nat) × List Int × List Int × List Evt)=>k≤L.length∧Hold (Z=(L.drop k).flatMap frmE∧b=magic ++ (L.take k).flatMap frmE∧M=L.take k)) (fun (_,q,Z,_,_)=>[(6,.fz q.1 q.2 1 (fl ye Z))]) (fun (_,_,_,b,M)=>[(0,.box 143 [.sl 1 0 0 b.length 1,.sl 2 0 0 M.length 5]),(1,.row false 5 1 (fl ye b)),(2,.row false 57 5 (flD Evt.e M))]) (fun (k,_,_,_,_)=>L.length - k) (0,(cutA A c 4 1,c - 4),L.flatMap frmE,magic,[]) ?_ ⟨Nat.zero_le _,⟨rfl,by simp,rfl⟩⟩
 conv=>whnf
 rintro ⟨k,q,Z,b,M⟩ ⟨j1,⟨j2,j3,j4⟩⟩
 conv=>whnf
 by_cases hk : k < L.length
 ·have hz : Z=(frameB 1 (encB (gt L k).tick (gt L k).turn (gt L k).fwd (gt L k).bump (gt L k).scan)).1 ++ (L.drop (k + 1)).flatMap frmE:=by
   rw [j2,drop_gt hk,List.flatMap_cons]
   rfl
  obtain ⟨g1,g2⟩:=p2 _ (gt_mem hk)
  obtain ⟨g3,g0,g4⟩:=p3 k hk
  have hf1:=flat_take (f:=frmE) (L:=L) (k + 1)
  have hf2:=flat_next (f:=frmE) hk
  have hf3 : frmE (gt L k)=frmJ (gt L k).tick (gt L k).turn (gt L k).fwd (gt L k).bump (gt L k).scan:=rfl
  have hb1 : b ++ frmJ (gt L k).tick (gt L k).turn (gt L k).fwd (gt L k).bump (gt L k).scan=magic ++ (L.take (k + 1)).flatMap frmE:=by rw [j3,hf2,hf3,List.append_assoc]
  have hbl : b.length + (frmJ (gt L k).tick (gt L k).turn (gt L k).fwd (gt L k).bump (gt L k).scan).length≤65536:=by
   rw [← List.length_append,hb1,List.length_append]
   have : magic.length=4:=rfl
   omega
  have hM1 : M ++ [⟨(gt L k).tick,(gt L k).turn,(gt L k).fwd,(gt L k).bump,(gt L k).scan⟩]=L.take (k + 1):=by rw [j4,take_snoc hk]
  have hD:=encB_len (t:=(gt L k).tick) (u:=(gt L k).turn) (f:=(gt L k).fwd) (b:=(gt L k).bump) (vScan_iff.1 g2).2
  have hR : ((L.drop (k + 1)).flatMap frmE).length≤1000000:=by omega
  have hD2 : (encB (gt L k).tick (gt L k).turn (gt L k).fwd (gt L k).bump (gt L k).scan).length≤4096:=by omega
  rw [← j4] at g3
  have hM : M.length≤1000000000:=by rw [j4,List.length_take];omega
  have J : Hold (_∧_):=⟨⟨hb1,hM1⟩⟩
  clear j2 j3 j4 hf1 hf2 hf3 hb1 hM1
  subst hz
  refine roA (a1 ?_)
  intros
  rename_i u _ _
  exact rn (k + 1,u.2,(L.drop (k + 1)).flatMap frmE,b ++ frmJ (gt L k).tick (gt L k).turn (gt L k).fwd (gt L k).bump (gt L k).scan,M ++ [⟨(gt L k).tick,(gt L k).turn,(gt L k).fwd,(gt L k).bump,(gt L k).scan⟩]) ⟨by omega,⟨rfl,J.out.1,J.out.2⟩⟩
 ·haveI:=fun (A : Option Addr) (c : Nat)=>@unframe_nil A c
  have e : k=L.length:=by omega
  subst e
  rw [List.drop_length] at j2
  rw [List.take_length] at j3 j4
  have j2' : Z=[]:=j2
  subst j2' j3 j4
  refine roA (a1 ?_)
  intros
  refine Fin_ja () ?_
  conv=>whnf
  exact ⟨rfl,rfl,rfl⟩⟩
instance inVrr6_2 : AR 22 3 := ⟨trivial⟩
end Go.Proofs.YtkflmidichikjaaGreatDoor.V
end
section
namespace Go.Proofs.YtkflmidichikjaaGreatDoor.V
open Go.RowKit
set_option maxRecDepth 100000
open Heading BoxP Drive PlanP Known Contr Loc Jou Atl RobotP Mon Mot Sys Grow
namespace Sys
def stepE (every : Int) (F : Filt) (e : Evt) : Filt := followF F ⟨e.turn, e.fwd⟩ e.bump e.scan (scanS every e.tick)
structure repI (every : Int) (F0 : Filt) (S : SS) : Prop where
 (h1 : S.every=every) (h2 : S.rob.n=S.ticks) (h3 : S.jb=[87,70,74,49] ++ S.je.flatMap frmE) (h4 : S.ft=S.je.foldl (stepE every) F0)
 (h5 : ∀ e∈S.je,vCmd ⟨e.turn,e.fwd⟩ = true∧Contr.vScan e.scan=true) (h6 : S.ticks=S.je.length) (h7 : ∀ k,k < S.je.length→(gt S.je k).tick=k + 1)
end Sys
theorem beams_ok {n : Nat} {S : SS} {i : Inp} (h : okN n S) : Contr.vScan (beamsG S i (cmdT S i) (scanT S)) = true := by
 unfold beamsG
 split
 ·exact (scan_ok h.h3).1
 ·exact (scan_ok (M:=[]) rfl).1
theorem gt_app {α : Type} [Inhabited α] {L : List α} {a : α} {k : Nat} : gt (L ++ [a]) k = if k < L.length then gt L k else if k = L.length then a else default := by
 simp only [gt,List.getD_eq_getElem?_getD,List.getElem?_append]
 split
 ·rfl
 ·rename_i h
  by_cases h2 : k=L.length
  ·subst h2;simp
  ·rw [if_neg h2,List.getElem?_eq_none (by simp;omega)];rfl
theorem tick_rep {n : Nat} {every : Int} {F0 : Filt} {S : SS} {i : Inp} (hk : okN n S) (h : repI every F0 S) : repI every F0 (tickT S i) := by
 obtain ⟨h1,h2,h3,h4,h5,h6,h7⟩:=h
 refine ⟨h1,?_,?_,?_,?_,?_,?_⟩
 ·show (doR S.rob (cmdT S i) i.slip).n=S.ticks + 1
  rw [doR_n,h2]
 ·show S.jb ++ frmE (evG S i (cmdT S i) (scanT S))=[87,70,74,49] ++ (S.je ++ [evG S i (cmdT S i) (scanT S)]).flatMap frmE
  rw [h3,List.flatMap_append,List.append_assoc]
  simp
 ·show filtG S i (cmdT S i) (scanT S)=(S.je ++ [evG S i (cmdT S i) (scanT S)]).foldl (stepE every) F0
  rw [List.foldl_append,← h4]
  show filtG S i (cmdT S i) (scanT S)=followF S.ft _ _ _ (scanS every (S.rob.n + 1))
  rw [h2,← h1]
  rfl
 ·intro e he
  rcases List.mem_append.1 he with he|he
  ·exact h5 e he
  ·obtain rfl:=List.mem_singleton.1 he
   exact ⟨gate_ok,beams_ok hk⟩
 ·show S.ticks + 1=((S.je ++ [evG S i (cmdT S i) (scanT S)]).length : Int)
  rw [List.length_append,h6]
  simp
 ·intro k hk'
  have hk2 : k < S.je.length + 1:=by
   have : (S.je ++ [evG S i (cmdT S i) (scanT S)]).length=S.je.length + 1:=by simp
   rw [← this];exact hk'
  show (gt (S.je ++ [evG S i (cmdT S i) (scanT S)]) k).tick=k + 1
  rw [gt_app]
  split
  ·rename_i hlt
   exact h7 k hlt
  ·rw [if_pos (by omega)]
   show S.rob.n + 1=_
   rw [h2,h6]
   omega
theorem new_rep {s : Setup} : repI s.every (new0 s).ft (new0 s) := ⟨rfl, rfl, rfl, rfl, (fun e he => (by cases he)), rfl, (fun k hk => absurd hk (Nat.not_lt_zero k))⟩
theorem step_keeps {every : Int} {F : Filt} {e : Evt} (h1 : vPlan F.p = true) (h2 : goodC F.p.cells) (h3 : F.set.length ≤ 1000000000) : vPlan (stepE every F e).p = true ∧ goodC (stepE every F e).p.cells ∧ (stepE every F e).set.length ≤ 1000000000 := by
 have hb : Below F.p (stepE every F e).p:=follow_below h1 h2
 exact ⟨hb.v h1,hb.2.2.2.1,follow_len h3⟩
theorem fold_keeps {every : Int} : ∀ {L : List Evt} {F : Filt}, vPlan F.p = true → goodC F.p.cells → F.set.length ≤ 1000000000 → vPlan (L.foldl (stepE every) F).p = true ∧ goodC (L.foldl (stepE every) F).p.cells ∧ (L.foldl (stepE every) F).set.length ≤ 1000000000
 | [],_,h1,h2,h3=>⟨h1,h2,h3⟩
 | e :: L,F,h1,h2,h3=>by
   obtain ⟨k1,k2,k3⟩:=step_keeps (every:=every) (e:=e) h1 h2 h3
   exact fold_keeps (L:=L) k1 k2 k3
theorem fold_take {every : Int} {L : List Evt} {F : Filt} {i : Nat} (h : i < L.length) : (L.take (i + 1)).foldl (stepE every) F = stepE every ((L.take i).foldl (stepE every) F) (gt L i) := by
 rw [List.take_succ,List.foldl_append]
 simp [gt,List.getElem?_eq_getElem h]
end Go.Proofs.YtkflmidichikjaaGreatDoor.V
end
section
namespace Go.Proofs.YtkflmidichikjaaGreatDoor.V
open Go.RowKit
set_option maxRecDepth 100000
set_option maxHeartbeats 16000000
open Heading BoxP Drive PlanP Known Contr Loc Jou Atl RobotP Mon Mot Sys Grow
instance inVrr7_1 : CMe 21 (Gh × SS) true (fun _ => [.p 3 0]) (fun (g, S) => sysO g S) (fun (_, S) => S.jb.length ≤ 1000000000) (Option Addr × Nat) (fun (_, S) q => .fz q.1 q.2 1 (fl ye S.jb)) (fun (g, S) _ => sysO g S) := ⟨fun (g, S) p1 => by
 dsimp only [sysO] at *
 refine CM.of Tryz.func21 rfl tabOk rfl rfl rfl rfl (by simp [SV.nms,SV.nm]) fun w_ M_ π_ G0_=>?_
 refine roA (a1 ?_)
 intros
 (first|refine Fin_fr 30 rfl fun A1 c1=>?_|refine Fin_fr 29 rfl fun A1 c1=>?_|refine Fin_fr 28 rfl fun A1 c1=>?_|refine Fin_fr 27 rfl fun A1 c1=>?_|refine Fin_fr 26 rfl fun A1 c1=>?_|refine Fin_fr 25 rfl fun A1 c1=>?_|refine Fin_fr 24 rfl fun A1 c1=>?_|refine Fin_fr 23 rfl fun A1 c1=>?_|refine Fin_fr 22 rfl fun A1 c1=>?_|refine Fin_fr 21 rfl fun A1 c1=>?_|refine Fin_fr 20 rfl fun A1 c1=>?_|refine Fin_fr 19 rfl fun A1 c1=>?_|refine Fin_fr 18 rfl fun A1 c1=>?_|refine Fin_fr 17 rfl fun A1 c1=>?_|refine Fin_fr 16 rfl fun A1 c1=>?_|refine Fin_fr 15 rfl fun A1 c1=>?_|refine Fin_fr 14 rfl fun A1 c1=>?_|refine Fin_fr 13 rfl fun A1 c1=>?_|refine Fin_fr 12 rfl fun A1 c1=>?_|refine Fin_fr 11 rfl fun A1 c1=>?_|refine Fin_fr 10 rfl fun A1 c1=>?_)
 conv=>whnf
 (repeat ((with_reducible show ViewE _ _ _ _);(first|refine view_w zLn ?_|refine view_pf zSd ?_|refine view_p zSd ?_);(conv=>whnf)))
 refine Fin_ja (A1,c1) ?_
 conv=>whnf
 exact ⟨rfl,rfl,rfl⟩⟩
instance inVrr7_2 : AR 21 2 := ⟨trivial⟩
abbrev planZ : SV := .a [I 0, I 0, nilS]
theorem replay_no {s : Setup} {g : Ga} {A : Option Addr} {c : Nat} {B0 : List Int} (h : errN s ≠ 0) : CFc 20 false [s.s g, .fz A c 1 (fl ye B0)] (lenN s) (.t [nilS, planZ, B false, I (errN s)]) [] := ⟨fun hlen => by
 dsimp only [Setup.s] at *
 refine CM.of Tryz.func20 rfl tabOk rfl rfl rfl rfl (by simp [SV.nms,SV.nm]) fun w_ M_ π_ G0_=>?_
 refine roA (a1 ?_)
 intros
 refine CallX_i (h:=new_no (s:=s) (g:=g) h) ?_ hlen
 conv=>whnf
 exact ru⟩
theorem open_short {A : Option Addr} {c : Nat} : CFc 22 false [.fz A c 1 (fl ye [])] True (.t [.v (.pointer none), I 0, I 4]) [] := ⟨fun _ => by
 have l0 : (fl ye []).length=0:=rfl
 refine CM.of Tryz.func22 rfl tabOk rfl rfl rfl rfl (by simp [SV.nms,SV.nm]) fun w_ M_ π_ G0_=>?_
 exact ru⟩
theorem replay_short {s : Setup} {g : Ga} {A : Option Addr} {c : Nat} (h : errN s = 0) : CFc 20 false [s.s g, .fz A c 1 (fl ye [])] (lenN s) (.t [nilS, planZ, B false, I 4]) [] := ⟨fun hlen => by
 dsimp only [Setup.s] at *
 refine CM.of Tryz.func20 rfl tabOk rfl rfl rfl rfl (by simp [SV.nms,SV.nm]) fun w_ M_ π_ G0_=>?_
 refine roA (a1 ?_)
 intros
 apply CallX_me (h:=new_ok (s:=s) (g:=g) h) ()
 conv=>whnf
 refine ⟨⟨rfl,rfl⟩,hlen,by kernel_rfl,fun g0=>?_⟩
 refine roA (a1 ?_)
 intros
 refine CallX_i (h:=open_short (A:=A) (c:=c)) ?_ trivial
 conv=>whnf
 exact ru⟩
end Go.Proofs.YtkflmidichikjaaGreatDoor.V
end
section
namespace Go.Proofs.YtkflmidichikjaaGreatDoor.V
open Go.RowKit
set_option maxRecDepth 100000
set_option maxHeartbeats 16000000
open Heading BoxP Drive PlanP Known Contr Loc Jou Atl RobotP Mon Mot Sys Grow
theorem replay_ok {s : Setup} {g : Ga} {A : Option Addr} {c : Nat} {L : List Evt} {F : Filt} {B0 : List Int} (h : errN s = 0) (hL : goodL L) (hB : B0 = magic ++ L.flatMap frmE) (hF : L.foldl (stepE s.every) (new0 s).ft = F) (hp : ∀ x ∈ s.known.cells, 0 ≤ x) :
 CMe 20 Unit true (fun _=>[s.s g,.fz A c 1 (fl ye B0)]) (fun _=>[]) (fun _=>lenN s) ((Option Addr × Nat) × Option Addr × Nat) (fun _ q=>.t [.fz q.1.1 q.1.2 6 (fl Box.e F.set),.a [I F.p.W,I F.p.H,.fz q.2.1 q.2.2 1 (fl ye F.p.cells)],B F.lost,I 0]) (fun _ _=>[]):=⟨fun _ hlen=>by
 have hok:=new_keeps h hlen hp
 have hev : 1≤s.every:=hok.h10
 have HL : Hold (goodL L∧L.foldl (stepE s.every) (new0 s).ft=F):=⟨hL,hF⟩
 have hN : L.length≤1000:=hL.h1
 have hsc : Hold (∀ e∈L,e.scan.length≤1000000):=⟨fun e he=>Nat.le_trans (vScan_iff.1 (hL.h2 e he).2).2 (by decide)⟩
 have hk : ∀ i,vPlan ((L.take i).foldl (stepE s.every) (new0 s).ft).p=true∧goodC ((L.take i).foldl (stepE s.every) (new0 s).ft).p.cells∧((L.take i).foldl (stepE s.every) (new0 s).ft).set.length≤1000000000:=fun i=>fold_keeps hok.h7 hok.h7' hok.h6
 have HK : Hold (_∧_):=⟨hk,hok⟩
 have hln : (flD Evt.e L).length=L.length:=flD_len _ _
 clear hk hL hF hok
 subst hB
 dsimp only [Setup.s] at *
 refine CM.of Tryz.func20 rfl tabOk rfl rfl rfl rfl (by simp [SV.nms,SV.nm]) fun w_ M_ π_ G0_=>?_
 refine roA (a1 ?_)
 intros
 apply CallX_me (h:=new_ok (s:=s) (g:=g) h) ()
 conv=>whnf
 refine ⟨⟨rfl,rfl⟩,hlen,by kernel_rfl,fun g0=>?_⟩
 refine roA (a1 ?_)
 intros
 apply CallX_me (A,c,L)
 conv=>whnf
 refine ⟨⟨rfl,rfl⟩,⟨HL.out.1⟩,by kernel_rfl,fun _=>?_⟩
 refine roA (a1 ?_)
 intros
 refine LoopX_keep [5,8,34,35,36] ?_
 conv=>whnf
 refine LoopX_p [] (fun ((i,F1,_) : Nat × Filt × ((Option Addr × Nat) × Option Addr × Nat))=>i≤L.length∧Hold (F1=(L.take i).foldl (stepE s.every) (new0 s).ft)) (fun (i,_,_)=>[(36,I i)]) (fun (_,F1,q)=>[(7,filtO q F1)]) (fun (i,_,_)=>L.length - i) (0,(new0 s).ft,(g0.fp,g0.fs)) ?_ ⟨Nat.zero_le _,⟨rfl⟩⟩
 conv=>whnf
 rintro ⟨i,F1,q⟩ ⟨j1,⟨j2⟩⟩
 conv=>whnf
 have hk:=HK.out.1 i
 rw [← j2] at hk
 obtain ⟨k1,k2,k3⟩:=hk
 have k4:=plan_len k1
 by_cases hi : i < L.length
 ·have ht:=HL.out.1.h3 i hi
  have hs:=hsc.out _ (gt_mem hi)
  have hn : Hold (followF F1 ⟨(gt L i).turn,(gt L i).fwd⟩ (gt L i).bump (gt L i).scan (scanS s.every (gt L i).tick)=(L.take (i + 1)).foldl (stepE s.every) (new0 s).ft):=⟨by rw [fold_take hi,← j2];rfl⟩
  clear j2
  refine rusA (a1 ?_)
  intros
  refine CallX_mr [2,3,4,5,6,7,8,9,10,11,12] ({ g0 with fp:=q.1,fs:=q.2 },{ new0 s with ft:=F1 },(gt L i).tick) rfl rfl ⟨ht.2.1,hev⟩ rfl (fun _=>?_)
  conv=>whnf
  refine rusA (a1 ?_)
  intros
  refine CallX_mr [7] (q,F1,(gt L i).tick,(gt L i).turn,(gt L i).fwd,(gt L i).bump,_,_,(gt L i).scan,scanS s.every (gt L i).tick) rfl rfl ⟨by omega,k3,by omega⟩ rfl (fun q2=>?_)
  conv=>whnf
  refine roA (a1 ?_)
  intros
  exact rn (i + 1,followF F1 ⟨(gt L i).turn,(gt L i).fwd⟩ (gt L i).bump (gt L i).scan (scanS s.every (gt L i).tick),q2) ⟨by omega,hn⟩
 ·have e : i=L.length:=by omega
  subst e
  rw [List.take_length,HL.out.2] at j2
  subst j2
  refine roA (a1 ?_)
  intros
  refine Fin_fr 16 rfl fun A1 c1=>?_
  conv=>whnf
  (repeat ((with_reducible show ViewE _ _ _ _);(first|refine view_w zLn ?_|refine view_pf zSd ?_|refine view_p zSd ?_);(conv=>whnf)))
  refine Fin_fr 17 rfl fun A2 c2=>?_
  conv=>whnf
  (repeat ((with_reducible show ViewE _ _ _ _);(first|refine view_w zLn ?_|refine view_pf zSd ?_|refine view_p zSd ?_);(conv=>whnf)))
  refine Fin_ja ((A1,c1),A2,c2) ?_
  conv=>whnf
  exact ⟨rfl,rfl,rfl⟩⟩
theorem open_ok {A : Option Addr} {c : Nat} {L : List Evt} {B0 : List Int} (hB : B0 = magic ++ L.flatMap frmE) (hL : goodL L) : CMe 22 Unit true (fun _ => [.fz A c 1 (fl ye B0)]) (fun _ => []) (fun _ => True) Unit (fun _ _ => .t [.p 0 0, I 0, I 0]) (fun _ _ => jourO B0 L) := by
 subst hB
 have hH : Hold (goodL L):=⟨hL⟩
 exact ⟨fun _ _=>CMe.out (f:=22) (A,c,L) hH⟩
end Go.Proofs.YtkflmidichikjaaGreatDoor.V
end
section
namespace Go.Proofs.YtkflmidichikjaaGreatDoor.V
open Go.RowKit
set_option maxRecDepth 100000
set_option maxHeartbeats 16000000
open Heading BoxP Drive PlanP Known Contr Loc Jou
instance inVrb_1 {A A' : Option Addr} {c c' : Nat} {X : List Box} : CFc 23 false [.fz A c 6 (fl Box.e X), .fz A' c' 6 (fl Box.e X)] (X.length ≤ 1000000000) (B true) [] := ⟨fun p1 => by
 refine CM.of Tryz.func23 rfl tabOk rfl rfl rfl rfl (by simp [SV.nms,SV.nm]) fun w_ M_ π_ G0_=>?_
 refine roA (a1 ?_)
 all_goals intros
 refine LoopX_keep [0,1,5] ?_
 conv=>whnf
 refine LoopX_p [] (fun (i : Nat)=>i≤X.length) (fun i=>[(5,I i)]) (fun _=>[]) (fun i=>X.length - i) 0 ?_ (Nat.zero_le _)
 conv=>whnf
 intro i hi
 by_cases hlt : i < X.length
 ·have c1 : ((gt X i).X0 == (gt X i).X0 && ((gt X i).Y0 == (gt X i).Y0 && ((gt X i).X1 == (gt X i).X1 && ((gt X i).Y1 == (gt X i).Y1 && ((gt X i).From == (gt X i).From && ((gt X i).Count == (gt X i).Count && true))))))=true:=by simp
  refine roA (a1 ?_)
  all_goals intros
  exact rn (i + 1) (show i + 1≤X.length by omega)
 ·refine roA (a1 ?_)
  all_goals intros
  ((refine Fin_j () ?_;(conv=>whnf);refine ⟨?_,?_,?_,?_⟩)<;>try first|rfl|exact trivial|((simp only [OB.flats,flatD_fl,and_self]);done)|(first|exact zCl|(subst_vars;exact zCl)))⟩
instance inVrb_2 {A A' : Option Addr} {c c' : Nat} {X : List Beam} : CFc 120 false [.fz A c 2 (fl Beam.e X), .fz A' c' 2 (fl Beam.e X)] (X.length ≤ 1000000000) (B true) [] := ⟨fun p1 => by
 refine CM.of Tryz.func120 rfl tabOk rfl rfl rfl rfl (by simp [SV.nms,SV.nm]) fun w_ M_ π_ G0_=>?_
 refine roA (a1 ?_)
 all_goals intros
 refine LoopX_keep [0,1,5] ?_
 conv=>whnf
 refine LoopX_p [] (fun (i : Nat)=>i≤X.length) (fun i=>[(5,I i)]) (fun _=>[]) (fun i=>X.length - i) 0 ?_ (Nat.zero_le _)
 conv=>whnf
 intro i hi
 by_cases hlt : i < X.length
 ·have c1 : ((gt X i).Mark == (gt X i).Mark && ((gt X i).Reading == (gt X i).Reading && true))=true:=by simp
  refine roA (a1 ?_)
  all_goals intros
  exact rn (i + 1) (show i + 1≤X.length by omega)
 ·refine roA (a1 ?_)
  all_goals intros
  ((refine Fin_j () ?_;(conv=>whnf);refine ⟨?_,?_,?_,?_⟩)<;>try first|rfl|exact trivial|((simp only [OB.flats,flatD_fl,and_self]);done)|(first|exact zCl|(subst_vars;exact zCl)))⟩
instance inVrb_3 {A A' : Option Addr} {c c' : Nat} {t u f : Int} {b : Bool} {s : List Beam} : CFc 69 false [.a [I t, I u, I f, B b, .fz A c 2 (fl Beam.e s)], .a [I t, I u, I f, B b, .fz A' c' 2 (fl Beam.e s)]] (s.length ≤ 1000000000) (B true) [] := ⟨fun p1 => by
 have c1 : (u == u && (f == f && true))=true:=by simp
 have c2 : (b == b)=true:=by simp
 refine CM.of Tryz.func69 rfl tabOk rfl rfl rfl rfl (by simp [SV.nms,SV.nm]) fun w_ M_ π_ G0_=>?_
 refine roA (a1 ?_)
 all_goals intros
 ((refine Fin_j () ?_;(conv=>whnf);refine ⟨?_,?_,?_,?_⟩)<;>try first|rfl|exact trivial|((simp only [OB.flats,flatD_fl,and_self]);done)|(first|exact zCl|(subst_vars;exact zCl)))⟩
instance inVrb_4 {A A' : Option Addr} {c c' : Nat} {X : List Evt} : CFc 25 false [.fz A c 5 (flD Evt.e X), .fz A' c' 5 (flD Evt.e X)] (X.length ≤ 1000000000 ∧ Hold (∀ e ∈ X, e.scan.length ≤ 1000000000)) (B true) [] := ⟨fun ⟨p1, p2⟩ => by
 have hln : (flD Evt.e X).length=X.length:=flD_len _ _
 refine CM.of Tryz.func25 rfl tabOk rfl rfl rfl rfl (by simp [SV.nms,SV.nm]) fun w_ M_ π_ G0_=>?_
 refine roA (a1 ?_)
 all_goals intros
 refine LoopX_keep [0,1,5] ?_
 conv=>whnf
 refine LoopX_p [] (fun (i : Nat)=>i≤X.length) (fun i=>[(5,I i)]) (fun _=>[]) (fun i=>X.length - i) 0 ?_ (Nat.zero_le _)
 conv=>whnf
 intro i hi
 by_cases hlt : i < X.length
 ·have c1 : (gt X i).scan.length≤1000000000:=p2.out _ (gt_mem hlt)
  refine rudA (a1 ?_)
  all_goals intros
  refine DrawX_tree tabOk folOk (.op 0 (.op 1 (.op 2 (.op 3 (.op 4 (.op 5 (.op 6 (.op 7 (.op 8 (.op 9 .nil)))))))))) (by kernel_rfl) ?_
  conv=>whnf
  refine roA (a1 ?_)
  all_goals intros
  exact rn (i + 1) (show i + 1≤X.length by omega)
 ·refine roA (a1 ?_)
  all_goals intros
  ((refine Fin_j () ?_;(conv=>whnf);refine ⟨?_,?_,?_,?_⟩)<;>try first|rfl|exact trivial|((simp only [OB.flats,flatD_fl,and_self]);done)|(first|exact zCl|(subst_vars;exact zCl)))⟩
end Go.Proofs.YtkflmidichikjaaGreatDoor.V
end
section
namespace Go.Proofs.YtkflmidichikjaaGreatDoor.V
open Go.RowKit
set_option maxRecDepth 100000
set_option maxHeartbeats 16000000
open Heading BoxP Drive PlanP Known Contr Loc Jou Atl RobotP Mon Mot Sys Grow
abbrev Sys.sysR (g : Gh) (S : SS) : List (Nat × OB) := [
 (1,mapO keI dvS g.ms S.sc),(2,mapO keI dvP g.mp S.pl),(3,mapO keC dvB g.mv S.vis),
 (4,.box 100 [I 0,I 0,nilS,I 0,I 0,nilS,I S.bd.Turn,I S.bd.Length,I S.bd.Slip,I S.bd.Range,I S.start.X,I S.start.Y,I S.start.H,nilS,.fz g.mr.1 g.mr.2 1 (fl ie S.marks),I S.every,I S.late,
  .p 5 0,.p 6 0,.p 7 0,.p 8 0,.p 11 0,.v (.pointer none),nilS,.v (.map (some g.mv)),I S.ticks,I S.scans,B S.bumped]),
 (5,robO g.rp S.rob),(6,filtO (g.fp,g.fs) S.ft),(7,.box 161 [I S.mon.limit,I S.mon.faults,I S.mon.age]),
 (8,.box 143 [.sl 9 0 0 S.jb.length 1,.sl 10 0 0 S.je.length 5]),(9,.row false 5 1 (fl ye S.jb)),(10,.row false 57 5 (flD Evt.e S.je)),
 (11,.box 155 [.v (.map (some g.ms)),.v (.map (some g.mp))])]
structure Sys.RplI (s : Setup) (i : Nat) (S : SS) : Prop where
 (h1 : okN i S) (h2 : S.jb.length≤4 + 256 * i) (h3 : repI s.every (new0 s).ft S)
theorem rpl_step {s : Setup} {i : Nat} {S : SS} {n : Inp} (h : RplI s i S) (hi : i ≤ 100) : RplI s (i + 1) (tickT S n) := by
 obtain ⟨h1,h2,h3⟩:=h
 refine ⟨tick_keeps h1,?_,tick_rep h1 h3⟩
 have:=jb_len (i:=n) h1 (by omega)
 omega
theorem Sys.RplI.mono {s : Setup} {i : Nat} {S : SS} (h : RplI s i S) : RplI s (i + 1) S := ⟨h.h1.mono (Nat.le_succ _), by have := h.h2; omega, h.h3⟩
theorem last_take {L : List Evt} (h : ∀ k, k < L.length → (gt L k).tick = k + 1) : ∀ k, k ≤ L.length → lastE (L.take k) = k
 | 0,_=>rfl
 | k + 1,hk=>by
   rw [take_snoc (by omega),lastE_app,h k (by omega)]
   rfl
theorem rpl_good {s : Setup} {i : Nat} {S : SS} (h : RplI s i S) (hi : i ≤ 100) : goodL S.je := by
 obtain ⟨h1,h2,h3⟩:=h
 obtain ⟨r1,r2,r3,r4,r5,r6,r7⟩:=h3
 have hl:=h1.h9
 refine ⟨by omega,r5,fun k hk=>?_,?_⟩
 ·rw [last_take r7 k (by omega),r7 k hk]
  omega
 ·rw [r3,List.length_append] at h2
  have : ([87,70,74,49] : List Int).length=4:=rfl
  omega
theorem replays_c {s : Setup} {g : Ga} {A : Option Addr} {c : Nat} {l : List Inp} : CFc 5 false [s.s g, .fz A c 10 (flD Inp.e l)] (∀ x ∈ s.known.cells, 0 ≤ x) (B true) [] := ⟨fun p3 => by
 haveI:=@light_c s g
 have nilF : ∀ E : Ev,SV.wf E (.fz none 0 1 (fl ye [])):=fun E=>⟨none,0,rfl,Nat.le_refl _,fun h=>(h rfl).elim⟩
 have hln : (flD Inp.e l).length=l.length:=flD_len _ _
 have P3 : Hold (∀ x∈s.known.cells,0≤x):=⟨p3⟩
 clear p3
 by_cases h1 : lightP s=true∧fewP l=true∧l.length≤5
 ·obtain ⟨h2,h3,h4⟩:=h1
  have hlen:=light_l h2
  by_cases he : errN s=0
  ·have hok:=new_keeps he hlen P3.out
   have hpos : 0 < s.known.cells.length:=by
    obtain ⟨e1,e2,e3,_⟩:=vPlan_iff.1 hok.h7
    have:=wh_bnd e1 e2
    have e4 : ((new0 s).ft.p.cells.length : Int)=s.known.cells.length:=rfl
    omega
   have Hp : Hold (RplI s 0 (new0 s)):=⟨hok,Nat.le_refl _,new_rep⟩
   clear hok
   dsimp only [Setup.s] at *
   refine CM.of Tryz.func5 rfl tabOk rfl rfl rfl rfl (by simp [SV.nms,SV.nm]) fun w_ M_ π_ G0_=>?_
   refine ruhA (a1 ?_)
   all_goals intros
   apply CallX_me (h:=new_ok (s:=s) (g:=g) he) ()
   conv=>whnf
   refine ⟨⟨rfl,rfl⟩,hlen,by kernel_rfl,fun g0=>?_⟩
   refine ruhA (a1 ?_)
   all_goals intros
   refine LoopX_nil 11 57 5 rfl ?_
   conv=>whnf
   refine LoopX_keep [1,2,5,11,12] ?_
   conv=>whnf
   refine LoopX_p [9,10,12] (fun ((i,S,_,m) : Nat × SS × Gh × Nat)=>i≤l.length∧m=S.je.length∧Hold (RplI s i S)) (fun (i,_,_,m)=>[(11,.sl 12 0 0 m 5),(12,I i)]) (fun (_,S,g,_)=>sysR g S ++ [(12,.row false 57 5 (flD Evt.e S.je))]) (fun (i,_,_,_)=>l.length - i) (0,new0 s,g0,0) ?_ ⟨Nat.zero_le _,rfl,Hp⟩
   conv=>whnf
   rintro ⟨i,S,g1,m⟩ ⟨j1,rfl,⟨j2⟩⟩
   conv=>whnf
   by_cases hlt : i < l.length
   ·have hx1 : (gt l i).errs.length≤1000000000:=Nat.le_trans ((few_l h3).2 _ (gt_mem hlt)) (by decide)
    have m1:=j2.h1.h9
    have m2:=j2.h2
    refine ruhA (a1 ?_)
    all_goals intros
    by_cases hw : vCmd (gt l i).want=true
    ·refine CallX_mr (h:=tick_ok (g:=g1) (S:=S) (i:=gt l i) (A:=_) (k:=_) hw (by omega)) [1,2,3,4,5,6,7,8,9,10,11] () rfl rfl ⟨j2.h1.ok (by omega),hx1⟩ rfl (fun q=>?_)
     conv=>whnf
     have n1 : Hold (RplI s (i + 1) (tickT S (gt l i))):=⟨rpl_step j2 (by omega)⟩
     have n2 : (tickT S (gt l i)).je=S.je ++ [(repT S (gt l i)).ev]:=rfl
     refine ruhA (a1 ?_)
     all_goals intros
     refine OpX_appD (enc:=Evt.e) (X:=S.je) (m:=1) (Z:=flD Evt.e [(repT S (gt l i)).ev]) tabOk rfl rfl rfl rfl rfl (Sees.allD (enc:=Evt.e) (X:=[(repT S (gt l i)).ev]) rfl rfl) rfl zSd zSd ?_
     conv=>whnf
     rw [show flD Evt.e S.je ++ flD Evt.e [(repT S (gt l i)).ev]=flD Evt.e (S.je ++ [(repT S (gt l i)).ev]) by simp [flD]]
     refine ruhA (a1 ?_)
     all_goals intros
     exact rn (i + 1,tickT S (gt l i),q.1,S.je.length + 1) ⟨by omega,by rw [n2,List.length_append];rfl,n1⟩
    ·have hw' : vCmd ⟨(gt l i).want.Turn,(gt l i).want.Forward⟩ = false:=by simpa using hw
     refine CallX_mr (h:=tick_no1 (g:=g1) (S:=S) (t:=(gt l i).want.Turn) (f:=(gt l i).want.Forward) (au:=(gt l i).auto) (sp:=(gt l i).stop) (rs:=(gt l i).reset) (a:=(gt l i).slip.Turn) (b:=(gt l i).slip.Length) (c:=(gt l i).slip.X) (d:=(gt l i).slip.Y) (A:=_) (k:=_) (E:=(gt l i).errs) hw') [1,2,3,4,5,6,7,8,9,10,11] () rfl rfl (by omega) rfl (fun q=>?_)
     conv=>whnf
     refine ruhA (a1 ?_)
     all_goals intros
     exact rn (i + 1,S,g1,S.je.length) ⟨by omega,rfl,⟨j2.mono⟩⟩
   ·have hg : Hold (goodL S.je):=⟨rpl_good j2 (by omega)⟩
    have m1:=j2.h1.h9
    have m2:=j2.h2
    have m3:=j2.h1.h6
    have m4:=plan_len j2.h1.h7
    have hjb : Hold (S.jb=magic ++ S.je.flatMap frmE∧S.je.foldl (stepE s.every) (new0 s).ft=S.ft):=⟨j2.h3.h3,j2.h3.h4.symm⟩
    have hsc : Hold (∀ e∈S.je,e.scan.length≤1000000):=⟨fun e he=>Nat.le_trans (vScan_iff.1 (j2.h3.h5 e he).2).2 (by decide)⟩
    have hsc2 : Hold (∀ e∈S.je,e.scan.length≤1000000000):=⟨fun e he=>Nat.le_trans (hsc.out e he) (by decide)⟩
    have hcp : 0 < S.ft.p.cells.length:=by
     obtain ⟨e1,e2,e3,_⟩:=vPlan_iff.1 j2.h1.h7
     have:=wh_bnd e1 e2
     omega
    have c2 : (S.ft.lost == S.ft.lost)=true:=by simp
    clear j2
    refine ruhA (a1 ?_)
    all_goals intros
    refine CallX_mr [1,2,3,4,5,6,7,8,9,10,11] (g1,S) rfl rfl (by omega) rfl (fun jq=>?_)
    conv=>whnf
    refine ruhA (a1 ?_)
    all_goals intros
    apply CallX_me (h:=replay_ok (s:=s) (g:=g) (A:=jq.1) (c:=jq.2) (L:=S.je) (F:=S.ft) (B0:=S.jb) he hg.out hjb.out.1 hjb.out.2 P3.out) ()
    conv=>whnf
    refine ⟨⟨rfl,rfl⟩,hlen,by kernel_rfl,fun rq=>?_⟩
    refine ruhA (a1 ?_)
    all_goals intros
    refine CallX_mr [1,2,3,4,5,6,7,8,9,10,11] (g1,S) rfl rfl (by omega) rfl (fun jr=>?_)
    conv=>whnf
    refine ruhA (a1 ?_)
    all_goals intros
    apply CallX_me (h:=open_ok (A:=jr.1) (c:=jr.2) (L:=S.je) (B0:=S.jb) hjb.out.1 hg.out) ()
    conv=>whnf
    refine ⟨⟨rfl,rfl⟩,trivial,by kernel_rfl,fun _=>?_⟩
    refine ruhA (a1 ?_)
    all_goals intros
    refine CallX_sim [s.s g,.fz none 0 1 (fl ye [])] ?_ (by intro σ;rfl) (fun E hE=>⟨hE.1,nilF E,trivial⟩)
    refine CallX_i (h:=replay_short (s:=s) (g:=g) (A:=none) (c:=0) he) ?_ hlen
    conv=>whnf
    refine ruhA (a1 ?_)
    all_goals intros
    refine CallX_mr [1,2,3,4,5,6,7,8,9,10,11] (g1,S) rfl rfl m3 rfl (fun sq=>?_)
    conv=>whnf
    refine ruhA (a1 ?_)
    all_goals intros
    refine CallX_mr [1,2,3,4,5,6,7,8,9,10,11] (g1,S) rfl rfl (Nat.le_trans m4 (by decide)) rfl (fun kq=>?_)
    conv=>whnf
    refine ruhA (a1 ?_)
    all_goals intros
    refine CallX_i (h:=plans_same (A:=rq.2.1) (c:=rq.2.2) (A':=kq.1) (c':=kq.2) (w:=S.ft.p.W) (h:=S.ft.p.H) (X:=S.ft.p.cells)) ?_ hcp
    conv=>whnf
    refine ruhA (a1 ?_)
    all_goals intros
    refine CallX_mr [1,2,3,4,5,6,7,8,9,10,11] (g1,S) rfl rfl trivial rfl (fun _=>?_)
    conv=>whnf
    refine ruhA (a1 ?_)
    all_goals intros
    refine CallX_fr 12 rfl fun A2 c2=>?_
    conv=>whnf
    refine view_w (flD_len _ _).symm ?_
    conv=>whnf
    refine CallX_i ?_ ⟨by omega,hsc2⟩
    conv=>whnf
    refine ruhA (a1 ?_)
    all_goals intros
    ((refine Fin_j () ?_;(conv=>whnf);refine ⟨?_,?_,?_,?_⟩)<;>try first|rfl|exact trivial|((simp only [OB.flats,flatD_fl,and_self]);done)|(first|exact zCl|(subst_vars;exact zCl)))
  ·dsimp only [Setup.s] at *
   refine CM.of Tryz.func5 rfl tabOk rfl rfl rfl rfl (by simp [SV.nms,SV.nm]) fun w_ M_ π_ G0_=>?_
   refine ruhA (a1 ?_)
   all_goals intros
   refine CallX_i (h:=new_no (s:=s) (g:=g) he) ?_ hlen
   conv=>whnf
   refine ruhA (a1 ?_)
   all_goals intros
   refine OpX_cvMark tabOk rfl rfl rfl rfl rfl (by decide) ?_
   conv=>whnf
   refine ruhA (a1 ?_)
   all_goals intros
   refine CallX_fr 1 rfl fun A1 c1=>?_
   conv=>whnf
   (repeat ((with_reducible show ViewE _ _ _ _);(first|refine view_w zLn ?_|refine view_pf zSd ?_|refine view_p zSd ?_);(conv=>whnf)))
   refine CallX_i (h:=replay_no (s:=s) (g:=g) (A:=A1) (c:=c1) he) ?_ hlen
   conv=>whnf
   refine ruhA (a1 ?_)
   all_goals intros
   ((refine Fin_j () ?_;(conv=>whnf);refine ⟨?_,?_,?_,?_⟩)<;>try first|rfl|exact trivial|((simp only [OB.flats,flatD_fl,and_self]);done)|(first|exact zCl|(subst_vars;exact zCl)))
 ·dsimp only [Setup.s] at *
  rcases Bool.eq_false_or_eq_true (lightP s) with h2|h2
  ·rcases Bool.eq_false_or_eq_true (fewP l) with h3|h3
   ·have h4 : 5 < l.length:=by
     refine Nat.lt_of_not_le fun h=>h1 ⟨h2,h3,h⟩
    clear h1
    refine CM.of Tryz.func5 rfl tabOk rfl rfl rfl rfl (by simp [SV.nms,SV.nm]) fun w_ M_ π_ G0_=>?_
    refine ruhA (a1 ?_)
    all_goals intros
    ((refine Fin_j () ?_;(conv=>whnf);refine ⟨?_,?_,?_,?_⟩)<;>try first|rfl|exact trivial|((simp only [OB.flats,flatD_fl,and_self]);done)|(first|exact zCl|(subst_vars;exact zCl)))
   ·clear h1
    refine CM.of Tryz.func5 rfl tabOk rfl rfl rfl rfl (by simp [SV.nms,SV.nm]) fun w_ M_ π_ G0_=>?_
    refine ruhA (a1 ?_)
    all_goals intros
    ((refine Fin_j () ?_;(conv=>whnf);refine ⟨?_,?_,?_,?_⟩)<;>try first|rfl|exact trivial|((simp only [OB.flats,flatD_fl,and_self]);done)|(first|exact zCl|(subst_vars;exact zCl)))
  ·clear h1
   refine CM.of Tryz.func5 rfl tabOk rfl rfl rfl rfl (by simp [SV.nms,SV.nm]) fun w_ M_ π_ G0_=>?_
   refine ruhA (a1 ?_)
   all_goals intros
   ((refine Fin_j () ?_;(conv=>whnf);refine ⟨?_,?_,?_,?_⟩)<;>try first|rfl|exact trivial|((simp only [OB.flats,flatD_fl,and_self]);done)|(first|exact zCl|(subst_vars;exact zCl)))⟩
end Go.Proofs.YtkflmidichikjaaGreatDoor.V
end
