import Derived.Test.YtkflmidichikjaaGreatDoorZSystemReplays30
import Derived.Test.YtkflmidichikjaaGreatDoorZSystemReplays22
import Derived.Test.YtkflmidichikjaaGreatDoorZSystemReplays17
import Derived.Test.YtkflmidichikjaaGreatDoorZSystemReplays19
import Derived.Test.YtkflmidichikjaaGreatDoorZSystemReplays20
set_option linter.all false
section
namespace Go.Proofs.YtkflmidichikjaaGreatDoor.V
open Go.RowKit
set_option maxRecDepth 100000
set_option maxHeartbeats 16000000
open Heading BoxP Drive PlanP Known Contr Loc Jou Wire
instance inVj4_1 : CMe 35 Unit true (fun _ => []) (fun _ => []) (fun _ => True) Unit (fun _ _ => .p 0 0) (fun _ _ => jourO [87, 70, 74, 49] []) := ⟨fun _ _ => by
 dsimp only [jourO]
 refine CM.of Tryz.func35 rfl tabOk rfl rfl rfl rfl (by simp [SV.nms,SV.nm]) fun w_ M_ π_ G0_=>?_
 refine roA (a1 ?_)
 refine OpX_cvMark tabOk rfl rfl rfl rfl rfl (by decide) ?_
 conv=>whnf
 refine roA (a1 ?_)
 refine Fin_nilB 1 1 57 5 rfl rfl ?_
 conv=>whnf
 refine Fin_ja () ?_
 conv=>whnf
 exact ⟨rfl,rfl,rfl⟩⟩
instance inVj4_2 : AR 35 1 := ⟨trivial⟩
theorem frameB_len {k : Int} {X : List Int} : (frameB k X).1.length ≤ X.length + 15 := by
 unfold frameB
 split
 ·simp
 ·have:=uintB_len (n:=(X.length : Int))
  rw [checkedB_len]
  simp only [List.length_append,List.length_cons,List.length_nil]
  omega
theorem frameB_ok {k : Int} {X : List Int} (h : X.length ≤ 4096) : (frameB k X).2 = 0 := by
 unfold frameB
 rw [if_neg (by omega)]
namespace Jou
def frmJ (t u f : Int) (bm : Bool) (s : List Beam) : List Int := (frameB 1 (encB t u f bm s)).1
abbrev jourN (b : List Int) (L : List Evt) : List OB := [.box 143 [.sl 3 0 0 b.length 1, .sl 4 0 0 L.length 5], dead, dead, .row false 5 1 (fl ye b), .row false 57 5 (flD Evt.e L)]
end Jou
instance inVj4_3 : CMe 59 (List Int × List Evt × Int × Int × Int × Bool × Option Addr × Nat × List Beam) true (fun (_, _, t, u, f, bm, A, c, s) => [.p 0 0, .a [I t, I u, I f, B bm, .fz A c 2 (fl Beam.e s)]]) (fun (b, L, _) => jourO b L)
 (fun (b,L,t,u,f,bm,_,_,s)=>vCmd ⟨u,f⟩ = true∧Contr.vScan s=true∧lastE L < t∧t≤1099511627776∧b.length + (frmJ t u f bm s).length≤65536∧L.length≤1000000000) Unit (fun _ _=>I 0) (fun (b,L,t,u,f,bm,_,_,s) _=>jourN (b ++ frmJ t u f bm s) (L ++ [⟨t,u,f,bm,s⟩])):=⟨fun (b,L,t,u,f,bm,A,c,s) ⟨hc,hs,p1,p2,p3,p4⟩=>by
 dsimp only [jourN]
 unfold frmJ at *
 have hL:=encB_len (t:=t) (u:=u) (f:=f) (b:=bm) (vScan_iff.1 hs).2
 have hF:=frameB_len (k:=1) (X:=encB t u f bm s)
 have h0:=frameB_ok (k:=1) (X:=encB t u f bm s) (by omega)
 have hl:=(vScan_iff.1 hs).2
 refine CM.of Tryz.func59 rfl tabOk rfl rfl rfl rfl (by simp [SV.nms,SV.nm]) fun w_ M_ π_ G0_=>?_
 refine roA (a1 ?_)
 all_goals intros
 refine OpX_fr 7 rfl fun A1 c1=>?_
 conv=>whnf
 refine roA (a1 ?_)
 all_goals intros
 refine OpX_appD (enc:=Evt.e) (X:=L) (m:=1) (Z:=flD Evt.e [Evt.mk t u f bm s]) tabOk rfl rfl rfl rfl rfl (Sees.allD (enc:=Evt.e) (X:=[Evt.mk t u f bm s]) rfl rfl) rfl zSd zSd ?_
 conv=>whnf
 refine roA (a1 ?_)
 all_goals intros
 refine Fin_ja () ?_
 conv=>whnf
 refine ⟨rfl,?_,rfl⟩
 simp [nthL,nth,rnOs,OB.rnB,SV.ren,SV.rens,dead,flD,List.take_of_length_le]⟩
instance inVj4_4 : AR 59 9 := ⟨trivial⟩
end Go.Proofs.YtkflmidichikjaaGreatDoor.V
end
section
namespace Go.Proofs.YtkflmidichikjaaGreatDoor.V
open Go.RowKit
set_option maxRecDepth 100000
set_option maxHeartbeats 8000000
open Heading BoxP Drive Seg PlanP FloorP RayP
namespace RobotP
def wrongM (m : Int) : Bool := decide (m < 0) || decide (m ≥ 256)
def limitR (n : Int) : Bool := decide (n ≥ -1048576) && decide (n ≤ 1048576)
def rnew (p : Plan) (b : Bounds) (a : Pose) : Int :=
 if checkF p ≠ 0 then checkF p else
 if vBounds b=false∨limitR a.X=false∨limitR a.Y=false∨a.H < 0∨a.H ≥ 256 then 1 else
 if fits p ⟨a.X,a.Y⟩ 20=false then 9 else 0
theorem rnew_0 {p : Plan} {b : Bounds} {a : Pose} (h : rnew p b a = 0) : checkF p = 0 ∧ vBounds b = true ∧ limitR a.X = true ∧ limitR a.Y = true ∧ 0 ≤ a.H ∧ a.H < 256 ∧ fits p ⟨a.X, a.Y⟩ 20 = true := by
 unfold rnew at h
 split at h
 ·rename_i h1;exact absurd h h1
 split at h
 ·cases h
 split at h
 ·cases h
 rename_i h1 h2 h3
 simp only [not_or,Bool.not_eq_false] at h2 h3
 exact ⟨by simpa using h1,h2.1,h2.2.1,h2.2.2.1,by omega,by omega,h3⟩
theorem rnew_ok {p : Plan} {b : Bounds} {a : Pose} (h1 : checkF p = 0) (h2 : vBounds b = true) (h3 : limitR a.X = true) (h4 : limitR a.Y = true) (h5 : 0 ≤ a.H) (h6 : a.H < 256) (h7 : fits p ⟨a.X, a.Y⟩ 20 = true) : rnew p b a = 0 := by
 unfold rnew
 rw [if_neg (by simpa using h1),if_neg (by simp only [h2,h3,h4,Bool.true_eq_false,false_or];omega),if_neg (by simp [h7])]
end RobotP
open RobotP
instance inVb3_1 {m : Int} : CFc 97 false [I m] True (B (wrongM m)) [] := ⟨fun _ => by
 unfold wrongM
 refine CM.of Tryz.func97 rfl tabOk rfl rfl rfl rfl (by simp [SV.nms,SV.nm]) fun w_ M_ π_ G0_=>?_
 exact run⟩
instance inVb3_2 {m : Int} : CFc 73 false [I m] True (B (limitR m)) [] := ⟨fun _ => by
 unfold limitR
 refine CM.of Tryz.func73 rfl tabOk rfl rfl rfl rfl (by simp [SV.nms,SV.nm]) fun w_ M_ π_ G0_=>?_
 exact run⟩
section
variable {A : Option Addr} {cc : Nat} {X : List Int} {w h t l s r x y d : Int}
theorem robotNew_no (h0 : rnew ⟨w, h, X⟩ ⟨t, l, s, r⟩ ⟨x, y, d⟩ ≠ 0) : CFc 32 false [.a [I w, I h, .fz A cc 1 (fl ye X)], .a [I t, I l, I s, I r], .a [I x, I y, I d]] (X.length ≤ 1000000000) (.t [.v (.pointer none), I (rnew ⟨w, h, X⟩ ⟨t, l, s, r⟩ ⟨x, y, d⟩)]) [] := ⟨fun hp => by
 unfold rnew
 refine CM.of Tryz.func32 rfl tabOk rfl rfl rfl rfl (by simp [SV.nms,SV.nm]) fun w_ M_ π_ G0_=>?_
 refine runA (a1 ?_)<;>(intro a1 a2 _ a3 a4 a5 a6 a7;exact (h0 (rnew_ok a1 a2 a3 a4 a5 a6 a7)).elim)⟩
end
attribute [irreducible] RobotP.wrongM RobotP.limitR RobotP.rnew
end Go.Proofs.YtkflmidichikjaaGreatDoor.V
end
section
namespace Go.Proofs.YtkflmidichikjaaGreatDoor.V
open Go.RowKit
set_option maxRecDepth 100000
set_option maxHeartbeats 16000000
open Heading BoxP Drive PlanP FloorP RayP RobotP
namespace RobotP
structure Rob where
 (p : Plan) (b : Bounds) (at_ : Pose) (n bumps : Int)
abbrev robO (q : Option Addr × Nat) (R : Rob) : OB := .box 150 [I R.p.W, I R.p.H, .fz q.1 q.2 1 (fl ye R.p.cells), I R.b.Turn, I R.b.Length, I R.b.Slip, I R.b.Range, I R.at_.X, I R.at_.Y, I R.at_.H, I R.n, I R.bumps]
def stepB (R : Rob) (c : Command) (s : Slip) : Bool := (stepD R.p R.at_ c (clip R.b s).1).2.1
def doR (R : Rob) (c : Command) (s : Slip) : Rob := ⟨R.p, R.b, (stepD R.p R.at_ c (clip R.b s).1).1, R.n + 1, if stepB R c s = true then R.bumps + 1 else R.bumps⟩
def scanR (R : Rob) (c : Command) (s : Slip) (M E : List Int) : List Beam := (sweepR R.p (stepD R.p R.at_ c (clip R.b s).1).1 M R.b.Range E).1
end RobotP
theorem robotNew_ok {A : Option Addr} {cc : Nat} {w h : Int} {X : List Int} {t l s r x y d : Int} (h0 : rnew ⟨w, h, X⟩ ⟨t, l, s, r⟩ ⟨x, y, d⟩ = 0) : CMe 32 Unit true (fun _ => [.a [I w, I h, .fz A cc 1 (fl ye X)], .a [I t, I l, I s, I r], .a [I x, I y, I d]]) (fun _ => []) (fun _ => X.length ≤ 1000000000) (Option Addr × Nat) (fun _ _ => .t [.p 0 0, I 0])
 (fun _ q=>[robO q ⟨⟨w,h,X⟩,⟨t,l,s,r⟩,⟨x,y,d⟩,0,0⟩]):=⟨fun _ hp=>by
 obtain ⟨e1,e2,e3,e4,e5,e6,e7⟩:=rnew_0 h0
 simp only at e3 e4 e5 e6 e7
 dsimp only [robO]
 refine CM.of Tryz.func32 rfl tabOk rfl rfl rfl rfl (by simp [SV.nms,SV.nm]) fun w_ M_ π_ G0_=>?_
 refine roA (a1 ?_)
 intros
 refine Fin_fr 3 rfl fun A1 c1=>?_
 conv=>whnf
 (repeat ((with_reducible show ViewE _ _ _ _);(first|refine view_w zLn ?_|refine view_pf zSd ?_|refine view_p zSd ?_);(conv=>whnf)))
 refine Fin_ja (A1,c1) ?_
 conv=>whnf
 exact ⟨rfl,rfl,rfl⟩⟩
instance inVro_1 : CMe 55 ((Option Addr × Nat) × Rob × Int × Int × Int × Int × Int × Int × Option Addr × Nat × List Int × Option Addr × Nat × List Int) true (fun (_, _, ct, cf, st, sl, sx, sy, A, a, M, A', a', E) => [.p 0 0, .a [I ct, I cf, I st, I sl, I sx, I sy, .fz A a 1 (fl ie M), .fz A' a' 1 (fl ie E)]]) (fun (q, R, _) => [robO q R])
 (fun (_,R,ct,cf,_,_,_,_,_,_,M,_,_,E)=>R.p.cells.length≤1000000000∧vCmd ⟨ct,cf⟩ = true∧M.length≤32∧E.length≤1000000000∧M.any wrongM=false∧0≤R.n∧R.n≤1000000000∧0≤R.bumps∧R.bumps≤1000000000) (Option Addr × Nat)
 (fun (_,R,ct,cf,st,sl,sx,sy,_,_,M,_,_,E) k=>.t [.a [I (R.n + 1),I ct,I cf,B (stepB R ⟨ct,cf⟩ ⟨st,sl,sx,sy⟩),.fz k.1 k.2 2 (fl Beam.e (scanR R ⟨ct,cf⟩ ⟨st,sl,sx,sy⟩ M E))],I 0])
 (fun (q,R,ct,cf,st,sl,sx,sy,_) _=>[robO q (doR R ⟨ct,cf⟩ ⟨st,sl,sx,sy⟩)]):=⟨fun (q,⟨⟨w,h,X⟩,⟨t,l,s,r⟩,⟨x,y,d⟩,n,b⟩,ct,cf,st,sl,sx,sy,A,a,M,A',a',E) ⟨p1,p2,p3,p4,p5,p6,p7,p8,p9⟩=>by
 dsimp only [robO] at *
 unfold scanR doR stepB
 dsimp only
 refine CM.of Tryz.func55 rfl tabOk rfl rfl rfl rfl (by simp [SV.nms,SV.nm]) fun w_ M_ π_ G0_=>?_
 ((conv=>whnf);repeat' (first|with_reducible exact trivial|with_reducible exact Unit.unit|((first|((with_reducible show CallX _ _ _ _ _);first|refine CallX_i ?_ zSi|(refine AR_has ?_;(first|(refine AR_chk 1 ?_;apply CallX_me (_);(conv=>whnf);refine ⟨⟨rfl,rfl⟩,zSi,by kernel_rfl,fun hb=>?_⟩)|(refine AR_chk 2 ?_;apply CallX_me (_,_);(conv=>whnf);refine ⟨⟨rfl,rfl⟩,zSi,by kernel_rfl,fun hb=>?_⟩)|(refine AR_chk 3 ?_;apply CallX_me (_,_,_);(conv=>whnf);refine ⟨⟨rfl,rfl⟩,zSi,by kernel_rfl,fun hb=>?_⟩)|(refine AR_chk 4 ?_;apply CallX_me (_,_,_,_);(conv=>whnf);refine ⟨⟨rfl,rfl⟩,zSi,by kernel_rfl,fun hb=>?_⟩)|(refine AR_chk 5 ?_;apply CallX_me (_,_,_,_,_);(conv=>whnf);refine ⟨⟨rfl,rfl⟩,zSi,by kernel_rfl,fun hb=>?_⟩)|(refine AR_chk 6 ?_;apply CallX_me (_,_,_,_,_,_);(conv=>whnf);refine ⟨⟨rfl,rfl⟩,zSi,by kernel_rfl,fun hb=>?_⟩)|(refine AR_chk 7 ?_;apply CallX_me (_,_,_,_,_,_,_);(conv=>whnf);refine ⟨⟨rfl,rfl⟩,zSi,by kernel_rfl,fun hb=>?_⟩)|(refine AR_chk 8 ?_;apply CallX_me (_,_,_,_,_,_,_,_);(conv=>whnf);refine ⟨⟨rfl,rfl⟩,zSi,by kernel_rfl,fun hb=>?_⟩)|(refine AR_chk 9 ?_;apply CallX_me (_,_,_,_,_,_,_,_,_);(conv=>whnf);refine ⟨⟨rfl,rfl⟩,zSi,by kernel_rfl,fun hb=>?_⟩)|(refine AR_chk 10 ?_;apply CallX_me (_,_,_,_,_,_,_,_,_,_);(conv=>whnf);refine ⟨⟨rfl,rfl⟩,zSi,by kernel_rfl,fun hb=>?_⟩)|(refine AR_chk 11 ?_;apply CallX_me (_,_,_,_,_,_,_,_,_,_,_);(conv=>whnf);refine ⟨⟨rfl,rfl⟩,zSi,by kernel_rfl,fun hb=>?_⟩)|(refine AR_chk 12 ?_;apply CallX_me (_,_,_,_,_,_,_,_,_,_,_,_);(conv=>whnf);refine ⟨⟨rfl,rfl⟩,zSi,by kernel_rfl,fun hb=>?_⟩)|(refine AR_chk 13 ?_;apply CallX_me (_,_,_,_,_,_,_,_,_,_,_,_,_);(conv=>whnf);refine ⟨⟨rfl,rfl⟩,zSi,by kernel_rfl,fun hb=>?_⟩)|(refine AR_chk 14 ?_;apply CallX_me (_,_,_,_,_,_,_,_,_,_,_,_,_,_);(conv=>whnf);refine ⟨⟨rfl,rfl⟩,zSi,by kernel_rfl,fun hb=>?_⟩)|(refine AR_chk 15 ?_;apply CallX_me (_,_,_,_,_,_,_,_,_,_,_,_,_,_,_);(conv=>whnf);refine ⟨⟨rfl,rfl⟩,zSi,by kernel_rfl,fun hb=>?_⟩)|(refine AR_chk 16 ?_;apply CallX_me (_,_,_,_,_,_,_,_,_,_,_,_,_,_,_,_);(conv=>whnf);refine ⟨⟨rfl,rfl⟩,zSi,by kernel_rfl,fun hb=>?_⟩))))|(first |(with_reducible show xwr64 _ _);refine xwr_a ?_ |(with_reducible show CallX _ _ _ _ _);(first|refine CallX_i ?_ zSi|(refine AQ_has ?_;(first|(refine AQ_chk 1 ?_;apply CallX_mp (_);(conv=>whnf);refine ⟨⟨rfl,rfl⟩,zSi,by kernel_rfl,?_⟩)|(refine AQ_chk 2 ?_;apply CallX_mp (_,_);(conv=>whnf);refine ⟨⟨rfl,rfl⟩,zSi,by kernel_rfl,?_⟩)|(refine AQ_chk 3 ?_;apply CallX_mp (_,_,_);(conv=>whnf);refine ⟨⟨rfl,rfl⟩,zSi,by kernel_rfl,?_⟩)|(refine AQ_chk 4 ?_;apply CallX_mp (_,_,_,_);(conv=>whnf);refine ⟨⟨rfl,rfl⟩,zSi,by kernel_rfl,?_⟩)|(refine AQ_chk 5 ?_;apply CallX_mp (_,_,_,_,_);(conv=>whnf);refine ⟨⟨rfl,rfl⟩,zSi,by kernel_rfl,?_⟩)|(refine AQ_chk 6 ?_;apply CallX_mp (_,_,_,_,_,_);(conv=>whnf);refine ⟨⟨rfl,rfl⟩,zSi,by kernel_rfl,?_⟩)|(refine AQ_chk 7 ?_;apply CallX_mp (_,_,_,_,_,_,_);(conv=>whnf);refine ⟨⟨rfl,rfl⟩,zSi,by kernel_rfl,?_⟩)|(refine AQ_chk 8 ?_;apply CallX_mp (_,_,_,_,_,_,_,_);(conv=>whnf);refine ⟨⟨rfl,rfl⟩,zSi,by kernel_rfl,?_⟩)|(refine AQ_chk 9 ?_;apply CallX_mp (_,_,_,_,_,_,_,_,_);(conv=>whnf);refine ⟨⟨rfl,rfl⟩,zSi,by kernel_rfl,?_⟩)|(refine AQ_chk 10 ?_;apply CallX_mp (_,_,_,_,_,_,_,_,_,_);(conv=>whnf);refine ⟨⟨rfl,rfl⟩,zSi,by kernel_rfl,?_⟩)|(refine AQ_chk 11 ?_;apply CallX_mp (_,_,_,_,_,_,_,_,_,_,_);(conv=>whnf);refine ⟨⟨rfl,rfl⟩,zSi,by kernel_rfl,?_⟩)|(refine AQ_chk 12 ?_;apply CallX_mp (_,_,_,_,_,_,_,_,_,_,_,_);(conv=>whnf);refine ⟨⟨rfl,rfl⟩,zSi,by kernel_rfl,?_⟩)))|(refine CallX_v fun φ=>?_;(conv=>whnf);(repeat ((with_reducible show ViewE _ _ _ _);(first|refine view_w zLn ?_|refine view_pf zSd ?_|refine view_p zSd ?_);(conv=>whnf)));(with_reducible show CallB _ _ _ _ _);refine CallB_i ?_ zSi)) |(with_reducible show CallB _ _ _ _ _);(with_reducible show CallB _ _ _ _ _);refine CallB_i ?_ zSi |(with_reducible show ValX _ _ _ _ _);(first|refine ValX_idxF tabOk rfl rfl zSd zSd ?_|refine ValX_idxS tabOk rfl rfl rfl zLn zSd zSd zSd ?_|refine ValX_loadF tabOk rfl rfl rfl rfl rfl zSd ?_|refine ValX_loadQ tabOk rfl rfl rfl rfl rfl rfl ?_|refine ValX_sl1 tabOk rfl rfl rfl zLn zSd zSd ?_|refine ValX_slLo tabOk rfl rfl rfl zLn zSd zSd zSd ?_|refine ValX_slHi tabOk rfl rfl rfl zLn zSd zSd zSd ?_|refine ValX_max3 rfl ?_|refine ValX_cpl rfl ?_|refine ValX_fzNil tabOk rfl rfl rfl (fun hb=>?_) ?_|refine ValX_bldA rfl rfl ?_ (fun w=>by kernel_rfl)|refine ValX_bldB rfl rfl ?_ (fun w=>by kernel_rfl)|refine ValX_ixA1 rfl rfl rfl rfl ?_ (fun w=>by kernel_rfl)|refine ValX_ixA2 rfl rfl rfl rfl ?_ (fun w=>by kernel_rfl)) |(with_reducible show OpX _ _ _ _ _);(first|refine OpX_storeF tabOk rfl rfl rfl (by rfl) (by rfl) zSd ?_|refine OpX_appF tabOk rfl rfl zLn rfl rfl zSe rfl zSd zSd ?_|refine OpX_appP tabOk rfl rfl rfl rfl zSe rfl zSd zSd zSd zSd ?_|refine OpX_build_a tabOk rfl rfl rfl ?_ (by rfl)|refine OpX_make_a tabOk rfl rfl rfl ?_ (by rfl) (by rfl) zSd zSd zSd|refine OpX_build0_a tabOk rfl rfl rfl ?_|refine OpX_nil_a rfl rfl ?_) |(with_reducible show DrawX _ _ _ _ _);refine DrawX_s tabOk folOk ?_ |(with_reducible show DrawS _ _ _ _ _ _ _);refine DrawS_i (by kernel_rfl) ?_ |(with_reducible show ViewE _ _ _ _);(first|refine view_w zLn ?_|refine view_pf zSd ?_|refine view_p zSd ?_) |(with_reducible show xquo64 _ _ _);(first|refine xquo_a ?_|refine xquo_b ?_) |(with_reducible show xrem64 _ _ _);(first|refine xrem_a ?_|refine xrem_b ?_) |(with_reducible show xshr _ _ _ _);(first|refine xshr_1 ?_|refine xshr_32 ?_|refine xshr_6 ?_|refine xshr_7 ?_|refine xshr_8 ?_|refine xshr_63 ?_) |(with_reducible show xshl _ _ _ _);(first|refine xshl_1u ?_|refine xshl_0u ?_|refine xshl_7u ?_) |(with_reducible show andX _ _);refine andX_i ?_ ?_ |(with_reducible show need _ _);refine need_i zSd ?_ |(with_reducible show xwru _ _ _);(first|refine xwru_64 (by omega) (by omega) ?_|refine xwru_32 (by omega) (by omega) ?_|refine xwru_32m ?_) |(with_reducible show xquou _ _ _ _);refine xquou_nn (by omega) (by omega) (by omega) ?_ |(with_reducible show xremu _ _ _);refine xremu_nn (by omega) (by omega) ?_ |(with_reducible show xcv _ _ _);(first|refine xcv_i64 (by omega) (by omega) ?_|refine xcv_u8 (by omega) (by omega) ?_|refine xcv_u32 (by omega) (by omega) ?_|refine xcv_u64 (by omega) (by omega) ?_|refine xcv_u8m ?_|refine xcv_u32m ?_|refine xcv_u64m ?_))|(first |(with_reducible show OpX _ _ _ _ _);(first|refine OpX_clearF tabOk rfl rfl rfl rfl rfl rfl zSd ?_|refine OpX_buildD tabOk rfl rfl rfl rfl (by rfl) ?_|refine OpX_appD tabOk rfl rfl zLd rfl rfl zSf rfl zSd zSd ?_|refine OpX_appZ tabOk rfl rfl rfl rfl (by rfl) zSd zSd zSd ?_) |(with_reducible show ValX _ _ _ _ _);(first|refine ValX_idxD tabOk rfl rfl zSd zSd ?_|refine ValX_loadA tabOk rfl rfl (by rfl) (by rfl) ?_|refine ValX_loadZD tabOk rfl rfl rfl (by rfl) (by rfl) zSd ?_|refine ValX_idxS tabOk rfl rfl rfl (flD_len _ _) zSd zSd zSd ?_|refine ValX_cap0 tabOk rfl rfl ?_|refine ValX_slNil tabOk rfl rfl ?_|refine ValX_fld rfl rfl rfl (fun σ w=>by kernel_rfl) ?_|refine ValX_idxL tabOk rfl rfl (by decide) (by simp;done) rfl ?_) |(with_reducible show CallX _ _ _ _ _);(first|(apply CallX_me (.unit);(conv=>whnf);refine ⟨⟨rfl,rfl⟩,zSi,by kernel_rfl,fun hb=>?_⟩)|(refine AQ_has ?_;(first|(refine AQ_chk 1 ?_;apply CallX_mv (_);intro φ;(conv=>whnf);refine ⟨rfl,?_⟩;(repeat ((with_reducible show ViewE _ _ _ _);(first|refine view_w zLn ?_|refine view_pf zSd ?_|refine view_p zSd ?_);(conv=>whnf)));refine ⟨rfl,zSi,by kernel_rfl,?_⟩)|(refine AQ_chk 2 ?_;apply CallX_mv (_,_);intro φ;(conv=>whnf);refine ⟨rfl,?_⟩;(repeat ((with_reducible show ViewE _ _ _ _);(first|refine view_w zLn ?_|refine view_pf zSd ?_|refine view_p zSd ?_);(conv=>whnf)));refine ⟨rfl,zSi,by kernel_rfl,?_⟩)|(refine AQ_chk 3 ?_;apply CallX_mv (_,_,_);intro φ;(conv=>whnf);refine ⟨rfl,?_⟩;(repeat ((with_reducible show ViewE _ _ _ _);(first|refine view_w zLn ?_|refine view_pf zSd ?_|refine view_p zSd ?_);(conv=>whnf)));refine ⟨rfl,zSi,by kernel_rfl,?_⟩)|(refine AQ_chk 4 ?_;apply CallX_mv (_,_,_,_);intro φ;(conv=>whnf);refine ⟨rfl,?_⟩;(repeat ((with_reducible show ViewE _ _ _ _);(first|refine view_w zLn ?_|refine view_pf zSd ?_|refine view_p zSd ?_);(conv=>whnf)));refine ⟨rfl,zSi,by kernel_rfl,?_⟩)|(refine AQ_chk 5 ?_;apply CallX_mv (_,_,_,_,_);intro φ;(conv=>whnf);refine ⟨rfl,?_⟩;(repeat ((with_reducible show ViewE _ _ _ _);(first|refine view_w zLn ?_|refine view_pf zSd ?_|refine view_p zSd ?_);(conv=>whnf)));refine ⟨rfl,zSi,by kernel_rfl,?_⟩)|(refine AQ_chk 6 ?_;apply CallX_mv (_,_,_,_,_,_);intro φ;(conv=>whnf);refine ⟨rfl,?_⟩;(repeat ((with_reducible show ViewE _ _ _ _);(first|refine view_w zLn ?_|refine view_pf zSd ?_|refine view_p zSd ?_);(conv=>whnf)));refine ⟨rfl,zSi,by kernel_rfl,?_⟩)|(refine AQ_chk 7 ?_;apply CallX_mv (_,_,_,_,_,_,_);intro φ;(conv=>whnf);refine ⟨rfl,?_⟩;(repeat ((with_reducible show ViewE _ _ _ _);(first|refine view_w zLn ?_|refine view_pf zSd ?_|refine view_p zSd ?_);(conv=>whnf)));refine ⟨rfl,zSi,by kernel_rfl,?_⟩)|(refine AQ_chk 8 ?_;apply CallX_mv (_,_,_,_,_,_,_,_);intro φ;(conv=>whnf);refine ⟨rfl,?_⟩;(repeat ((with_reducible show ViewE _ _ _ _);(first|refine view_w zLn ?_|refine view_pf zSd ?_|refine view_p zSd ?_);(conv=>whnf)));refine ⟨rfl,zSi,by kernel_rfl,?_⟩)|(refine AQ_chk 9 ?_;apply CallX_mv (_,_,_,_,_,_,_,_,_);intro φ;(conv=>whnf);refine ⟨rfl,?_⟩;(repeat ((with_reducible show ViewE _ _ _ _);(first|refine view_w zLn ?_|refine view_pf zSd ?_|refine view_p zSd ?_);(conv=>whnf)));refine ⟨rfl,zSi,by kernel_rfl,?_⟩)|(refine AQ_chk 10 ?_;apply CallX_mv (_,_,_,_,_,_,_,_,_,_);intro φ;(conv=>whnf);refine ⟨rfl,?_⟩;(repeat ((with_reducible show ViewE _ _ _ _);(first|refine view_w zLn ?_|refine view_pf zSd ?_|refine view_p zSd ?_);(conv=>whnf)));refine ⟨rfl,zSi,by kernel_rfl,?_⟩)|(refine AQ_chk 11 ?_;apply CallX_mv (_,_,_,_,_,_,_,_,_,_,_);intro φ;(conv=>whnf);refine ⟨rfl,?_⟩;(repeat ((with_reducible show ViewE _ _ _ _);(first|refine view_w zLn ?_|refine view_pf zSd ?_|refine view_p zSd ?_);(conv=>whnf)));refine ⟨rfl,zSi,by kernel_rfl,?_⟩)|(refine AQ_chk 12 ?_;apply CallX_mv (_,_,_,_,_,_,_,_,_,_,_,_);intro φ;(conv=>whnf);refine ⟨rfl,?_⟩;(repeat ((with_reducible show ViewE _ _ _ _);(first|refine view_w zLn ?_|refine view_pf zSd ?_|refine view_p zSd ?_);(conv=>whnf)));refine ⟨rfl,zSi,by kernel_rfl,?_⟩)))|(refine CallX_w fun φ=>?_;(conv=>whnf);(repeat ((with_reducible show ViewE _ _ _ _);(first|refine view_w zLn ?_|refine view_pf zSd ?_|refine view_p zSd ?_);(conv=>whnf)));(with_reducible show CallR _ _ _ _ _);refine CallR_i ?_ zSi)|(refine CallX_v fun φ=>?_;(conv=>whnf);(repeat ((with_reducible show ViewE _ _ _ _);(first|refine view_w zLn ?_|refine view_pf zSd ?_|refine view_p zSd ?_);(conv=>whnf)));(with_reducible show CallB _ _ _ _ _);refine CallB_di ?_ zSi)) |(with_reducible show CallB _ _ _ _ _);refine CallB_di ?_ zSi))<;>conv=>whnf)|((with_reducible show ∀ (_ : Nat→Option Addr × Nat),_);intro hb;conv=>whnf)|((with_reducible show _=_);rfl)|((with_reducible refine xif_s ?_ ?_)<;>(intro hb;((try simp (disch:=omega) only [hbS,fl_len] at hb);(try have hb:=bnd hb))<;>first|(exfalso;omega)|(exact (cfl hb (by with_reducible assumption)).elim)|(exact (cfl (by with_reducible assumption) hb).elim)|conv=>whnf))))
 all_goals
  (first|refine Fin_fr 0 rfl fun A1 c1=>?_|refine Fin_fr 1 rfl fun A1 c1=>?_|refine Fin_fr 2 rfl fun A1 c1=>?_|refine Fin_fr 3 rfl fun A1 c1=>?_|refine Fin_fr 4 rfl fun A1 c1=>?_|refine Fin_fr 5 rfl fun A1 c1=>?_|refine Fin_fr 6 rfl fun A1 c1=>?_|refine Fin_fr 7 rfl fun A1 c1=>?_|refine Fin_fr 8 rfl fun A1 c1=>?_|refine Fin_fr 9 rfl fun A1 c1=>?_|refine Fin_fr 10 rfl fun A1 c1=>?_|refine Fin_fr 11 rfl fun A1 c1=>?_|refine Fin_fr 12 rfl fun A1 c1=>?_|refine Fin_fr 13 rfl fun A1 c1=>?_|refine Fin_fr 14 rfl fun A1 c1=>?_|refine Fin_fr 15 rfl fun A1 c1=>?_|refine Fin_fr 16 rfl fun A1 c1=>?_|refine Fin_fr 17 rfl fun A1 c1=>?_|refine Fin_fr 18 rfl fun A1 c1=>?_|refine Fin_fr 19 rfl fun A1 c1=>?_|refine Fin_fr 20 rfl fun A1 c1=>?_|refine Fin_fr 21 rfl fun A1 c1=>?_|refine Fin_fr 22 rfl fun A1 c1=>?_|refine Fin_fr 23 rfl fun A1 c1=>?_|refine Fin_fr 24 rfl fun A1 c1=>?_|refine Fin_fr 25 rfl fun A1 c1=>?_|refine Fin_fr 26 rfl fun A1 c1=>?_|refine Fin_fr 27 rfl fun A1 c1=>?_|refine Fin_fr 28 rfl fun A1 c1=>?_|refine Fin_fr 29 rfl fun A1 c1=>?_|refine Fin_fr 30 rfl fun A1 c1=>?_|refine Fin_fr 31 rfl fun A1 c1=>?_|refine Fin_fr 32 rfl fun A1 c1=>?_|refine Fin_fr 33 rfl fun A1 c1=>?_|refine Fin_fr 34 rfl fun A1 c1=>?_|refine Fin_fr 35 rfl fun A1 c1=>?_|refine Fin_fr 36 rfl fun A1 c1=>?_|refine Fin_fr 37 rfl fun A1 c1=>?_|refine Fin_fr 38 rfl fun A1 c1=>?_|refine Fin_fr 39 rfl fun A1 c1=>?_)
  conv=>whnf
  (repeat ((with_reducible show ViewE _ _ _ _);(first|refine view_w zLn ?_|refine view_pf zSd ?_|refine view_p zSd ?_);(conv=>whnf)))
  refine Fin_ja (A1,c1) ?_
  conv=>whnf
  simp only [if_true,if_false,Bool.false_eq_true,hb]
  exact ⟨rfl,rfl,rfl⟩⟩
instance inVro_2 : AR 55 14 := ⟨trivial⟩
instance inVro_3 : CMe 66 ((Option Addr × Nat) × Rob) true (fun _ => [.p 0 0]) (fun (q, R) => [robO q R]) (fun _ => True) Unit (fun (_, R) _ => .a [I R.at_.X, I R.at_.Y, I R.at_.H]) (fun (q, R) _ => [robO q R]) := ⟨fun (q, ⟨⟨w, h, X⟩, ⟨t, l, s, r⟩, ⟨x, y, d⟩, n, b⟩) _ => by
 dsimp only [robO] at *
 refine CM.of Tryz.func66 rfl tabOk rfl rfl rfl rfl (by simp [SV.nms,SV.nm]) fun w_ M_ π_ G0_=>?_
 refine roA (a1 ?_)
 refine Fin_ja () ?_
 conv=>whnf
 exact ⟨rfl,rfl,rfl⟩⟩
instance inVro_4 : AR 66 2 := ⟨trivial⟩
attribute [irreducible] RobotP.stepB RobotP.scanR RobotP.doR
end Go.Proofs.YtkflmidichikjaaGreatDoor.V
end
section
namespace Go.Proofs.YtkflmidichikjaaGreatDoor.V
open Go.RowKit
set_option maxRecDepth 100000
set_option maxHeartbeats 8000000
namespace Mon
structure St where
 (limit faults age : Int)
 deriving DecidableEq,Inhabited
def orN (a b : Int) : Int := bits .or .i64 a b
def set (m : St) (on : Bool) (f : Int) : St := bif on then { m with faults := orN m.faults f } else m
end Mon
open Mon
instance inVm_1 : CMp 94 (Bool × Int × Int × Int × Int) false (fun (on, f, a, b, c) => [.p 0 0, B on, I f]) (fun (on, f, a, b, c) => [.box 161 [I a, I b, I c]]) (fun (on, f, a, b, c) => True) (fun (on, f, a, b, c) => .t []) (fun (on, f, a, b, c) => [.box 161 [I a, I (bif on then orN b f else b), I c]]) := ⟨fun ⟨on, f, a, b, c⟩ hp => by
 unfold orN
 refine CM.of Tryz.func94 rfl tabOk rfl rfl rfl rfl (by simp [SV.nms,SV.nm]) fun w_ M_ π_ G0_=>?_
 exact run⟩
instance inVm_2 : AQ 94 5 := ⟨trivial⟩
def late (on : Bool) (f b : Int) : Int := bif on then orN b f else b
def obs (m : St) (a b c d e : Bool) : St :=
 let f0:=bif e then 0 else m.faults
 let age:=bif d then 0 else min (m.age + 1) 1073741824
 ⟨m.limit,late (decide (age > m.limit)) 8 (late c 4 (late b 2 (late a 1 f0))),age⟩
instance inVm_3 : CMp 50 (Int × Int × Int × Bool × Bool × Bool × Bool × Bool) false (fun (l, f, g, a, b, c, d, e) => [.p 0 0, .a [B a, B b, B c, B d, B e]]) (fun (l, f, g, a, b, c, d, e) => [.box 161 [I l, I f, I g]]) (fun (l, f, g, a, b, c, d, e) => 0 ≤ g ∧ g ≤ 1073741824) (fun (l, f, g, a, b, c, d, e) => I (obs ⟨l, f, g⟩ a b c d e).faults) (fun (l, f, g, a, b, c, d, e) => [.box 161 [I (obs ⟨l, f, g⟩ a b c d e).limit, I (obs ⟨l, f, g⟩ a b c d e).faults, I (obs ⟨l, f, g⟩ a b c d e).age]]) := ⟨fun ⟨l, f, g, a, b, c, d, e⟩ hp => by
 simp only at hp
 unfold obs late
 refine CM.of Tryz.func50 rfl tabOk rfl rfl rfl rfl (by simp [SV.nms,SV.nm]) fun w_ M_ π_ G0_=>?_
 exact run⟩
instance inVm_4 : AQ 50 8 := ⟨trivial⟩
end Go.Proofs.YtkflmidichikjaaGreatDoor.V
end
section
namespace Go.Proofs.YtkflmidichikjaaGreatDoor.V
open Go.RowKit
set_option maxRecDepth 100000
set_option maxHeartbeats 16000000
open Drive
namespace Mon
def gate (m : St) (c : Command) (safe : Bool) : Command := if m.faults = 0 ∧ safe = true ∧ vCmd c = true then c else ⟨0, 0⟩
end Mon
open Mon
instance inVmg_1 {n : Int} : CFc 38 false [I n] (1 ≤ n ∧ n ≤ 1000) (.t [.p 0 0, I 0]) [.box 161 [I n, I 0, I 0]] := ⟨fun hp => by
 refine CM.of Tryz.func38 rfl tabOk rfl rfl rfl rfl (by simp [SV.nms,SV.nm]) fun w_ M_ π_ G0_=>?_
 exact ru⟩
theorem gate_no {m : St} {t f : Int} {s : Bool} (h : m.faults ≠ 0 ∨ s = false ∨ ¬(-32 ≤ t ∧ t ≤ 32 ∧ 0 ≤ f ∧ f ≤ 32)) : gate m ⟨t, f⟩ s = ⟨0, 0⟩ := by
 unfold gate
 rw [if_neg]
 rintro ⟨h1,h2,h3⟩
 have:=bnd h3
 rcases h with h|h|h
 ·exact h h1
 ·rw [h2] at h;cases h
 ·omega
theorem gate_yes {m : St} {t f : Int} {s : Bool} (h1 : m.faults = 0) (h2 : s = true) (h3 : -32 ≤ t ∧ t ≤ 32 ∧ 0 ≤ f ∧ f ≤ 32) : gate m ⟨t, f⟩ s = ⟨t, f⟩ := by
 unfold gate
 refine if_pos ⟨h1,h2,?_⟩
 unfold vCmd within between
 simp
 omega
instance inVmg_2 : CMp 54 (Bool × Int × Int × Int × Int × Int) false (fun (s, t, f, a, b, c) => [.p 0 0, .a [I t, I f], B s]) (fun (s, t, f, a, b, c) => [.box 161 [I a, I b, I c]]) (fun (s, t, f, a, b, c) => True) (fun (s, t, f, a, b, c) => .a [I (gate ⟨a, b, c⟩ ⟨t, f⟩ s).Turn, I (gate ⟨a, b, c⟩ ⟨t, f⟩ s).Forward]) (fun (s, t, f, a, b, c) => [.box 161 [I a, I b, I c]]) := ⟨fun ⟨s, t, f, a, b, c⟩ hp => by
 dsimp only
 by_cases hv : -32≤t∧t≤32∧0≤f∧f≤32
 ·by_cases hb0 : b=0
  ·cases s with
   | true =>
     rw [gate_yes hb0 rfl hv]
     refine CM.of Tryz.func54 rfl tabOk rfl rfl rfl rfl (by simp [SV.nms,SV.nm]) fun w_ M_ π_ G0_=>?_
     exact ru
   | false =>
     rw [gate_no (.inr (.inl rfl))]
     refine CM.of Tryz.func54 rfl tabOk rfl rfl rfl rfl (by simp [SV.nms,SV.nm]) fun w_ M_ π_ G0_=>?_
     exact ru
  ·rw [gate_no (.inl hb0)]
   refine CM.of Tryz.func54 rfl tabOk rfl rfl rfl rfl (by simp [SV.nms,SV.nm]) fun w_ M_ π_ G0_=>?_
   exact ru
 ·rw [gate_no (.inr (.inr hv))]
  refine CM.of Tryz.func54 rfl tabOk rfl rfl rfl rfl (by simp [SV.nms,SV.nm]) fun w_ M_ π_ G0_=>?_
  exact ru⟩
instance inVmg_3 : AQ 54 6 := ⟨trivial⟩
end Go.Proofs.YtkflmidichikjaaGreatDoor.V
end
