import Derived.Test.YtkflmidichikjaaGreatDoorZSystemReplays37
import Derived.Test.YtkflmidichikjaaGreatDoorZSystemReplays35
import Derived.Test.YtkflmidichikjaaGreatDoorZSystemReplays36
import Derived.Test.YtkflmidichikjaaGreatDoorZSystemReplays42
import Derived.Test.YtkflmidichikjaaGreatDoorZSystemReplays27
import Derived.Test.YtkflmidichikjaaGreatDoorZSystemReplays32
import Derived.Test.YtkflmidichikjaaGreatDoorZSystemReplays30
set_option linter.all false
section
namespace Go.Proofs.YtkflmidichikjaaGreatDoor.V
open Go.RowKit
set_option maxRecDepth 100000
set_option maxHeartbeats 16000000
open Heading BoxP Drive PlanP Known Contr Loc Jou Atl RobotP Mon Mot Sys Grow
theorem jb_len {n : Nat} {S : SS} {i : Inp} (h : okN n S) (hn : n ≤ 1000) : (tickT S i).jb.length ≤ S.jb.length + 256 := by
 show (S.jb ++ frmE (evG S i (cmdT S i) (scanT S))).length≤_
 rw [List.length_append]
 have hs : Contr.vScan (beamsG S i (cmdT S i) (scanT S))=true:=by
  unfold beamsG
  split
  ·exact (scan_ok h.h3).1
  ·exact (scan_ok (M:=[]) rfl).1
 have hf:=frm_256 (t:=S.rob.n + 1) (u:=(cmdT S i).Turn) (f:=(cmdT S i).Forward) (b:=bumpG S i (cmdT S i)) (s:=beamsG S i (cmdT S i) (scanT S)) (by have:=h.h4;omega) gate_ok hs
 have : frmE (evG S i (cmdT S i) (scanT S))=frmJ (S.rob.n + 1) (cmdT S i).Turn (cmdT S i).Forward (bumpG S i (cmdT S i)) (beamsG S i (cmdT S i) (scanT S)):=rfl
 rw [this]
 omega
theorem Sys.okN.mono {n m : Nat} {S : SS} (h : okN n S) (hn : n ≤ m) : okN m S := by
 obtain ⟨h1,h2,h3,h4,h5,h6,h7,h7',h8,h9,h10,h11,h12,h13,h15,h16⟩:=h
 exact ⟨h1,h2,h3,by omega,by omega,h6,h7,h7',h8,by omega,h10,by omega,h12,h13,h15,by omega⟩
theorem ruhA {G L : Prop} (h1 : L) (h : Hold L → G := by intro hl; ((conv=>whnf);repeat' (first|with_reducible exact trivial|with_reducible exact Unit.unit|((fail_if_success (with_reducible show CallX _ 27 _ _ _));(fail_if_success (with_reducible show CallX _ 9 _ _ _));(fail_if_success (with_reducible show CallX _ 8 _ _ _));(fail_if_success (with_reducible show CallX _ 12 _ _ _));(fail_if_success (with_reducible show CallX _ 16 _ _ _));(fail_if_success (with_reducible show CallX _ 18 _ _ _));(fail_if_success (with_reducible show CallX _ 21 _ _ _));(fail_if_success (with_reducible show CallX _ 15 _ _ _));(fail_if_success (with_reducible show CallX _ 10 _ _ _));(fail_if_success (with_reducible show CallX _ 20 _ _ _));(fail_if_success (with_reducible show CallX _ 22 _ _ _));(fail_if_success (with_reducible show CallX _ 13 _ _ _));(fail_if_success (with_reducible show CallX _ 11 _ _ _));(fail_if_success (with_reducible show CallX _ 17 _ _ _));(fail_if_success (with_reducible show CallX _ 24 _ _ _));(first|((with_reducible show CallX _ _ _ _ _);first|refine CallX_i ?_ zSi|(refine AR_has ?_;(first|(refine AR_chk 1 ?_;apply CallX_me (_);(conv=>whnf);refine ⟨⟨rfl,rfl⟩,zSi,by kernel_rfl,fun hb => ?_⟩)|(refine AR_chk 2 ?_;apply CallX_me (_, _);(conv=>whnf);refine ⟨⟨rfl,rfl⟩,zSi,by kernel_rfl,fun hb => ?_⟩)|(refine AR_chk 3 ?_;apply CallX_me (_, _, _);(conv=>whnf);refine ⟨⟨rfl,rfl⟩,zSi,by kernel_rfl,fun hb => ?_⟩)|(refine AR_chk 4 ?_;apply CallX_me (_, _, _, _);(conv=>whnf);refine ⟨⟨rfl,rfl⟩,zSi,by kernel_rfl,fun hb => ?_⟩)|(refine AR_chk 5 ?_;apply CallX_me (_, _, _, _, _);(conv=>whnf);refine ⟨⟨rfl,rfl⟩,zSi,by kernel_rfl,fun hb => ?_⟩)|(refine AR_chk 6 ?_;apply CallX_me (_, _, _, _, _, _);(conv=>whnf);refine ⟨⟨rfl,rfl⟩,zSi,by kernel_rfl,fun hb => ?_⟩)|(refine AR_chk 7 ?_;apply CallX_me (_, _, _, _, _, _, _);(conv=>whnf);refine ⟨⟨rfl,rfl⟩,zSi,by kernel_rfl,fun hb => ?_⟩)|(refine AR_chk 8 ?_;apply CallX_me (_, _, _, _, _, _, _, _);(conv=>whnf);refine ⟨⟨rfl,rfl⟩,zSi,by kernel_rfl,fun hb => ?_⟩)|(refine AR_chk 9 ?_;apply CallX_me (_, _, _, _, _, _, _, _, _);(conv=>whnf);refine ⟨⟨rfl,rfl⟩,zSi,by kernel_rfl,fun hb => ?_⟩)|(refine AR_chk 10 ?_;apply CallX_me (_, _, _, _, _, _, _, _, _, _);(conv=>whnf);refine ⟨⟨rfl,rfl⟩,zSi,by kernel_rfl,fun hb => ?_⟩)|(refine AR_chk 11 ?_;apply CallX_me (_, _, _, _, _, _, _, _, _, _, _);(conv=>whnf);refine ⟨⟨rfl,rfl⟩,zSi,by kernel_rfl,fun hb => ?_⟩)|(refine AR_chk 12 ?_;apply CallX_me (_, _, _, _, _, _, _, _, _, _, _, _);(conv=>whnf);refine ⟨⟨rfl,rfl⟩,zSi,by kernel_rfl,fun hb => ?_⟩)|(refine AR_chk 13 ?_;apply CallX_me (_, _, _, _, _, _, _, _, _, _, _, _, _);(conv=>whnf);refine ⟨⟨rfl,rfl⟩,zSi,by kernel_rfl,fun hb => ?_⟩)|(refine AR_chk 14 ?_;apply CallX_me (_, _, _, _, _, _, _, _, _, _, _, _, _, _);(conv=>whnf);refine ⟨⟨rfl,rfl⟩,zSi,by kernel_rfl,fun hb => ?_⟩)|(refine AR_chk 15 ?_;apply CallX_me (_, _, _, _, _, _, _, _, _, _, _, _, _, _, _);(conv=>whnf);refine ⟨⟨rfl,rfl⟩,zSi,by kernel_rfl,fun hb => ?_⟩)|(refine AR_chk 16 ?_;apply CallX_me (_, _, _, _, _, _, _, _, _, _, _, _, _, _, _, _);(conv=>whnf);refine ⟨⟨rfl,rfl⟩,zSi,by kernel_rfl,fun hb => ?_⟩))))|(first |(with_reducible show xwr64 _ _);refine xwr_a ?_ |(with_reducible show CallX _ _ _ _ _);(first|refine CallX_i ?_ zSi|(refine AQ_has ?_;(first|(refine AQ_chk 1 ?_;apply CallX_mp (_);(conv=>whnf);refine ⟨⟨rfl,rfl⟩,zSi,by kernel_rfl,?_⟩)|(refine AQ_chk 2 ?_;apply CallX_mp (_, _);(conv=>whnf);refine ⟨⟨rfl,rfl⟩,zSi,by kernel_rfl,?_⟩)|(refine AQ_chk 3 ?_;apply CallX_mp (_, _, _);(conv=>whnf);refine ⟨⟨rfl,rfl⟩,zSi,by kernel_rfl,?_⟩)|(refine AQ_chk 4 ?_;apply CallX_mp (_, _, _, _);(conv=>whnf);refine ⟨⟨rfl,rfl⟩,zSi,by kernel_rfl,?_⟩)|(refine AQ_chk 5 ?_;apply CallX_mp (_, _, _, _, _);(conv=>whnf);refine ⟨⟨rfl,rfl⟩,zSi,by kernel_rfl,?_⟩)|(refine AQ_chk 6 ?_;apply CallX_mp (_, _, _, _, _, _);(conv=>whnf);refine ⟨⟨rfl,rfl⟩,zSi,by kernel_rfl,?_⟩)|(refine AQ_chk 7 ?_;apply CallX_mp (_, _, _, _, _, _, _);(conv=>whnf);refine ⟨⟨rfl,rfl⟩,zSi,by kernel_rfl,?_⟩)|(refine AQ_chk 8 ?_;apply CallX_mp (_, _, _, _, _, _, _, _);(conv=>whnf);refine ⟨⟨rfl,rfl⟩,zSi,by kernel_rfl,?_⟩)|(refine AQ_chk 9 ?_;apply CallX_mp (_, _, _, _, _, _, _, _, _);(conv=>whnf);refine ⟨⟨rfl,rfl⟩,zSi,by kernel_rfl,?_⟩)|(refine AQ_chk 10 ?_;apply CallX_mp (_, _, _, _, _, _, _, _, _, _);(conv=>whnf);refine ⟨⟨rfl,rfl⟩,zSi,by kernel_rfl,?_⟩)|(refine AQ_chk 11 ?_;apply CallX_mp (_, _, _, _, _, _, _, _, _, _, _);(conv=>whnf);refine ⟨⟨rfl,rfl⟩,zSi,by kernel_rfl,?_⟩)|(refine AQ_chk 12 ?_;apply CallX_mp (_, _, _, _, _, _, _, _, _, _, _, _);(conv=>whnf);refine ⟨⟨rfl,rfl⟩,zSi,by kernel_rfl,?_⟩)))|(refine CallX_v fun φ => ?_;(conv=>whnf);(repeat ((with_reducible show ViewE _ _ _ _);(first|refine view_w zLn ?_|refine view_pf zSd ?_|refine view_p zSd ?_);(conv=>whnf)));(with_reducible show CallB _ _ _ _ _);refine CallB_i ?_ zSi)) |(with_reducible show CallB _ _ _ _ _);(with_reducible show CallB _ _ _ _ _);refine CallB_i ?_ zSi |(with_reducible show ValX _ _ _ _ _);(first|refine ValX_idxF tabOk rfl rfl zSd zSd ?_|refine ValX_idxS tabOk rfl rfl rfl zLn zSd zSd zSd ?_|refine ValX_loadF tabOk rfl rfl rfl rfl rfl zSd ?_|refine ValX_loadQ tabOk rfl rfl rfl rfl rfl rfl ?_|refine ValX_sl1 tabOk rfl rfl rfl zLn zSd zSd ?_|refine ValX_slLo tabOk rfl rfl rfl zLn zSd zSd zSd ?_|refine ValX_slHi tabOk rfl rfl rfl zLn zSd zSd zSd ?_|refine ValX_max3 rfl ?_|refine ValX_cpl rfl ?_|refine ValX_fzNil tabOk rfl rfl rfl (fun hb=>?_) ?_|refine ValX_bldA rfl rfl ?_ (fun w => by kernel_rfl)|refine ValX_bldB rfl rfl ?_ (fun w => by kernel_rfl)|refine ValX_ixA1 rfl rfl rfl rfl ?_ (fun w => by kernel_rfl)|refine ValX_ixA2 rfl rfl rfl rfl ?_ (fun w => by kernel_rfl)) |(with_reducible show OpX _ _ _ _ _);(first|refine OpX_storeF tabOk rfl rfl rfl (by rfl) (by rfl) zSd ?_|refine OpX_appF tabOk rfl rfl zLn rfl rfl zSe rfl zSd zSd ?_|refine OpX_appP tabOk rfl rfl rfl rfl zSe rfl zSd zSd zSd zSd ?_|refine OpX_build_a tabOk rfl rfl rfl ?_ (by rfl)|refine OpX_make_a tabOk rfl rfl rfl ?_ (by rfl) (by rfl) zSd zSd zSd|refine OpX_build0_a tabOk rfl rfl rfl ?_|refine OpX_nil_a rfl rfl ?_) |(with_reducible show DrawX _ _ _ _ _);refine DrawX_s tabOk folOk ?_ |(with_reducible show DrawS _ _ _ _ _ _ _);refine DrawS_i (by kernel_rfl) ?_ |(with_reducible show ViewE _ _ _ _);(first|refine view_w zLn ?_|refine view_pf zSd ?_|refine view_p zSd ?_) |(with_reducible show xquo64 _ _ _);(first|refine xquo_a ?_|refine xquo_b ?_) |(with_reducible show xrem64 _ _ _);(first|refine xrem_a ?_|refine xrem_b ?_) |(with_reducible show xshr _ _ _ _);(first|refine xshr_1 ?_|refine xshr_32 ?_|refine xshr_6 ?_|refine xshr_7 ?_|refine xshr_8 ?_|refine xshr_63 ?_) |(with_reducible show xshl _ _ _ _);(first|refine xshl_1u ?_|refine xshl_0u ?_|refine xshl_7u ?_) |(with_reducible show andX _ _);refine andX_i ?_ ?_ |(with_reducible show need _ _);refine need_i zSd ?_ |(with_reducible show xwru _ _ _);(first|refine xwru_64 (by omega) (by omega) ?_|refine xwru_32 (by omega) (by omega) ?_|refine xwru_32m ?_) |(with_reducible show xquou _ _ _ _);refine xquou_nn (by omega) (by omega) (by omega) ?_ |(with_reducible show xremu _ _ _);refine xremu_nn (by omega) (by omega) ?_ |(with_reducible show xcv _ _ _);(first|refine xcv_i64 (by omega) (by omega) ?_|refine xcv_u8 (by omega) (by omega) ?_|refine xcv_u32 (by omega) (by omega) ?_|refine xcv_u64 (by omega) (by omega) ?_|refine xcv_u8m ?_|refine xcv_u32m ?_|refine xcv_u64m ?_))|(first |(with_reducible show OpX _ _ _ _ _);(first|refine OpX_clearF tabOk rfl rfl rfl rfl rfl rfl zSd ?_|refine OpX_buildD tabOk rfl rfl rfl rfl (by rfl) ?_|refine OpX_appD tabOk rfl rfl zLd rfl rfl zSf rfl zSd zSd ?_|refine OpX_appZ tabOk rfl rfl rfl rfl (by rfl) zSd zSd zSd ?_) |(with_reducible show ValX _ _ _ _ _);(first|refine ValX_idxD tabOk rfl rfl zSd zSd ?_|refine ValX_loadA tabOk rfl rfl (by rfl) (by rfl) ?_|refine ValX_loadZD tabOk rfl rfl rfl (by rfl) (by rfl) zSd ?_|refine ValX_idxS tabOk rfl rfl rfl (flD_len _ _) zSd zSd zSd ?_|refine ValX_cap0 tabOk rfl rfl ?_|refine ValX_slNil tabOk rfl rfl ?_|refine ValX_fld rfl rfl rfl (fun σ w => by kernel_rfl) ?_|refine ValX_idxL tabOk rfl rfl (by decide) (by simp;done) rfl ?_) |(with_reducible show CallX _ _ _ _ _);(first|(apply CallX_me (.unit);(conv=>whnf);refine ⟨⟨rfl,rfl⟩,zSi,by kernel_rfl,fun hb => ?_⟩)|(refine AQ_has ?_;(first|(refine AQ_chk 1 ?_;apply CallX_mv (_);intro φ;(conv=>whnf);refine ⟨rfl,?_⟩;(repeat ((with_reducible show ViewE _ _ _ _);(first|refine view_w zLn ?_|refine view_pf zSd ?_|refine view_p zSd ?_);(conv=>whnf)));refine ⟨rfl,zSi,by kernel_rfl,?_⟩)|(refine AQ_chk 2 ?_;apply CallX_mv (_, _);intro φ;(conv=>whnf);refine ⟨rfl,?_⟩;(repeat ((with_reducible show ViewE _ _ _ _);(first|refine view_w zLn ?_|refine view_pf zSd ?_|refine view_p zSd ?_);(conv=>whnf)));refine ⟨rfl,zSi,by kernel_rfl,?_⟩)|(refine AQ_chk 3 ?_;apply CallX_mv (_, _, _);intro φ;(conv=>whnf);refine ⟨rfl,?_⟩;(repeat ((with_reducible show ViewE _ _ _ _);(first|refine view_w zLn ?_|refine view_pf zSd ?_|refine view_p zSd ?_);(conv=>whnf)));refine ⟨rfl,zSi,by kernel_rfl,?_⟩)|(refine AQ_chk 4 ?_;apply CallX_mv (_, _, _, _);intro φ;(conv=>whnf);refine ⟨rfl,?_⟩;(repeat ((with_reducible show ViewE _ _ _ _);(first|refine view_w zLn ?_|refine view_pf zSd ?_|refine view_p zSd ?_);(conv=>whnf)));refine ⟨rfl,zSi,by kernel_rfl,?_⟩)|(refine AQ_chk 5 ?_;apply CallX_mv (_, _, _, _, _);intro φ;(conv=>whnf);refine ⟨rfl,?_⟩;(repeat ((with_reducible show ViewE _ _ _ _);(first|refine view_w zLn ?_|refine view_pf zSd ?_|refine view_p zSd ?_);(conv=>whnf)));refine ⟨rfl,zSi,by kernel_rfl,?_⟩)|(refine AQ_chk 6 ?_;apply CallX_mv (_, _, _, _, _, _);intro φ;(conv=>whnf);refine ⟨rfl,?_⟩;(repeat ((with_reducible show ViewE _ _ _ _);(first|refine view_w zLn ?_|refine view_pf zSd ?_|refine view_p zSd ?_);(conv=>whnf)));refine ⟨rfl,zSi,by kernel_rfl,?_⟩)|(refine AQ_chk 7 ?_;apply CallX_mv (_, _, _, _, _, _, _);intro φ;(conv=>whnf);refine ⟨rfl,?_⟩;(repeat ((with_reducible show ViewE _ _ _ _);(first|refine view_w zLn ?_|refine view_pf zSd ?_|refine view_p zSd ?_);(conv=>whnf)));refine ⟨rfl,zSi,by kernel_rfl,?_⟩)|(refine AQ_chk 8 ?_;apply CallX_mv (_, _, _, _, _, _, _, _);intro φ;(conv=>whnf);refine ⟨rfl,?_⟩;(repeat ((with_reducible show ViewE _ _ _ _);(first|refine view_w zLn ?_|refine view_pf zSd ?_|refine view_p zSd ?_);(conv=>whnf)));refine ⟨rfl,zSi,by kernel_rfl,?_⟩)|(refine AQ_chk 9 ?_;apply CallX_mv (_, _, _, _, _, _, _, _, _);intro φ;(conv=>whnf);refine ⟨rfl,?_⟩;(repeat ((with_reducible show ViewE _ _ _ _);(first|refine view_w zLn ?_|refine view_pf zSd ?_|refine view_p zSd ?_);(conv=>whnf)));refine ⟨rfl,zSi,by kernel_rfl,?_⟩)|(refine AQ_chk 10 ?_;apply CallX_mv (_, _, _, _, _, _, _, _, _, _);intro φ;(conv=>whnf);refine ⟨rfl,?_⟩;(repeat ((with_reducible show ViewE _ _ _ _);(first|refine view_w zLn ?_|refine view_pf zSd ?_|refine view_p zSd ?_);(conv=>whnf)));refine ⟨rfl,zSi,by kernel_rfl,?_⟩)|(refine AQ_chk 11 ?_;apply CallX_mv (_, _, _, _, _, _, _, _, _, _, _);intro φ;(conv=>whnf);refine ⟨rfl,?_⟩;(repeat ((with_reducible show ViewE _ _ _ _);(first|refine view_w zLn ?_|refine view_pf zSd ?_|refine view_p zSd ?_);(conv=>whnf)));refine ⟨rfl,zSi,by kernel_rfl,?_⟩)|(refine AQ_chk 12 ?_;apply CallX_mv (_, _, _, _, _, _, _, _, _, _, _, _);intro φ;(conv=>whnf);refine ⟨rfl,?_⟩;(repeat ((with_reducible show ViewE _ _ _ _);(first|refine view_w zLn ?_|refine view_pf zSd ?_|refine view_p zSd ?_);(conv=>whnf)));refine ⟨rfl,zSi,by kernel_rfl,?_⟩)))|(refine CallX_w fun φ => ?_;(conv=>whnf);(repeat ((with_reducible show ViewE _ _ _ _);(first|refine view_w zLn ?_|refine view_pf zSd ?_|refine view_p zSd ?_);(conv=>whnf)));(with_reducible show CallR _ _ _ _ _);refine CallR_i ?_ zSi)|(refine CallX_v fun φ => ?_;(conv=>whnf);(repeat ((with_reducible show ViewE _ _ _ _);(first|refine view_w zLn ?_|refine view_pf zSd ?_|refine view_p zSd ?_);(conv=>whnf)));(with_reducible show CallB _ _ _ _ _);refine CallB_di ?_ zSi)) |(with_reducible show CallB _ _ _ _ _);refine CallB_di ?_ zSi))<;>conv=>whnf)|((with_reducible show ∀ (_ : Nat → Option Addr × Nat), _);intro hb;conv=>whnf)|((with_reducible show _=_);rfl)|((with_reducible refine xif_s ?_ ?_)<;>(intro hb;((try simp (disch:=omega) only [hbS,fl_len] at hb);(try have hb:=bnd hb))<;>first|(exfalso;omega)|(exact (cfl hb (by with_reducible assumption)).elim)|(exact (cfl (by with_reducible assumption) hb).elim)|conv=>whnf))));all_goals ((repeat revert hb);first|with_reducible exact hl.out.1|with_reducible exact hl.out.2.1|with_reducible exact hl.out.2.2.1|with_reducible exact hl.out.2.2.2.1|with_reducible exact hl.out.2.2.2.2.1|with_reducible exact hl.out.2.2.2.2.2.1|with_reducible exact hl.out.2.2.2.2.2.2.1|with_reducible exact hl.out.2.2.2.2.2.2.2.1|with_reducible exact hl.out.2.2.2.2.2.2.2.2.1|with_reducible exact hl.out.2.2.2.2.2.2.2.2.2.1|with_reducible exact hl.out.2.2.2.2.2.2.2.2.2.2.1|with_reducible exact hl.out.2.2.2.2.2.2.2.2.2.2.2.1)) : G := h ⟨h1⟩
end Go.Proofs.YtkflmidichikjaaGreatDoor.V
end
section
namespace Go.Proofs.YtkflmidichikjaaGreatDoor.V
open Go.RowKit
set_option maxRecDepth 100000
set_option maxHeartbeats 16000000
open Heading BoxP Drive PlanP Known Contr Loc Jou Atl RobotP Mon Mot Sys
instance inVsy7_1 : CMe 12 (Gh × SS) true (fun _ => [.p 3 0]) (fun (g, S) => sysO g S) (fun (_, S) => S.ft.set.length ≤ 1000000000) (Option Addr × Nat) (fun (_, S) q => .fz q.1 q.2 6 (fl Box.e S.ft.set)) (fun (g, S) _ => sysO g S) := ⟨fun (g, S) p1 => by
 dsimp only [sysO] at *
 refine CM.of Tryz.func12 rfl tabOk rfl rfl rfl rfl (by simp [SV.nms,SV.nm]) fun w_ M_ π_ G0_=>?_
 refine roA (a1 ?_)
 all_goals intros
 (first|refine Fin_fr 30 rfl fun A1 c1=>?_|refine Fin_fr 29 rfl fun A1 c1=>?_|refine Fin_fr 28 rfl fun A1 c1=>?_|refine Fin_fr 27 rfl fun A1 c1=>?_|refine Fin_fr 26 rfl fun A1 c1=>?_|refine Fin_fr 25 rfl fun A1 c1=>?_|refine Fin_fr 24 rfl fun A1 c1=>?_|refine Fin_fr 23 rfl fun A1 c1=>?_|refine Fin_fr 22 rfl fun A1 c1=>?_|refine Fin_fr 21 rfl fun A1 c1=>?_|refine Fin_fr 20 rfl fun A1 c1=>?_|refine Fin_fr 19 rfl fun A1 c1=>?_|refine Fin_fr 18 rfl fun A1 c1=>?_|refine Fin_fr 17 rfl fun A1 c1=>?_|refine Fin_fr 16 rfl fun A1 c1=>?_|refine Fin_fr 15 rfl fun A1 c1=>?_|refine Fin_fr 14 rfl fun A1 c1=>?_|refine Fin_fr 13 rfl fun A1 c1=>?_|refine Fin_fr 12 rfl fun A1 c1=>?_|refine Fin_fr 11 rfl fun A1 c1=>?_|refine Fin_fr 10 rfl fun A1 c1=>?_)
 conv=>whnf
 (repeat ((with_reducible show ViewE _ _ _ _);(first|refine view_w zLn ?_|refine view_pf zSd ?_|refine view_p zSd ?_);(conv=>whnf)))
 refine Fin_ja (A1,c1) ?_
 conv=>whnf
 exact ⟨rfl,rfl,rfl⟩⟩
instance inVsy7_2 : AR 12 2 := ⟨trivial⟩
end Go.Proofs.YtkflmidichikjaaGreatDoor.V
end
section
namespace Go.Proofs.YtkflmidichikjaaGreatDoor.V
open Go.RowKit
set_option maxRecDepth 100000
open Heading BoxP Drive PlanP Contr Jou Wire
theorem or128 {n : Int} : bits .or .u8 (n % 256) 128 = n % 128 + 128 := by
 have all : ∀ i : _root_.Fin 256,bits .or .u8 (i.val : Int) 128=(i.val : Int) % 128 + 128:=by decide +kernel
 have:=all ⟨(n % 256).toNat,by omega⟩
 simp only at this
 rw [show (((n % 256).toNat : Nat) : Int)=n % 256 by omega] at this
 rw [this]
 omega
theorem uintB_1 {n : Int} (h : n < 128) : uintB n = [n] := by
 unfold uintB
 rw [uintN,if_neg (by omega)]
theorem uintB_2 {n : Int} (h : 128 ≤ n) (h' : n < 16384) : uintB n = [n % 128 + 128, n / 128] := by
 unfold uintB
 rw [uintN,if_pos (by omega),or128,uintN,if_neg (by omega)]
namespace Wire
def zz (t : Int) : Int := if 0 ≤ t then t * 2 else 0 - t * 2 - 1
end Wire
theorem intB_zz {t : Int} (h : -32 ≤ t) (h' : t < 8192) : intB t = uintB (zz t) := by
 by_cases h0 : 0≤t
 ·unfold intB zz
  rw [if_pos h0,show t / 9223372036854775808 % 18446744073709551616=0 by omega,show t % 18446744073709551616 * 2 % 18446744073709551616=t * 2 by omega,xor0 (by omega) (by omega)]
 ·have all : ∀ i : _root_.Fin 32,intB ((i.val : Int) - 32)=uintB (zz ((i.val : Int) - 32)):=by decide +kernel
  have:=all ⟨(t + 32).toNat,by omega⟩
  simp only at this
  rwa [show (((t + 32).toNat : Nat) : Int) - 32=t by omega] at this
theorem and1 (n : Int) : bits .and .u64 n 1 = n % 2 := by
 have h3 : (BitVec.ofInt 64 1).toNat=2 ^ 1 - 1:=by decide
 have key : (BitVec.ofInt 64 n &&& BitVec.ofInt 64 1).toNat=(n % ((2 ^ 64 : Nat) : Int)).toNat % 2 ^ 1:=by
  rw [BitVec.toNat_and,BitVec.toNat_ofInt,h3,Nat.and_two_pow_sub_one_eq_mod]
 show IntKind.u64.wrap ((BitVec.ofInt 64 n &&& BitVec.ofInt 64 1).toNat : Nat)=n % 2
 rw [key]
 unfold IntKind.wrap
 simp [IntKind.bits,IntKind.signed]
 omega
theorem xor0i {a : Int} (h0 : 0 ≤ a) (h1 : a < 9223372036854775808) : bits .xor .i64 a 0 = a := by
 have h : (BitVec.ofInt 64 a ^^^ BitVec.ofInt 64 0).toNat=a.toNat:=by
  simp [BitVec.toNat_ofInt]
  omega
 show IntKind.i64.wrap ((BitVec.ofInt 64 a ^^^ BitVec.ofInt 64 0).toNat : Nat)=a
 rw [h,IntKind.wrap_i64]
 omega
theorem unzz {t : Int} (h : -32 ≤ t) (h' : t < 8192) : bits .xor .i64 (zz t / 2) (0 - bits .and .u64 (zz t) 1) = t := by
 rw [and1]
 by_cases h0 : 0≤t
 ·unfold zz
  rw [if_pos h0,show t * 2 % 2=0 by omega,show t * 2 / 2=t by omega]
  exact xor0i h0 (by omega)
 ·have all : ∀ i : _root_.Fin 32,bits .xor .i64 (zz ((i.val : Int) - 32) / 2) (0 - zz ((i.val : Int) - 32) % 2)=(i.val : Int) - 32:=by decide +kernel
  have:=all ⟨(t + 32).toNat,by omega⟩
  simp only at this
  rwa [show (((t + 32).toNat : Nat) : Int) - 32=t by omega] at this
theorem or7 {x y : Int} (hx : 0 ≤ x ∧ x < 128) (hy : 0 ≤ y ∧ y < 128) : bits .or .u64 x (y * 128) = x + y * 128 := by
 have e : (BitVec.ofInt 64 x ||| BitVec.ofInt 64 (y * 128)).toNat=x.toNat + y.toNat * 128:=by
  rw [BitVec.toNat_or,BitVec.toNat_ofInt,BitVec.toNat_ofInt]
  rw [show (x % ((2 ^ 64 : Nat) : Int)).toNat=x.toNat by omega,show (y * 128 % ((2 ^ 64 : Nat) : Int)).toNat=y.toNat * 128 by omega]
  rw [Nat.or_comm,show y.toNat * 128=2 ^ 7 * y.toNat by omega,← Nat.two_pow_add_eq_or_of_lt (i:=7) (b:=x.toNat) (by omega)]
  omega
 show IntKind.u64.wrap ((BitVec.ofInt 64 x ||| BitVec.ofInt 64 (y * 128)).toNat : Nat)=_
 rw [e]
 unfold IntKind.wrap
 simp [IntKind.bits,IntKind.signed]
 omega
theorem or0l {x : Int} (hx : 0 ≤ x ∧ x < 128) : bits .or .u64 0 x = x := by
 have e : (BitVec.ofInt 64 0 ||| BitVec.ofInt 64 x).toNat=x.toNat:=by
  rw [BitVec.toNat_or,BitVec.toNat_ofInt,BitVec.toNat_ofInt]
  simp
  omega
 show IntKind.u64.wrap ((BitVec.ofInt 64 0 ||| BitVec.ofInt 64 x).toNat : Nat)=_
 rw [e]
 unfold IntKind.wrap
 simp [IntKind.bits,IntKind.signed]
 omega
theorem andN {c : Int} (h : 0 ≤ c ∧ c < 256) : bits .andNot .u8 c 128 = c % 128 := by
 have all : ∀ i : _root_.Fin 256,bits .andNot .u8 (i.val : Int) 128=(i.val : Int) % 128:=by decide +kernel
 have:=all ⟨c.toNat,by omega⟩
 simp only at this
 rwa [show ((c.toNat : Nat) : Int)=c by omega] at this
end Go.Proofs.YtkflmidichikjaaGreatDoor.V
end
section
namespace Go.Proofs.YtkflmidichikjaaGreatDoor.V
open Go.RowKit
set_option maxRecDepth 100000
section
variable {C : Ctx} {ob : List OB} {e : TypeId} {sz c : Nat} {A : Option Addr}
theorem ValX_fzHead {α : Type} {enc : α → List Value} {X : List α} {o : Oper} {t : TypeId} {x ha : Operand} {m : Int} (n : Nat) {k : SV → Prop} (hT : TabOk C.P C.T) (ho : o.op = .slice t x none (some ha) none) (hs : slInfo C t = some (e, sz)) (hm : m = n) (g1 : n ≤ X.length)
 (hk : ∀ A' c',k (.fz A' c' sz (fl enc (X.take n)))) : ValX C o [.fz A c sz (fl enc X),.v (.int .i64 m)] ob k:=by
 subst hm
 refine ValX_slF (lo:=none) (hi:=some (n : Int)) (mx:=none) hT ho rfl rfl rfl hs (by simp) (by rintro m (h|h|h)<;>simp at h;omega) (by simp) (by simpa using g1) (by simp) fun c'=>?_
 have:=hk (cutA A c 0 sz) c'
 simpa using this
theorem ValX_fzTop {α : Type} {enc : α → List Value} {X : List α} {o : Oper} {t : TypeId} {x ha ma : Operand} {n : Int} (m : Nat) {k : SV → Prop} (hT : TabOk C.P C.T) (ho : o.op = .slice t x none (some ha) (some ma)) (hs : slInfo C t = some (e, sz)) (hm : n = m) (g1 : m ≤ X.length)
 (hk : ∀ A' c',k (.fz A' c' sz (fl enc (X.take m)))) : ValX C o [.fz A c sz (fl enc X),.v (.int .u64 n),.v (.int .u64 n)] ob k:=by
 subst hm
 unfold ValX
 intro σ G fp w ρ hm hw hx
 obtain ⟨hu,hz⟩:=slInfo_run hT hs w
 obtain ⟨A',c0,e1,hc,hrd⟩:=hw.1
 cases e1
 rw [fl_len] at hc
 have hr : (Instr.slice t (.slice A X.length c) none (some (.int .u64 (m : Int))) (some (.int .u64 (m : Int)))).run C.P w = .ok (.slice (cutA A m 0 sz) m m) w:=by
  have g0 : (0 : Int)≤m:=by omega
  have hadd : (if m=0 then A else A.map (·.add (0 * sz)))=cutA A m 0 sz:=by
   unfold cutA
   split
   ·rfl
   ·rfl
  simp only [Instr.slice,Sem.run_bind,run_underlying hu,Result.andThen_ok]
  simp [Instr.sliceBounds,run_sliceBound _ _ _ _ _ g0 (show (m : Int)≤(c : Int) by omega),run_sliceBound _ _ _ _ _ g0 (show (m : Int)≤(((m : Int).toNat : Nat) : Int) by omega),run_sliceBound _ _ _ _ _ g0 (show (m : Int)≤(m : Int) by omega),hz]
  simpa using hadd
 have hln : (X.take m).length=m:=by rw [List.length_take];omega
 refine ⟨_,hk (cutA A m 0 sz) m,?_,?_⟩
 ·obtain ⟨dst,op,ty,pos,after,guard⟩:=o
  simp only at ho
  subst ho
  simp [Op.operands,SV.vals,SV.val] at hx
  simp only [execOp,Option.map_some,Option.map_none,hx,Instr.sliceAt,Sem.run_bind,run_underlying hu,Result.andThen_ok]
  rw [fl_len,hr,SV.val,fl_len,hln]
  rfl
 ·show (DV.fz sz _).rd G (.slice _ _ _)
  refine ⟨_,_,by rw [fl_len,hln],by rw [fl_len,hln];exact Nat.le_refl _,fun hne=>?_⟩
  have hHL : m ≠ 0:=fun h=>hne (by simp [h,fl])
  obtain ⟨b,oo,cs,ty,fz,rfl,h6,h7⟩:=hrd (by intro h;have:=congrArg List.length h;rw [fl_len] at this;simp at this;simp [this] at g1;omega)
  refine ⟨b,oo + 0 * sz,cs,ty,fz,by unfold cutA;rw [if_neg (by omega),Option.map_some,Addr.add_mid],h6,?_⟩
  have:=rdE_cut 0 m h7
  rwa [fl_drop,fl_take,List.drop_zero] at this
theorem ValX_fzHeadD {α : Type} {enc : α → List Value} {X : List α} {o : Oper} {t : TypeId} {x ha : Operand} {n : Int} (m : Nat) {k : SV → Prop} (hT : TabOk C.P C.T) (ho : o.op = .slice t x none (some ha) none) (hs : slInfo C t = some (e, sz)) (hm : n = m) (g1 : m ≤ X.length)
 (hk : k (.fz (cutA A c 0 sz) c sz (fl enc (X.take m)))) : ValX C o [.fz A c sz (fl enc X),.v (.int .i64 n)] ob k:=by
 subst hm
 unfold ValX
 intro σ G fp w ρ hm hw hx
 obtain ⟨hu,hz⟩:=slInfo_run hT hs w
 obtain ⟨A',c0,e1,hc,hrd⟩:=hw.1
 cases e1
 rw [fl_len] at hc
 have hr:=run_slice (P:=C.P) (w:=w) (n:=X.length) (c:=c) (A:=A) hu hz none (some (m : Int)) none (by simp) (by rintro q (h|h|h)<;>simp at h;omega) (by simp) (by simp;omega) (by simp)
 simp only [Option.map_none,Option.map_some,Option.getD_none,Option.getD_some,Int.toNat_natCast,Nat.sub_zero] at hr
 have hln : (X.take m).length=m:=by rw [List.length_take];omega
 refine ⟨_,hk,?_,?_⟩
 ·obtain ⟨dst,op,ty,pos,after,guard⟩:=o
  simp only at ho
  subst ho
  simp [Op.operands,SV.vals,SV.val] at hx
  simp only [execOp,Option.map_some,Option.map_none,hx,Instr.sliceAt,Sem.run_bind,run_underlying hu,Result.andThen_ok]
  rw [fl_len,hr,SV.val,fl_len,hln]
  rfl
 ·show (DV.fz sz _).rd G (.slice _ _ _)
  refine ⟨_,_,by rw [fl_len,hln],by rw [fl_len,hln];omega,fun hne=>?_⟩
  have hHL : m ≠ 0:=fun h=>hne (by simp [h,fl])
  obtain ⟨b,oo,cs,ty,fz,rfl,h6,h7⟩:=hrd (by intro h;have:=congrArg List.length h;rw [fl_len] at this;simp at this;simp [this] at g1;omega)
  refine ⟨b,oo + 0 * sz,cs,ty,fz,by unfold cutA;rw [if_neg (by omega),Option.map_some,Addr.add_mid],h6,?_⟩
  have:=rdE_cut 0 m h7
  rwa [fl_drop,fl_take,List.drop_zero] at this
theorem ValX_fzTailD {α : Type} {enc : α → List Value} {X : List α} {o : Oper} {t : TypeId} {x la : Operand} {n : Int} (m : Nat) {k : SV → Prop} (hT : TabOk C.P C.T) (ho : o.op = .slice t x (some la) none none) (hs : slInfo C t = some (e, sz)) (hm : n = m) (g1 : m ≤ X.length)
 (hk : k (.fz (cutA A c m sz) (c - m) sz (fl enc (X.drop m)))) : ValX C o [.fz A c sz (fl enc X),.v (.int .i64 n)] ob k:=by
 subst hm
 unfold ValX
 intro σ G fp w ρ hm hw hx
 obtain ⟨hu,hz⟩:=slInfo_run hT hs w
 obtain ⟨A',c0,e1,hc,hrd⟩:=hw.1
 cases e1
 rw [fl_len] at hc
 have hr:=run_slice (P:=C.P) (w:=w) (n:=X.length) (c:=c) (A:=A) hu hz (some (m : Int)) none none (by simp) (by rintro q (h|h|h)<;>simp at h;omega) (by simpa using g1) (by simp;omega) (by simp)
 simp only [Option.map_none,Option.map_some,Option.getD_none,Option.getD_some,Int.toNat_natCast] at hr
 have hln : (X.drop m).length=X.length - m:=List.length_drop
 refine ⟨_,hk,?_,?_⟩
 ·obtain ⟨dst,op,ty,pos,after,guard⟩:=o
  simp only at ho
  subst ho
  simp [Op.operands,SV.vals,SV.val] at hx
  simp only [execOp,Option.map_some,Option.map_none,hx,Instr.sliceAt,Sem.run_bind,run_underlying hu,Result.andThen_ok]
  rw [fl_len,hr,SV.val,fl_len,hln]
  rfl
 ·show (DV.fz sz _).rd G (.slice _ _ _)
  refine ⟨_,_,by rw [fl_len,hln],by rw [fl_len,hln];omega,fun hne=>?_⟩
  have hHL : X.length - m ≠ 0:=fun h=>hne (by rw [List.drop_of_length_le (by omega)];rfl)
  obtain ⟨b,oo,cs,ty,fz,rfl,h6,h7⟩:=hrd (by intro h;have:=congrArg List.length h;rw [fl_len] at this;simp at this;simp [this] at hHL)
  refine ⟨b,oo + m * sz,cs,ty,fz,by unfold cutA;rw [if_neg (by omega),Option.map_some,Addr.add_mid],h6,?_⟩
  have:=rdE_cut m (X.length - m) h7
  rwa [fl_drop,fl_take,List.take_of_length_le (by rw [hln];exact Nat.le_refl _)] at this
end
end Go.Proofs.YtkflmidichikjaaGreatDoor.V
end
section
namespace Go.Proofs.YtkflmidichikjaaGreatDoor.V
open Go.RowKit
set_option maxRecDepth 100000
set_option maxHeartbeats 16000000
open Heading BoxP Drive PlanP Known Contr Loc Jou Wire
instance inVrr1_1 : CMe 114 (Option Addr × Nat × Int × List Int) true (fun (A, c, n, R) => [.fz A c 1 (fl ye (uintB n ++ R))]) (fun _ => []) (fun (_, _, n, R) => Hold (0 ≤ n ∧ n < 16384) ∧ R.length ≤ 1000000000) (Option Addr × Nat) (fun (_, _, n, R) q => .t [.v (.int .u64 n), .fz q.1 q.2 1 (fl ye R), I 0]) (fun _ _ => []) := ⟨fun (A, c, n, R) ⟨⟨h0, h1⟩, hR⟩ => by
 dsimp only at *
 by_cases h : n < 128
 ·rw [uintB_1 h,List.singleton_append]
  have e0 : gt (n :: R) (Int.toNat 0)=n:=rfl
  have e1 : bits .andNot .u8 n 128=n:=by rw [andN ⟨h0,by omega⟩];omega
  have e2 : bits .or .u64 0 (n % 18446744073709551616 % 18446744073709551616)=n:=by rw [show n % 18446744073709551616 % 18446744073709551616=n by omega];exact or0l ⟨h0,h⟩
  have l1 : (n :: R).length=R.length + 1:=rfl
  refine CM.of Tryz.func114 rfl tabOk rfl rfl rfl rfl (by simp [SV.nms,SV.nm]) fun w_ M_ π_ G0_=>?_
  refine roA (a1 ?_)
  intros
  refine LoopX_r tabOk 2 ?_
  conv=>whnf
  refine roA (a2 ?_ ?_)
  all_goals
   intros
   refine ValX_fzTail 1 tabOk rfl rfl rfl (by omega) fun A' c'=>?_
   conv=>whnf
   refine roA (a1 ?_)
   intros
   refine Fin_fr 0 rfl fun A1 c1=>?_
   conv=>whnf
   (repeat ((with_reducible show ViewE _ _ _ _);(first|refine view_w zLn ?_|refine view_pf zSd ?_|refine view_p zSd ?_);(conv=>whnf)))
   rw [e0,e1,e2]
   refine Fin_ja (A1,c1) ?_
   conv=>whnf
   exact ⟨rfl,rfl,rfl⟩
 ·rw [uintB_2 (by omega) h1]
  have e0 : gt ((n % 128 + 128) :: (n / 128) :: R) (Int.toNat 0)=n % 128 + 128:=rfl
  have e1 : gt ((n % 128 + 128) :: (n / 128) :: R) (0 + 1 : Int).toNat=n / 128:=rfl
  have l1 : ((n % 128 + 128) :: (n / 128) :: R).length=R.length + 2:=rfl
  rw [show [n % 128 + 128,n / 128] ++ R=(n % 128 + 128) :: (n / 128) :: R from rfl]
  have ea : bits .andNot .u8 (n % 128 + 128) 128=n % 128:=by rw [andN (by omega)];omega
  have eb : bits .andNot .u8 (n / 128) 128=n / 128:=by rw [andN (by omega)];omega
  have e2 : bits .or .u64 0 (n % 128 % 18446744073709551616 % 18446744073709551616)=n % 128:=by rw [show n % 128 % 18446744073709551616 % 18446744073709551616=n % 128 by omega];exact or0l (by omega)
  have e3 : bits .or .u64 (n % 128) (n / 128 % 18446744073709551616 * 128 % 18446744073709551616)=n:=by
   rw [show n / 128 % 18446744073709551616 * 128 % 18446744073709551616=n / 128 * 128 by omega,or7 (by omega) (by omega)]
   omega
  refine CM.of Tryz.func114 rfl tabOk rfl rfl rfl rfl (by simp [SV.nms,SV.nm]) fun w_ M_ π_ G0_=>?_
  refine roA (a1 ?_)
  intros
  refine LoopX_r tabOk 3 ?_
  conv=>whnf
  refine roA (a1 ?_)
  intros
  refine ValX_fzTail 2 tabOk rfl rfl rfl (by omega) fun A' c'=>?_
  conv=>whnf
  refine roA (a1 ?_)
  intros
  refine Fin_fr 0 rfl fun A1 c1=>?_
  conv=>whnf
  (repeat ((with_reducible show ViewE _ _ _ _);(first|refine view_w zLn ?_|refine view_pf zSd ?_|refine view_p zSd ?_);(conv=>whnf)))
  rw [e0,e1,ea,eb,e2,e3]
  refine Fin_ja (A1,c1) ?_
  conv=>whnf
  exact ⟨rfl,rfl,rfl⟩⟩
instance inVrr1_2 : AR 114 4 := ⟨trivial⟩
instance inVrr1_3 : CMe 177 (Option Addr × Nat × Int × List Int) true (fun (A, c, t, R) => [.fz A c 1 (fl ye (intB t ++ R))]) (fun _ => []) (fun (_, _, t, R) => Hold (-32 ≤ t ∧ t < 8192) ∧ R.length ≤ 1000000000) (Option Addr × Nat) (fun (_, _, t, R) q => .t [I t, .fz q.1 q.2 1 (fl ye R), I 0]) (fun _ _ => []) := ⟨fun (A, c, t, R) ⟨⟨h0, h1⟩, hR⟩ => by
 dsimp only at *
 have hz:=unzz h0 h1
 have ha:=and1 (zz t)
 have hn : 0≤zz t∧zz t < 16384:=by unfold zz;split<;>omega
 have hn' : Hold (0≤zz t∧zz t < 16384):=⟨hn⟩
 rw [intB_zz h0 h1]
 generalize zz t=m at *
 refine CM.of Tryz.func177 rfl tabOk rfl rfl rfl rfl (by simp [SV.nms,SV.nm]) fun w_ M_ π_ G0_=>?_
 refine roA (a1 ?_)
 intros
 rename_i q
 rw [hz]
 refine Fin_ja q ?_
 conv=>whnf
 exact ⟨rfl,rfl,rfl⟩⟩
instance inVrr1_4 : AR 177 4 := ⟨trivial⟩
end Go.Proofs.YtkflmidichikjaaGreatDoor.V
end
section
namespace Go.Proofs.YtkflmidichikjaaGreatDoor.V
open Go.RowKit
set_option maxRecDepth 100000
set_option maxHeartbeats 16000000
open Heading BoxP Drive PlanP Known Contr Loc Jou Wire
abbrev Jou.rdO (A : Option Addr) (c : Nat) (L : List Int) : OB := .box 218 [.fz A c 1 (fl ye L), I 0]
instance inVrr2_1 : CMe 117 (Option Addr × Nat × Int × List Int) true (fun _ => [.p 0 0]) (fun (A, c, t, R) => [rdO A c (intB t ++ R)]) (fun (_, _, t, R) => Hold (-32 ≤ t ∧ t < 8192) ∧ R.length ≤ 1000000000) (Option Addr × Nat)
 (fun (_,_,t,_) _=>I t) (fun (_,_,_,R) q=>[rdO q.1 q.2 R]):=⟨fun (A,c,t,R) ⟨p1,p2⟩=>by
 dsimp only [rdO] at *
 refine CM.of Tryz.func117 rfl tabOk rfl rfl rfl rfl (by simp [SV.nms,SV.nm]) fun w_ M_ π_ G0_=>?_
 refine roA (a1 ?_)
 intros
 rename_i q
 refine Fin_ja q ?_
 conv=>whnf
 exact ⟨rfl,rfl,rfl⟩⟩
instance inVrr2_2 : AR 117 4 := ⟨trivial⟩
instance inVrr2_3 : CMe 119 (Option Addr × Nat × Int × List Int × Int × Int) true (fun (_, _, _, _, m, o) => [.p 0 0, .v (.int .u64 m), I o]) (fun (A, c, n, R, _, _) => [rdO A c (uintB n ++ R)])
 (fun (_,_,n,R,m,_)=>Hold (0≤n∧n < 16384)∧R.length≤1000000000∧n≤m) (Option Addr × Nat)
 (fun (_,_,n,_,_,_) _=>I n) (fun (_,_,_,R,_,_) q=>[rdO q.1 q.2 R]):=⟨fun (A,c,n,R,m,o) ⟨⟨p1,p2⟩,p3,p4⟩=>by
 dsimp only [rdO] at *
 have hn : Hold (0≤n∧n < 16384):=⟨p1,p2⟩
 refine CM.of Tryz.func119 rfl tabOk rfl rfl rfl rfl (by simp [SV.nms,SV.nm]) fun w_ M_ π_ G0_=>?_
 refine roA (a1 ?_)
 intros
 rename_i q _
 refine Fin_ja q ?_
 conv=>whnf
 exact ⟨rfl,rfl,rfl⟩⟩
instance inVrr2_4 : AR 119 6 := ⟨trivial⟩
instance inVrr2_5 : CMe 118 (Option Addr × Nat × Bool × List Int) true (fun _ => [.p 0 0]) (fun (A, c, b, R) => [rdO A c ((if b = true then 1 else 0) :: R)]) (fun (_, _, _, R) => R.length ≤ 1000000000) (Option Addr × Nat)
 (fun (_,_,b,_) _=>B b) (fun (_,_,_,R) q=>[rdO q.1 q.2 R]):=⟨fun (A,c,b,R) p1=>by
 dsimp only [rdO] at *
 cases b
 ·simp only [Bool.false_eq_true,if_false]
  have e0 : gt ((0 : Int) :: R) 0=0:=rfl
  have l1 : ((0 : Int) :: R).length=R.length + 1:=rfl
  refine CM.of Tryz.func118 rfl tabOk rfl rfl rfl rfl (by simp [SV.nms,SV.nm]) fun w_ M_ π_ G0_=>?_
  refine roA (a1 ?_)
  intros
  refine ValX_fzTail 1 tabOk rfl rfl rfl (by omega) fun A' c'=>?_
  conv=>whnf
  refine roA (a1 ?_)
  intros
  refine Fin_ja (A',c') ?_
  conv=>whnf
  exact ⟨rfl,rfl,rfl⟩
 ·simp only [if_true]
  have e0 : gt ((1 : Int) :: R) 0=1:=rfl
  have l1 : ((1 : Int) :: R).length=R.length + 1:=rfl
  refine CM.of Tryz.func118 rfl tabOk rfl rfl rfl rfl (by simp [SV.nms,SV.nm]) fun w_ M_ π_ G0_=>?_
  refine roA (a1 ?_)
  intros
  refine ValX_fzTail 1 tabOk rfl rfl rfl (by omega) fun A' c'=>?_
  conv=>whnf
  refine roA (a1 ?_)
  intros
  refine Fin_ja (A',c') ?_
  conv=>whnf
  exact ⟨rfl,rfl,rfl⟩⟩
instance inVrr2_6 : AR 118 4 := ⟨trivial⟩
end Go.Proofs.YtkflmidichikjaaGreatDoor.V
end
section
namespace Go.Proofs.YtkflmidichikjaaGreatDoor.V
open Go.RowKit
set_option maxRecDepth 100000
set_option maxHeartbeats 16000000
open Heading BoxP Drive PlanP Known Contr Loc Jou Wire
attribute [local irreducible] intB
theorem encB_eq (t u f : Int) (b : Bool) (s : List Beam) : encB t u f b s = intB t ++ (intB u ++ (intB f ++ ((if b = true then 1 else 0) :: (uintB s.length ++ s.flatMap beamB)))) := by
 unfold encB
 simp [List.append_assoc]
instance inVrr3_1 : CMe 68 (Option Addr × Nat × Int × Int × Int × Bool × List Beam) true (fun (A, c, t, u, f, b, s) => [.fz A c 1 (fl ye (encB t u f b s))]) (fun _ => []) (fun (_, _, t, u, f, _, s) => (0 ≤ t ∧ t < 8192) ∧ vCmd ⟨u, f⟩ = true ∧ Contr.vScan s = true) (Option Addr × Nat)
 (fun (_,_,t,u,f,b,s) q=>.t [.a [I t,I u,I f,B b,.fz q.1 q.2 2 (fl Beam.e s)],I 0]) (fun _ _=>[]):=⟨fun (A,c,t,u,f,b,s) ⟨p1,p2,p3⟩=>by
 dsimp only at *
 rw [encB_eq]
 have hs:=vScan_iff.1 p3
 have hc:=vCmd_iff.1 p2
 have hl:=hs.2
 have k0 : (s.flatMap beamB).length≤1000:=by
  have h1:=flat_len' (f:=beamB) (n:=20) (fun b=>by
   have:=uintB_len (n:=b.Mark)
   have:=uintB_len (n:=b.Reading + 1)
   simp only [beamB,List.length_append]
   omega) s
  have h2 : s.length * 20≤32 * 20:=Nat.mul_le_mul_right _ hl
  omega
 have k1 : (intB t).length≤10:=intB_len
 have k2 : (intB u).length≤10:=intB_len
 have k3 : (intB f).length≤10:=intB_len
 have k4 : (uintB (s.length : Int)).length≤10:=uintB_len
 have r4 : (s.flatMap beamB).length≤1000000000:=by omega
 have r3 : (uintB (s.length : Int) ++ s.flatMap beamB).length≤1000000000:=by simp only [List.length_append];omega
 have r2 : ((if b=true then (1 : Int) else 0) :: (uintB (s.length : Int) ++ s.flatMap beamB)).length≤1000000000:=by simp only [List.length_append,List.length_cons];omega
 have r1 : (intB f ++ ((if b=true then (1 : Int) else 0) :: (uintB (s.length : Int) ++ s.flatMap beamB))).length≤1000000000:=by simp only [List.length_append,List.length_cons];omega
 have r0 : (intB u ++ (intB f ++ ((if b=true then (1 : Int) else 0) :: (uintB (s.length : Int) ++ s.flatMap beamB)))).length≤1000000000:=by simp only [List.length_append,List.length_cons];omega
 have g0 : Hold (-32≤t∧t < 8192):=⟨by omega⟩
 have g1 : Hold (-32≤u∧u < 8192):=⟨by simp only at hc;omega⟩
 have g2 : Hold (-32≤f∧f < 8192):=⟨by simp only at hc;omega⟩
 have g3 : Hold (0≤(s.length : Int)∧(s.length : Int) < 16384):=⟨by omega⟩
 refine CM.of Tryz.func68 rfl tabOk rfl rfl rfl rfl (by simp [SV.nms,SV.nm]) fun w_ M_ π_ G0_=>?_
 refine roA (a1 ?_)
 intros
 refine LoopX_nilB 2 4 221 2 rfl rfl ?_
 conv=>whnf
 refine LoopX_keep [2,4,5,6] ?_
 conv=>whnf
 rename_i q0
 refine LoopX_p [3] (fun ((k,n,m,_,Z,L) : Nat × Int × Nat × (Option Addr × Nat) × List Int × List Beam)=>k≤s.length∧n=s.length - k∧m=L.length∧L.length=k∧Hold (Z=(s.drop k).flatMap beamB∧L=s.take k)) (fun (_,n,_,_,_,_)=>[(6,I n)]) (fun (_,_,m,q,Z,L)=>[(1,rdO q.1 q.2 Z),(2,.box 57 [I t,I u,I f,B b,.sl 3 0 0 m 2]),(3,.row false 221 2 (fl Beam.e L))]) (fun (k,_,_,_,_,_)=>s.length - k) ((0 : Nat),(s.length : Int),(0 : Nat),q0,s.flatMap beamB,([] : List Beam)) ?_ ⟨Nat.zero_le _,by simp,rfl,rfl,⟨rfl,rfl⟩⟩
 conv=>whnf
 rintro ⟨k,n,m,q,Z,L⟩ ⟨j1,j2,rfl,j3,⟨j4,j5⟩⟩
 conv=>whnf
 by_cases hk : k < s.length
 ·have hv:=vBeam_iff.1 (hs.1 _ (gt_mem hk))
  have hz : Z=uintB (gt s k).Mark ++ (uintB ((gt s k).Reading + 1) ++ (s.drop (k + 1)).flatMap beamB):=by
   rw [j4,drop_gt hk,List.flatMap_cons]
   unfold beamB
   rw [List.append_assoc]
  have hZ : Z.length≤1000:=by
   rw [j4]
   have h1:=flat_len' (f:=beamB) (n:=20) (fun b=>by
    have:=uintB_len (n:=b.Mark)
    have:=uintB_len (n:=b.Reading + 1)
    simp only [beamB,List.length_append]
    omega) (s.drop k)
   have h2 : (s.drop k).length≤32:=by rw [List.length_drop];omega
   have h3:=Nat.mul_le_mul_right 20 h2
   omega
  rw [hz] at hZ
  simp only [List.length_append] at hZ
  have hn : Hold (L ++ [⟨(gt s k).Mark,(gt s k).Reading + 1 - 1⟩]=s.take (k + 1)):=⟨by
   have e : (⟨(gt s k).Mark,(gt s k).Reading + 1 - 1⟩ : Beam)=gt s k:=by rw [show (gt s k).Reading + 1 - 1=(gt s k).Reading by omega]
   rw [j5,e,take_snoc hk]⟩
  clear j4 j5
  subst hz
  have u1 : Hold (0≤(gt s k).Mark∧(gt s k).Mark < 16384):=⟨by omega⟩
  have u2 : Hold (0≤(gt s k).Reading + 1∧(gt s k).Reading + 1 < 16384):=⟨by omega⟩
  have u3 : ((s.drop (k + 1)).flatMap beamB).length≤1000000000:=by omega
  have u4 : (uintB ((gt s k).Reading + 1) ++ (s.drop (k + 1)).flatMap beamB).length≤1000000000:=by rw [List.length_append];omega
  refine roA (a1 ?_)
  intros
  rename_i q2
  exact rn (k + 1,n - 1,L.length + 1,q2,(s.drop (k + 1)).flatMap beamB,L ++ [⟨(gt s k).Mark,(gt s k).Reading + 1 - 1⟩]) ⟨by omega,by omega,by rw [List.length_append];rfl,by rw [List.length_append,j3];rfl,⟨rfl,hn.out⟩⟩
 ·obtain rfl : k=s.length:=by omega
  rw [List.drop_length,List.flatMap_nil] at j4
  rw [List.take_length] at j5
  subst j4 j5
  refine roA (a1 ?_)
  intros
  refine Fin_fr 3 rfl fun A1 c1=>?_
  conv=>whnf
  (repeat ((with_reducible show ViewE _ _ _ _);(first|refine view_w zLn ?_|refine view_pf zSd ?_|refine view_p zSd ?_);(conv=>whnf)))
  refine Fin_ja (A1,c1) ?_
  conv=>whnf
  exact ⟨rfl,rfl,rfl⟩⟩
instance inVrr3_2 : AR 68 7 := ⟨trivial⟩
end Go.Proofs.YtkflmidichikjaaGreatDoor.V
end
