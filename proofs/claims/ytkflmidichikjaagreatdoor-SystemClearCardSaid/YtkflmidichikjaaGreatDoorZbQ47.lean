import Derived.Test.YtkflmidichikjaaGreatDoorZbQ38
import Derived.Test.YtkflmidichikjaaGreatDoorZbQ34
import Derived.Test.YtkflmidichikjaaGreatDoorZbQ36
import Derived.Test.YtkflmidichikjaaGreatDoorZbQ44
import Derived.Test.YtkflmidichikjaaGreatDoorZbQ45
import Derived.Test.YtkflmidichikjaaGreatDoorZbQ46
set_option linter.all false
section
namespace Go.Proofs.YtkflmidichikjaaGreatDoor.V
open Go.RowKit
set_option maxRecDepth 100000
set_option maxHeartbeats 16000000
open Heading BoxP Drive PlanP Known Contr Loc Jou Atl RobotP Mon Mot Sys Grow
theorem jb_len {n : Nat} {S : SS} {i : Inp} (h : okN n S) (hn : n ≤ 1000) : (tickT S i).jb.length ≤ S.jb.length + 256 := by
 show (S.jb ++ frmE (evG S i (cmdT S i) (scanT S))).length≤_
 rw [List.length_append]
 have hs : Contr.vScan (beamsG S i (cmdT S i) (scanT S))=true:=by
  unfold beamsG
  split
  ·exact (scan_ok h.h3).1
  ·exact (scan_ok (M:=[]) rfl).1
 have hf:=frm_256 (t:=S.rob.n + 1) (u:=(cmdT S i).Turn) (f:=(cmdT S i).Forward) (b:=bumpG S i (cmdT S i)) (s:=beamsG S i (cmdT S i) (scanT S)) (by have:=h.h4;omega) gate_ok hs
 have : frmE (evG S i (cmdT S i) (scanT S))=frmJ (S.rob.n + 1) (cmdT S i).Turn (cmdT S i).Forward (bumpG S i (cmdT S i)) (beamsG S i (cmdT S i) (scanT S)):=rfl
 rw [this]
 omega
theorem below_yes2 {A A' : Option Addr} {c c' : Nat} {p q : Plan} (hv : vPlan p = true) (hb : Below p q) : CFc 17 false [.a [I p.W, I p.H, .fz A c 1 (fl ye p.cells)], .a [I q.W, I q.H, .fz A' c' 1 (fl ye q.cells)]] (p.cells.length ≤ 1000000000) (B true) [] := by
 have hv':=hb.v hv
 obtain ⟨w,h,X⟩:=p
 obtain ⟨w',h',Y⟩:=q
 obtain ⟨h1,h2,h3,_,h5⟩:=hb
 simp only at h1 h2
 subst h1 h2
 exact below_yes hv hv' h3 h5
theorem Sys.okN.mono {n m : Nat} {S : SS} (h : okN n S) (hn : n ≤ m) : okN m S := by
 obtain ⟨h1,h2,h3,h4,h5,h6,h7,h7',h8,h9,h10,h11,h12,h13,h15,h16⟩:=h
 exact ⟨h1,h2,h3,by omega,by omega,h6,h7,h7',h8,by omega,h10,by omega,h12,h13,h15,by omega⟩
theorem ruhA {G L : Prop} (h1 : L) (h : Hold L → G := by intro hl; ((conv=>whnf);repeat' (first|with_reducible exact trivial|with_reducible exact Unit.unit|((fail_if_success (with_reducible show CallX _ 27 _ _ _));(fail_if_success (with_reducible show CallX _ 9 _ _ _));(fail_if_success (with_reducible show CallX _ 8 _ _ _));(fail_if_success (with_reducible show CallX _ 12 _ _ _));(fail_if_success (with_reducible show CallX _ 16 _ _ _));(fail_if_success (with_reducible show CallX _ 18 _ _ _));(fail_if_success (with_reducible show CallX _ 21 _ _ _));(fail_if_success (with_reducible show CallX _ 15 _ _ _));(fail_if_success (with_reducible show CallX _ 10 _ _ _));(fail_if_success (with_reducible show CallX _ 20 _ _ _));(fail_if_success (with_reducible show CallX _ 22 _ _ _));(fail_if_success (with_reducible show CallX _ 13 _ _ _));(fail_if_success (with_reducible show CallX _ 11 _ _ _));(fail_if_success (with_reducible show CallX _ 17 _ _ _));(fail_if_success (with_reducible show CallX _ 24 _ _ _));(first|((with_reducible show CallX _ _ _ _ _);first|refine CallX_i ?_ zSi|(refine AR_has ?_;(first|(refine AR_chk 1 ?_;apply CallX_me (_);(conv=>whnf);refine ⟨⟨rfl,rfl⟩,zSi,by kernel_rfl,fun hb => ?_⟩)|(refine AR_chk 2 ?_;apply CallX_me (_, _);(conv=>whnf);refine ⟨⟨rfl,rfl⟩,zSi,by kernel_rfl,fun hb => ?_⟩)|(refine AR_chk 3 ?_;apply CallX_me (_, _, _);(conv=>whnf);refine ⟨⟨rfl,rfl⟩,zSi,by kernel_rfl,fun hb => ?_⟩)|(refine AR_chk 4 ?_;apply CallX_me (_, _, _, _);(conv=>whnf);refine ⟨⟨rfl,rfl⟩,zSi,by kernel_rfl,fun hb => ?_⟩)|(refine AR_chk 5 ?_;apply CallX_me (_, _, _, _, _);(conv=>whnf);refine ⟨⟨rfl,rfl⟩,zSi,by kernel_rfl,fun hb => ?_⟩)|(refine AR_chk 6 ?_;apply CallX_me (_, _, _, _, _, _);(conv=>whnf);refine ⟨⟨rfl,rfl⟩,zSi,by kernel_rfl,fun hb => ?_⟩)|(refine AR_chk 7 ?_;apply CallX_me (_, _, _, _, _, _, _);(conv=>whnf);refine ⟨⟨rfl,rfl⟩,zSi,by kernel_rfl,fun hb => ?_⟩)|(refine AR_chk 8 ?_;apply CallX_me (_, _, _, _, _, _, _, _);(conv=>whnf);refine ⟨⟨rfl,rfl⟩,zSi,by kernel_rfl,fun hb => ?_⟩)|(refine AR_chk 9 ?_;apply CallX_me (_, _, _, _, _, _, _, _, _);(conv=>whnf);refine ⟨⟨rfl,rfl⟩,zSi,by kernel_rfl,fun hb => ?_⟩)|(refine AR_chk 10 ?_;apply CallX_me (_, _, _, _, _, _, _, _, _, _);(conv=>whnf);refine ⟨⟨rfl,rfl⟩,zSi,by kernel_rfl,fun hb => ?_⟩)|(refine AR_chk 11 ?_;apply CallX_me (_, _, _, _, _, _, _, _, _, _, _);(conv=>whnf);refine ⟨⟨rfl,rfl⟩,zSi,by kernel_rfl,fun hb => ?_⟩)|(refine AR_chk 12 ?_;apply CallX_me (_, _, _, _, _, _, _, _, _, _, _, _);(conv=>whnf);refine ⟨⟨rfl,rfl⟩,zSi,by kernel_rfl,fun hb => ?_⟩)|(refine AR_chk 13 ?_;apply CallX_me (_, _, _, _, _, _, _, _, _, _, _, _, _);(conv=>whnf);refine ⟨⟨rfl,rfl⟩,zSi,by kernel_rfl,fun hb => ?_⟩)|(refine AR_chk 14 ?_;apply CallX_me (_, _, _, _, _, _, _, _, _, _, _, _, _, _);(conv=>whnf);refine ⟨⟨rfl,rfl⟩,zSi,by kernel_rfl,fun hb => ?_⟩)|(refine AR_chk 15 ?_;apply CallX_me (_, _, _, _, _, _, _, _, _, _, _, _, _, _, _);(conv=>whnf);refine ⟨⟨rfl,rfl⟩,zSi,by kernel_rfl,fun hb => ?_⟩)|(refine AR_chk 16 ?_;apply CallX_me (_, _, _, _, _, _, _, _, _, _, _, _, _, _, _, _);(conv=>whnf);refine ⟨⟨rfl,rfl⟩,zSi,by kernel_rfl,fun hb => ?_⟩))))|(first |(with_reducible show xwr64 _ _);refine xwr_a ?_ |(with_reducible show CallX _ _ _ _ _);(first|refine CallX_i ?_ zSi|(refine AQ_has ?_;(first|(refine AQ_chk 1 ?_;apply CallX_mp (_);(conv=>whnf);refine ⟨⟨rfl,rfl⟩,zSi,by kernel_rfl,?_⟩)|(refine AQ_chk 2 ?_;apply CallX_mp (_, _);(conv=>whnf);refine ⟨⟨rfl,rfl⟩,zSi,by kernel_rfl,?_⟩)|(refine AQ_chk 3 ?_;apply CallX_mp (_, _, _);(conv=>whnf);refine ⟨⟨rfl,rfl⟩,zSi,by kernel_rfl,?_⟩)|(refine AQ_chk 4 ?_;apply CallX_mp (_, _, _, _);(conv=>whnf);refine ⟨⟨rfl,rfl⟩,zSi,by kernel_rfl,?_⟩)|(refine AQ_chk 5 ?_;apply CallX_mp (_, _, _, _, _);(conv=>whnf);refine ⟨⟨rfl,rfl⟩,zSi,by kernel_rfl,?_⟩)|(refine AQ_chk 6 ?_;apply CallX_mp (_, _, _, _, _, _);(conv=>whnf);refine ⟨⟨rfl,rfl⟩,zSi,by kernel_rfl,?_⟩)|(refine AQ_chk 7 ?_;apply CallX_mp (_, _, _, _, _, _, _);(conv=>whnf);refine ⟨⟨rfl,rfl⟩,zSi,by kernel_rfl,?_⟩)|(refine AQ_chk 8 ?_;apply CallX_mp (_, _, _, _, _, _, _, _);(conv=>whnf);refine ⟨⟨rfl,rfl⟩,zSi,by kernel_rfl,?_⟩)|(refine AQ_chk 9 ?_;apply CallX_mp (_, _, _, _, _, _, _, _, _);(conv=>whnf);refine ⟨⟨rfl,rfl⟩,zSi,by kernel_rfl,?_⟩)|(refine AQ_chk 10 ?_;apply CallX_mp (_, _, _, _, _, _, _, _, _, _);(conv=>whnf);refine ⟨⟨rfl,rfl⟩,zSi,by kernel_rfl,?_⟩)|(refine AQ_chk 11 ?_;apply CallX_mp (_, _, _, _, _, _, _, _, _, _, _);(conv=>whnf);refine ⟨⟨rfl,rfl⟩,zSi,by kernel_rfl,?_⟩)|(refine AQ_chk 12 ?_;apply CallX_mp (_, _, _, _, _, _, _, _, _, _, _, _);(conv=>whnf);refine ⟨⟨rfl,rfl⟩,zSi,by kernel_rfl,?_⟩)))|(refine CallX_v fun φ => ?_;(conv=>whnf);(repeat ((with_reducible show ViewE _ _ _ _);(first|refine view_w zLn ?_|refine view_pf zSd ?_|refine view_p zSd ?_);(conv=>whnf)));(with_reducible show CallB _ _ _ _ _);refine CallB_i ?_ zSi)) |(with_reducible show CallB _ _ _ _ _);(with_reducible show CallB _ _ _ _ _);refine CallB_i ?_ zSi |(with_reducible show ValX _ _ _ _ _);(first|refine ValX_idxF tabOk rfl rfl zSd zSd ?_|refine ValX_idxS tabOk rfl rfl rfl zLn zSd zSd zSd ?_|refine ValX_loadF tabOk rfl rfl rfl rfl rfl zSd ?_|refine ValX_loadQ tabOk rfl rfl rfl rfl rfl rfl ?_|refine ValX_sl1 tabOk rfl rfl rfl zLn zSd zSd ?_|refine ValX_slLo tabOk rfl rfl rfl zLn zSd zSd zSd ?_|refine ValX_slHi tabOk rfl rfl rfl zLn zSd zSd zSd ?_|refine ValX_max3 rfl ?_|refine ValX_cpl rfl ?_|refine ValX_fzNil tabOk rfl rfl rfl (fun hb=>?_) ?_|refine ValX_bldA rfl rfl ?_ (fun w => by kernel_rfl)|refine ValX_bldB rfl rfl ?_ (fun w => by kernel_rfl)|refine ValX_ixA1 rfl rfl rfl rfl ?_ (fun w => by kernel_rfl)|refine ValX_ixA2 rfl rfl rfl rfl ?_ (fun w => by kernel_rfl)) |(with_reducible show OpX _ _ _ _ _);(first|refine OpX_storeF tabOk rfl rfl rfl (by rfl) (by rfl) zSd ?_|refine OpX_appF tabOk rfl rfl zLn rfl rfl zSe rfl zSd zSd ?_|refine OpX_appP tabOk rfl rfl rfl rfl zSe rfl zSd zSd zSd zSd ?_|refine OpX_build_a tabOk rfl rfl rfl ?_ (by rfl)|refine OpX_make_a tabOk rfl rfl rfl ?_ (by rfl) (by rfl) zSd zSd zSd|refine OpX_build0_a tabOk rfl rfl rfl ?_|refine OpX_nil_a rfl rfl ?_) |(with_reducible show DrawX _ _ _ _ _);refine DrawX_s tabOk folOk ?_ |(with_reducible show DrawS _ _ _ _ _ _ _);refine DrawS_i (by kernel_rfl) ?_ |(with_reducible show ViewE _ _ _ _);(first|refine view_w zLn ?_|refine view_pf zSd ?_|refine view_p zSd ?_) |(with_reducible show xquo64 _ _ _);(first|refine xquo_a ?_|refine xquo_b ?_) |(with_reducible show xrem64 _ _ _);(first|refine xrem_a ?_|refine xrem_b ?_) |(with_reducible show xshr _ _ _ _);(first|refine xshr_1 ?_|refine xshr_32 ?_|refine xshr_6 ?_|refine xshr_7 ?_|refine xshr_8 ?_|refine xshr_63 ?_) |(with_reducible show xshl _ _ _ _);(first|refine xshl_1u ?_|refine xshl_0u ?_|refine xshl_7u ?_) |(with_reducible show andX _ _);refine andX_i ?_ ?_ |(with_reducible show need _ _);refine need_i zSd ?_ |(with_reducible show xwru _ _ _);(first|refine xwru_64 (by omega) (by omega) ?_|refine xwru_32 (by omega) (by omega) ?_|refine xwru_32m ?_) |(with_reducible show xquou _ _ _ _);refine xquou_nn (by omega) (by omega) (by omega) ?_ |(with_reducible show xremu _ _ _);refine xremu_nn (by omega) (by omega) ?_ |(with_reducible show xcv _ _ _);(first|refine xcv_i64 (by omega) (by omega) ?_|refine xcv_u8 (by omega) (by omega) ?_|refine xcv_u32 (by omega) (by omega) ?_|refine xcv_u64 (by omega) (by omega) ?_|refine xcv_u8m ?_|refine xcv_u32m ?_|refine xcv_u64m ?_))|(first |(with_reducible show OpX _ _ _ _ _);(first|refine OpX_clearF tabOk rfl rfl rfl rfl rfl rfl zSd ?_|refine OpX_buildD tabOk rfl rfl rfl rfl (by rfl) ?_|refine OpX_appD tabOk rfl rfl zLd rfl rfl zSf rfl zSd zSd ?_|refine OpX_appZ tabOk rfl rfl rfl rfl (by rfl) zSd zSd zSd ?_) |(with_reducible show ValX _ _ _ _ _);(first|refine ValX_idxD tabOk rfl rfl zSd zSd ?_|refine ValX_loadA tabOk rfl rfl (by rfl) (by rfl) ?_|refine ValX_loadZD tabOk rfl rfl rfl (by rfl) (by rfl) zSd ?_|refine ValX_idxS tabOk rfl rfl rfl (flD_len _ _) zSd zSd zSd ?_|refine ValX_cap0 tabOk rfl rfl ?_|refine ValX_slNil tabOk rfl rfl ?_|refine ValX_fld rfl rfl rfl (fun σ w => by kernel_rfl) ?_|refine ValX_idxL tabOk rfl rfl (by decide) (by simp;done) rfl ?_) |(with_reducible show CallX _ _ _ _ _);(first|(apply CallX_me (.unit);(conv=>whnf);refine ⟨⟨rfl,rfl⟩,zSi,by kernel_rfl,fun hb => ?_⟩)|(refine AQ_has ?_;(first|(refine AQ_chk 1 ?_;apply CallX_mv (_);intro φ;(conv=>whnf);refine ⟨rfl,?_⟩;(repeat ((with_reducible show ViewE _ _ _ _);(first|refine view_w zLn ?_|refine view_pf zSd ?_|refine view_p zSd ?_);(conv=>whnf)));refine ⟨rfl,zSi,by kernel_rfl,?_⟩)|(refine AQ_chk 2 ?_;apply CallX_mv (_, _);intro φ;(conv=>whnf);refine ⟨rfl,?_⟩;(repeat ((with_reducible show ViewE _ _ _ _);(first|refine view_w zLn ?_|refine view_pf zSd ?_|refine view_p zSd ?_);(conv=>whnf)));refine ⟨rfl,zSi,by kernel_rfl,?_⟩)|(refine AQ_chk 3 ?_;apply CallX_mv (_, _, _);intro φ;(conv=>whnf);refine ⟨rfl,?_⟩;(repeat ((with_reducible show ViewE _ _ _ _);(first|refine view_w zLn ?_|refine view_pf zSd ?_|refine view_p zSd ?_);(conv=>whnf)));refine ⟨rfl,zSi,by kernel_rfl,?_⟩)|(refine AQ_chk 4 ?_;apply CallX_mv (_, _, _, _);intro φ;(conv=>whnf);refine ⟨rfl,?_⟩;(repeat ((with_reducible show ViewE _ _ _ _);(first|refine view_w zLn ?_|refine view_pf zSd ?_|refine view_p zSd ?_);(conv=>whnf)));refine ⟨rfl,zSi,by kernel_rfl,?_⟩)|(refine AQ_chk 5 ?_;apply CallX_mv (_, _, _, _, _);intro φ;(conv=>whnf);refine ⟨rfl,?_⟩;(repeat ((with_reducible show ViewE _ _ _ _);(first|refine view_w zLn ?_|refine view_pf zSd ?_|refine view_p zSd ?_);(conv=>whnf)));refine ⟨rfl,zSi,by kernel_rfl,?_⟩)|(refine AQ_chk 6 ?_;apply CallX_mv (_, _, _, _, _, _);intro φ;(conv=>whnf);refine ⟨rfl,?_⟩;(repeat ((with_reducible show ViewE _ _ _ _);(first|refine view_w zLn ?_|refine view_pf zSd ?_|refine view_p zSd ?_);(conv=>whnf)));refine ⟨rfl,zSi,by kernel_rfl,?_⟩)|(refine AQ_chk 7 ?_;apply CallX_mv (_, _, _, _, _, _, _);intro φ;(conv=>whnf);refine ⟨rfl,?_⟩;(repeat ((with_reducible show ViewE _ _ _ _);(first|refine view_w zLn ?_|refine view_pf zSd ?_|refine view_p zSd ?_);(conv=>whnf)));refine ⟨rfl,zSi,by kernel_rfl,?_⟩)|(refine AQ_chk 8 ?_;apply CallX_mv (_, _, _, _, _, _, _, _);intro φ;(conv=>whnf);refine ⟨rfl,?_⟩;(repeat ((with_reducible show ViewE _ _ _ _);(first|refine view_w zLn ?_|refine view_pf zSd ?_|refine view_p zSd ?_);(conv=>whnf)));refine ⟨rfl,zSi,by kernel_rfl,?_⟩)|(refine AQ_chk 9 ?_;apply CallX_mv (_, _, _, _, _, _, _, _, _);intro φ;(conv=>whnf);refine ⟨rfl,?_⟩;(repeat ((with_reducible show ViewE _ _ _ _);(first|refine view_w zLn ?_|refine view_pf zSd ?_|refine view_p zSd ?_);(conv=>whnf)));refine ⟨rfl,zSi,by kernel_rfl,?_⟩)|(refine AQ_chk 10 ?_;apply CallX_mv (_, _, _, _, _, _, _, _, _, _);intro φ;(conv=>whnf);refine ⟨rfl,?_⟩;(repeat ((with_reducible show ViewE _ _ _ _);(first|refine view_w zLn ?_|refine view_pf zSd ?_|refine view_p zSd ?_);(conv=>whnf)));refine ⟨rfl,zSi,by kernel_rfl,?_⟩)|(refine AQ_chk 11 ?_;apply CallX_mv (_, _, _, _, _, _, _, _, _, _, _);intro φ;(conv=>whnf);refine ⟨rfl,?_⟩;(repeat ((with_reducible show ViewE _ _ _ _);(first|refine view_w zLn ?_|refine view_pf zSd ?_|refine view_p zSd ?_);(conv=>whnf)));refine ⟨rfl,zSi,by kernel_rfl,?_⟩)|(refine AQ_chk 12 ?_;apply CallX_mv (_, _, _, _, _, _, _, _, _, _, _, _);intro φ;(conv=>whnf);refine ⟨rfl,?_⟩;(repeat ((with_reducible show ViewE _ _ _ _);(first|refine view_w zLn ?_|refine view_pf zSd ?_|refine view_p zSd ?_);(conv=>whnf)));refine ⟨rfl,zSi,by kernel_rfl,?_⟩)))|(refine CallX_w fun φ => ?_;(conv=>whnf);(repeat ((with_reducible show ViewE _ _ _ _);(first|refine view_w zLn ?_|refine view_pf zSd ?_|refine view_p zSd ?_);(conv=>whnf)));(with_reducible show CallR _ _ _ _ _);refine CallR_i ?_ zSi)|(refine CallX_v fun φ => ?_;(conv=>whnf);(repeat ((with_reducible show ViewE _ _ _ _);(first|refine view_w zLn ?_|refine view_pf zSd ?_|refine view_p zSd ?_);(conv=>whnf)));(with_reducible show CallB _ _ _ _ _);refine CallB_di ?_ zSi)) |(with_reducible show CallB _ _ _ _ _);refine CallB_di ?_ zSi))<;>conv=>whnf)|((with_reducible show ∀ (_ : Nat → Option Addr × Nat), _);intro hb;conv=>whnf)|((with_reducible show _=_);rfl)|((with_reducible refine xif_s ?_ ?_)<;>(intro hb;((try simp (disch:=omega) only [hbS,fl_len] at hb);(try have hb:=bnd hb))<;>first|(exfalso;omega)|(exact (cfl hb (by with_reducible assumption)).elim)|(exact (cfl (by with_reducible assumption) hb).elim)|conv=>whnf))));all_goals ((repeat revert hb);first|with_reducible exact hl.out.1|with_reducible exact hl.out.2.1|with_reducible exact hl.out.2.2.1|with_reducible exact hl.out.2.2.2.1|with_reducible exact hl.out.2.2.2.2.1|with_reducible exact hl.out.2.2.2.2.2.1|with_reducible exact hl.out.2.2.2.2.2.2.1|with_reducible exact hl.out.2.2.2.2.2.2.2.1|with_reducible exact hl.out.2.2.2.2.2.2.2.2.1|with_reducible exact hl.out.2.2.2.2.2.2.2.2.2.1|with_reducible exact hl.out.2.2.2.2.2.2.2.2.2.2.1|with_reducible exact hl.out.2.2.2.2.2.2.2.2.2.2.2.1)) : G := h ⟨h1⟩
end Go.Proofs.YtkflmidichikjaaGreatDoor.V
end
section
namespace Go.Proofs.YtkflmidichikjaaGreatDoor.V
open Go.RowKit
set_option maxRecDepth 100000
set_option maxHeartbeats 16000000
open Heading BoxP Drive PlanP Known Contr Loc Jou Atl RobotP Mon Mot Sys Grow Hon Sound
abbrev Sys.sysQ (g : Gh) (S : SS) : List (Nat × OB) := [
 (2,mapO keI dvS g.ms S.sc),(3,mapO keI dvP g.mp S.pl),(4,mapO keC dvB g.mv S.vis),
 (5,.box 100 [I 0,I 0,nilS,I 0,I 0,nilS,I S.bd.Turn,I S.bd.Length,I S.bd.Slip,I S.bd.Range,I S.start.X,I S.start.Y,I S.start.H,nilS,.fz g.mr.1 g.mr.2 1 (fl ie S.marks),I S.every,I S.late,
  .p 6 0,.p 7 0,.p 8 0,.p 9 0,.p 12 0,.v (.pointer none),nilS,.v (.map (some g.mv)),I S.ticks,I S.scans,B S.bumped]),
 (6,robO g.rp S.rob),(7,filtO (g.fp,g.fs) S.ft),(8,.box 161 [I S.mon.limit,I S.mon.faults,I S.mon.age]),
 (9,.box 143 [.sl 10 0 0 S.jb.length 1,.sl 11 0 0 S.je.length 5]),(10,.row false 5 1 (fl ye S.jb)),(11,.row false 57 5 (flD Evt.e S.je)),
 (12,.box 155 [.v (.map (some g.ms)),.v (.map (some g.mp))])]
theorem has_of {S : List Box} {X Y H : Int} (h : ∃ b ∈ S, vBox b = true ∧ inB b ⟨X, Y, H⟩) : (S.any fun b => bhas b ⟨X, Y, H⟩) = true := by
 obtain ⟨b,hb,hv,h1,h2,h3⟩:=h
 refine List.any_eq_true.2 ⟨b,hb,?_⟩
 unfold bhas has
 have:=vBox_arc hv
 simp only at h1 h2 h3
 simp [hv,this,h1,h2,h3]
theorem covers_yes {A : Option Addr} {c : Nat} {S : List Box} {X Y H : Int} (h : ∃ b ∈ S, vBox b = true ∧ inB b ⟨X, Y, H⟩) (hl : S.length ≤ 1000000000000 ∧ -1000000000000 ≤ H ∧ H ≤ 1000000000000) : CFc 15 false [.fz A c 6 (fl Box.e S), .a [I X, I Y, I H]] True (B true) [] := ⟨fun _ => by
 rw [← has_of h]
 exact CFc.out hl⟩
structure Sound.PoseI (x : Sc) (i : Nat) (S : SS) : Prop where
 (h1 : okN i S) (h2 : S.jb.length≤4 + 256 * i) (h3 : TrueI x.bd (5000 + 56 * i) S) (h4 : S.rob.p=x.plan)
theorem pose_step {x : Sc} {i : Nat} {S : SS} {n : Inp} (h : PoseI x i S) (hi : i ≤ 100) : PoseI x (i + 1) (tickT S n) := by
 obtain ⟨h1,h2,h3,h4⟩:=h
 refine ⟨tick_keeps h1,?_,?_,?_⟩
 ·have:=jb_len (i:=n) h1 (by omega)
  omega
 ·have:=tick_sound (i:=n) h3 (by omega)
  rwa [show 5000 + 56 * ((i + 1 : Nat) : Int)=5000 + 56 * (i : Int) + 56 by omega]
 ·rw [← h4]
  exact doR_p
theorem Sound.PoseI.mono {x : Sc} {i : Nat} {S : SS} (h : PoseI x i S) : PoseI x (i + 1) S := by
 obtain ⟨h1,h2,h3,h4⟩:=h
 obtain ⟨t0,t1,t2,t3,t4,t5,t6,t7,t8,t9,t10,t11,t12,t13,t14⟩:=h3
 refine ⟨h1.mono (Nat.le_succ _),by omega,⟨t0,t1,t2,t3,t4,t5,t6,t7,t8,t9,t10,fun b hb=>?_,t12,t13,by omega⟩,h4⟩
 obtain ⟨v1,v2,v3⟩:=t11 b hb
 exact ⟨v1,by omega,by omega⟩
theorem new_pose {x : Sc} (hx : x.ok) (hg : grdB x = true) (he : errN (honS x) = 0) : PoseI x 0 (new0 (honS x)) ∧ lenN (honS x) := by
 obtain ⟨x1,x2,x3,x4,x5,x6,x7,x8⟩:=hx
 have hi:=hon_init he x1 x3
 unfold grdB at hg
 simp only [Bool.and_eq_true,decide_eq_true_eq] at hg
 obtain ⟨⟨g1,_⟩,g2,g3,g4⟩:=hg
 have hl:=hon_len (x:=x) g2 g4
 refine ⟨⟨new_keeps he hl fun c hc=>?_,Nat.le_refl _,hi.1,rfl⟩,hl⟩
 obtain ⟨k,hk,rfl⟩:=List.mem_iff_getElem.1 hc
 have hk' : k < (veilL x.plan.cells x.veil).length:=hk
 have h1:=gt_at hk'
 have h2 : (veilL x.plan.cells x.veil)[k]? = some ((veilL x.plan.cells x.veil)[k]):=List.getElem?_eq_getElem hk'
 rw [h1] at h2
 have h3:=Option.some.inj h2
 show 0≤(veilL x.plan.cells x.veil)[k]
 rw [← h3]
 rcases veil_gt (X:=x.plan.cells) (V:=x.veil) k with h|h
 ·rw [h];exact Int.le_refl _
 ·rw [h]
  rw [veil_len] at hk'
  exact (x1 _ (gt_mem hk')).1
theorem pose_c {x : Sc} {g : Gs} {A : Option Addr} {c : Nat} {l : List Inp} : CFc 4 false [x.s g, .fz A c 10 (flD Inp.e l)] (Hold x.ok) (B true) [] := ⟨fun hx => by
 have hln : (flD Inp.e l).length=l.length:=flD_len _ _
 rcases Bool.eq_false_or_eq_true (fewP l) with h3|h3
 ·rcases Bool.eq_false_or_eq_true (grdB x) with h1|h1
  ·by_cases he : errN (honS x)=0
   ·obtain ⟨hp,hlen⟩:=new_pose hx.out h1 he
    have hkl:=plan_len hp.h1.h7
    have Hp : Hold (PoseI x 0 (new0 (honS x))):=⟨hp⟩
    clear hp
    dsimp only [Sc.s] at *
    refine CM.of Tryz.func4 rfl tabOk rfl rfl rfl rfl (by simp [SV.nms,SV.nm]) fun w_ M_ π_ G0_=>?_
    refine ruhA (a1 ?_)
    all_goals intros
    apply CallX_me (h:=honest_yes (x:=x) (g:=g) h1 hx.out he) ()
    conv=>whnf
    refine ⟨⟨rfl,rfl⟩,trivial,by kernel_rfl,fun q=>?_⟩
    dsimp only [Setup.s] at *
    refine ruhA (a1 ?_)
    all_goals intros
    apply CallX_me (h:=new_ok (s:=honS x) (g:=⟨g.a,q.1,q.2.1,q.2.2⟩) he) ()
    conv=>whnf
    refine ⟨⟨rfl,rfl⟩,hlen,by kernel_rfl,fun g0=>?_⟩
    refine ruhA (a1 ?_)
    all_goals intros
    refine LoopX_keep [1,5,7,9] ?_
    conv=>whnf
    refine LoopX_p [10,11] (fun ((i,S,_) : Nat × SS × Gh)=>i≤l.length∧Hold (PoseI x i S)) (fun (i,_,_)=>[(9,I i)]) (fun (_,S,g)=>sysQ g S) (fun (i,_,_)=>l.length - i) (0,new0 (honS x),g0) ?_ ⟨Nat.zero_le _,Hp⟩
    conv=>whnf
    rintro ⟨i,S,g1⟩ ⟨j1,⟨j2⟩⟩
    conv=>whnf
    by_cases hlt : i < l.length
    ·have hx1 : (gt l i).errs.length≤1000000000:=Nat.le_trans ((few_l h3).2 _ (gt_mem hlt)) (by decide)
     have hl8:=(few_l h3).1
     refine ruhA (a1 ?_)
     all_goals intros
     by_cases hw : vCmd (gt l i).want=true
     ·refine CallX_mr (h:=tick_ok (g:=g1) (S:=S) (i:=gt l i) (A:=_) (k:=_) hw (by have:=j2.h2;omega)) [2,3,4,5,6,7,8,9,10,11,12] () rfl rfl ⟨j2.h1.ok (by omega),hx1⟩ rfl (fun q1=>?_)
      conv=>whnf
      have n1:=pose_step (n:=gt l i) j2 (by omega)
      have n4:=plan_len n1.h1.h7
      have n5:=n1.h1.h6
      have n6:=n1.h3.h5.2
      obtain ⟨n7,n8,n9⟩:=covers_of n1.h3
      have N1 : Hold (_∧_):=⟨⟨n1,n7⟩⟩
      clear n1 n7
      refine ruhA (a1 ?_)
      all_goals intros
      refine CallX_mr [2,3,4,5,6,7,8,9,13,14,12] (q1.1,tickT S (gt l i)) rfl rfl n5 rfl (fun sq=>?_)
      conv=>whnf
      refine ruhA (a1 ?_)
      all_goals intros
      refine CallX_mr [2,3,4,5,6,7,8,9,13,14,12] (q1.1,tickT S (gt l i)) rfl rfl trivial rfl (fun _=>?_)
      conv=>whnf
      refine ruhA (a1 ?_)
      all_goals intros
      refine CallX_i (h:=covers_yes (A:=sq.1) (c:=sq.2) (S:=(tickT S (gt l i)).ft.set) (X:=(tickT S (gt l i)).rob.at_.X) (Y:=(tickT S (gt l i)).rob.at_.Y) (H:=(tickT S (gt l i)).rob.at_.H) N1.out.2 (by omega)) ?_ trivial
      conv=>whnf
      refine ruhA (a1 ?_)
      all_goals intros
      refine CallX_mr [2,3,4,5,6,7,8,9,13,14,12] (q1.1,tickT S (gt l i)) rfl rfl (Nat.le_trans n4 (by decide)) rfl (fun kq=>?_)
      conv=>whnf
      refine ruhA (a1 ?_)
      all_goals intros
      rw [N1.out.1.h4] at n8
      refine CallX_i (h:=below_yes2 (A:=kq.1) (c:=kq.2) (A':=g.a.1) (c':=g.a.2) (p:=(tickT S (gt l i)).ft.p) (q:=x.plan) N1.out.1.h1.h7 n8) ?_ (Nat.le_trans n4 (by decide))
      conv=>whnf
      refine ruhA (a1 ?_)
      all_goals intros
      refine CallX_mr [2,3,4,5,6,7,8,9,13,14,12] (q1.1,tickT S (gt l i)) rfl rfl trivial rfl (fun _=>?_)
      conv=>whnf
      refine ruhA (a1 ?_)
      all_goals intros
      exact rn (i + 1,tickT S (gt l i),q1.1) ⟨by omega,⟨N1.out.1⟩⟩
     ·have hw' : vCmd ⟨(gt l i).want.Turn,(gt l i).want.Forward⟩ = false:=by simpa using hw
      refine CallX_mr (h:=tick_no1 (g:=g1) (S:=S) (t:=(gt l i).want.Turn) (f:=(gt l i).want.Forward) (au:=(gt l i).auto) (sp:=(gt l i).stop) (rs:=(gt l i).reset) (a:=(gt l i).slip.Turn) (b:=(gt l i).slip.Length) (c:=(gt l i).slip.X) (d:=(gt l i).slip.Y) (A:=_) (k:=_) (E:=(gt l i).errs) hw') [2,3,4,5,6,7,8,9,10,11,12] () rfl rfl (by have:=j2.h2;omega) rfl (fun q1=>?_)
      conv=>whnf
      have n1:=j2.mono
      have n4:=plan_len n1.h1.h7
      have n5:=n1.h1.h6
      have n6:=n1.h3.h5.2
      obtain ⟨n7,n8,n9⟩:=covers_of n1.h3
      have N1 : Hold (_∧_):=⟨⟨n1,n7⟩⟩
      clear n1 n7
      refine ruhA (a1 ?_)
      all_goals intros
      refine CallX_mr [2,3,4,5,6,7,8,9,10,11,12] (g1,S) rfl rfl n5 rfl (fun sq=>?_)
      conv=>whnf
      refine ruhA (a1 ?_)
      all_goals intros
      refine CallX_mr [2,3,4,5,6,7,8,9,10,11,12] (g1,S) rfl rfl trivial rfl (fun _=>?_)
      conv=>whnf
      refine ruhA (a1 ?_)
      all_goals intros
      refine CallX_i (h:=covers_yes (A:=sq.1) (c:=sq.2) (S:=S.ft.set) (X:=S.rob.at_.X) (Y:=S.rob.at_.Y) (H:=S.rob.at_.H) N1.out.2 (by omega)) ?_ trivial
      conv=>whnf
      refine ruhA (a1 ?_)
      all_goals intros
      refine CallX_mr [2,3,4,5,6,7,8,9,10,11,12] (g1,S) rfl rfl (Nat.le_trans n4 (by decide)) rfl (fun kq=>?_)
      conv=>whnf
      refine ruhA (a1 ?_)
      all_goals intros
      rw [N1.out.1.h4] at n8
      refine CallX_i (h:=below_yes2 (A:=kq.1) (c:=kq.2) (A':=g.a.1) (c':=g.a.2) (p:=S.ft.p) (q:=x.plan) N1.out.1.h1.h7 n8) ?_ (Nat.le_trans n4 (by decide))
      conv=>whnf
      refine ruhA (a1 ?_)
      all_goals intros
      refine CallX_mr [2,3,4,5,6,7,8,9,10,11,12] (g1,S) rfl rfl trivial rfl (fun _=>?_)
      conv=>whnf
      refine ruhA (a1 ?_)
      all_goals intros
      exact rn (i + 1,S,g1) ⟨by omega,⟨N1.out.1⟩⟩
    ·refine ruhA (a1 ?_)
     all_goals intros
     ((refine Fin_j () ?_;(conv=>whnf);refine ⟨?_,?_,?_,?_⟩)<;>try first|rfl|exact trivial|((simp only [OB.flats,flatD_fl,and_self]);done)|(first|exact zCl|(subst_vars;exact zCl)))
   ·dsimp only [Sc.s] at *
    refine CM.of Tryz.func4 rfl tabOk rfl rfl rfl rfl (by simp [SV.nms,SV.nm]) fun w_ M_ π_ G0_=>?_
    refine ruhA (a1 ?_)
    all_goals intros
    apply CallX_me (h:=honest_err (x:=x) (g:=g) h1 hx.out he) ()
    conv=>whnf
    refine ⟨⟨rfl,rfl⟩,trivial,by kernel_rfl,fun q=>?_⟩
    dsimp only [Setup.s] at *
    refine ruhA (a1 ?_)
    all_goals intros
    ((refine Fin_j () ?_;(conv=>whnf);refine ⟨?_,?_,?_,?_⟩)<;>try first|rfl|exact trivial|((simp only [OB.flats,flatD_fl,and_self]);done)|(first|exact zCl|(subst_vars;exact zCl)))
  ·dsimp only [Sc.s] at *
   refine CM.of Tryz.func4 rfl tabOk rfl rfl rfl rfl (by simp [SV.nms,SV.nm]) fun w_ M_ π_ G0_=>?_
   refine ruhA (a1 ?_)
   all_goals intros
   refine CallX_i (h:=honest_no (x:=x) (g:=g) h1) ?_ trivial
   conv=>whnf
   refine ruhA (a1 ?_)
   all_goals intros
   ((refine Fin_j () ?_;(conv=>whnf);refine ⟨?_,?_,?_,?_⟩)<;>try first|rfl|exact trivial|((simp only [OB.flats,flatD_fl,and_self]);done)|(first|exact zCl|(subst_vars;exact zCl)))
 ·dsimp only [Sc.s] at *
  refine CM.of Tryz.func4 rfl tabOk rfl rfl rfl rfl (by simp [SV.nms,SV.nm]) fun w_ M_ π_ G0_=>?_
  refine ruhA (a1 ?_)
  all_goals intros
  ((refine Fin_j () ?_;(conv=>whnf);refine ⟨?_,?_,?_,?_⟩)<;>try first|rfl|exact trivial|((simp only [OB.flats,flatD_fl,and_self]);done)|(first|exact zCl|(subst_vars;exact zCl)))⟩
end Go.Proofs.YtkflmidichikjaaGreatDoor.V
end
