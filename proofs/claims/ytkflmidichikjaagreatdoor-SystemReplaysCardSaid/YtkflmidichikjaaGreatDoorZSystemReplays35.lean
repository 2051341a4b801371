import Derived.Test.YtkflmidichikjaaGreatDoorZSystemReplays34
import Derived.Laws.BytesArg
import Derived.Test.YtkflmidichikjaaGreatDoorZSystemReplays09
import Derived.ProofKit
import Derived.OpenShut
import Derived.Lib.SmallJoins
import Derived.Deep.Slices
import Derived.Deep.Fields
set_option linter.all false
section
namespace Go.Proofs.YtkflmidichikjaaGreatDoor.V
open Go.RowKit
set_option maxRecDepth 100000
set_option maxHeartbeats 16000000
open Heading BoxP Drive PlanP Known Contr Loc Jou Atl RobotP Mon Mot Sys
section
variable {C : Ctx} {ob : List OB}
theorem ValX_convF {o : Oper} {x : Operand} {A : Option Addr} {c : Nat} {X : List Int} {k : SV → Prop} (hP : C.P = Tryz.prog) (ho : o.op = .convert 22 9 x) (h0 : 0 < X.length) (hk : k (.v (.string (strOfNums X)))) : ValX C o [.fz A c 1 (fl ye X)] ob k := by
 unfold ValX
 intro σ G fp w ρ hm hw hx
 rw [ho] at hx
 simp only [Op.operands,SV.vals,SV.val,fl_len] at hx
 simp at hx
 refine ⟨_,hk,?_,trivial⟩
 have hw0 : (DV.fz 1 (fl ye X)).rd G (.slice A X.length c):=by
  have h:=hw.1
  unfold SV.wf at h
  rwa [fl_len] at h
 obtain ⟨hR,_⟩:=rd_rds hw0 fun b o hb=>(hm.fz b o hb).1
 obtain ⟨b,off,xs,rfl,hr,hc⟩:=hR.at_ (by omega)
 have hxs : xs=X.map ye:=by
  have : ∀ {X : List Int} {vs : List (List Value)},rdLL G (fl ye X) vs→vs=X.map ye:=by
   intro X
   induction X with
   | nil=>intro vs h;cases vs with
     | nil=>rfl
     | cons _ _=>exact h.elim
   | cons a r ih=>intro vs h;cases vs with
     | nil=>exact h.elim
     | cons v vs =>
       rw [List.map_cons,← ih h.2,rdL_vs h.1]
  exact this hr
 have hcv : (convert 22 9 (.slice (some ⟨b,off,none⟩) X.length c)).run Tryz.prog w = .ok (.string (strOfNums X)) w:=by
  refine run_convert_bytes_arg w _ 5 Tryz.underlying22 Tryz.underlying5 b off X.length c X rfl (fun i hi=>?_) _ Tryz.underlying9
  refine hc i _ ?_
  rw [hxs]
  have hfl : ∀ Y : List Int,(Y.map ye).flatten=Y.map (fun n=>Value.int .u8 n):=by
   intro Y
   induction Y with
   | nil=>rfl
   | cons a r ih=>simp only [List.map_cons,List.flatten_cons,ih];rfl
  rw [hfl,List.getElem?_map]
  simp [hi]
 simp only [execOp,ho,hx,hP,Sem.run_bind,hcv,Result.andThen_ok,Sem.run_pure]
 rfl
theorem ValX_streq {k : SV → Prop} {o : Oper} {x y : Operand} {t : TypeId} {a b : ByteArray} (hP : C.P = Tryz.prog) (ho : o.op = .binOp .eql 9 x y t) (hk : k (.v (.bool (a.toList == b.toList)))) : ValX C o [.v (.string a), .v (.string b)] ob k := by
 unfold ValX
 intro σ G fp w ρ hm hw hx
 rw [ho] at hx
 simp [Op.operands,SV.vals,SV.val] at hx
 refine ⟨_,hk,?_,trivial⟩
 have hc : (binOp .eql 9 (.string a) (.string b)).run Tryz.prog w = .ok (.bool (a.toList == b.toList)) w:=rfl
 have hg : (eqGuard .eql 9 x y (.string a) (.string b)).run Tryz.prog w = .ok () w:=by
  unfold eqGuard
  rfl
 simp only [execOp,ho,hx.1,hx.2,hP,Sem.run_bind,hg,hc,Result.andThen_ok,Sem.run_pure]
 rfl
end
theorem plans_same {A A' : Option Addr} {c c' : Nat} {w h : Int} {X : List Int} : CFc 24 false [.a [I w, I h, .fz A c 1 (fl ye X)], .a [I w, I h, .fz A' c' 1 (fl ye X)]] (0 < X.length) (B true) [] := ⟨fun p1 => by
 refine CM.of Tryz.func24 rfl tabOk rfl rfl rfl rfl (by simp [SV.nms,SV.nm]) fun w_ M_ π_ G0_=>?_
 refine roA (a1 ?_)
 all_goals intros
 refine ValX_convF rfl rfl p1 ?_
 conv=>whnf
 refine roA (a1 ?_)
 all_goals intros
 refine ValX_convF rfl rfl p1 ?_
 conv=>whnf
 refine roA (a1 ?_)
 all_goals intros
 refine ValX_streq rfl rfl ?_
 conv=>whnf
 rw [beq_self_eq_true]
 exact ru⟩
namespace Sys
def lightP (s : Setup) : Bool :=
 if s.floor.cells.length > 49∨s.known.cells.length > 49∨(s.marks.length > 3∧s.marks.length < 33)∨(s.set.length > 2∧s.set.length < 17)∨s.marks.length > 40∨s.set.length > 20 then false
 else !s.set.any fun b=>decide (b.Count > 6) && decide (b.Count < 257)
def fewP (l : List Inp) : Bool := if l.length > 8 then false else !l.any fun i => decide ((i.errs.length : Int) > 40)
abbrev Inp.e (i : Inp) : List DV := [.v (.int .i64 i.want.Turn), .v (.int .i64 i.want.Forward), .v (.bool i.auto), .v (.bool i.stop), .v (.bool i.reset), .v (.int .i64 i.slip.Turn), .v (.int .i64 i.slip.Length), .v (.int .i64 i.slip.X), .v (.int .i64 i.slip.Y), .fz 1 (fl ie i.errs)]
end Sys
theorem few_l {l : List Inp} (h : fewP l = true) : l.length ≤ 8 ∧ ∀ i ∈ l, i.errs.length ≤ 40 := by
 unfold fewP at h
 split at h
 ·cases h
 ·refine ⟨by omega,fun i hi=>?_⟩
  have h1:=List.any_eq_false.1 (show (l.any fun i=>decide ((i.errs.length : Int) > 40))=false by simpa using h) i hi
  simp only [decide_eq_true_eq] at h1
  omega
instance inVlw_1 {A : Option Addr} {c : Nat} {l : List Inp} : CFc 7 false [.fz A c 10 (flD Inp.e l)] True (B (fewP l)) [] := ⟨fun p1 => by
 unfold fewP
 have hln : (flD Inp.e l).length=l.length:=flD_len _ _
 by_cases h8 : l.length > 8
 ·rw [if_pos h8]
  refine CM.of Tryz.func7 rfl tabOk rfl rfl rfl rfl (by simp [SV.nms,SV.nm]) fun w_ M_ π_ G0_=>?_
  exact ru
 ·rw [if_neg h8]
  refine CM.of Tryz.func7 rfl tabOk rfl rfl rfl rfl (by simp [SV.nms,SV.nm]) fun w_ M_ π_ G0_=>?_
  refine ruA (a1 ?_)
  intros
  refine LoopX_keep [0,3] ?_
  conv=>whnf
  refine LoopX_p [] (fun (i : Nat)=>i≤l.length∧Hold (∀ j,j < i→decide (((gt l j).errs.length : Int) > 40)=false)) (fun i=>[(3,I i)]) (fun _=>[]) (fun i=>l.length - i) 0 ?_ ⟨Nat.zero_le _,⟨fun j hj=>by omega⟩⟩
  conv=>whnf
  rintro i ⟨hi,hj⟩
  by_cases hlt : i < l.length
  ·by_cases he : ((gt l i).errs.length : Int) > 40
   ·rw [any_yes (p:=fun i : Inp=>decide ((i.errs.length : Int) > 40)) hlt (by simpa using he)]
    have he' : ((gt l (i : Int).toNat).errs.length : Int) > 40:=he
    refine roA (a1 ?_)
    all_goals intros
    ((refine Fin_j () ?_;(conv=>whnf);refine ⟨?_,?_,?_,?_⟩)<;>try first|rfl|exact trivial|((simp only [OB.flats,flatD_fl,and_self]);done)|(first|exact zCl|(subst_vars;exact zCl)))
   ·have he' : ¬((gt l (i : Int).toNat).errs.length : Int) > 40:=he
    refine roA (a1 ?_)
    all_goals intros
    exact rn (i + 1) (show i + 1≤l.length∧Hold _ from ⟨by omega,⟨all_next hj.out (by simpa using he)⟩⟩)
  ·obtain rfl : i=l.length:=by omega
   rw [any_no (p:=fun i : Inp=>decide ((i.errs.length : Int) > 40)) hj.out]
   refine roA (a1 ?_)
   all_goals intros
   ((refine Fin_j () ?_;(conv=>whnf);refine ⟨?_,?_,?_,?_⟩)<;>try first|rfl|exact trivial|((simp only [OB.flats,flatD_fl,and_self]);done)|(first|exact zCl|(subst_vars;exact zCl)))⟩
theorem light_l {s : Setup} (h : lightP s = true) : lenN s := by
 unfold lightP at h
 split at h
 ·cases h
 ·unfold lenN
  omega
theorem light_c {s : Setup} {g : Ga} : CFc 19 false [s.s g] True (B (lightP s)) [] := ⟨fun p1 => by
 dsimp only [Setup.s]
 unfold lightP
 by_cases h0 : s.floor.cells.length > 49∨s.known.cells.length > 49∨(s.marks.length > 3∧s.marks.length < 33)∨(s.set.length > 2∧s.set.length < 17)∨s.marks.length > 40∨s.set.length > 20
 ·rw [if_pos h0]
  refine CM.of Tryz.func19 rfl tabOk rfl rfl rfl rfl (by simp [SV.nms,SV.nm]) fun w_ M_ π_ G0_=>?_
  refine roA (a9 ?_ ?_ ?_ ?_ ?_ ?_ ?_ ?_ ?_)
  all_goals intros
  all_goals first|(exfalso;omega)|((refine Fin_j () ?_;(conv=>whnf);refine ⟨?_,?_,?_,?_⟩)<;>try first|rfl|exact trivial|((simp only [OB.flats,flatD_fl,and_self]);done)|(first|exact zCl|(subst_vars;exact zCl)))
 ·rw [if_neg h0]
  refine CM.of Tryz.func19 rfl tabOk rfl rfl rfl rfl (by simp [SV.nms,SV.nm]) fun w_ M_ π_ G0_=>?_
  refine roA (a4 ?_ ?_ ?_ ?_)
  all_goals intros
  all_goals try (exfalso;omega)
  all_goals
   refine LoopX_keep [1,3] ?_
   conv=>whnf
   refine LoopX_p [] (fun (i : Nat)=>i≤s.set.length∧Hold (∀ j,j < i→(decide ((gt s.set j).Count > 6) && decide ((gt s.set j).Count < 257))=false)) (fun i=>[(3,I i)]) (fun _=>[]) (fun i=>s.set.length - i) 0 ?_ ⟨Nat.zero_le _,⟨fun j hj=>by omega⟩⟩
   conv=>whnf
   rintro i ⟨hi,hj⟩
   by_cases hlt : i < s.set.length
   ·by_cases he : (gt s.set i).Count > 6∧(gt s.set i).Count < 257
    ·rw [any_yes (p:=fun b : Box=>decide (b.Count > 6) && decide (b.Count < 257)) hlt (by simpa using he)]
     have he' : (gt s.set (i : Int).toNat).Count > 6∧(gt s.set (i : Int).toNat).Count < 257:=he
     refine roA (a1 ?_)
     all_goals intros
     all_goals first|(exfalso;omega)|((refine Fin_j () ?_;(conv=>whnf);refine ⟨?_,?_,?_,?_⟩)<;>try first|rfl|exact trivial|((simp only [OB.flats,flatD_fl,and_self]);done)|(first|exact zCl|(subst_vars;exact zCl)))
    ·have he' : ¬((gt s.set (i : Int).toNat).Count > 6∧(gt s.set (i : Int).toNat).Count < 257):=he
     have hn : (decide ((gt s.set i).Count > 6) && decide ((gt s.set i).Count < 257))=false:=by
      simp only [Bool.and_eq_false_iff,decide_eq_false_iff_not]
      omega
     refine roA (a2 ?_ ?_)
     all_goals intros
     all_goals first|(exfalso;omega)|exact rn (i + 1) (show i + 1≤s.set.length∧Hold _ from ⟨by omega,⟨all_next hj.out hn⟩⟩)
   ·obtain rfl : i=s.set.length:=by omega
    rw [any_no (p:=fun b : Box=>decide (b.Count > 6) && decide (b.Count < 257)) hj.out]
    refine roA (a1 ?_)
    all_goals intros
    ((refine Fin_j () ?_;(conv=>whnf);refine ⟨?_,?_,?_,?_⟩)<;>try first|rfl|exact trivial|((simp only [OB.flats,flatD_fl,and_self]);done)|(first|exact zCl|(subst_vars;exact zCl)))⟩
theorem rulA {G L : Prop} (h1 : L) (h : Hold L → G := by intro hl; ((conv=>whnf);repeat' (first|with_reducible exact trivial|with_reducible exact Unit.unit|((fail_if_success (with_reducible show CallX _ 27 _ _ _));(fail_if_success (with_reducible show CallX _ 9 _ _ _));(fail_if_success (with_reducible show CallX _ 13 _ _ _));(fail_if_success (with_reducible show CallX _ 11 _ _ _));(fail_if_success (with_reducible show CallX _ 17 _ _ _));(fail_if_success (with_reducible show CallX _ 24 _ _ _));(first|((with_reducible show CallX _ _ _ _ _);first|refine CallX_i ?_ zSi|(refine AR_has ?_;(first|(refine AR_chk 1 ?_;apply CallX_me (_);(conv=>whnf);refine ⟨⟨rfl,rfl⟩,zSi,by kernel_rfl,fun hb => ?_⟩)|(refine AR_chk 2 ?_;apply CallX_me (_, _);(conv=>whnf);refine ⟨⟨rfl,rfl⟩,zSi,by kernel_rfl,fun hb => ?_⟩)|(refine AR_chk 3 ?_;apply CallX_me (_, _, _);(conv=>whnf);refine ⟨⟨rfl,rfl⟩,zSi,by kernel_rfl,fun hb => ?_⟩)|(refine AR_chk 4 ?_;apply CallX_me (_, _, _, _);(conv=>whnf);refine ⟨⟨rfl,rfl⟩,zSi,by kernel_rfl,fun hb => ?_⟩)|(refine AR_chk 5 ?_;apply CallX_me (_, _, _, _, _);(conv=>whnf);refine ⟨⟨rfl,rfl⟩,zSi,by kernel_rfl,fun hb => ?_⟩)|(refine AR_chk 6 ?_;apply CallX_me (_, _, _, _, _, _);(conv=>whnf);refine ⟨⟨rfl,rfl⟩,zSi,by kernel_rfl,fun hb => ?_⟩)|(refine AR_chk 7 ?_;apply CallX_me (_, _, _, _, _, _, _);(conv=>whnf);refine ⟨⟨rfl,rfl⟩,zSi,by kernel_rfl,fun hb => ?_⟩)|(refine AR_chk 8 ?_;apply CallX_me (_, _, _, _, _, _, _, _);(conv=>whnf);refine ⟨⟨rfl,rfl⟩,zSi,by kernel_rfl,fun hb => ?_⟩)|(refine AR_chk 9 ?_;apply CallX_me (_, _, _, _, _, _, _, _, _);(conv=>whnf);refine ⟨⟨rfl,rfl⟩,zSi,by kernel_rfl,fun hb => ?_⟩)|(refine AR_chk 10 ?_;apply CallX_me (_, _, _, _, _, _, _, _, _, _);(conv=>whnf);refine ⟨⟨rfl,rfl⟩,zSi,by kernel_rfl,fun hb => ?_⟩)|(refine AR_chk 11 ?_;apply CallX_me (_, _, _, _, _, _, _, _, _, _, _);(conv=>whnf);refine ⟨⟨rfl,rfl⟩,zSi,by kernel_rfl,fun hb => ?_⟩)|(refine AR_chk 12 ?_;apply CallX_me (_, _, _, _, _, _, _, _, _, _, _, _);(conv=>whnf);refine ⟨⟨rfl,rfl⟩,zSi,by kernel_rfl,fun hb => ?_⟩)|(refine AR_chk 13 ?_;apply CallX_me (_, _, _, _, _, _, _, _, _, _, _, _, _);(conv=>whnf);refine ⟨⟨rfl,rfl⟩,zSi,by kernel_rfl,fun hb => ?_⟩)|(refine AR_chk 14 ?_;apply CallX_me (_, _, _, _, _, _, _, _, _, _, _, _, _, _);(conv=>whnf);refine ⟨⟨rfl,rfl⟩,zSi,by kernel_rfl,fun hb => ?_⟩)|(refine AR_chk 15 ?_;apply CallX_me (_, _, _, _, _, _, _, _, _, _, _, _, _, _, _);(conv=>whnf);refine ⟨⟨rfl,rfl⟩,zSi,by kernel_rfl,fun hb => ?_⟩)|(refine AR_chk 16 ?_;apply CallX_me (_, _, _, _, _, _, _, _, _, _, _, _, _, _, _, _);(conv=>whnf);refine ⟨⟨rfl,rfl⟩,zSi,by kernel_rfl,fun hb => ?_⟩))))|(first |(with_reducible show xwr64 _ _);refine xwr_a ?_ |(with_reducible show CallX _ _ _ _ _);(first|refine CallX_i ?_ zSi|(refine AQ_has ?_;(first|(refine AQ_chk 1 ?_;apply CallX_mp (_);(conv=>whnf);refine ⟨⟨rfl,rfl⟩,zSi,by kernel_rfl,?_⟩)|(refine AQ_chk 2 ?_;apply CallX_mp (_, _);(conv=>whnf);refine ⟨⟨rfl,rfl⟩,zSi,by kernel_rfl,?_⟩)|(refine AQ_chk 3 ?_;apply CallX_mp (_, _, _);(conv=>whnf);refine ⟨⟨rfl,rfl⟩,zSi,by kernel_rfl,?_⟩)|(refine AQ_chk 4 ?_;apply CallX_mp (_, _, _, _);(conv=>whnf);refine ⟨⟨rfl,rfl⟩,zSi,by kernel_rfl,?_⟩)|(refine AQ_chk 5 ?_;apply CallX_mp (_, _, _, _, _);(conv=>whnf);refine ⟨⟨rfl,rfl⟩,zSi,by kernel_rfl,?_⟩)|(refine AQ_chk 6 ?_;apply CallX_mp (_, _, _, _, _, _);(conv=>whnf);refine ⟨⟨rfl,rfl⟩,zSi,by kernel_rfl,?_⟩)|(refine AQ_chk 7 ?_;apply CallX_mp (_, _, _, _, _, _, _);(conv=>whnf);refine ⟨⟨rfl,rfl⟩,zSi,by kernel_rfl,?_⟩)|(refine AQ_chk 8 ?_;apply CallX_mp (_, _, _, _, _, _, _, _);(conv=>whnf);refine ⟨⟨rfl,rfl⟩,zSi,by kernel_rfl,?_⟩)|(refine AQ_chk 9 ?_;apply CallX_mp (_, _, _, _, _, _, _, _, _);(conv=>whnf);refine ⟨⟨rfl,rfl⟩,zSi,by kernel_rfl,?_⟩)|(refine AQ_chk 10 ?_;apply CallX_mp (_, _, _, _, _, _, _, _, _, _);(conv=>whnf);refine ⟨⟨rfl,rfl⟩,zSi,by kernel_rfl,?_⟩)|(refine AQ_chk 11 ?_;apply CallX_mp (_, _, _, _, _, _, _, _, _, _, _);(conv=>whnf);refine ⟨⟨rfl,rfl⟩,zSi,by kernel_rfl,?_⟩)|(refine AQ_chk 12 ?_;apply CallX_mp (_, _, _, _, _, _, _, _, _, _, _, _);(conv=>whnf);refine ⟨⟨rfl,rfl⟩,zSi,by kernel_rfl,?_⟩)))|(refine CallX_v fun φ => ?_;(conv=>whnf);(repeat ((with_reducible show ViewE _ _ _ _);(first|refine view_w zLn ?_|refine view_pf zSd ?_|refine view_p zSd ?_);(conv=>whnf)));(with_reducible show CallB _ _ _ _ _);refine CallB_i ?_ zSi)) |(with_reducible show CallB _ _ _ _ _);(with_reducible show CallB _ _ _ _ _);refine CallB_i ?_ zSi |(with_reducible show ValX _ _ _ _ _);(first|refine ValX_idxF tabOk rfl rfl zSd zSd ?_|refine ValX_idxS tabOk rfl rfl rfl zLn zSd zSd zSd ?_|refine ValX_loadF tabOk rfl rfl rfl rfl rfl zSd ?_|refine ValX_loadQ tabOk rfl rfl rfl rfl rfl rfl ?_|refine ValX_sl1 tabOk rfl rfl rfl zLn zSd zSd ?_|refine ValX_slLo tabOk rfl rfl rfl zLn zSd zSd zSd ?_|refine ValX_slHi tabOk rfl rfl rfl zLn zSd zSd zSd ?_|refine ValX_max3 rfl ?_|refine ValX_cpl rfl ?_|refine ValX_fzNil tabOk rfl rfl rfl (fun hb=>?_) ?_|refine ValX_bldA rfl rfl ?_ (fun w => by kernel_rfl)|refine ValX_bldB rfl rfl ?_ (fun w => by kernel_rfl)|refine ValX_ixA1 rfl rfl rfl rfl ?_ (fun w => by kernel_rfl)|refine ValX_ixA2 rfl rfl rfl rfl ?_ (fun w => by kernel_rfl)) |(with_reducible show OpX _ _ _ _ _);(first|refine OpX_storeF tabOk rfl rfl rfl (by rfl) (by rfl) zSd ?_|refine OpX_appF tabOk rfl rfl zLn rfl rfl zSe rfl zSd zSd ?_|refine OpX_appP tabOk rfl rfl rfl rfl zSe rfl zSd zSd zSd zSd ?_|refine OpX_build_a tabOk rfl rfl rfl ?_ (by rfl)|refine OpX_make_a tabOk rfl rfl rfl ?_ (by rfl) (by rfl) zSd zSd zSd|refine OpX_build0_a tabOk rfl rfl rfl ?_|refine OpX_nil_a rfl rfl ?_) |(with_reducible show DrawX _ _ _ _ _);refine DrawX_s tabOk folOk ?_ |(with_reducible show DrawS _ _ _ _ _ _ _);refine DrawS_i (by kernel_rfl) ?_ |(with_reducible show ViewE _ _ _ _);(first|refine view_w zLn ?_|refine view_pf zSd ?_|refine view_p zSd ?_) |(with_reducible show xquo64 _ _ _);(first|refine xquo_a ?_|refine xquo_b ?_) |(with_reducible show xrem64 _ _ _);(first|refine xrem_a ?_|refine xrem_b ?_) |(with_reducible show xshr _ _ _ _);(first|refine xshr_1 ?_|refine xshr_32 ?_|refine xshr_6 ?_|refine xshr_7 ?_|refine xshr_8 ?_|refine xshr_63 ?_) |(with_reducible show xshl _ _ _ _);(first|refine xshl_1u ?_|refine xshl_0u ?_|refine xshl_7u ?_) |(with_reducible show andX _ _);refine andX_i ?_ ?_ |(with_reducible show need _ _);refine need_i zSd ?_ |(with_reducible show xwru _ _ _);(first|refine xwru_64 (by omega) (by omega) ?_|refine xwru_32 (by omega) (by omega) ?_|refine xwru_32m ?_) |(with_reducible show xquou _ _ _ _);refine xquou_nn (by omega) (by omega) (by omega) ?_ |(with_reducible show xremu _ _ _);refine xremu_nn (by omega) (by omega) ?_ |(with_reducible show xcv _ _ _);(first|refine xcv_i64 (by omega) (by omega) ?_|refine xcv_u8 (by omega) (by omega) ?_|refine xcv_u32 (by omega) (by omega) ?_|refine xcv_u64 (by omega) (by omega) ?_|refine xcv_u8m ?_|refine xcv_u32m ?_|refine xcv_u64m ?_))|(first |(with_reducible show OpX _ _ _ _ _);(first|refine OpX_clearF tabOk rfl rfl rfl rfl rfl rfl zSd ?_|refine OpX_buildD tabOk rfl rfl rfl rfl (by rfl) ?_|refine OpX_appD tabOk rfl rfl zLd rfl rfl zSf rfl zSd zSd ?_|refine OpX_appZ tabOk rfl rfl rfl rfl (by rfl) zSd zSd zSd ?_) |(with_reducible show ValX _ _ _ _ _);(first|refine ValX_idxD tabOk rfl rfl zSd zSd ?_|refine ValX_loadA tabOk rfl rfl (by rfl) (by rfl) ?_|refine ValX_loadZD tabOk rfl rfl rfl (by rfl) (by rfl) zSd ?_|refine ValX_idxS tabOk rfl rfl rfl (flD_len _ _) zSd zSd zSd ?_|refine ValX_cap0 tabOk rfl rfl ?_|refine ValX_slNil tabOk rfl rfl ?_|refine ValX_fld rfl rfl rfl (fun σ w => by kernel_rfl) ?_|refine ValX_idxL tabOk rfl rfl (by decide) (by simp;done) rfl ?_) |(with_reducible show CallX _ _ _ _ _);(first|(apply CallX_me (.unit);(conv=>whnf);refine ⟨⟨rfl,rfl⟩,zSi,by kernel_rfl,fun hb => ?_⟩)|(refine AQ_has ?_;(first|(refine AQ_chk 1 ?_;apply CallX_mv (_);intro φ;(conv=>whnf);refine ⟨rfl,?_⟩;(repeat ((with_reducible show ViewE _ _ _ _);(first|refine view_w zLn ?_|refine view_pf zSd ?_|refine view_p zSd ?_);(conv=>whnf)));refine ⟨rfl,zSi,by kernel_rfl,?_⟩)|(refine AQ_chk 2 ?_;apply CallX_mv (_, _);intro φ;(conv=>whnf);refine ⟨rfl,?_⟩;(repeat ((with_reducible show ViewE _ _ _ _);(first|refine view_w zLn ?_|refine view_pf zSd ?_|refine view_p zSd ?_);(conv=>whnf)));refine ⟨rfl,zSi,by kernel_rfl,?_⟩)|(refine AQ_chk 3 ?_;apply CallX_mv (_, _, _);intro φ;(conv=>whnf);refine ⟨rfl,?_⟩;(repeat ((with_reducible show ViewE _ _ _ _);(first|refine view_w zLn ?_|refine view_pf zSd ?_|refine view_p zSd ?_);(conv=>whnf)));refine ⟨rfl,zSi,by kernel_rfl,?_⟩)|(refine AQ_chk 4 ?_;apply CallX_mv (_, _, _, _);intro φ;(conv=>whnf);refine ⟨rfl,?_⟩;(repeat ((with_reducible show ViewE _ _ _ _);(first|refine view_w zLn ?_|refine view_pf zSd ?_|refine view_p zSd ?_);(conv=>whnf)));refine ⟨rfl,zSi,by kernel_rfl,?_⟩)|(refine AQ_chk 5 ?_;apply CallX_mv (_, _, _, _, _);intro φ;(conv=>whnf);refine ⟨rfl,?_⟩;(repeat ((with_reducible show ViewE _ _ _ _);(first|refine view_w zLn ?_|refine view_pf zSd ?_|refine view_p zSd ?_);(conv=>whnf)));refine ⟨rfl,zSi,by kernel_rfl,?_⟩)|(refine AQ_chk 6 ?_;apply CallX_mv (_, _, _, _, _, _);intro φ;(conv=>whnf);refine ⟨rfl,?_⟩;(repeat ((with_reducible show ViewE _ _ _ _);(first|refine view_w zLn ?_|refine view_pf zSd ?_|refine view_p zSd ?_);(conv=>whnf)));refine ⟨rfl,zSi,by kernel_rfl,?_⟩)|(refine AQ_chk 7 ?_;apply CallX_mv (_, _, _, _, _, _, _);intro φ;(conv=>whnf);refine ⟨rfl,?_⟩;(repeat ((with_reducible show ViewE _ _ _ _);(first|refine view_w zLn ?_|refine view_pf zSd ?_|refine view_p zSd ?_);(conv=>whnf)));refine ⟨rfl,zSi,by kernel_rfl,?_⟩)|(refine AQ_chk 8 ?_;apply CallX_mv (_, _, _, _, _, _, _, _);intro φ;(conv=>whnf);refine ⟨rfl,?_⟩;(repeat ((with_reducible show ViewE _ _ _ _);(first|refine view_w zLn ?_|refine view_pf zSd ?_|refine view_p zSd ?_);(conv=>whnf)));refine ⟨rfl,zSi,by kernel_rfl,?_⟩)|(refine AQ_chk 9 ?_;apply CallX_mv (_, _, _, _, _, _, _, _, _);intro φ;(conv=>whnf);refine ⟨rfl,?_⟩;(repeat ((with_reducible show ViewE _ _ _ _);(first|refine view_w zLn ?_|refine view_pf zSd ?_|refine view_p zSd ?_);(conv=>whnf)));refine ⟨rfl,zSi,by kernel_rfl,?_⟩)|(refine AQ_chk 10 ?_;apply CallX_mv (_, _, _, _, _, _, _, _, _, _);intro φ;(conv=>whnf);refine ⟨rfl,?_⟩;(repeat ((with_reducible show ViewE _ _ _ _);(first|refine view_w zLn ?_|refine view_pf zSd ?_|refine view_p zSd ?_);(conv=>whnf)));refine ⟨rfl,zSi,by kernel_rfl,?_⟩)|(refine AQ_chk 11 ?_;apply CallX_mv (_, _, _, _, _, _, _, _, _, _, _);intro φ;(conv=>whnf);refine ⟨rfl,?_⟩;(repeat ((with_reducible show ViewE _ _ _ _);(first|refine view_w zLn ?_|refine view_pf zSd ?_|refine view_p zSd ?_);(conv=>whnf)));refine ⟨rfl,zSi,by kernel_rfl,?_⟩)|(refine AQ_chk 12 ?_;apply CallX_mv (_, _, _, _, _, _, _, _, _, _, _, _);intro φ;(conv=>whnf);refine ⟨rfl,?_⟩;(repeat ((with_reducible show ViewE _ _ _ _);(first|refine view_w zLn ?_|refine view_pf zSd ?_|refine view_p zSd ?_);(conv=>whnf)));refine ⟨rfl,zSi,by kernel_rfl,?_⟩)))|(refine CallX_w fun φ => ?_;(conv=>whnf);(repeat ((with_reducible show ViewE _ _ _ _);(first|refine view_w zLn ?_|refine view_pf zSd ?_|refine view_p zSd ?_);(conv=>whnf)));(with_reducible show CallR _ _ _ _ _);refine CallR_i ?_ zSi)|(refine CallX_v fun φ => ?_;(conv=>whnf);(repeat ((with_reducible show ViewE _ _ _ _);(first|refine view_w zLn ?_|refine view_pf zSd ?_|refine view_p zSd ?_);(conv=>whnf)));(with_reducible show CallB _ _ _ _ _);refine CallB_di ?_ zSi)) |(with_reducible show CallB _ _ _ _ _);refine CallB_di ?_ zSi))<;>conv=>whnf)|((with_reducible show ∀ (_ : Nat → Option Addr × Nat), _);intro hb;conv=>whnf)|((with_reducible show _=_);rfl)|((with_reducible refine xif_s ?_ ?_)<;>(intro hb;((try simp (disch:=omega) only [hbS,fl_len] at hb);(try have hb:=bnd hb))<;>first|(exfalso;omega)|(exact (cfl hb (by with_reducible assumption)).elim)|(exact (cfl (by with_reducible assumption) hb).elim)|conv=>whnf))));all_goals ((repeat revert hb);first|with_reducible exact hl.out.1|with_reducible exact hl.out.2.1|with_reducible exact hl.out.2.2.1|with_reducible exact hl.out.2.2.2.1|with_reducible exact hl.out.2.2.2.2.1|with_reducible exact hl.out.2.2.2.2.2.1|with_reducible exact hl.out.2.2.2.2.2.2.1|with_reducible exact hl.out.2.2.2.2.2.2.2.1|with_reducible exact hl.out.2.2.2.2.2.2.2.2.1|with_reducible exact hl.out.2.2.2.2.2.2.2.2.2.1|with_reducible exact hl.out.2.2.2.2.2.2.2.2.2.2.1|with_reducible exact hl.out.2.2.2.2.2.2.2.2.2.2.2.1)) : G := h ⟨h1⟩
end Go.Proofs.YtkflmidichikjaaGreatDoor.V
end
section
namespace Go.Proofs.YtkflmidichikjaaGreatDoor.V
open Go.ChangeShapes Go.WideShapes Go.ChangeAt Go.RowKit Go.Joins Go.Deep
set_option maxRecDepth 100000
inductive Sh where
 | int (k : IntKind)
 | bool
 | str
 | sl (sz : Nat) (l : List Sh)
mutual
def Sh.has : Sh → DV → Prop
 | .int k,d=>∃ a : Int,d = .v (.int k a)∧(Lit.int k a).wf=true
 | .bool,d=>∃ a : Bool,d = .v (.bool a)
 | .str,d=>∃ a : ByteArray,d = .v (.string a)∧a.size≤maxLen
 | .sl sz l,d=>∃ els,d = .fz sz els∧els.length≤maxLen∧∀ x∈els,Sh.hasL l x
def Sh.hasL : List Sh → List DV → Prop
 | [],[]=>True
 | s :: r,d :: l=>Sh.has s d∧Sh.hasL r l
 | _,_=>False
end
theorem Sh.hasL_nil : Sh.hasL [] [] := by unfold Sh.hasL; trivial
theorem Sh.hasL_cons {s : Sh} {r : List Sh} {d : DV} {l : List DV} : Sh.hasL (s :: r) (d :: l) ↔ Sh.has s d ∧ Sh.hasL r l := by rw [Sh.hasL]
theorem Sh.hasL_inv {s : Sh} {r : List Sh} {x : List DV} (h : Sh.hasL (s :: r) x) : ∃ d l, x = d :: l ∧ Sh.has s d ∧ Sh.hasL r l := by
 cases x with
 | nil=>unfold Sh.hasL at h;exact h.elim
 | cons d l=>exact ⟨d,l,rfl,Sh.hasL_cons.1 h⟩
theorem Sh.hasL_inv0 {x : List DV} (h : Sh.hasL [] x) : x = [] := by
 cases x with
 | nil=>rfl
 | cons d l=>unfold Sh.hasL at h;exact h.elim
theorem Sh.has_i {k : IntKind} {d : DV} : Sh.has (.int k) d ↔ ∃ a : Int, d = .v (.int k a) ∧ (Lit.int k a).wf = true := by unfold Sh.has; exact Iff.rfl
theorem Sh.has_b {d : DV} : Sh.has .bool d ↔ ∃ a : Bool, d = .v (.bool a) := by unfold Sh.has; exact Iff.rfl
theorem Sh.has_s {d : DV} : Sh.has .str d ↔ ∃ a : ByteArray, d = .v (.string a) ∧ a.size ≤ maxLen := by unfold Sh.has; exact Iff.rfl
theorem Sh.has_sl {sz : Nat} {l : List Sh} {d : DV} : Sh.has (.sl sz l) d ↔ ∃ els, d = .fz sz els ∧ els.length ≤ maxLen ∧ ∀ x ∈ els, Sh.hasL l x := by
 conv=>lhs;unfold Sh.has
theorem Sh.hasL_app : ∀ {r : List Sh} {s : List Sh} {x y : List DV}, Sh.hasL r x → Sh.hasL s y → Sh.hasL (r ++ s) (x ++ y)
 | [],s,x,y,h,h'=>by
   rw [Sh.hasL_inv0 h]
   exact h'
 | a :: r,s,x,y,h,h'=>by
   obtain ⟨d,l,rfl,h1,h2⟩:=Sh.hasL_inv h
   exact Sh.hasL_cons.2 ⟨h1,Sh.hasL_app h2 h'⟩
theorem Sh.hasL_len : ∀ {r : List Sh} {x : List DV}, Sh.hasL r x → x.length = r.length
 | [],x,h=>by rw [Sh.hasL_inv0 h];rfl
 | a :: r,x,h=>by
   obtain ⟨d,l,rfl,h1,h2⟩:=Sh.hasL_inv h
   simp [Sh.hasL_len h2]
def shFs (P : Program) (f : TypeId → Option (List Sh)) : List Field → Nat → Nat → Option (List Sh)
 | [],off,n=>if off=n then some [] else none
 | d :: r,off,n=>if d.offset=off then match f d.type with
   | some l=>if l.length=P.cellsOf d.type then (shFs P f r (off + P.cellsOf d.type) n).map (l ++ ·) else none
   | none=>none else none
def shOf (P : Program) : Nat → TypeId → Option (List Sh)
 | 0,_=>none
 | n + 1,t=>match P.underlying t with
   | some (.int k)=>some [.int k]
   | some .bool=>some [.bool]
   | some .string=>some [.str]
   | some (.struct fs)=>shFs P (shOf P n) fs.toList 0 (P.cellsOf t)
   | some (.slice e)=>match shOf P n e with
     | some l=>if l.length=P.cellsOf e∧P.cellsOf e ≠ 0 then some [.sl (P.cellsOf e) l] else none
     | none=>none
   | some (.array m e)=>match shOf P n e with
     | some l=>if m * P.cellsOf e=P.cellsOf t then some (List.replicate m l).flatten else none
     | none=>none
   | _=>none
section
variable {H : Type} {enc : TypeId × Value → H} {P : Program} {w : World} {base : Nat} {spare : Nat → Bool} {held : Bool}
theorem rdL_app' {G : Fz} : ∀ {x : List DV} {y : List Value} {x' : List DV} {y' : List Value}, rdL G x y → rdL G x' y' → rdL G (x ++ x') (y ++ y')
 | [],[],_,_,_,h=>h
 | [],_ :: _,_,_,h,_=>h.elim
 | _ :: _,[],_,_,h,_=>h.elim
 | _ :: _,_ :: _,_,_,h,h'=>⟨h.1,rdL_app' h.2 h'⟩
theorem open_fields {f : TypeId → Option (List Sh)} (hf : ∀ {t : TypeId} {fuel : Nat} {cs : List Value} {x : DataW H × List MemPlace} {l : List Sh}, f t = some l → DataW.trod enc P w base spare held fuel t cs = some x → ∃ ds, rdL (allG w) ds cs ∧ Sh.hasL l ds) {m : Nat} {cs : List Value} :
 ∀ (fs : List Field) (off : Nat) (l : List Sh),shFs P f fs off cs.length=some l→(∀ d∈fs,∃ x,DataW.trod enc P w base spare held m d.type ((cs.drop d.offset).take (P.cellsOf d.type))=some x)→off≤cs.length→∃ ds,rdL (allG w) ds (cs.drop off)∧Sh.hasL l ds
 | [],off,l,h,_,_=>by
   unfold shFs at h
   split at h
   ·cases h
    rename_i e
    subst e
    refine ⟨[],?_,Sh.hasL_nil⟩
    simp [rdL]
   ·cases h
 | d :: r,off,l,h,hx,ho=>by
   unfold shFs at h
   split at h
   ·rename_i e
    split at h
    ·rename_i l1 h1
     split at h
     ·rename_i e1
      obtain ⟨l2,h2,rfl⟩:=Option.map_eq_some_iff.1 h
      obtain ⟨x,hx1⟩:=hx d (by simp)
      obtain ⟨ds1,h3,h4⟩:=hf h1 hx1
      have hl:=rdL_len' h3
      have hl1:=Sh.hasL_len h4
      rw [List.length_take,List.length_drop,e] at hl
      have ho2 : off + P.cellsOf d.type≤cs.length:=by omega
      obtain ⟨ds2,h5,h6⟩:=open_fields hf r (off + P.cellsOf d.type) l2 h2 (fun d' hd'=>hx d' (by simp [hd'])) ho2
      refine ⟨ds1 ++ ds2,?_,Sh.hasL_app h4 h6⟩
      rw [e] at h3
      have h7:=rdL_app' h3 h5
      rwa [← List.drop_drop,List.take_append_drop] at h7
     ·cases h
    ·cases h
   ·cases h
where
 rdL_len' {G : Fz} : ∀ {x : List DV} {y : List Value},rdL G x y→y.length=x.length
 | [],[],_=>rfl
 | [],_ :: _,h=>h.elim
 | _ :: _,[],h=>h.elim
 | _ :: r,_ :: l,h=>by simp [rdL_len' h.2]
theorem rdE_range {G : Fz} {sz len o : Nat} {cs : Array Value} {f : Nat → List DV} (h : ∀ i, i < len → rdL G (f i) ((cs.toList.drop (o + i * sz)).take sz) ∧ (f i).length = sz) (hs : ∀ i, i < len → o + i * sz + sz ≤ cs.size ∨ sz = 0) : DV.rdE G sz ((List.range len).map f) cs o := by
 have gen : ∀ (n a : Nat),a + n≤len→DV.rdE G sz ((List.range' a n).map f) cs (o + a * sz):=by
  intro n
  induction n with
  | zero=>intro a _;simp [DV.rdE]
  | succ n ih =>
    intro a ha
    rw [List.range'_succ,List.map_cons]
    obtain ⟨h1,h2⟩:=h a (by omega)
    refine ⟨h2,rdC_of h1 fun j v hj=>?_,?_⟩
    ·rw [List.getElem?_take] at hj
     split at hj
     ·rw [List.getElem?_drop,Array.getElem?_toList] at hj
      exact hj
     ·cases hj
    ·have:=ih (a + 1) (by omega)
     rwa [show o + a * sz + sz=o + (a + 1) * sz by rw [Nat.add_mul];omega]
 have:=gen len 0 (by omega)
 rwa [← List.range_eq_range',Nat.zero_mul,Nat.add_zero] at this
theorem open_arr {l : List Sh} {e : TypeId} {c : Nat} {cs : List Value} {m : Nat} (hf : ∀ {fuel : Nat} {cs' : List Value} {x : DataW H × List MemPlace}, DataW.trod enc P w base spare held fuel e cs' = some x → ∃ ds, rdL (allG w) ds cs' ∧ Sh.hasL l ds) :
 ∀ (k off : Nat),(∀ i,i < k→∃ x,DataW.trod enc P w base spare held m e ((cs.drop (off + i * c)).take c)=some x)→off + k * c=cs.length→∃ ds,rdL (allG w) ds (cs.drop off)∧Sh.hasL (List.replicate k l).flatten ds
 | 0,off,_,he=>⟨[],by rw [List.drop_of_length_le (by omega)];exact trivial,Sh.hasL_nil⟩
 | k + 1,off,hx,he=>by
   obtain ⟨x,hx0⟩:=hx 0 (by omega)
   rw [Nat.zero_mul,Nat.add_zero] at hx0
   obtain ⟨ds1,h1,h2⟩:=hf hx0
   obtain ⟨ds2,h3,h4⟩:=open_arr hf k (off + c) (fun i hi=>by
    have:=hx (i + 1) (by omega)
    rwa [Nat.succ_mul,show off + (i * c + c)=off + c + i * c by omega] at this) (by rw [Nat.succ_mul] at he;omega)
   refine ⟨ds1 ++ ds2,?_,by rw [List.replicate_succ,List.flatten_cons];exact Sh.hasL_app h2 h4⟩
   have h7:=rdL_app' h1 h3
   rwa [← List.drop_drop,List.take_append_drop] at h7
theorem open_cells : ∀ (n : Nat) {t : TypeId} {fuel : Nat} {cs : List Value} {x : DataW H × List MemPlace} {l : List Sh}, shOf P n t = some l → DataW.trod enc P w base spare held fuel t cs = some x → ∃ ds, rdL (allG w) ds cs ∧ Sh.hasL l ds
 | 0,_,_,_,_,_,h,_=>by cases h
 | n + 1,t,fuel,cs,x,l,h,ht=>by
   unfold shOf at h
   split at h
   ·rename_i k hu
    cases h
    obtain ⟨a,rfl,_,hw⟩:=DataW.trod_int hu ht
    exact ⟨[.v (.int k a)],⟨⟨rfl,rfl⟩,trivial⟩,Sh.hasL_cons.2 ⟨Sh.has_i.2 ⟨a,rfl,hw⟩,Sh.hasL_nil⟩⟩
   ·rename_i hu
    cases h
    obtain ⟨a,rfl,_⟩:=DataW.trod_bool hu ht
    exact ⟨[.v (.bool a)],⟨⟨rfl,rfl⟩,trivial⟩,Sh.hasL_cons.2 ⟨Sh.has_b.2 ⟨a,rfl⟩,Sh.hasL_nil⟩⟩
   ·rename_i hu
    cases h
    obtain ⟨a,rfl,_,hw⟩:=DataW.trod_string hu ht
    exact ⟨[.v (.string a)],⟨⟨rfl,rfl⟩,trivial⟩,Sh.hasL_cons.2 ⟨Sh.has_s.2 ⟨a,rfl,hw⟩,Sh.hasL_nil⟩⟩
   ·rename_i fs hu
    obtain ⟨xs,m,_,_,hl,hxl,hg⟩:=DataW.trod_struct hu ht
    rw [← hl] at h
    obtain ⟨ds,h1,h2⟩:=open_fields (m:=m) (fun h1 h2=>open_cells n h1 h2) fs.toList 0 l h (fun d hd=>by
     obtain ⟨i,hi⟩:=List.mem_iff_getElem?.1 hd
     have:=hg i d (by simpa using hi)
     have hi' : i < xs.length:=by
      have:=(List.getElem?_eq_some_iff.1 hi).1
      simp at this
      omega
     exact ⟨_,this.trans (List.getElem?_eq_getElem hi')⟩) (Nat.zero_le _)
    exact ⟨ds,by simpa using h1,h2⟩
   ·rename_i e hu
    split at h
    ·rename_i le hle
     split at h
     ·rename_i hc
      cases h
      rcases open_slice hu ht with h0|⟨a,len,cap,m,k,D,Pl,hcs,hb,hl,hm,hmm,hx,hi⟩
      ·rw [h0.1]
       exact ⟨[.fz (P.cellsOf e) []],⟨⟨rfl,none,0,rfl,Nat.le_refl _,fun h=>(h rfl).elim⟩,trivial⟩,Sh.hasL_cons.2 ⟨Sh.has_sl.2 ⟨[],rfl,Nat.zero_le _,by simp⟩,Sh.hasL_nil⟩⟩
      ·have hlm : len≤m:=by rw [hmm];split<;>omega
       have hex : ∀ i,i < len→∃ ds : List DV,∃ cs' : List Value,w.cells? base (a.add (i * P.cellsOf e)) (P.cellsOf e)=some cs'∧rdL (allG w) ds cs'∧Sh.hasL le ds:=by
        intro i hil
        obtain ⟨cs',hc',ht'⟩:=hi i (by omega)
        obtain ⟨ds,h1,h2⟩:=open_cells n hle ht'
        exact ⟨ds,cs',hc',h1,h2⟩
       obtain ⟨f,hf⟩:=choose_lt hex
       refine ⟨[.fz (P.cellsOf e) ((List.range len).map f)],?_,Sh.hasL_cons.2 ⟨Sh.has_sl.2 ⟨_,rfl,by simp;omega,?_⟩,Sh.hasL_nil⟩⟩
       ·rw [hcs]
        refine ⟨⟨rfl,some a,cap,by simp,by simpa using hl,fun hne=>?_⟩,trivial⟩
        have h0 : 0 < len:=by
         rcases Nat.eq_zero_or_pos len with h0|h0
         ·exact (hne (by simp [h0])).elim
         ·exact h0
        obtain ⟨cs0,hc0,-,-⟩:=hf 0 h0
        obtain ⟨_,hcl0,hat0⟩:=World.cells?_some hc0
        have h1:=hat0 0 (by omega)
        rw [List.getElem?_eq_getElem (by omega)] at h1
        have hadd0 : (a.add (0 * P.cellsOf e)).add 0=a:=by simp [Addr.add]
        rw [hadd0] at h1
        obtain ⟨b,o,s⟩:=a
        have hs : s=none∧∃ cs ty fz,w.heap[b]? = some (.cells cs ty fz):=by
         unfold World.cell? at h1
         simp only at h1
         split at h1
         ·rename_i c1 ty1 fz1 hb1
          cases s with
          | none=>exact ⟨rfl,c1,ty1,fz1,hb1⟩
          | some _=>simp at h1
         ·cases h1
        obtain ⟨rfl,cs,ty,fz,hb1⟩:=hs
        refine ⟨b,o,cs,ty,fz,rfl,hb1,?_⟩
        have hel : ∀ i,i < len→rdL (allG w) (f i) ((cs.toList.drop (o + i * P.cellsOf e)).take (P.cellsOf e))∧(f i).length=P.cellsOf e:=by
         intro i hi
         obtain ⟨cs',hc',h2,h3⟩:=hf i hi
         obtain ⟨_,hcl,hat⟩:=World.cells?_some hc'
         have hfl : (f i).length=P.cellsOf e:=(Sh.hasL_len h3).trans hc.1
         have he : (cs.toList.drop (o + i * P.cellsOf e)).take (P.cellsOf e)=cs':=by
          apply List.ext_getElem?
          intro j
          rw [List.getElem?_take]
          split
          ·rename_i hj
           have h4:=hat j hj
           rw [Addr.add_mid,Addr.add_mid] at h4
           simp only [World.cell?,hb1,Option.isSome_none,Bool.false_eq_true,if_false] at h4
           rw [List.getElem?_drop,← h4,Array.getElem?_toList]
          ·rw [List.getElem?_eq_none (by omega)]
         exact ⟨by rw [he];exact h2,hfl⟩
        refine rdE_range hel fun i hi=>?_
        have h5:=(hel i hi).1
        have h6:=open_fields.rdL_len' h5
        rw [(hel i hi).2,List.length_take,List.length_drop] at h6
        simp only [Array.length_toList] at h6
        omega
       ·intro x hx
        obtain ⟨i,hi,rfl⟩:=List.mem_map.1 hx
        obtain ⟨_,_,_,h⟩:=hf i (List.mem_range.1 hi)
        exact h
     ·cases h
    ·cases h
   ·rename_i m e hu
    split at h
    ·rename_i le hle
     split at h
     ·rename_i hc
      cases h
      obtain ⟨xs,m',_,_,hl,hxl,hg⟩:=DataW.trod_array hu ht
      obtain ⟨ds,h1,h2⟩:=open_arr (c:=P.cellsOf e) (fun h2=>open_cells n hle h2) m 0 (fun i hi=>⟨xs[i]'(by omega),by rw [Nat.zero_add,hg i hi];exact List.getElem?_eq_getElem _⟩) (by omega)
      exact ⟨ds,by simpa using h1,h2⟩
     ·cases h
    ·cases h
   ·cases h
end
end Go.Proofs.YtkflmidichikjaaGreatDoor.V
end
