import Derived.Test.YtkflmidichikjaaGreatDoorZSystemReplays28
import Derived.Test.YtkflmidichikjaaGreatDoorZSystemReplays18
import Derived.Test.YtkflmidichikjaaGreatDoorZSystemReplays14
set_option linter.all false
section
namespace Go.Proofs.YtkflmidichikjaaGreatDoor.V
open Go.RowKit
set_option maxRecDepth 100000
set_option maxHeartbeats 16000000
open Heading BoxP Drive PlanP Known Contr Loc
namespace Loc
theorem refineQ_len {p : Plan} {s : List Beam} {rng : Int} : ∀ (n : Nat) (L : List Box) (sp : Int) (out : List Box), (refineQ p s rng n L sp out).length ≤ out.length + n
 | 0,_,_,_=>Nat.le_refl _
 | n + 1,[],_,_=>by unfold refineQ;omega
 | n + 1,b :: r,sp,out=>by
   unfold refineQ
   split
   ·have:=refineQ_len (p:=p) (s:=s) (rng:=rng) n r sp out
    omega
   ·split
    ·have:=refineQ_len (p:=p) (s:=s) (rng:=rng) n (r ++ [(split (trimB p b s rng).1).1,(split (trimB p b s rng).1).2.1]) (sp - 1) out
     omega
    ·have:=refineQ_len (p:=p) (s:=s) (rng:=rng) n r sp (out ++ [(trimB p b s rng).1])
     simp only [List.length_append,List.length_cons,List.length_nil] at this
     omega
theorem refineR_len {p : Plan} {S : List Box} {s : List Beam} {rng : Int} : (refineR p S s rng 32).1.length ≤ 1000 := by
 unfold refineR
 split
 ·simp
 ·rename_i h
  split
  ·simp
  ·split
   ·simp
   ·have:=refineQ_len (p:=p) (s:=s) (rng:=rng) (S.length + 2 * (32 : Int).toNat + 1) S 32 []
    have hS : S.length≤16:=by omega
    simp only [List.length_nil] at this
    have e : (32 : Int).toNat=32:=rfl
    rw [e] at this
    rw [e]
    exact Nat.le_trans this (by omega)
theorem delB_len {X : List Box} {n i : Nat} (h : n ≤ X.length) : n - 1 ≤ (delB X n i).length := by
 unfold delB
 simp only [List.length_append,List.length_take,List.length_drop,List.length_cons,List.length_nil]
 omega
theorem compS_len {most : Int} : ∀ (f n : Nat) (Z : List Box), n ≤ Z.length → (compS most f n Z).1 ≤ (compS most f n Z).2.length
 | 0,n,Z,h=>h
 | f + 1,n,Z,h=>by
   unfold compS
   split
   ·refine compS_len f (n - 1) _ (delB_len ?_)
    rw [List.length_set]
    exact h
   ·exact h
theorem compact_le {X : List Box} {most : Int} : (compact X most).1 ≤ (compact X most).2.1.length := by
 unfold compact
 split
 ·simp
 ·split
  ·simp
  ·exact compS_len _ _ _ (Nat.le_refl _)
theorem compS_n {most : Int} : ∀ (f n : Nat) (Z : List Box), (compS most f n Z).1 ≤ n
 | 0,n,Z=>Nat.le_refl _
 | f + 1,n,Z=>by
   unfold compS
   split
   ·exact Nat.le_trans (compS_n f (n - 1) _) (Nat.sub_le _ _)
   ·exact Nat.le_refl _
theorem compact_n {X : List Box} {most : Int} : (compact X most).1 ≤ X.length := by
 unfold compact
 split
 ·simp
 ·split
  ·simp
  ·exact compS_n _ _ _
def compL (X : List Box) : List Box := (compact X 16).2.1.take (compact X 16).1
def seeP (F : Filt) (s : List Beam) : Filt × Int :=
 if Contr.vScan s=false then (F,1) else if F.lost=true then (F,9) else
 if (refineR F.p F.set s F.b.Range 32).1.length=0 then (⟨F.p,F.set,F.b,true⟩,12) else
 if (learnK F.p (compL (refineR F.p F.set s F.b.Range 32).1) s F.b.Range).2=0 then
  (⟨(learnK F.p (compL (refineR F.p F.set s F.b.Range 32).1) s F.b.Range).1,compL (refineR F.p F.set s F.b.Range 32).1,F.b,F.lost⟩,0)
 else (⟨F.p,F.set,F.b,true⟩,(learnK F.p (compL (refineR F.p F.set s F.b.Range 32).1) s F.b.Range).2)
end Loc
attribute [local irreducible] compact
instance inVlo2_1 : CMe 102 (((Option Addr × Nat) × Option Addr × Nat) × Filt × Option Addr × Nat × List Beam) true (fun (_, _, A, c, s) => [.p 0 0, .fz A c 2 (fl Beam.e s)]) (fun (q, F, _, _, _) => [filtO q F]) (fun (_, F, _, _, s) => F.p.cells.length ≤ 1000000000 ∧ F.set.length ≤ 1000000000 ∧ s.length ≤ 1000000000) ((Option Addr × Nat) × Option Addr × Nat) (fun (_, F, _, _, s) _ => I (seeP F s).2) (fun (_, F, _, _, s) q => [filtO q (seeP F s).1]) := ⟨fun (q, ⟨⟨w, h, X⟩, S, ⟨e, l, sl, r⟩, lost⟩, A, c, s) ⟨p1, p2, p3⟩ => by
 dsimp only [filtO] at *
 unfold seeP
 by_cases h1 : Contr.vScan s=false
 ·rw [if_pos h1]
  refine CM.of Tryz.func102 rfl tabOk rfl rfl rfl rfl (by simp [SV.nms,SV.nm]) fun w_ M_ π_ G0_=>?_
  refine roA (a1 ?_)
  intros
  refine Fin_ja q ?_
  conv=>whnf
  exact ⟨rfl,rfl,rfl⟩
 ·have h1' : Contr.vScan s=true:=by simpa using h1
  rw [if_neg h1]
  clear h1
  cases lost with
  | true =>
    simp only [if_true]
    refine CM.of Tryz.func102 rfl tabOk rfl rfl rfl rfl (by simp [SV.nms,SV.nm]) fun w_ M_ π_ G0_=>?_
    refine roA (a1 ?_)
    intros
    refine Fin_ja q ?_
    conv=>whnf
    exact ⟨rfl,rfl,rfl⟩
  | false =>
    simp only [Bool.false_eq_true,if_false]
    have l1:=refineR_len (p:=⟨w,h,X⟩) (S:=S) (s:=s) (rng:=r)
    have l2:=compact_le (X:=(refineR ⟨w,h,X⟩ S s r 32).1) (most:=16)
    have l3:=compact_n (X:=(refineR ⟨w,h,X⟩ S s r 32).1) (most:=16)
    unfold compL
    refine CM.of Tryz.func102 rfl tabOk rfl rfl rfl rfl (by simp [SV.nms,SV.nm]) fun w_ M_ π_ G0_=>?_
    ((conv=>whnf);repeat' (first|with_reducible exact trivial|with_reducible exact Unit.unit|((first|((with_reducible show CallX _ _ _ _ _);first|refine CallX_i ?_ zSi|(refine AR_has ?_;(first|(refine AR_chk 1 ?_;apply CallX_me (_);(conv=>whnf);refine ⟨⟨rfl,rfl⟩,zSi,by kernel_rfl,fun hb=>?_⟩)|(refine AR_chk 2 ?_;apply CallX_me (_,_);(conv=>whnf);refine ⟨⟨rfl,rfl⟩,zSi,by kernel_rfl,fun hb=>?_⟩)|(refine AR_chk 3 ?_;apply CallX_me (_,_,_);(conv=>whnf);refine ⟨⟨rfl,rfl⟩,zSi,by kernel_rfl,fun hb=>?_⟩)|(refine AR_chk 4 ?_;apply CallX_me (_,_,_,_);(conv=>whnf);refine ⟨⟨rfl,rfl⟩,zSi,by kernel_rfl,fun hb=>?_⟩)|(refine AR_chk 5 ?_;apply CallX_me (_,_,_,_,_);(conv=>whnf);refine ⟨⟨rfl,rfl⟩,zSi,by kernel_rfl,fun hb=>?_⟩)|(refine AR_chk 6 ?_;apply CallX_me (_,_,_,_,_,_);(conv=>whnf);refine ⟨⟨rfl,rfl⟩,zSi,by kernel_rfl,fun hb=>?_⟩)|(refine AR_chk 7 ?_;apply CallX_me (_,_,_,_,_,_,_);(conv=>whnf);refine ⟨⟨rfl,rfl⟩,zSi,by kernel_rfl,fun hb=>?_⟩)|(refine AR_chk 8 ?_;apply CallX_me (_,_,_,_,_,_,_,_);(conv=>whnf);refine ⟨⟨rfl,rfl⟩,zSi,by kernel_rfl,fun hb=>?_⟩)|(refine AR_chk 9 ?_;apply CallX_me (_,_,_,_,_,_,_,_,_);(conv=>whnf);refine ⟨⟨rfl,rfl⟩,zSi,by kernel_rfl,fun hb=>?_⟩)|(refine AR_chk 10 ?_;apply CallX_me (_,_,_,_,_,_,_,_,_,_);(conv=>whnf);refine ⟨⟨rfl,rfl⟩,zSi,by kernel_rfl,fun hb=>?_⟩)|(refine AR_chk 11 ?_;apply CallX_me (_,_,_,_,_,_,_,_,_,_,_);(conv=>whnf);refine ⟨⟨rfl,rfl⟩,zSi,by kernel_rfl,fun hb=>?_⟩)|(refine AR_chk 12 ?_;apply CallX_me (_,_,_,_,_,_,_,_,_,_,_,_);(conv=>whnf);refine ⟨⟨rfl,rfl⟩,zSi,by kernel_rfl,fun hb=>?_⟩)|(refine AR_chk 13 ?_;apply CallX_me (_,_,_,_,_,_,_,_,_,_,_,_,_);(conv=>whnf);refine ⟨⟨rfl,rfl⟩,zSi,by kernel_rfl,fun hb=>?_⟩)|(refine AR_chk 14 ?_;apply CallX_me (_,_,_,_,_,_,_,_,_,_,_,_,_,_);(conv=>whnf);refine ⟨⟨rfl,rfl⟩,zSi,by kernel_rfl,fun hb=>?_⟩)|(refine AR_chk 15 ?_;apply CallX_me (_,_,_,_,_,_,_,_,_,_,_,_,_,_,_);(conv=>whnf);refine ⟨⟨rfl,rfl⟩,zSi,by kernel_rfl,fun hb=>?_⟩)|(refine AR_chk 16 ?_;apply CallX_me (_,_,_,_,_,_,_,_,_,_,_,_,_,_,_,_);(conv=>whnf);refine ⟨⟨rfl,rfl⟩,zSi,by kernel_rfl,fun hb=>?_⟩))))|(first |(with_reducible show xwr64 _ _);refine xwr_a ?_ |(with_reducible show CallX _ _ _ _ _);(first|refine CallX_i ?_ zSi|(refine AQ_has ?_;(first|(refine AQ_chk 1 ?_;apply CallX_mp (_);(conv=>whnf);refine ⟨⟨rfl,rfl⟩,zSi,by kernel_rfl,?_⟩)|(refine AQ_chk 2 ?_;apply CallX_mp (_,_);(conv=>whnf);refine ⟨⟨rfl,rfl⟩,zSi,by kernel_rfl,?_⟩)|(refine AQ_chk 3 ?_;apply CallX_mp (_,_,_);(conv=>whnf);refine ⟨⟨rfl,rfl⟩,zSi,by kernel_rfl,?_⟩)|(refine AQ_chk 4 ?_;apply CallX_mp (_,_,_,_);(conv=>whnf);refine ⟨⟨rfl,rfl⟩,zSi,by kernel_rfl,?_⟩)|(refine AQ_chk 5 ?_;apply CallX_mp (_,_,_,_,_);(conv=>whnf);refine ⟨⟨rfl,rfl⟩,zSi,by kernel_rfl,?_⟩)|(refine AQ_chk 6 ?_;apply CallX_mp (_,_,_,_,_,_);(conv=>whnf);refine ⟨⟨rfl,rfl⟩,zSi,by kernel_rfl,?_⟩)|(refine AQ_chk 7 ?_;apply CallX_mp (_,_,_,_,_,_,_);(conv=>whnf);refine ⟨⟨rfl,rfl⟩,zSi,by kernel_rfl,?_⟩)|(refine AQ_chk 8 ?_;apply CallX_mp (_,_,_,_,_,_,_,_);(conv=>whnf);refine ⟨⟨rfl,rfl⟩,zSi,by kernel_rfl,?_⟩)|(refine AQ_chk 9 ?_;apply CallX_mp (_,_,_,_,_,_,_,_,_);(conv=>whnf);refine ⟨⟨rfl,rfl⟩,zSi,by kernel_rfl,?_⟩)|(refine AQ_chk 10 ?_;apply CallX_mp (_,_,_,_,_,_,_,_,_,_);(conv=>whnf);refine ⟨⟨rfl,rfl⟩,zSi,by kernel_rfl,?_⟩)|(refine AQ_chk 11 ?_;apply CallX_mp (_,_,_,_,_,_,_,_,_,_,_);(conv=>whnf);refine ⟨⟨rfl,rfl⟩,zSi,by kernel_rfl,?_⟩)|(refine AQ_chk 12 ?_;apply CallX_mp (_,_,_,_,_,_,_,_,_,_,_,_);(conv=>whnf);refine ⟨⟨rfl,rfl⟩,zSi,by kernel_rfl,?_⟩)))|(refine CallX_v fun φ=>?_;(conv=>whnf);(repeat ((with_reducible show ViewE _ _ _ _);(first|refine view_w zLn ?_|refine view_pf zSd ?_|refine view_p zSd ?_);(conv=>whnf)));(with_reducible show CallB _ _ _ _ _);refine CallB_i ?_ zSi)) |(with_reducible show CallB _ _ _ _ _);(with_reducible show CallB _ _ _ _ _);refine CallB_i ?_ zSi |(with_reducible show ValX _ _ _ _ _);(first|refine ValX_idxF tabOk rfl rfl zSd zSd ?_|refine ValX_idxS tabOk rfl rfl rfl zLn zSd zSd zSd ?_|refine ValX_loadF tabOk rfl rfl rfl rfl rfl zSd ?_|refine ValX_loadQ tabOk rfl rfl rfl rfl rfl rfl ?_|refine ValX_sl1 tabOk rfl rfl rfl zLn zSd zSd ?_|refine ValX_slLo tabOk rfl rfl rfl zLn zSd zSd zSd ?_|refine ValX_slHi tabOk rfl rfl rfl zLn zSd zSd zSd ?_|refine ValX_max3 rfl ?_|refine ValX_cpl rfl ?_|refine ValX_fzNil tabOk rfl rfl rfl (fun hb=>?_) ?_|refine ValX_bldA rfl rfl ?_ (fun w=>by kernel_rfl)|refine ValX_bldB rfl rfl ?_ (fun w=>by kernel_rfl)|refine ValX_ixA1 rfl rfl rfl rfl ?_ (fun w=>by kernel_rfl)|refine ValX_ixA2 rfl rfl rfl rfl ?_ (fun w=>by kernel_rfl)) |(with_reducible show OpX _ _ _ _ _);(first|refine OpX_storeF tabOk rfl rfl rfl (by rfl) (by rfl) zSd ?_|refine OpX_appF tabOk rfl rfl zLn rfl rfl zSe rfl zSd zSd ?_|refine OpX_appP tabOk rfl rfl rfl rfl zSe rfl zSd zSd zSd zSd ?_|refine OpX_build_a tabOk rfl rfl rfl ?_ (by rfl)|refine OpX_make_a tabOk rfl rfl rfl ?_ (by rfl) (by rfl) zSd zSd zSd|refine OpX_build0_a tabOk rfl rfl rfl ?_|refine OpX_nil_a rfl rfl ?_) |(with_reducible show DrawX _ _ _ _ _);refine DrawX_s tabOk folOk ?_ |(with_reducible show DrawS _ _ _ _ _ _ _);refine DrawS_i (by kernel_rfl) ?_ |(with_reducible show ViewE _ _ _ _);(first|refine view_w zLn ?_|refine view_pf zSd ?_|refine view_p zSd ?_) |(with_reducible show xquo64 _ _ _);(first|refine xquo_a ?_|refine xquo_b ?_) |(with_reducible show xrem64 _ _ _);(first|refine xrem_a ?_|refine xrem_b ?_) |(with_reducible show xshr _ _ _ _);(first|refine xshr_1 ?_|refine xshr_32 ?_|refine xshr_6 ?_|refine xshr_7 ?_|refine xshr_8 ?_|refine xshr_63 ?_) |(with_reducible show xshl _ _ _ _);(first|refine xshl_1u ?_|refine xshl_0u ?_|refine xshl_7u ?_) |(with_reducible show andX _ _);refine andX_i ?_ ?_ |(with_reducible show need _ _);refine need_i zSd ?_ |(with_reducible show xwru _ _ _);(first|refine xwru_64 (by omega) (by omega) ?_|refine xwru_32 (by omega) (by omega) ?_|refine xwru_32m ?_) |(with_reducible show xquou _ _ _ _);refine xquou_nn (by omega) (by omega) (by omega) ?_ |(with_reducible show xremu _ _ _);refine xremu_nn (by omega) (by omega) ?_ |(with_reducible show xcv _ _ _);(first|refine xcv_i64 (by omega) (by omega) ?_|refine xcv_u8 (by omega) (by omega) ?_|refine xcv_u32 (by omega) (by omega) ?_|refine xcv_u64 (by omega) (by omega) ?_|refine xcv_u8m ?_|refine xcv_u32m ?_|refine xcv_u64m ?_))|(first |(with_reducible show OpX _ _ _ _ _);(first|refine OpX_clearF tabOk rfl rfl rfl rfl rfl rfl zSd ?_|refine OpX_buildD tabOk rfl rfl rfl rfl (by rfl) ?_|refine OpX_appD tabOk rfl rfl zLd rfl rfl zSf rfl zSd zSd ?_|refine OpX_appZ tabOk rfl rfl rfl rfl (by rfl) zSd zSd zSd ?_) |(with_reducible show ValX _ _ _ _ _);(first|refine ValX_idxD tabOk rfl rfl zSd zSd ?_|refine ValX_loadA tabOk rfl rfl (by rfl) (by rfl) ?_|refine ValX_loadZD tabOk rfl rfl rfl (by rfl) (by rfl) zSd ?_|refine ValX_idxS tabOk rfl rfl rfl (flD_len _ _) zSd zSd zSd ?_|refine ValX_cap0 tabOk rfl rfl ?_|refine ValX_slNil tabOk rfl rfl ?_|refine ValX_fld rfl rfl rfl (fun σ w=>by kernel_rfl) ?_|refine ValX_idxL tabOk rfl rfl (by decide) (by simp;done) rfl ?_) |(with_reducible show CallX _ _ _ _ _);(first|(apply CallX_me (.unit);(conv=>whnf);refine ⟨⟨rfl,rfl⟩,zSi,by kernel_rfl,fun hb=>?_⟩)|(refine AQ_has ?_;(first|(refine AQ_chk 1 ?_;apply CallX_mv (_);intro φ;(conv=>whnf);refine ⟨rfl,?_⟩;(repeat ((with_reducible show ViewE _ _ _ _);(first|refine view_w zLn ?_|refine view_pf zSd ?_|refine view_p zSd ?_);(conv=>whnf)));refine ⟨rfl,zSi,by kernel_rfl,?_⟩)|(refine AQ_chk 2 ?_;apply CallX_mv (_,_);intro φ;(conv=>whnf);refine ⟨rfl,?_⟩;(repeat ((with_reducible show ViewE _ _ _ _);(first|refine view_w zLn ?_|refine view_pf zSd ?_|refine view_p zSd ?_);(conv=>whnf)));refine ⟨rfl,zSi,by kernel_rfl,?_⟩)|(refine AQ_chk 3 ?_;apply CallX_mv (_,_,_);intro φ;(conv=>whnf);refine ⟨rfl,?_⟩;(repeat ((with_reducible show ViewE _ _ _ _);(first|refine view_w zLn ?_|refine view_pf zSd ?_|refine view_p zSd ?_);(conv=>whnf)));refine ⟨rfl,zSi,by kernel_rfl,?_⟩)|(refine AQ_chk 4 ?_;apply CallX_mv (_,_,_,_);intro φ;(conv=>whnf);refine ⟨rfl,?_⟩;(repeat ((with_reducible show ViewE _ _ _ _);(first|refine view_w zLn ?_|refine view_pf zSd ?_|refine view_p zSd ?_);(conv=>whnf)));refine ⟨rfl,zSi,by kernel_rfl,?_⟩)|(refine AQ_chk 5 ?_;apply CallX_mv (_,_,_,_,_);intro φ;(conv=>whnf);refine ⟨rfl,?_⟩;(repeat ((with_reducible show ViewE _ _ _ _);(first|refine view_w zLn ?_|refine view_pf zSd ?_|refine view_p zSd ?_);(conv=>whnf)));refine ⟨rfl,zSi,by kernel_rfl,?_⟩)|(refine AQ_chk 6 ?_;apply CallX_mv (_,_,_,_,_,_);intro φ;(conv=>whnf);refine ⟨rfl,?_⟩;(repeat ((with_reducible show ViewE _ _ _ _);(first|refine view_w zLn ?_|refine view_pf zSd ?_|refine view_p zSd ?_);(conv=>whnf)));refine ⟨rfl,zSi,by kernel_rfl,?_⟩)|(refine AQ_chk 7 ?_;apply CallX_mv (_,_,_,_,_,_,_);intro φ;(conv=>whnf);refine ⟨rfl,?_⟩;(repeat ((with_reducible show ViewE _ _ _ _);(first|refine view_w zLn ?_|refine view_pf zSd ?_|refine view_p zSd ?_);(conv=>whnf)));refine ⟨rfl,zSi,by kernel_rfl,?_⟩)|(refine AQ_chk 8 ?_;apply CallX_mv (_,_,_,_,_,_,_,_);intro φ;(conv=>whnf);refine ⟨rfl,?_⟩;(repeat ((with_reducible show ViewE _ _ _ _);(first|refine view_w zLn ?_|refine view_pf zSd ?_|refine view_p zSd ?_);(conv=>whnf)));refine ⟨rfl,zSi,by kernel_rfl,?_⟩)|(refine AQ_chk 9 ?_;apply CallX_mv (_,_,_,_,_,_,_,_,_);intro φ;(conv=>whnf);refine ⟨rfl,?_⟩;(repeat ((with_reducible show ViewE _ _ _ _);(first|refine view_w zLn ?_|refine view_pf zSd ?_|refine view_p zSd ?_);(conv=>whnf)));refine ⟨rfl,zSi,by kernel_rfl,?_⟩)|(refine AQ_chk 10 ?_;apply CallX_mv (_,_,_,_,_,_,_,_,_,_);intro φ;(conv=>whnf);refine ⟨rfl,?_⟩;(repeat ((with_reducible show ViewE _ _ _ _);(first|refine view_w zLn ?_|refine view_pf zSd ?_|refine view_p zSd ?_);(conv=>whnf)));refine ⟨rfl,zSi,by kernel_rfl,?_⟩)|(refine AQ_chk 11 ?_;apply CallX_mv (_,_,_,_,_,_,_,_,_,_,_);intro φ;(conv=>whnf);refine ⟨rfl,?_⟩;(repeat ((with_reducible show ViewE _ _ _ _);(first|refine view_w zLn ?_|refine view_pf zSd ?_|refine view_p zSd ?_);(conv=>whnf)));refine ⟨rfl,zSi,by kernel_rfl,?_⟩)|(refine AQ_chk 12 ?_;apply CallX_mv (_,_,_,_,_,_,_,_,_,_,_,_);intro φ;(conv=>whnf);refine ⟨rfl,?_⟩;(repeat ((with_reducible show ViewE _ _ _ _);(first|refine view_w zLn ?_|refine view_pf zSd ?_|refine view_p zSd ?_);(conv=>whnf)));refine ⟨rfl,zSi,by kernel_rfl,?_⟩)))|(refine CallX_w fun φ=>?_;(conv=>whnf);(repeat ((with_reducible show ViewE _ _ _ _);(first|refine view_w zLn ?_|refine view_pf zSd ?_|refine view_p zSd ?_);(conv=>whnf)));(with_reducible show CallR _ _ _ _ _);refine CallR_i ?_ zSi)|(refine CallX_v fun φ=>?_;(conv=>whnf);(repeat ((with_reducible show ViewE _ _ _ _);(first|refine view_w zLn ?_|refine view_pf zSd ?_|refine view_p zSd ?_);(conv=>whnf)));(with_reducible show CallB _ _ _ _ _);refine CallB_di ?_ zSi)) |(with_reducible show CallB _ _ _ _ _);refine CallB_di ?_ zSi))<;>conv=>whnf)|((with_reducible show ∀ (_ : Nat→Option Addr × Nat),_);intro hb;conv=>whnf)|((with_reducible show _=_);rfl)|((with_reducible refine xif_s ?_ ?_)<;>(intro hb;((try simp (disch:=omega) only [hbS,fl_len] at hb);(try have hb:=bnd hb))<;>first|(exfalso;omega)|(exact (cfl hb (by with_reducible assumption)).elim)|(exact (cfl (by with_reducible assumption) hb).elim)|conv=>whnf))))
    ·rw [if_pos (by omega)]
     refine Fin_ja q ?_
     conv=>whnf
     exact ⟨rfl,rfl,rfl⟩
    ·rw [if_neg (by omega),if_neg (show ¬(learnK ⟨w,h,X⟩ ((compact (refineR ⟨w,h,X⟩ S s r 32).1 16).2.1.take (compact (refineR ⟨w,h,X⟩ S s r 32).1 16).1) s r).2=0 from hb)]
     refine Fin_ja q ?_
     conv=>whnf
     exact ⟨rfl,rfl,rfl⟩
    ·rw [if_neg (by omega),if_pos (show (learnK ⟨w,h,X⟩ ((compact (refineR ⟨w,h,X⟩ S s r 32).1 16).2.1.take (compact (refineR ⟨w,h,X⟩ S s r 32).1 16).1) s r).2=0 from hb)]
     refine Fin_tr 2 (compact (refineR ⟨w,h,X⟩ S s r 32).1 16).1 rfl ?_
     conv=>whnf
     refine Fin_fr 2 rfl fun A1 c1=>?_
     conv=>whnf
     refine view_w (by rw [fl_len,List.length_take];omega) ?_
     conv=>whnf
     refine Fin_fr 3 rfl fun A2 c2=>?_
     conv=>whnf
     (repeat ((with_reducible show ViewE _ _ _ _);(first|refine view_w zLn ?_|refine view_pf zSd ?_|refine view_p zSd ?_);(conv=>whnf)))
     refine Fin_ja ((A2,c2),A1,c1) ?_
     conv=>whnf
     exact ⟨rfl,rfl,rfl⟩⟩
instance inVlo2_2 : AR 102 5 := ⟨trivial⟩
end Go.Proofs.YtkflmidichikjaaGreatDoor.V
end
section
namespace Go.Proofs.YtkflmidichikjaaGreatDoor.V
open Go.RowKit
set_option maxRecDepth 100000
set_option maxHeartbeats 16000000
open Heading BoxP Drive PlanP Known Contr Loc
instance inVlo3_1 : CMe 48 (((Option Addr × Nat) × Option Addr × Nat) × Filt) true (fun _ => [.p 0 0]) (fun (q, F) => [filtO q F]) (fun (_, F) => F.set.length ≤ 1000000000) Unit (fun (_, F) _ => .sl 1 0 0 F.set.length 6) (fun (q, F) _ => [filtO q F, .row false 85 6 (fl Box.e F.set)]) := ⟨fun (q, ⟨⟨w, h, X⟩, S, ⟨e, l, s, r⟩, lost⟩) p1 => by
 dsimp only [filtO] at *
 refine CM.of Tryz.func48 rfl tabOk rfl rfl rfl rfl (by simp [SV.nms,SV.nm]) fun w_ M_ π_ G0_=>?_
 refine roA (a1 ?_)
 refine Fin_ja () ?_
 conv=>whnf
 exact ⟨rfl,rfl,rfl⟩⟩
instance inVlo3_2 : AR 48 2 := ⟨trivial⟩
instance inVlo3_3 : CMe 51 (((Option Addr × Nat) × Option Addr × Nat) × Filt) true (fun _ => [.p 0 0]) (fun (q, F) => [filtO q F]) (fun _ => True) Unit (fun (_, F) _ => B F.lost) (fun (q, F) _ => [filtO q F]) := ⟨fun (q, ⟨⟨w, h, X⟩, S, ⟨e, l, s, r⟩, lost⟩) _ => by
 dsimp only [filtO] at *
 refine CM.of Tryz.func51 rfl tabOk rfl rfl rfl rfl (by simp [SV.nms,SV.nm]) fun w_ M_ π_ G0_=>?_
 refine roA (a1 ?_)
 refine Fin_ja () ?_
 conv=>whnf
 exact ⟨rfl,rfl,rfl⟩⟩
instance inVlo3_4 : AR 51 2 := ⟨trivial⟩
instance inVlo3_5 : CMe 47 (((Option Addr × Nat) × Option Addr × Nat) × Filt) true (fun _ => [.p 0 0]) (fun (q, F) => [filtO q F]) (fun (_, F) => F.p.cells.length ≤ 1000000000) Unit (fun (_, F) _ => .a [I F.p.W, I F.p.H, .sl 1 0 0 F.p.cells.length 1]) (fun (q, F) _ => [filtO q F, .row false 5 1 (fl ye F.p.cells)]) := ⟨fun (q, ⟨⟨w, h, X⟩, S, ⟨e, l, s, r⟩, lost⟩) p1 => by
 dsimp only [filtO] at *
 refine CM.of Tryz.func47 rfl tabOk rfl rfl rfl rfl (by simp [SV.nms,SV.nm]) fun w_ M_ π_ G0_=>?_
 refine roA (a1 ?_)
 refine Fin_ja () ?_
 conv=>whnf
 exact ⟨rfl,rfl,rfl⟩⟩
instance inVlo3_6 : AR 47 2 := ⟨trivial⟩
namespace Loc
theorem bounds_no {t g s r : Int} (h : vBounds ⟨t, g, s, r⟩ = false) : ¬(0 ≤ t ∧ t ≤ 8 ∧ 0 ≤ g ∧ g ≤ 16 ∧ 0 ≤ s ∧ s ≤ 8 ∧ 1 ≤ r ∧ r ≤ 32) := fun hc => by
 have : vBounds ⟨t,g,s,r⟩ = true:=by unfold vBounds between;simp;omega
 rw [h] at this
 cases this
end Loc
theorem locNew_no {A A' : Option Addr} {c c' : Nat} {w h t l s r : Int} {X : List Int} {S : List Box} (hp : vPlan ⟨w, h, X⟩ = true) (hn : vSetL S = false ∨ vBounds ⟨t, l, s, r⟩ = false) : CFc 37 false [.a [I w, I h, .fz A c 1 (fl ye X)], .fz A' c' 6 (fl Box.e S), .a [I t, I l, I s, I r]] (X.length ≤ 1000000000 ∧ S.length ≤ 1000000000) (.t [.v (.pointer none), I 1]) [] := ⟨fun ⟨h4, h5⟩ => by
 rcases hn with hn|hn
 ·refine CM.of Tryz.func37 rfl tabOk rfl rfl rfl rfl (by simp [SV.nms,SV.nm]) fun w_ M_ π_ G0_=>?_
  exact ru
 ·have hb':=bounds_no hn
  refine CM.of Tryz.func37 rfl tabOk rfl rfl rfl rfl (by simp [SV.nms,SV.nm]) fun w_ M_ π_ G0_=>?_
  exact ru⟩
end Go.Proofs.YtkflmidichikjaaGreatDoor.V
end
section
namespace Go.Proofs.YtkflmidichikjaaGreatDoor.V
open Go.RowKit
set_option maxRecDepth 100000
set_option maxHeartbeats 8000000
namespace Wire
def uintN : Nat → Int → List Int
 | 0,n=>[n]
 | f + 1,n=>if n ≥ 128 then bits .or .u8 (n % 256) 128 :: uintN f (n / 128) else [n]
def uintB (n : Int) : List Int := uintN 9 n
def intB (n : Int) : List Int := uintB (bits .xor .u64 ((n % 18446744073709551616 * 2) % 18446744073709551616) (n / 9223372036854775808 % 18446744073709551616))
def crc1 (s : Int) : Int := bits .xor .u32 (s / 2) (bits .and .u32 3988292384 ((0 - bits .and .u32 s 1) % 4294967296))
def crc8 (s b : Int) : Int := crc1 (crc1 (crc1 (crc1 (crc1 (crc1 (crc1 (crc1 (bits .xor .u32 s (b % 4294967296)))))))))
def sumB (X : List Int) : Int := bits .xor .u32 4294967295 (X.foldl crc8 4294967295)
theorem uint_len : ∀ (f : Nat) (n : Int), (uintN f n).length ≤ f + 1
 | 0,n=>by simp [uintN]
 | f + 1,n=>by
   unfold uintN
   have:=uint_len f (n / 128)
   split<;>simp<;>omega
end Wire
open Wire
theorem foldl_take {α β : Type} [Inhabited α] {f : β → α → β} {b : β} {L : List α} {i : Nat} (h : i < L.length) : (L.take (i + 1)).foldl f b = f ((L.take i).foldl f b) (gt L i) := by
 rw [List.take_succ,List.foldl_append]
 simp [gt,List.getElem?_eq_getElem h]
instance inVw_1 {n : Int} : CFc 175 false [.v (.int .u64 n)] (Hold (0 ≤ n ∧ n < 18446744073709551616)) (.sl 0 0 0 (uintB n).length 1) [.row false 5 1 (fl ye (uintB n))] := ⟨fun ⟨hp⟩ => by
 unfold uintB
 refine CM.of Tryz.func175 rfl tabOk rfl rfl rfl rfl (by simp [SV.nms,SV.nm]) fun w_ M_ π_ G0_=>?_
 refine runA (a1 ?_)
 refine LoopX_nil 3 5 1 rfl ?_
 conv=>whnf
 generalize hR : uintN 9 n=R
 refine LoopX_c tabOk [0] (fun s : Nat × Int × Nat × List Int=>(0≤s.2.1∧s.2.1 < 128 ^ (s.1 + 1))∧s.2.2.1=s.2.2.2.length∧s.2.2.2.length + s.1≤9∧s.2.2.2 ++ uintN s.1 s.2.1=R) (fun s=>[(0,.v (.int .u64 s.2.1)),(3,.sl 0 0 0 s.2.2.1 1)]) (fun s=>[(0,.row false 5 1 (fl ye s.2.2.2))]) (fun s=>s.1) (9,n,0,[]) ⟨by simp only;omega,rfl,by simp,by simpa using hR⟩ ⟨rfl,rfl,trivial⟩ ⟨rfl,trivial⟩ ?_
 conv=>whnf
 rintro ⟨f,m,k,L⟩ ⟨h1,h2,h3,h4⟩
 simp only at h1 h2 h3 h4
 subst h2
 clear hR
 by_cases hm : m ≥ 128
 ·obtain ⟨g,rfl⟩ : ∃ g,f=g + 1:=by
   cases f with
   | zero=>simp at h1;omega
   | succ g=>exact ⟨g,rfl⟩
  have hq : m / 128 < 128 ^ (g + 1):=by
   have : m < 128 ^ (g + 1) * 128:=by rw [← Int.pow_succ];exact h1.2
   omega
  have h0:=h1.1
  clear h1
  refine runA (a1 ?_)
  intros
  exact rnd (g,m / 128,L.length + 1,L ++ [bits .or .u8 (m % 256) 128]) ⟨by simp only;omega,by simp,by simp;omega,by simp only;rw [uintN,if_pos hm] at h4;simpa using h4⟩ (by simp only;omega)
 ·have e : uintN f m=[m]:=by cases f<;>simp [uintN];omega
  rw [e] at h4
  subst h4
  have h0:=h1.1
  have em : m % 256=m:=by omega
  clear h1
  exact run⟩
theorem uintB_len {n : Int} : (uintB n).length ≤ 10 := uint_len 9 n
attribute [irreducible] uintB
instance inVw_2 {n : Int} : CFc 174 false [I n] True (.sl 0 0 0 (intB n).length 1) [.row false 5 1 (fl ye (intB n))] := ⟨fun hp => by
 unfold intB
 have h1 : Hold (0≤bits .xor .u64 ((n % 18446744073709551616 * 2) % 18446744073709551616) (n / 9223372036854775808 % 18446744073709551616)∧bits .xor .u64 ((n % 18446744073709551616 * 2) % 18446744073709551616) (n / 9223372036854775808 % 18446744073709551616) < 18446744073709551616):=by
  constructor
  unfold bits IntKind.wrap
  simp [IntKind.bits,IntKind.signed]
  omega
 refine CM.of Tryz.func174 rfl tabOk rfl rfl rfl rfl (by simp [SV.nms,SV.nm]) fun w_ M_ π_ G0_=>?_
 exact run⟩
instance inVw_3 {A : Option Addr} {c : Nat} {X : List Int} : CFc 173 false [.fz A c 1 (fl ye X)] (X.length ≤ 1000000000) (.sl 0 0 0 ((uintB X.length).length + X.length) 1) [.row false 5 1 (fl ye (uintB X.length ++ X))] := ⟨fun hp => by
 have h1:=uintB_len (n:=(X.length : Int))
 have h2 : Hold (0≤((fl ye X).length : Int) % 18446744073709551616∧((fl ye X).length : Int) % 18446744073709551616 < 18446744073709551616):=⟨by omega⟩
 have h3 : ((fl ye X).length : Int) % 18446744073709551616=X.length:=by rw [fl_len];omega
 rw [← h3] at h1 ⊢
 refine CM.of Tryz.func173 rfl tabOk rfl rfl rfl rfl (by simp [SV.nms,SV.nm]) fun w_ M_ π_ G0_=>?_
 exact run⟩
instance inVw_4 {A : Option Addr} {c : Nat} {X : List Int} : CFc 176 false [.fz A c 1 (fl ye X)] (X.length ≤ 1000000000) (.v (.int .u32 (sumB X))) [] := ⟨fun hp => by
 unfold sumB
 refine CM.of Tryz.func176 rfl tabOk rfl rfl rfl rfl (by simp [SV.nms,SV.nm]) fun w_ M_ π_ G0_=>?_
 refine runA (a1 ?_)
 refine LoopX_keep [3,6,7,8] ?_
 conv=>whnf
 refine LoopX_c tabOk [] (fun s : Nat × Int=>s.1≤X.length∧s.2=(X.take s.1).foldl crc8 4294967295) (fun s=>[(3,.v (.int .u32 s.2)),(8,I s.1)]) (fun _=>[]) (fun s=>X.length - s.1) (0,4294967295) ⟨by simp,rfl⟩ ⟨rfl,rfl,trivial⟩ trivial ?_
 conv=>whnf
 rintro ⟨i,s⟩ ⟨h1,h2⟩
 simp only at h1 h2
 by_cases hi : i < X.length
 ·have hs : crc8 s (gt X (i : Int).toNat)=(X.take (i + 1)).foldl crc8 4294967295:=by rw [foldl_take hi,← h2];rfl
  clear h2
  refine runA (a1 ?_)
  intro _
  refine LoopX_r tabOk 9 ?_
  refine runA (a1 ?_)
  exact rnd (i + 1,crc8 s (gt X (i : Int).toNat)) ⟨by simp only;omega,hs⟩ (by simp only;omega)
 ·obtain rfl : i=X.length:=by omega
  rw [List.take_length] at h2
  subst h2
  exact run⟩
theorem sumB_bnd {X : List Int} : 0 ≤ sumB X ∧ sumB X < 4294967296 := by
 unfold sumB bits IntKind.wrap
 simp [IntKind.bits,IntKind.signed]
 omega
attribute [irreducible] sumB
namespace Wire
def checkedB (X : List Int) : List Int := X ++ [sumB X % 256] ++ [sumB X / 256 % 256] ++ [sumB X / 256 / 256 % 256] ++ [sumB X / 256 / 256 / 256]
def frameB (k : Int) (X : List Int) : List Int × Int := if X.length > 4096 then ([], 6) else (checkedB ([k] ++ (uintB X.length ++ X)), 0)
end Wire
instance inVw_5 : CMp 116 (List Int × Nat) true (fun (X, n) => [.sl 0 0 0 n 1]) (fun (X, n) => [.row false 5 1 (fl ye X)]) (fun (X, n) => n = X.length ∧ n ≤ 1000000000) (fun (X, n) => .sl 1 0 0 (n + 1 + 1 + 1 + 1) 1) (fun (X, n) => [dead, .row false 5 1 (fl ye (checkedB X))]) := ⟨fun ⟨X, n⟩ hp => by
 obtain ⟨rfl,hp⟩:=hp
 unfold checkedB
 have h1:=sumB_bnd (X:=X)
 refine CM.of Tryz.func116 rfl tabOk rfl rfl rfl rfl (by simp [SV.nms,SV.nm]) fun w_ M_ π_ G0_=>?_
 refine runA (a1 ?_)
 refine LoopX_r tabOk 5 ?_
 refine runA (a1 ?_)
 refine Fin_ja () ?_
 conv=>whnf
 refine ⟨rfl,?_,rfl⟩
 simp [nthL,nth,rnOs,OB.rnB,dead,List.take_of_length_le]⟩
instance inVw_6 : AQ 116 2 := ⟨trivial⟩
theorem checkedB_len {X : List Int} : (checkedB X).length = X.length + 4 := by simp [checkedB]
attribute [irreducible] Wire.checkedB
instance inVw_7 {A : Option Addr} {c : Nat} {X : List Int} {k : Int} : CFc 109 false [Y k, .fz A c 1 (fl ye X)] (X.length ≤ 1000000000) (.t [.sl 0 0 0 (frameB k X).1.length 1, I (frameB k X).2]) [.row false 5 1 (fl ye (frameB k X).1)] := ⟨fun hp => by
 unfold frameB
 have h1:=uintB_len (n:=(X.length : Int))
 refine CM.of Tryz.func109 rfl tabOk rfl rfl rfl rfl (by simp [SV.nms,SV.nm]) fun w_ M_ π_ G0_=>?_
 refine runA (a2 ?_ ?_)
 ·intro hx
  rw [if_neg (by omega)]
  simp [SV.ren,SV.rens,checkedB_len]
  omega
 ·intro hx
  rw [if_neg (by omega)]
  simp [nthL,nth,rnOs,OB.rnB,List.take_of_length_le]⟩
attribute [irreducible] Wire.frameB
end Go.Proofs.YtkflmidichikjaaGreatDoor.V
end
section
namespace Go.Proofs.YtkflmidichikjaaGreatDoor.V
open Go.RowKit
set_option maxRecDepth 100000
set_option maxHeartbeats 16000000
open Heading BoxP Drive PlanP Known Contr Loc
section
variable {C : Ctx} {ob : List OB}
theorem Fin_nilB {R : Ending → World → Prop} {x : SV} (j i e sz : Nat) {ty : TypeId} {cs : List SV} (hj : nth ob j = some (.box ty cs)) (hi : nth cs i = some (.v (.slice none 0 0)))
 (h : lenK lits ob (fun m=>force (setN (ob ++ [.row false e sz []]) j (.box ty (setN cs i (.sl m 0 0 0 sz)))) fun ob'=>Fin C R x ob') False) : Fin C R x ob:=by
 have h:=lenK_spec h
 rw [force_eq] at h
 unfold Fin at *
 intro σ G fp w hm hw
 obtain ⟨σ',fp',h1,h2,h3⟩:=hm.nilRow e sz
 rw [nth_eq] at hj hi
 have hjl:=(List.getElem?_eq_some_iff.1 hj).1
 have hs : simOs σ' ⟨G,(ob ++ [OB.row false e sz []]).length⟩ (ob ++ [.row false e sz []]) (setN (ob ++ [.row false e sz []]) j (.box ty (setN cs i (.sl ob.length 0 0 0 sz)))):=by
  rw [setN_eq]
  refine simOs_set fun o ho=>?_
  rw [List.getElem?_append_left hjl,hj] at ho
  cases ho
  have hv : (SV.sl ob.length 0 0 0 sz).val σ' = .slice none 0 0:=val_new (A:=none) (c:=0) (by simp) h3
  rw [setN_eq]
  refine ⟨rfl,?_,fun hw=>?_⟩
  ·apply List.ext_getElem?
   intro q
   rw [vals_get,vals_get,List.getElem?_set]
   split
   ·rename_i hq
    subst hq
    rw [hi]
    simp only [(List.getElem?_eq_some_iff.1 hi).1,if_true,Option.map_some,hv]
    rfl
   ·rfl
  ·refine wfs_of fun q x hq=>?_
   rw [List.getElem?_set] at hq
   split at hq
   ·split at hq
    ·cases hq;simp [SV.wf]
    ·cases hq
   ·exact wfs_get hw hq
 have hm2:=h1.sim hs
 have e1:=SV.val_ext (E:=⟨G,ob.length⟩) (σ:=σ) (σ':=σ') h2 x hw
 rw [← e1]
 refine h σ' G fp' w hm2 ?_
 have e2 : (setN (ob ++ [OB.row false e sz []]) j (.box ty (setN cs i (.sl ob.length 0 0 0 sz)))).length=ob.length + 1:=by rw [setN_eq];simp
 rw [e2]
 exact SV.wf_mono (Ev.grow (Fz.refl _) (Nat.le_succ _)) x hw
end
section
variable {A : Option Addr} {cc : Nat} {s : List Beam} {a b : Int}
instance inVj_1 : CFc 172 false [.a [I a, I b]] True (B (!vBeam ⟨a, b⟩)) [] := ⟨fun hp => by
 unfold vBeam between
 simp only
 by_cases h : b≤1024
 ·have hd : ¬1024 < b:=by omega
  refine CM.of Tryz.func172 rfl tabOk rfl rfl rfl rfl (by simp [SV.nms,SV.nm]) fun w_ M_ π_ G0_=>?_
  exact ru
 ·refine CM.of Tryz.func172 rfl tabOk rfl rfl rfl rfl (by simp [SV.nms,SV.nm]) fun w_ M_ π_ G0_=>?_
  exact ru⟩
instance inVj_2 : CFc 107 false [.fz A cc 2 (fl Beam.e s)] (s.length ≤ 1000000000) (B (Contr.vScan s)) [] := ⟨fun hp => by
 have e : Contr.vScan s=(decide ((s.length : Int)≤32) && !s.any fun b=>!vBeam b):=by
  rw [Bool.eq_iff_iff,vScan_iff]
  simp
  exact ⟨fun h=>⟨by omega,h.1⟩,fun h=>⟨h.2,by omega⟩⟩
 rw [e]
 clear e
 refine CM.of Tryz.func107 rfl tabOk rfl rfl rfl rfl (by simp [SV.nms,SV.nm]) fun w_ M_ π_ G0_=>?_
 exact ru⟩
end
end Go.Proofs.YtkflmidichikjaaGreatDoor.V
end
section
namespace Go.Proofs.YtkflmidichikjaaGreatDoor.V
open Go.RowKit
set_option maxRecDepth 100000
set_option maxHeartbeats 16000000
open Heading BoxP Drive PlanP Known Contr Loc
namespace Jou
structure Evt where
 (tick turn fwd : Int) (bump : Bool) (scan : List Beam)
 deriving Inhabited
abbrev Evt.e (x : Evt) : List DV := [.v (.int .i64 x.tick), .v (.int .i64 x.turn), .v (.int .i64 x.fwd), .v (.bool x.bump), .fz 2 (fl Beam.e x.scan)]
abbrev jourO (b : List Int) (L : List Evt) : List OB := [.box 143 [.sl 1 0 0 b.length 1, .sl 2 0 0 L.length 5], .row false 5 1 (fl ye b), .row false 57 5 (flD Evt.e L)]
def lastE (L : List Evt) : Int := if L.length = 0 then 0 else (gt L (L.length - 1)).tick
end Jou
open Jou
instance inVj2_1 : CMe 108 (List Int × List Evt) true (fun _ => [.p 0 0]) (fun (b, L) => jourO b L) (fun (_, L) => L.length ≤ 1000000000) Unit (fun (_, L) _ => I (lastE L)) (fun (b, L) _ => jourO b L) := ⟨fun (b, L) p1 => by
 dsimp only [jourO] at *
 unfold lastE
 by_cases h0 : L.length=0
 ·rw [if_pos h0]
  refine CM.of Tryz.func108 rfl tabOk rfl rfl rfl rfl (by simp [SV.nms,SV.nm]) fun w_ M_ π_ G0_=>?_
  refine roA (a1 ?_)
  all_goals intros
  refine Fin_ja () ?_
  conv=>whnf
  exact ⟨rfl,rfl,rfl⟩
 ·rw [if_neg h0]
  refine CM.of Tryz.func108 rfl tabOk rfl rfl rfl rfl (by simp [SV.nms,SV.nm]) fun w_ M_ π_ G0_=>?_
  refine roA (a1 ?_)
  all_goals intros
  rw [show ((L.length : Int) - 1).toNat + 0=L.length - 1 by omega]
  refine Fin_ja () ?_
  conv=>whnf
  exact ⟨rfl,rfl,rfl⟩⟩
instance inVj2_2 : AR 108 2 := ⟨trivial⟩
instance inVj2_3 : CMe 49 (List Int × List Evt) true (fun _ => [.p 0 0]) (fun (b, L) => jourO b L) (fun (b, _) => b.length ≤ 1000000000) Unit (fun (b, _) _ => .sl 3 0 0 b.length 1) (fun (b, L) _ => [.box 143 [.sl 1 0 0 b.length 1, .sl 2 0 0 L.length 5], .row false 5 1 (fl ye b), .row false 57 5 (flD Evt.e L), .row false 5 1 (fl ye b)]) := ⟨fun (b, L) p1 => by
 dsimp only [jourO] at *
 refine CM.of Tryz.func49 rfl tabOk rfl rfl rfl rfl (by simp [SV.nms,SV.nm]) fun w_ M_ π_ G0_=>?_
 refine roA (a1 ?_)
 all_goals intros
 refine Fin_ja () ?_
 conv=>whnf
 exact ⟨rfl,rfl,rfl⟩⟩
instance inVj2_4 : AR 49 2 := ⟨trivial⟩
end Go.Proofs.YtkflmidichikjaaGreatDoor.V
end
