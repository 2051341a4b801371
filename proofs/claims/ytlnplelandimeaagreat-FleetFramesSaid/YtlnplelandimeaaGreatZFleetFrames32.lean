import Derived.Test.YtlnplelandimeaaGreatZFleetFrames31
import Derived.Test.YtlnplelandimeaaGreatZFleetFrames12
import Derived.Test.YtlnplelandimeaaGreatZFleetFrames08
set_option linter.all false
section
namespace Go.Proofs.YtlnplelandimeaaGreat.En
open Go.RowKit
set_option maxRecDepth 100000
theorem nMap34_x : PureX Tryz.prog 20 [nilP] nilS := by
  refine PureX.of Tryz.func20 rfl tabOk rfl rfl rfl (by simp [SV.wfs, SV.wf]) (by simp [SV.wfs, SV.wf]) fun w => ?_
  (conv=>whnf);repeat' (first|with_reducible exact rfl|((with_reducible first|refine xif_kt (by assumption) ?_|refine xif_kf (by assumption) ?_);conv=>whnf)|((with_reducible refine xif_s ?_ ?_)<;>(intro hb;(try simp (disch:=omega) only [hbS] at hb)<;>conv=>whnf)))
  exact Fin_pure rfl rfl trivial
theorem nClone34_x : PureX Tryz.prog 32 [nilP] nilP := by
  refine PureX.of Tryz.func32 rfl tabOk rfl rfl rfl (by simp [SV.wfs, SV.wf]) (by simp [SV.wfs, SV.wf]) fun w => ?_
  (conv=>whnf);repeat' (first|((with_reducible refine isW ?_;first|refine xwr_ok (by omega) (by omega) ?_|refine xwr_raw ?_);conv=>whnf)|((first|refine DrawX_s tabOk folOk ?_|refine DrawS_i (by kernel_rfl) ?_|with_reducible refine andX_i ?_ ?_)<;>conv=>whnf)|with_reducible exact rfl|((with_reducible first|refine xif_kt (by assumption) ?_|refine xif_kf (by assumption) ?_);conv=>whnf)|((with_reducible refine xif_s ?_ ?_)<;>(intro hb;(try simp (disch:=omega) only [hbS] at hb)<;>conv=>whnf)))
  exact Fin_pure rfl rfl trivial
def aw1 : SnT := takeS (sn0 2) (3, 1, 1, 2, 0)
def aw2 : SnT := takeS aw1 (1, 3, 2, 5, 5)
def aw3 : SnT := { aw2 with ats := updN aw2.ats 2 (putA (aw2.ats 2) 0 [(0, 100)]) }
def aw4 : SnT := { aw3 with ats := updN aw3.ats 2 (plcA (aw3.ats 2) 0 (1, false, 32, 32, 0)) }
def aw5 : SnT := takeS aw4 (5, 2, 0, 1, 0)
theorem aw_pairs : pairs aw4 = [(1, 3, 3, 0, 2)] := by decide +kernel
theorem aw_of3 : (ofE (32, 32, 0) [(0, 100)]).1 = [(0, 0, 0, 1), (1, 0, 0, 1), (2, 0, 1, 0)] := (ofE_of (at_ := (32, 32, 0)) (s := [(0, 100)]) (ys := [(0, 0, 0, 1), (1, 0, 0, 1), (2, 0, 1, 0)]) (by
  unfold IsOf
  rw [if_pos (by decide +kernel)]
  exact ⟨by decide +kernel, by unfold asc; decide +kernel⟩)).symm
theorem comb_lnil {a : List EntT} (ha : vE a = true) : combE 1 [] a = (a, 0) := by rw [comb_sym, comb_nil ha]
theorem aw_map : mapA (aw4.ats 2) = [(0, 0, 0, 1), (1, 0, 0, 1), (2, 0, 1, 0)] := by
  have hi : idsF (hasA (aw4.ats 2)) 64 = [0] := by decide +kernel
  unfold mapA
  rw [hi]
  show (combE 1 [] (partA (aw4.ats 2) 0)).1 = _
  have hp : partA (aw4.ats 2) 0 = (ofE (32, 32, 0) [(0, 100)]).1 := rfl
  rw [hp, aw_of3, comb_lnil (by decide +kernel)]
theorem aw_none : mapA at0 = [] := by decide +kernel
theorem aw_bt : ((List.range 8).map fun k : Nat => btF [(1, 3, 3, 0, 2)] 2 k) = [none, none, some (0, 0, 0), none, none, none, none, none] := by decide +kernel
theorem aw_bt5 : ((List.range 8).map fun k : Nat => btF [(1, 3, 3, 0, 2)] 5 k) = [none, none, none, none, none, some (0, 0, 0), none, none] := by decide +kernel
theorem aw_bt6 : ((List.range 8).map fun k : Nat => btF [(1, 3, 3, 0, 2), (2, 5, 0, -1, 0)] 5 k) = [none, none, some (0, 1, 0), none, none, some (0, 0, 0), none, none] := by decide +kernel
theorem aw_fr4 : framesS aw4 = [(1, 3, 3, 0, 2)] := by decide +kernel
theorem aw_fr5 : framesS aw5 = [(1, 3, 3, 0, 2), (2, 5, 0, -1, 0)] := by decide +kernel
theorem aw_at {rs : List RelT} {n : Int} {L : List (Option Fr)} (h : ((List.range 8).map fun k : Nat => btF rs n k) = L) (k : Nat) (hk : k < 8) : btF rs n k = L.getD k none := by
  rw [← h]
  simp [hk]
theorem aw_out0 : outL (0, 0, 0) [] = [] := outL_eq (by
  unfold IsOut
  rw [if_pos (by decide +kernel)]
  exact ⟨List.Perm.refl _, List.Pairwise.nil⟩)
theorem aw_out1 : outL (0, 0, 0) [(0, 0, 0, 1), (1, 0, 0, 1), (2, 0, 1, 0)] = [(0, 0, 0, 1), (1, 0, 0, 1), (2, 0, 1, 0)] := outL_eq (by
  unfold IsOut
  rw [if_pos (by decide +kernel)]
  refine ⟨?_, by unfold asc; decide +kernel⟩
  rw [show ([(0, 0, 0, 1), (1, 0, 0, 1), (2, 0, 1, 0)] : List EntT).map (imgE (0, 0, 0)) = [(0, 0, 0, 1), (1, 0, 0, 1), (2, 0, 1, 0)] by decide +kernel])
theorem aw_out2 : outL (0, 1, 0) [(0, 0, 0, 1), (1, 0, 0, 1), (2, 0, 1, 0)] = [(1, 0, 0, 1), (2, 0, 0, 1), (3, 0, 1, 0)] := outL_eq (by
  unfold IsOut
  rw [if_pos (by decide +kernel)]
  refine ⟨?_, by unfold asc; decide +kernel⟩
  rw [show ([(0, 0, 0, 1), (1, 0, 0, 1), (2, 0, 1, 0)] : List EntT).map (imgE (0, 1, 0)) = [(1, 0, 0, 1), (2, 0, 0, 1), (3, 0, 1, 0)] by decide +kernel])
theorem aw_ats4 (k : Nat) (h : k ≠ 2) : aw4.ats k = at0 := by
  unfold aw4 aw3 aw2 aw1 updN takeS setR sn0
  dsimp only
  rw [if_neg h, if_neg h]
theorem aw_view4 : viewS aw4 2 = [(0, 0, 0, 1), (1, 0, 0, 1), (2, 0, 1, 0)] := by
  have b := aw_at aw_bt
  unfold viewS
  simp only [viewK, aw_fr4]
  rw [b 0 (by decide), b 1 (by decide), b 2 (by decide), b 3 (by decide), b 4 (by decide), b 5 (by decide), b 6 (by decide), b 7 (by decide)]
  simp only [List.getD_cons_zero, List.getD_cons_succ]
  rw [aw_map, aw_out1, comb_lnil (by decide +kernel)]
theorem aw_view5 : viewS aw4 5 = [] := by
  have b := aw_at aw_bt5
  unfold viewS
  simp only [viewK, aw_fr4]
  rw [b 0 (by decide), b 1 (by decide), b 2 (by decide), b 3 (by decide), b 4 (by decide), b 5 (by decide), b 6 (by decide), b 7 (by decide)]
  simp only [List.getD_cons_zero, List.getD_cons_succ]
  rw [aw_ats4 5 (by decide), aw_none, aw_out0, comb_nil (by decide +kernel)]
theorem aw_view6 : viewS aw5 5 = [(1, 0, 0, 1), (2, 0, 0, 1), (3, 0, 1, 0)] := by
  have b := aw_at aw_bt6
  unfold viewS
  simp only [viewK, aw_fr5]
  rw [b 0 (by decide), b 1 (by decide), b 2 (by decide), b 3 (by decide), b 4 (by decide), b 5 (by decide), b 6 (by decide), b 7 (by decide)]
  simp only [List.getD_cons_zero, List.getD_cons_succ]
  rw [show aw5.ats 5 = at0 from aw_ats4 5 (by decide), show aw5.ats 2 = aw4.ats 2 from rfl, aw_map, aw_none, aw_out0, aw_out2, comb_lnil (by decide +kernel)]
  dsimp only
  rw [comb_nil (by decide +kernel)]
theorem aw_ids34 : idsF (hasA (aw5.ats 2)) 64 = [0] := by decide +kernel
end Go.Proofs.YtlnplelandimeaaGreat.En
end
section
namespace Go.Proofs.YtlnplelandimeaaGreat.En
open Go.RowKit
set_option maxRecDepth 100000
theorem relate_ok (b : Nat) (c : CoT) (S : SnT) (x : RelT) (hx : addOk x = true) : CallM Tryz.prog 41 [pR b, relX x] (fun _ _ => True) [stO b c S allT] (fun _ : Nat → Nat → Nat => I 0) (fun rp => [stO b { c with rp := rp } (takeS S x) allT]) := by
  have h := relate_m b c S x
  rw [hx] at h
  exact h
set_option maxHeartbeats 8000000 in
theorem awake34_x : PureX Tryz.prog 11 [] (B true) := by
  refine PureX.of Tryz.func11 rfl tabOk rfl rfl rfl (by simp [SV.wfs, SV.wf]) (by simp [SV.wfs, SV.wf]) fun w => ?_
  (conv=>whnf);repeat' (first|((with_reducible refine isC ?_);first|(((with_reducible refine isF 40 ?_);((refine CallX_m (fNew_m 2 (by decide)) [] rfl trivial (by decide) (fun _ _ _ _ => trivial) ?_; rintro ⟨b, c⟩; dsimp only)));conv=>whnf)|((first|with_reducible refine CallX_pure (nMap34_x) ?_|with_reducible refine CallX_pure (nClone34_x) ?_)<;>first|omega|with_reducible refine isP ?_|conv=>whnf))|((with_reducible refine isO ?_);first|((first|(refine OpX_build0 tabOk rfl rfl rfl ?_);intro bN|(refine OpX_build tabOk rfl rfl rfl rfl rfl ?_);intro bN);conv=>whnf))|with_reducible exact rfl|((with_reducible first|refine xif_kt (by assumption) ?_|refine xif_kf (by assumption) ?_);conv=>whnf)|((with_reducible refine xif_s ?_ ?_)<;>(intro hb;(try simp (disch:=omega) only [hbS] at hb)<;>conv=>whnf)))
  refine CallX_m (relate_ok b c (sn0 2) (3, 1, 1, 2, 0) (by decide)) [0] rfl ⟨fun _ _ h => h, trivial⟩ (by decide) (fun _ _ _ _ => trivial) ?_
  intro rp1
  (conv=>whnf);repeat' (first|((with_reducible refine isO ?_);first|((first|(refine OpX_build0 tabOk rfl rfl rfl ?_);intro bN|(refine OpX_build tabOk rfl rfl rfl rfl rfl ?_);intro bN);conv=>whnf))|with_reducible exact rfl|((with_reducible first|refine xif_kt (by assumption) ?_|refine xif_kf (by assumption) ?_);conv=>whnf)|((with_reducible refine xif_s ?_ ?_)<;>(intro hb;(try simp (disch:=omega) only [hbS] at hb)<;>conv=>whnf)))
  refine CallX_m (relate_ok b { c with rp := rp1 } aw1 (1, 3, 2, 5, 5) (by decide)) [0] rfl ⟨fun _ _ h => h, trivial⟩ (by decide) (fun _ _ _ _ => trivial) ?_
  intro rp2
  (conv=>whnf);repeat' (first|((with_reducible refine isO ?_);first|((first|(refine OpX_build0 tabOk rfl rfl rfl ?_);intro bN|(refine OpX_build tabOk rfl rfl rfl rfl rfl ?_);intro bN);conv=>whnf))|with_reducible exact rfl|((with_reducible first|refine xif_kt (by assumption) ?_|refine xif_kf (by assumption) ?_);conv=>whnf)|((with_reducible refine xif_s ?_ ?_)<;>(intro hb;(try simp (disch:=omega) only [hbS] at hb)<;>conv=>whnf)))
  refine CallX_m (fPut_m b { c with rp := rp2 } aw2 2 (by decide) rfl 0 _ _ [(0, 100)] rfl (by decide)) [0] rfl ⟨fun _ _ h => h, trivial⟩ (by decide) (ArgN.row 1 rfl (m := 1) (r := [0]) (fun j hj => by rcases (by omega : j = 0) with rfl; simp)) ?_
  intro u1
  rw [show putC 0 [(0, 100)] = 0 by decide]
  (conv=>whnf);repeat' (first|((with_reducible refine isO ?_);first|((first|(refine OpX_build0 tabOk rfl rfl rfl ?_);intro bN|(refine OpX_build tabOk rfl rfl rfl rfl rfl ?_);intro bN);conv=>whnf))|with_reducible exact rfl|((with_reducible first|refine xif_kt (by assumption) ?_|refine xif_kf (by assumption) ?_);conv=>whnf)|((with_reducible refine xif_s ?_ ?_)<;>(intro hb;(try simp (disch:=omega) only [hbS] at hb)<;>conv=>whnf)))
  refine CallX_m (fPlace_m b { c with rp := rp2 } aw3 2 (by decide) rfl 0 (1, false, 32, 32, 0)) [0] rfl ⟨fun _ _ h => h, trivial⟩ (by decide) (fun _ _ _ _ => trivial) ?_
  intro u2
  rw [show plcC 0 (1, false, 32, 32, 0) = 0 by decide]
  have kr := relations_m b { c with rp := rp2 } aw4 allT
  rw [aw_pairs] at kr
  (conv=>whnf);repeat' (first|((with_reducible refine isO ?_);first|((first|(refine OpX_build0 tabOk rfl rfl rfl ?_);intro bN|(refine OpX_build tabOk rfl rfl rfl rfl rfl ?_);intro bN);conv=>whnf))|with_reducible exact rfl|((with_reducible first|refine xif_kt (by assumption) ?_|refine xif_kf (by assumption) ?_);conv=>whnf)|((with_reducible refine xif_s ?_ ?_)<;>(intro hb;(try simp (disch:=omega) only [hbS] at hb)<;>conv=>whnf)))
  refine CallX_m kr [0] rfl ⟨fun _ _ h => h, trivial⟩ (by decide) (fun _ _ _ _ => trivial) ?_
  rintro ⟨A1, d1⟩
  have km := map34_m b { c with rp := rp2 } aw4 2 rfl (by decide)
  rw [aw_view4] at km
  (conv=>whnf);repeat' (first|((with_reducible refine isO ?_);first|((first|(refine OpX_build0 tabOk rfl rfl rfl ?_);intro bN|(refine OpX_build tabOk rfl rfl rfl rfl rfl ?_);intro bN);conv=>whnf))|with_reducible exact rfl|((with_reducible first|refine xif_kt (by assumption) ?_|refine xif_kf (by assumption) ?_);conv=>whnf)|((with_reducible refine xif_s ?_ ?_)<;>(intro hb;(try simp (disch:=omega) only [hbS] at hb)<;>conv=>whnf)))
  refine CallX_m km [0] rfl ⟨fun _ _ h => h, trivial⟩ (by decide) (fun _ _ _ _ => trivial) ?_
  rintro ⟨A2, d2⟩
  have kv := view_m b { c with rp := rp2 } aw4 5 (by decide)
  rw [aw_view5] at kv
  (conv=>whnf);repeat' (first|((with_reducible refine isO ?_);first|((first|(refine OpX_build0 tabOk rfl rfl rfl ?_);intro bN|(refine OpX_build tabOk rfl rfl rfl rfl rfl ?_);intro bN);conv=>whnf))|with_reducible exact rfl|((with_reducible first|refine xif_kt (by assumption) ?_|refine xif_kf (by assumption) ?_);conv=>whnf)|((with_reducible refine xif_s ?_ ?_)<;>(intro hb;(try simp (disch:=omega) only [hbS] at hb)<;>conv=>whnf)))
  refine CallX_m kv [0] rfl ⟨fun _ _ h => h, trivial⟩ (by decide) (fun _ _ _ _ => trivial) ?_
  rintro ⟨A3, d3⟩
  (conv=>whnf);repeat' (first|((with_reducible refine isO ?_);first|((first|(refine OpX_build0 tabOk rfl rfl rfl ?_);intro bN|(refine OpX_build tabOk rfl rfl rfl rfl rfl ?_);intro bN);conv=>whnf))|with_reducible exact rfl|((with_reducible first|refine xif_kt (by assumption) ?_|refine xif_kf (by assumption) ?_);conv=>whnf)|((with_reducible refine xif_s ?_ ?_)<;>(intro hb;(try simp (disch:=omega) only [hbS] at hb)<;>conv=>whnf)))
  refine CallX_m (relate_ok b { c with rp := rp2 } aw4 (5, 2, 0, 1, 0) (by decide)) [0] rfl ⟨fun _ _ h => h, trivial⟩ (by decide) (fun _ _ _ _ => trivial) ?_
  intro rp3
  have kw := view_m b { c with rp := rp3 } aw5 5 (by decide)
  rw [aw_view6] at kw
  (conv=>whnf);repeat' (first|((with_reducible refine isO ?_);first|((first|(refine OpX_build0 tabOk rfl rfl rfl ?_);intro bN|(refine OpX_build tabOk rfl rfl rfl rfl rfl ?_);intro bN);conv=>whnf))|with_reducible exact rfl|((with_reducible first|refine xif_kt (by assumption) ?_|refine xif_kf (by assumption) ?_);conv=>whnf)|((with_reducible refine xif_s ?_ ?_)<;>(intro hb;(try simp (disch:=omega) only [hbS] at hb)<;>conv=>whnf)))
  refine CallX_m kw [0] rfl ⟨fun _ _ h => h, trivial⟩ (by decide) (fun _ _ _ _ => trivial) ?_
  rintro ⟨A4, d4⟩
  (conv=>whnf);repeat' (first|((with_reducible refine isC ?_);first|((first|(with_reducible refine isF 21 ?_);((refine CallX_m (frames_m b { c with rp := rp3 } aw5) [0] rfl ⟨fun _ _ h => h, trivial⟩ (by decide) (fun _ _ _ _ => trivial) ?_; intro rb))|(with_reducible refine isF 37 ?_);(first | (refine CallX_m (fAtlas_m b { c with rp := rp3 } aw5 2 (by decide)) [0] rfl ⟨fun _ _ h => h, trivial⟩ (by decide) (fun _ _ _ _ => trivial) ?_; rintro ⟨⟨⟨x1, x2⟩, ⟨ma, qa⟩, oka, aba⟩, ga⟩; dsimp only) | (refine CallX_m (fAtlas_bad b { c with rp := rp3 } aw5 8 (by decide)) [0] rfl ⟨fun _ _ h => h, trivial⟩ (by decide) (fun _ _ _ _ => trivial) ?_; intro u))|(with_reducible refine isF 39 ?_);((refine CallX_m (fMe_m b { c with rp := rp3 } aw5) [0] rfl ⟨fun _ _ h => h, trivial⟩ (by decide) (fun _ _ _ _ => trivial) ?_; intro u)));conv=>whnf))|((with_reducible refine isV ?_);first|((first|refine ValX_index tabOk rfl (ArgSl.row 2 rfl) rfl ?_ ?_ ?_|(with_reducible refine nat_idx ?_);refine ValX_loadEn _ _ (r0) tabOk rfl rfl rfl rfl (ArgSl.row 2 rfl) ?_ ?_ ?_|refine ValX_loadE _ _ (r0) tabOk rfl rfl rfl rfl (ArgSl.row 2 rfl) ?_ ?_ ?_|refine ValX_index tabOk rfl (ArgSl.row 3 rfl) rfl ?_ ?_ ?_|(with_reducible refine nat_idx ?_);refine ValX_loadEn _ _ (e0) tabOk rfl rfl rfl rfl (ArgSl.row 3 rfl) ?_ ?_ ?_|refine ValX_loadE _ _ (e0) tabOk rfl rfl rfl rfl (ArgSl.row 3 rfl) ?_ ?_ ?_|refine ValX_index tabOk rfl (ArgSl.row 5 rfl) rfl ?_ ?_ ?_|(with_reducible refine nat_idx ?_);refine ValX_loadEn _ _ (e0) tabOk rfl rfl rfl rfl (ArgSl.row 5 rfl) ?_ ?_ ?_|refine ValX_loadE _ _ (e0) tabOk rfl rfl rfl rfl (ArgSl.row 5 rfl) ?_ ?_ ?_)<;>first|rfl|omega|with_reducible refine isP ?_|conv=>whnf))|((with_reducible refine isO ?_);first|((first|(refine OpX_build0 tabOk rfl rfl rfl ?_);intro bN|(refine OpX_build tabOk rfl rfl rfl rfl rfl ?_);intro bN);conv=>whnf))|with_reducible exact rfl|((with_reducible first|refine xif_kt (by assumption) ?_|refine xif_kf (by assumption) ?_);conv=>whnf)|((with_reducible refine xif_s ?_ ?_)<;>(intro hb;(try simp (disch:=omega) only [hbS] at hb)<;>conv=>whnf)))
  all_goals try decide
  have ki := Ids_m x1 x2 ma qa
  rw [show idsF (hasM ma qa) 64 = [0] by rw [has_sem]; show idsF (hasA (absM (ma, qa))) 64 = [0]; rw [aba]; exact aw_ids34] at ki
  refine CallX_m ki [10, 11, 12] rfl ⟨⟨rfl, rfl, by simp [SV.wf, SV.wfs]⟩, fun _ _ h => h, fun _ _ h => h, trivial⟩ (by decide) (fun _ _ _ _ => trivial) ?_
  rintro ⟨A6, d6⟩
  (conv=>whnf);repeat' (first|((with_reducible refine isO ?_);first|((first|(refine OpX_build0 tabOk rfl rfl rfl ?_);intro bN|(refine OpX_build tabOk rfl rfl rfl rfl rfl ?_);intro bN);conv=>whnf))|with_reducible exact rfl|((with_reducible first|refine xif_kt (by assumption) ?_|refine xif_kf (by assumption) ?_);conv=>whnf)|((with_reducible refine xif_s ?_ ?_)<;>(intro hb;(try simp (disch:=omega) only [hbS] at hb)<;>conv=>whnf)))
  refine CallX_w (Ints_w A6 _ d6 _ [0] rfl (by decide)) (fun σ fp w hm => ⟨ArgSl.row 13 rfl σ fp w hm, ArgSl.row 14 rfl σ fp w hm⟩) ?_
  (conv=>whnf);repeat' (first|((with_reducible refine isO ?_);first|((first|(refine OpX_build0 tabOk rfl rfl rfl ?_);intro bN|(refine OpX_build tabOk rfl rfl rfl rfl rfl ?_);intro bN);conv=>whnf))|with_reducible exact rfl|((with_reducible first|refine xif_kt (by assumption) ?_|refine xif_kf (by assumption) ?_);conv=>whnf)|((with_reducible refine xif_s ?_ ?_)<;>(intro hb;(try simp (disch:=omega) only [hbS] at hb)<;>conv=>whnf)))
  exact Fin_pure rfl rfl trivial
end Go.Proofs.YtlnplelandimeaaGreat.En
end
section
namespace Go.Proofs.YtlnplelandimeaaGreat.En
open Go.RowKit
theorem ArgSl.of_SlO {w : World} {A : Option Addr} {n C : Nat} {V : Nat → Nat → Int} {α : Type} (enc : α → List Value) (f : Nat → α) (h : SlO w A n C V) (hC : 0 < C) (he : ∀ i, enc (f i) = (List.range C).map fun j => Value.int .i64 (V i j)) : ArgSl w A n C (((List.range n).map f).map enc) := by
  refine ⟨by simp, fun e hm => ?_, fun e hm v hv => ?_, fun hn => ?_⟩
  · obtain ⟨x, hx, rfl⟩ := List.mem_map.1 hm
    obtain ⟨i, _, rfl⟩ := List.mem_map.1 hx
    simp [he]
  · obtain ⟨x, hx, rfl⟩ := List.mem_map.1 hm
    obtain ⟨i, _, rfl⟩ := List.mem_map.1 hx
    rw [he] at hv
    obtain ⟨j, _, rfl⟩ := List.mem_map.1 hv
    rfl
  · rcases h with h | ⟨a, rfl, h⟩
    · exact (hn h).elim
    · obtain ⟨b, o, s⟩ := a
      have h0 := (h 0 (by omega) 0 hC).1
      have hs : s = none := by
        simp only [Nat.zero_mul, Addr.add, if_true] at h0
        unfold World.cell? at h0
        cases s with
        | none => rfl
        | some s =>
          exfalso
          simp only [Option.isSome_some, if_true] at h0
          revert h0
          split <;> intro h0 <;> cases h0
      subst hs
      refine ⟨b, o, rfl, fun i e hi j v hj => ?_⟩
      rw [List.getElem?_map, List.getElem?_map] at hi
      by_cases hin : i < n
      · rw [List.getElem?_range hin] at hi
        simp only [Option.map_some, Option.some.injEq] at hi
        subst hi
        rw [he, List.getElem?_map] at hj
        by_cases hjn : j < C
        · rw [List.getElem?_range hjn] at hj
          simp only [Option.map_some, Option.some.injEq] at hj
          subst hj
          have := (h i hin j hjn).1
          rw [Addr.add_mid, Addr.add_mid] at this
          exact this
        · rw [List.getElem?_eq_none (by simpa using hjn)] at hj
          cases hj
      · rw [List.getElem?_eq_none (by simpa using hin)] at hi
        cases hi
end Go.Proofs.YtlnplelandimeaaGreat.En
end
section
namespace Go.Proofs.YtlnplelandimeaaGreat.En
open Go.RowKit
set_option maxRecDepth 100000
abbrev FOp := Int × Int × Int × Int × SlT × PlT × RelT
def encFO (o : FOp) : List Value := [.int .i64 o.1, .int .i64 o.2.1, .int .i64 o.2.2.1, .int .i64 o.2.2.2.1, .slice o.2.2.2.2.1.1 o.2.2.2.2.1.2.2.length o.2.2.2.2.1.2.1, .int .i64 o.2.2.2.2.2.1.1, .bool o.2.2.2.2.2.1.2.1, .int .i64 o.2.2.2.2.2.1.2.2.1, .int .i64 o.2.2.2.2.2.1.2.2.2.1, .int .i64 o.2.2.2.2.2.1.2.2.2.2, .int .i64 o.2.2.2.2.2.2.1, .int .i64 o.2.2.2.2.2.2.2.1, .int .i64 o.2.2.2.2.2.2.2.2.1, .int .i64 o.2.2.2.2.2.2.2.2.2.1, .int .i64 o.2.2.2.2.2.2.2.2.2.2]
def fo0 : FOp := (0, 0, 0, 0, (none, 0, []), (0, false, 0, 0, 0), (0, 0, 0, 0, 0))
abbrev foX (o : FOp) : SV := .a [I o.1, I o.2.1, I o.2.2.1, I o.2.2.2.1, .v (.slice o.2.2.2.2.1.1 o.2.2.2.2.1.2.2.length o.2.2.2.2.1.2.1), I o.2.2.2.2.2.1.1, B o.2.2.2.2.2.1.2.1, I o.2.2.2.2.2.1.2.2.1, I o.2.2.2.2.2.1.2.2.2.1, I o.2.2.2.2.2.1.2.2.2.2, I o.2.2.2.2.2.2.1, I o.2.2.2.2.2.2.2.1, I o.2.2.2.2.2.2.2.2.1, I o.2.2.2.2.2.2.2.2.2.1, I o.2.2.2.2.2.2.2.2.2.2]
def opsF (w : World) (A : Option Addr) (n : Nat) (l : List FOp) : Prop := ArgSl w A n 15 (l.map encFO) ∧ ∀ o ∈ l, ArgSl w o.2.2.2.2.1.1 o.2.2.2.2.1.2.2.length 2 (o.2.2.2.2.1.2.2.map encBm) ∧ o.2.2.2.2.1.2.2.length ≤ maxLen
theorem opsF.op {w : World} {A : Option Addr} {n : Nat} {l : List FOp} (h : opsF w A n l) {o : FOp} (ho : o ∈ l) : ArgN w (fun _ => False) o.2.2.2.2.1.1 o.2.2.2.2.1.2.2.length 2 (o.2.2.2.2.1.2.2.map encBm) := ArgN.of (h.2 o ho).1 fun _ => id
theorem opsF.few {C : Ctx} {ob : List OB} {A : Option Addr} {n : Nat} {l : List FOp} (h : opsF C.w0 A n l) (hM : C.M = fun _ => False) : ∀ σ fp w, Mem C σ fp ob w → ArgSl w A n 15 (l.map encFO) ∧ ∀ o ∈ l, o.2.2.2.2.1.2.2.length ≤ maxLen :=
  fun σ fp w hm => ⟨h.1.mem (by decide) hM σ fp w hm, fun o ho => (h.2 o ho).2⟩
def lenG (o : FOp) : Int := min (o.2.2.2.2.1.2.2.length : Int) 40
def fewG (l : List FOp) : Bool := decide (l.length ≤ 16) && decide (((l.take 40).map lenG).sum ≤ 40)
theorem fewG_next {l : List FOp} {k : Nat} (hk : k < l.length) : ((l.take (k + 1)).map lenG).sum = ((l.take k).map lenG).sum + lenG (l.getD k fo0) := by
  have e : l.getD k fo0 = l[k] := by simp [hk]
  rw [List.take_succ_eq_append_getElem hk, e, List.map_append, List.sum_append]
  simp only [List.map_cons, List.map_nil, List.sum_cons, List.sum_nil, Int.add_zero]
theorem fewG_bd (l : List FOp) : ∀ k : Nat, 0 ≤ ((l.take k).map lenG).sum ∧ ((l.take k).map lenG).sum ≤ 40 * k := by
  intro k
  induction k with
  | zero => simp
  | succ k ih =>
    by_cases hk : k < l.length
    · rw [fewG_next hk]
      unfold lenG at *
      omega
    · rw [List.take_of_length_le (by omega)]
      rw [List.take_of_length_le (by omega)] at ih
      omega
theorem few34_w (A : Option Addr) (c : Nat) (l : List FOp) {n : Nat} (hl : l.length = n) (hn : n ≤ maxLen) :
    CallW Tryz.prog 12 [.v (.slice A n c)] (fun w => ArgSl w A n 15 (l.map encFO) ∧ ∀ o ∈ l, o.2.2.2.2.1.2.2.length ≤ maxLen) (B (fewG l)) := by
  unfold maxLen at hn
  refine CallW.of Tryz.func12 rfl tabOk rfl rfl rfl (by simp [SV.wfs, SV.wf]) (by simp [SV.wfs, SV.wf]) fun w hpre => ?_
  obtain ⟨hpre, hlen⟩ := hpre
  (conv=>whnf);repeat' (first|((with_reducible refine isW ?_;first|refine xwr_ok (by omega) (by omega) ?_|refine xwr_raw ?_);conv=>whnf)|with_reducible exact rfl|((with_reducible first|refine xif_kt (by assumption) ?_|refine xif_kf (by assumption) ?_);conv=>whnf)|((with_reducible refine xif_s ?_ ?_)<;>(intro hb;(try simp (disch:=omega) only [hbS] at hb)<;>conv=>whnf)))
  refine LoopX_inv tabOk (α := Nat) (fun k => k ≤ n ∧ k ≤ 40) (fun k => [(0, .v (.slice A n c)), (3, I ((l.take k).map lenG).sum), (4, I k)]) (fun _ => []) (fun k => n - k) 0 [] ⟨Nat.zero_le _, Nat.zero_le _⟩ ?_ ?_
  · ((refine ⟨?_, ?_, ?_, ?_⟩) <;> (repeat' ((conv => whnf); apply And.intro)) <;> (try (first | exact trivial | decide)))
    all_goals first | rfl | exact fun _ _ h => h | simp [SV.wf, SV.wfs]
  · rintro k ⟨hk, hk2⟩
    have hbk := fewG_bd l k
    by_cases hlt : k < n
    · by_cases hlt2 : k < 40
      · have hnx := fewG_next (l := l) (k := k) (by omega)
        have hol := hlen (l.getD k fo0) (by simp [show k < l.length by omega])
        unfold maxLen at hol
        have hlf : lenG (l.getD k fo0) = min ((l.getD k fo0).2.2.2.2.1.2.2.length : Int) 40 := rfl
        rw [hlf] at hnx
        generalize ((l.take k).map lenG).sum = S at *
        (conv=>whnf);repeat' (first|((with_reducible refine isV ?_);first|((first|(with_reducible refine nat_idxF ?_);refine ValX_loadFn _ _ (fo0) _ tabOk rfl rfl rfl (hpre.mem (by decide) rfl) ?_ ?_ rfl ?_|refine ValX_loadF _ _ (fo0) _ tabOk rfl rfl rfl (hpre.mem (by decide) rfl) ?_ ?_ rfl ?_)<;>first|omega|(simp;omega)|with_reducible refine isP ?_|conv=>whnf)|((refine ValX_index tabOk rfl (hpre.mem (by decide) rfl) rfl ?_ ?_ ?_)<;>first|rfl|omega|with_reducible refine isP ?_|conv=>whnf))|((with_reducible refine isW ?_;first|refine xwr_ok (by omega) (by omega) ?_|refine xwr_raw ?_);conv=>whnf)|with_reducible exact rfl|((with_reducible first|refine xif_kt (by assumption) ?_|refine xif_kf (by assumption) ?_);conv=>whnf)|((with_reducible refine xif_s ?_ ?_)<;>(intro hb;(try simp (disch:=omega) only [hbS] at hb)<;>conv=>whnf)))
        all_goals try (exfalso; omega)
        refine ⟨k + 1, [], ⟨by (try dsimp only); omega, by (try dsimp only); omega⟩, ?_, by (try dsimp only); omega⟩
        dsimp only
        rw [hnx]
        ((refine ⟨?_, ?_, ?_, ?_⟩) <;> (repeat' ((conv => whnf); apply And.intro)) <;> (try (first | exact trivial | decide)))
        all_goals first | rfl | exact fun _ _ h => h | (simp [SV.wf, SV.wfs]; done) | trace_state
      · obtain rfl : k = 40 := by omega
        have hf : fewG l = (decide (l.length ≤ 16) && decide (((l.take 40).map lenG).sum ≤ 40)) := rfl
        rw [hf]
        generalize ((l.take 40).map lenG).sum = S at *
        (conv=>whnf);repeat' (first|((with_reducible refine isW ?_;first|refine xwr_ok (by omega) (by omega) ?_|refine xwr_raw ?_);conv=>whnf)|with_reducible exact rfl|((with_reducible first|refine xif_kt (by assumption) ?_|refine xif_kf (by assumption) ?_);conv=>whnf)|((with_reducible refine xif_s ?_ ?_)<;>(intro hb;(try simp (disch:=omega) only [hbS] at hb)<;>conv=>whnf)))
        all_goals try (exfalso; omega)
        all_goals refine Fin_pure rfl (B_eq ?_) trivial
        all_goals simp
        all_goals omega
    · obtain rfl : k = n := by omega
      have hf : fewG l = (decide (l.length ≤ 16) && decide (((l.take k).map lenG).sum ≤ 40)) := by
        unfold fewG
        rw [List.take_of_length_le (show l.length ≤ 40 by omega), List.take_of_length_le (by omega)]
      rw [hf]
      generalize ((l.take k).map lenG).sum = S at *
      (conv=>whnf);repeat' (first|((with_reducible refine isW ?_;first|refine xwr_ok (by omega) (by omega) ?_|refine xwr_raw ?_);conv=>whnf)|with_reducible exact rfl|((with_reducible first|refine xif_kt (by assumption) ?_|refine xif_kf (by assumption) ?_);conv=>whnf)|((with_reducible refine xif_s ?_ ?_)<;>(intro hb;(try simp (disch:=omega) only [hbS] at hb)<;>conv=>whnf)))
      all_goals try (exfalso; omega)
      all_goals refine Fin_pure rfl (B_eq ?_) trivial
      all_goals simp
      all_goals omega
end Go.Proofs.YtlnplelandimeaaGreat.En
end
section
namespace Go.Proofs.YtlnplelandimeaaGreat
open Go.ChangeShapes Go.WideShapes Go.ChangeAt Go.RowKit Go.Joins Go.Deep
set_option maxRecDepth 100000
theorem opF_cells {H : Type} {enc : TypeId × Value → H} {w : World} {base : Nat} {spare : Nat → Bool} {held : Bool} {fuel : Nat} {cs : List Value} {x : DataW H × List MemPlace} (hc : cs.length = 15) (h : DataW.trod enc Tryz.prog w base spare held fuel 41 cs = some x) :
    ∃ o : En.FOp, cs = En.encFO o ∧ En.ArgSl w o.2.2.2.2.1.1 o.2.2.2.2.1.2.2.length 2 (o.2.2.2.2.1.2.2.map En.encBm) ∧ o.2.2.2.2.1.2.2.length ≤ maxLen := by
  have hC : cs.length = Tryz.prog.cellsOf 41 := hc.trans (by kernel_rfl)
  have one : ∀ j, j < 15 → (cs.drop j).take 1 = [cs.getD j undef] := fun j hj => by
    have e : cs.getD j undef = cs[j]'(by omega) := by simp [show j < cs.length by omega]
    rw [e, List.drop_eq_getElem_cons (by omega)]
    rfl
  have hint : ∀ j, j < 15 → leafT Tryz.prog 4 41 j = some 3 → ∃ a : Int, cs.getD j undef = .int .i64 a := fun j hj hl => by
    obtain ⟨f', y, hy⟩ := leaf_cell 4 hl hC h
    obtain ⟨a, ha, _⟩ := DataW.trod_int Tryz.underlying3 hy
    rw [one j hj] at ha
    exact ⟨a, by simpa using ha⟩
  have hbool : ∀ j, j < 15 → leafT Tryz.prog 4 41 j = some 4 → ∃ a : Bool, cs.getD j undef = .bool a := fun j hj hl => by
    obtain ⟨f', y, hy⟩ := leaf_cell 4 hl hC h
    obtain ⟨a, ha, _⟩ := DataW.trod_bool Tryz.underlying4 hy
    rw [one j hj] at ha
    exact ⟨a, by simpa using ha⟩
  obtain ⟨kd, h0⟩ := hint 0 (by decide) (by kernel_rfl)
  obtain ⟨wh, h1⟩ := hint 1 (by decide) (by kernel_rfl)
  obtain ⟨fr, h2⟩ := hint 2 (by decide) (by kernel_rfl)
  obtain ⟨id, h3⟩ := hint 3 (by decide) (by kernel_rfl)
  obtain ⟨v, h5⟩ := hint 5 (by decide) (by kernel_rfl)
  obtain ⟨g, h6⟩ := hbool 6 (by decide) (by kernel_rfl)
  obtain ⟨px, h7⟩ := hint 7 (by decide) (by kernel_rfl)
  obtain ⟨py, h8⟩ := hint 8 (by decide) (by kernel_rfl)
  obtain ⟨ph, h9⟩ := hint 9 (by decide) (by kernel_rfl)
  obtain ⟨ra, h10⟩ := hint 10 (by decide) (by kernel_rfl)
  obtain ⟨rb, h11⟩ := hint 11 (by decide) (by kernel_rfl)
  obtain ⟨rq, h12⟩ := hint 12 (by decide) (by kernel_rfl)
  obtain ⟨rx, h13⟩ := hint 13 (by decide) (by kernel_rfl)
  obtain ⟨ry, h14⟩ := hint 14 (by decide) (by kernel_rfl)
  have hsl : leafT Tryz.prog 4 41 4 = some 31 := by kernel_rfl
  obtain ⟨f', y, hy⟩ := leaf_cell 4 hsl hC h
  rw [one 4 (by decide)] at hy
  have hcs : cs = [cs.getD 0 undef, cs.getD 1 undef, cs.getD 2 undef, cs.getD 3 undef, cs.getD 4 undef, cs.getD 5 undef, cs.getD 6 undef, cs.getD 7 undef, cs.getD 8 undef, cs.getD 9 undef, cs.getD 10 undef, cs.getD 11 undef, cs.getD 12 undef, cs.getD 13 undef, cs.getD 14 undef] := by
    match cs, hc with
    | [_, _, _, _, _, _, _, _, _, _, _, _, _, _, _], _ => rfl
  rw [h0, h1, h2, h3, h5, h6, h7, h8, h9, h10, h11, h12, h13, h14] at hcs
  have hflat : flatI Tryz.prog 4 78 = true := by kernel_rfl
  rcases open_sliceI Tryz.underlying31 hflat hy with h2 | ⟨a, len, cap, V, h2, hle, hcap, hat⟩
  · have hs4 : cs.getD 4 undef = .slice none 0 0 := by simpa using h2
    rw [hs4] at hcs
    exact ⟨(kd, wh, fr, id, (none, 0, []), (v, g, px, py, ph), (ra, rb, rq, rx, ry)), hcs, ⟨rfl, by simp, by simp, fun h => (h rfl).elim⟩, by simp [maxLen]⟩
  · have hs4 : cs.getD 4 undef = .slice (some a) len cap := by simpa using h2
    rw [hs4] at hcs
    have hC2 : Tryz.prog.cellsOf 78 = 2 := by kernel_rfl
    rw [hC2] at hat
    refine ⟨(kd, wh, fr, id, (some a, cap, (List.range len).map fun i => (V i 0, V i 1)), (v, g, px, py, ph), (ra, rb, rq, rx, ry)), ?_, ?_, ?_⟩
    · rw [hcs]
      simp [En.encFO]
    · have := En.ArgSl.of_SlO En.encBm (fun i => (V i 0, V i 1)) (.inr ⟨a, rfl, hat⟩) (by decide) (fun i => rfl)
      simpa using this
    · simp
      omega
theorem open_opsF {H : Type} {enc : TypeId × Value → H} {w : World} {base : Nat} {spare : Nat → Bool} {held : Bool} {r : Reach} {b0 : Nat} {v : Value} {d : DataW H} {p : List MemPlace} (hv : Value.okWide Tryz.prog w r b0 22 v) (h : DataW.Trod enc Tryz.prog w base spare held 22 v d p) :
    ∃ (A : Option Addr) (n c : Nat) (l : List En.FOp), v = .slice A n c ∧ n ≤ c ∧ c ≤ maxLen ∧ l.length = n ∧ En.opsF w A n l := by
  obtain ⟨a, len, cap, rfl⟩ := okWide_slice Tryz.underlying22 hv
  obtain ⟨fuel, hf⟩ := h
  rcases open_slice Tryz.underlying22 hf with h0 | ⟨ad, len', cap', m, k, D, Pl, hcs, hb, hl, hm, hmm, hx, hi⟩
  · have : Value.slice a len cap = .slice none 0 0 := by simpa [Value.cells] using h0.1
    exact ⟨none, 0, 0, [], this, Nat.le_refl _, by simp [maxLen], rfl, ⟨rfl, by simp, by simp, fun h => (h rfl).elim⟩, by simp⟩
  · have hval : Value.slice a len cap = .slice (some ad) len' cap' := by simpa [Value.cells] using hcs
    have hC : Tryz.prog.cellsOf 41 = 15 := by kernel_rfl
    rw [hC] at hi
    have hlm : len' ≤ m := by rw [hmm]; split <;> omega
    have hex : ∀ i, ∃ o : En.FOp, i < len' → (∀ j, j < 15 → w.cell? ((ad.add (i * 15)).add j) = (En.encFO o)[j]?) ∧ En.ArgSl w o.2.2.2.2.1.1 o.2.2.2.2.1.2.2.length 2 (o.2.2.2.2.1.2.2.map En.encBm) ∧ o.2.2.2.2.1.2.2.length ≤ maxLen := by
      intro i
      by_cases h1 : i < len'
      · obtain ⟨cs', hc, ht'⟩ := hi i (by omega)
        obtain ⟨_, hcl, hat⟩ := World.cells?_some hc
        obtain ⟨o, ho, hs, hl2⟩ := opF_cells hcl ht'
        refine ⟨o, fun _ => ⟨fun j hj => ?_, hs, hl2⟩⟩
        rw [← ho]
        exact hat j hj
      · exact ⟨En.fo0, fun h => absurd h h1⟩
    obtain ⟨f, hfo⟩ := Classical.axiomOfChoice hex
    refine ⟨some ad, len', cap', (List.range len').map f, hval, hl, hm, by simp, ⟨by simp, ?_, ?_, ?_⟩, ?_⟩
    · intro e he
      obtain ⟨o, _, rfl⟩ := List.mem_map.1 he
      rfl
    · intro e he v hv'
      obtain ⟨o, _, rfl⟩ := List.mem_map.1 he
      simp [En.encFO] at hv'
      rcases hv' with rfl | rfl | rfl | rfl | rfl | rfl | rfl | rfl | rfl | rfl | rfl | rfl | rfl | rfl | rfl <;> rfl
    · intro hn
      obtain ⟨b, o, s⟩ := ad
      have h0 := (hfo 0 (by omega)).1 0 (by omega)
      have hs : s = none := by
        simp only [Nat.zero_mul, Addr.add] at h0
        unfold World.cell? at h0
        cases s with
        | none => rfl
        | some s =>
          exfalso
          simp [En.encFO] at h0
          revert h0
          split <;> intro h0 <;> cases h0
      subst hs
      refine ⟨b, o, rfl, fun i e hi' j v hj => ?_⟩
      rw [List.getElem?_map, List.getElem?_map] at hi'
      by_cases hin : i < len'
      · rw [List.getElem?_range hin] at hi'
        simp only [Option.map_some, Option.some.injEq] at hi'
        subst hi'
        have hj8 : j < 15 := (List.getElem?_eq_some_iff.1 hj).1
        have := (hfo i hin).1 j hj8
        rw [Addr.add_mid, Addr.add_mid] at this
        rw [this]
        exact hj
      · rw [List.getElem?_eq_none (by simpa using hin)] at hi'
        cases hi'
    · intro o ho
      obtain ⟨i, hi', rfl⟩ := List.mem_map.1 ho
      have := hfo i (by simpa using hi')
      exact this.2
end Go.Proofs.YtlnplelandimeaaGreat
end
