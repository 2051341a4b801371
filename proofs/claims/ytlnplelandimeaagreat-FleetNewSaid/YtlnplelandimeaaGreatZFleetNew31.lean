import Derived.Test.YtlnplelandimeaaGreatZFleetNew30
set_option linter.all false
section
namespace Go.Proofs.YtlnplelandimeaaGreat.En
open Go.RowKit
set_option maxRecDepth 100000
theorem relate_ok (b : Nat) (c : CoT) (S : SnT) (x : RelT) (hx : addOk x = true) : CallM Tryz.prog 41 [pR b, relX x] (fun _ _ => True) [stO b c S allT] (fun _ : Nat → Nat → Nat => I 0) (fun rp => [stO b { c with rp := rp } (takeS S x) allT]) := by
  have h := relate_m b c S x
  rw [hx] at h
  exact h
theorem relate_no (b : Nat) (c : CoT) (S : SnT) (x : RelT) (hx : addOk x = false) : CallM Tryz.prog 41 [pR b, relX x] (fun _ _ => True) [stO b c S allT] (fun _ : Nat → Nat → Nat => I 1) (fun rp => [stO b { c with rp := rp } S allT]) := by
  have h := relate_m b c S x
  rw [hx] at h
  exact h
set_option maxHeartbeats 8000000 in
theorem awake34_x : PureX Tryz.prog 11 [] (B true) := by
  refine PureX.of Tryz.func11 rfl tabOk rfl rfl rfl (by simp [SV.wfs, SV.wf]) (by simp [SV.wfs, SV.wf]) fun w => ?_
  (conv => whnf); repeat' (first | ((with_reducible refine isC ?_); first | ((with_reducible refine isF 40 ?_); ((refine CallX_m (fNew_m 2 (by decide)) [] rfl trivial (by decide) (fun _ _ _ _ => trivial) ?_; rintro ⟨b, c⟩; dsimp only)); conv => whnf) | ((with_reducible refine CallX_pure (nMap34_x) ?_) <;> first | omega | (with_reducible show (_ : Int) ≤ _) | (with_reducible show (_ : Int) < _) | (with_reducible show (_ : Nat) ≤ _) | (with_reducible show (_ : Nat) < _) | (conv => whnf)) | ((with_reducible refine CallX_pure (nClone34_x) ?_) <;> first | omega | (with_reducible show (_ : Int) ≤ _) | (with_reducible show (_ : Int) < _) | (with_reducible show (_ : Nat) ≤ _) | (with_reducible show (_ : Nat) < _) | (conv => whnf))) | ((with_reducible refine isO ?_); first | ((refine OpX_build0 tabOk rfl rfl rfl ?_); intro bN; conv => whnf) | ((refine OpX_build tabOk rfl rfl rfl rfl rfl ?_); intro bN; conv => whnf)) | (with_reducible exact rfl) | ((with_reducible refine xif_kt (by with_reducible assumption) ?_); conv => whnf) | ((with_reducible refine xif_kf (by with_reducible assumption) ?_); conv => whnf) | (((with_reducible refine xif_s ?_ ?_) <;> (intro hb; (try simp (disch := omega) only [hbS] at hb))) <;> (conv => whnf)))
  refine CallX_m (relate_ok b c (sn0 2) (3, 1, 1, 2, 0) (by decide)) [0] rfl ⟨fun _ _ h => h, trivial⟩ (by decide) (fun _ _ _ _ => trivial) ?_
  intro rp1
  (conv => whnf); repeat' (first | ((with_reducible refine isO ?_); first | ((refine OpX_build0 tabOk rfl rfl rfl ?_); intro bN; conv => whnf) | ((refine OpX_build tabOk rfl rfl rfl rfl rfl ?_); intro bN; conv => whnf)) | (with_reducible exact rfl) | ((with_reducible refine xif_kt (by with_reducible assumption) ?_); conv => whnf) | ((with_reducible refine xif_kf (by with_reducible assumption) ?_); conv => whnf) | (((with_reducible refine xif_s ?_ ?_) <;> (intro hb; (try simp (disch := omega) only [hbS] at hb))) <;> (conv => whnf)))
  refine CallX_m (relate_ok b { c with rp := rp1 } aw1 (1, 3, 2, 5, 5) (by decide)) [0] rfl ⟨fun _ _ h => h, trivial⟩ (by decide) (fun _ _ _ _ => trivial) ?_
  intro rp2
  (conv => whnf); repeat' (first | ((with_reducible refine isO ?_); first | ((refine OpX_build0 tabOk rfl rfl rfl ?_); intro bN; conv => whnf) | ((refine OpX_build tabOk rfl rfl rfl rfl rfl ?_); intro bN; conv => whnf)) | (with_reducible exact rfl) | ((with_reducible refine xif_kt (by with_reducible assumption) ?_); conv => whnf) | ((with_reducible refine xif_kf (by with_reducible assumption) ?_); conv => whnf) | (((with_reducible refine xif_s ?_ ?_) <;> (intro hb; (try simp (disch := omega) only [hbS] at hb))) <;> (conv => whnf)))
  refine CallX_m (fPut_m b { c with rp := rp2 } aw2 2 (by decide) rfl 0 _ _ [(0, 100)] rfl (by decide)) [0] rfl ⟨fun _ _ h => h, trivial⟩ (by decide) (ArgN.row 1 rfl (m := 1) (r := [0]) (fun j hj => by rcases (by omega : j = 0) with rfl; simp)) ?_
  intro u1
  rw [show putC 0 [(0, 100)] = 0 by decide]
  (conv => whnf); repeat' (first | ((with_reducible refine isO ?_); first | ((refine OpX_build0 tabOk rfl rfl rfl ?_); intro bN; conv => whnf) | ((refine OpX_build tabOk rfl rfl rfl rfl rfl ?_); intro bN; conv => whnf)) | (with_reducible exact rfl) | ((with_reducible refine xif_kt (by with_reducible assumption) ?_); conv => whnf) | ((with_reducible refine xif_kf (by with_reducible assumption) ?_); conv => whnf) | (((with_reducible refine xif_s ?_ ?_) <;> (intro hb; (try simp (disch := omega) only [hbS] at hb))) <;> (conv => whnf)))
  refine CallX_m (fPlace_m b { c with rp := rp2 } aw3 2 (by decide) rfl 0 (1, false, 32, 32, 0)) [0] rfl ⟨fun _ _ h => h, trivial⟩ (by decide) (fun _ _ _ _ => trivial) ?_
  intro u2
  rw [show plcC 0 (1, false, 32, 32, 0) = 0 by decide]
  have kr := relations_m b { c with rp := rp2 } aw4 allT
  rw [aw_pairs] at kr
  (conv => whnf); repeat' (first | ((with_reducible refine isO ?_); first | ((refine OpX_build0 tabOk rfl rfl rfl ?_); intro bN; conv => whnf) | ((refine OpX_build tabOk rfl rfl rfl rfl rfl ?_); intro bN; conv => whnf)) | (with_reducible exact rfl) | ((with_reducible refine xif_kt (by with_reducible assumption) ?_); conv => whnf) | ((with_reducible refine xif_kf (by with_reducible assumption) ?_); conv => whnf) | (((with_reducible refine xif_s ?_ ?_) <;> (intro hb; (try simp (disch := omega) only [hbS] at hb))) <;> (conv => whnf)))
  refine CallX_m kr [0] rfl ⟨fun _ _ h => h, trivial⟩ (by decide) (fun _ _ _ _ => trivial) ?_
  rintro ⟨A1, d1⟩
  have km := map34_m b { c with rp := rp2 } aw4 2 rfl (by decide)
  rw [aw_view4] at km
  (conv => whnf); repeat' (first | ((with_reducible refine isO ?_); first | ((refine OpX_build0 tabOk rfl rfl rfl ?_); intro bN; conv => whnf) | ((refine OpX_build tabOk rfl rfl rfl rfl rfl ?_); intro bN; conv => whnf)) | (with_reducible exact rfl) | ((with_reducible refine xif_kt (by with_reducible assumption) ?_); conv => whnf) | ((with_reducible refine xif_kf (by with_reducible assumption) ?_); conv => whnf) | (((with_reducible refine xif_s ?_ ?_) <;> (intro hb; (try simp (disch := omega) only [hbS] at hb))) <;> (conv => whnf)))
  refine CallX_m km [0] rfl ⟨fun _ _ h => h, trivial⟩ (by decide) (fun _ _ _ _ => trivial) ?_
  rintro ⟨A2, d2⟩
  have kv := view_m b { c with rp := rp2 } aw4 5 (by decide)
  rw [aw_view5] at kv
  (conv => whnf); repeat' (first | ((with_reducible refine isO ?_); first | ((refine OpX_build0 tabOk rfl rfl rfl ?_); intro bN; conv => whnf) | ((refine OpX_build tabOk rfl rfl rfl rfl rfl ?_); intro bN; conv => whnf)) | (with_reducible exact rfl) | ((with_reducible refine xif_kt (by with_reducible assumption) ?_); conv => whnf) | ((with_reducible refine xif_kf (by with_reducible assumption) ?_); conv => whnf) | (((with_reducible refine xif_s ?_ ?_) <;> (intro hb; (try simp (disch := omega) only [hbS] at hb))) <;> (conv => whnf)))
  refine CallX_m kv [0] rfl ⟨fun _ _ h => h, trivial⟩ (by decide) (fun _ _ _ _ => trivial) ?_
  rintro ⟨A3, d3⟩
  (conv => whnf); repeat' (first | ((with_reducible refine isO ?_); first | ((refine OpX_build0 tabOk rfl rfl rfl ?_); intro bN; conv => whnf) | ((refine OpX_build tabOk rfl rfl rfl rfl rfl ?_); intro bN; conv => whnf)) | (with_reducible exact rfl) | ((with_reducible refine xif_kt (by with_reducible assumption) ?_); conv => whnf) | ((with_reducible refine xif_kf (by with_reducible assumption) ?_); conv => whnf) | (((with_reducible refine xif_s ?_ ?_) <;> (intro hb; (try simp (disch := omega) only [hbS] at hb))) <;> (conv => whnf)))
  refine CallX_m (relate_ok b { c with rp := rp2 } aw4 (5, 2, 0, 1, 0) (by decide)) [0] rfl ⟨fun _ _ h => h, trivial⟩ (by decide) (fun _ _ _ _ => trivial) ?_
  intro rp3
  have kw := view_m b { c with rp := rp3 } aw5 5 (by decide)
  rw [aw_view6] at kw
  (conv => whnf); repeat' (first | ((with_reducible refine isO ?_); first | ((refine OpX_build0 tabOk rfl rfl rfl ?_); intro bN; conv => whnf) | ((refine OpX_build tabOk rfl rfl rfl rfl rfl ?_); intro bN; conv => whnf)) | (with_reducible exact rfl) | ((with_reducible refine xif_kt (by with_reducible assumption) ?_); conv => whnf) | ((with_reducible refine xif_kf (by with_reducible assumption) ?_); conv => whnf) | (((with_reducible refine xif_s ?_ ?_) <;> (intro hb; (try simp (disch := omega) only [hbS] at hb))) <;> (conv => whnf)))
  refine CallX_m kw [0] rfl ⟨fun _ _ h => h, trivial⟩ (by decide) (fun _ _ _ _ => trivial) ?_
  rintro ⟨A4, d4⟩
  (conv => whnf); repeat' (first | ((with_reducible refine isC ?_); first | ((with_reducible refine isF 21 ?_); ((refine CallX_m (frames_m b { c with rp := rp3 } aw5) [0] rfl ⟨fun _ _ h => h, trivial⟩ (by decide) (fun _ _ _ _ => trivial) ?_; intro rb)); conv => whnf) | ((with_reducible refine isF 37 ?_); (first | (refine CallX_m (fAtlas_m b { c with rp := rp3 } aw5 2 (by decide)) [0] rfl ⟨fun _ _ h => h, trivial⟩ (by decide) (fun _ _ _ _ => trivial) ?_; rintro ⟨⟨⟨x1, x2⟩, ⟨ma, qa⟩, oka, aba⟩, ga⟩; dsimp only) | (refine CallX_m (fAtlas_bad b { c with rp := rp3 } aw5 8 (by decide)) [0] rfl ⟨fun _ _ h => h, trivial⟩ (by decide) (fun _ _ _ _ => trivial) ?_; intro u)); conv => whnf) | ((with_reducible refine isF 39 ?_); ((refine CallX_m (fMe_m b { c with rp := rp3 } aw5) [0] rfl ⟨fun _ _ h => h, trivial⟩ (by decide) (fun _ _ _ _ => trivial) ?_; intro u)); conv => whnf)) | ((with_reducible refine isV ?_); first | ((refine ValX_index tabOk rfl (ArgSl.row 2 rfl) rfl ?_ ?_ ?_) <;> first | omega | (with_reducible show (_ : Int) ≤ _) | (with_reducible show (_ : Int) < _) | (with_reducible show (_ : Nat) ≤ _) | (with_reducible show (_ : Nat) < _) | (conv => whnf)) | ((with_reducible refine nat_idx ?_); (refine ValX_loadEn _ _ (r0) tabOk rfl rfl rfl rfl (ArgSl.row 2 rfl) ?_ ?_ ?_) <;> first | rfl | omega | (with_reducible show (_ : Int) ≤ _) | (with_reducible show (_ : Int) < _) | (with_reducible show (_ : Nat) ≤ _) | (with_reducible show (_ : Nat) < _) | (conv => whnf)) | ((refine ValX_loadE _ _ (r0) tabOk rfl rfl rfl rfl (ArgSl.row 2 rfl) ?_ ?_ ?_) <;> first | rfl | omega | (with_reducible show (_ : Int) ≤ _) | (with_reducible show (_ : Int) < _) | (with_reducible show (_ : Nat) ≤ _) | (with_reducible show (_ : Nat) < _) | (conv => whnf)) | ((refine ValX_index tabOk rfl (ArgSl.row 3 rfl) rfl ?_ ?_ ?_) <;> first | omega | (with_reducible show (_ : Int) ≤ _) | (with_reducible show (_ : Int) < _) | (with_reducible show (_ : Nat) ≤ _) | (with_reducible show (_ : Nat) < _) | (conv => whnf)) | ((with_reducible refine nat_idx ?_); (refine ValX_loadEn _ _ (e0) tabOk rfl rfl rfl rfl (ArgSl.row 3 rfl) ?_ ?_ ?_) <;> first | rfl | omega | (with_reducible show (_ : Int) ≤ _) | (with_reducible show (_ : Int) < _) | (with_reducible show (_ : Nat) ≤ _) | (with_reducible show (_ : Nat) < _) | (conv => whnf)) | ((refine ValX_loadE _ _ (e0) tabOk rfl rfl rfl rfl (ArgSl.row 3 rfl) ?_ ?_ ?_) <;> first | rfl | omega | (with_reducible show (_ : Int) ≤ _) | (with_reducible show (_ : Int) < _) | (with_reducible show (_ : Nat) ≤ _) | (with_reducible show (_ : Nat) < _) | (conv => whnf)) | ((refine ValX_index tabOk rfl (ArgSl.row 5 rfl) rfl ?_ ?_ ?_) <;> first | omega | (with_reducible show (_ : Int) ≤ _) | (with_reducible show (_ : Int) < _) | (with_reducible show (_ : Nat) ≤ _) | (with_reducible show (_ : Nat) < _) | (conv => whnf)) | ((with_reducible refine nat_idx ?_); (refine ValX_loadEn _ _ (e0) tabOk rfl rfl rfl rfl (ArgSl.row 5 rfl) ?_ ?_ ?_) <;> first | rfl | omega | (with_reducible show (_ : Int) ≤ _) | (with_reducible show (_ : Int) < _) | (with_reducible show (_ : Nat) ≤ _) | (with_reducible show (_ : Nat) < _) | (conv => whnf)) | ((refine ValX_loadE _ _ (e0) tabOk rfl rfl rfl rfl (ArgSl.row 5 rfl) ?_ ?_ ?_) <;> first | rfl | omega | (with_reducible show (_ : Int) ≤ _) | (with_reducible show (_ : Int) < _) | (with_reducible show (_ : Nat) ≤ _) | (with_reducible show (_ : Nat) < _) | (conv => whnf))) | ((with_reducible refine isO ?_); first | ((refine OpX_build0 tabOk rfl rfl rfl ?_); intro bN; conv => whnf) | ((refine OpX_build tabOk rfl rfl rfl rfl rfl ?_); intro bN; conv => whnf)) | (with_reducible exact rfl) | ((with_reducible refine xif_kt (by with_reducible assumption) ?_); conv => whnf) | ((with_reducible refine xif_kf (by with_reducible assumption) ?_); conv => whnf) | (((with_reducible refine xif_s ?_ ?_) <;> (intro hb; (try simp (disch := omega) only [hbS] at hb))) <;> (conv => whnf)))
  all_goals try decide
  have ki := Ids_m x1 x2 ma qa
  rw [show idsF (hasM ma qa) 64 = [0] by rw [has_sem]; show idsF (hasA (absM (ma, qa))) 64 = [0]; rw [aba]; exact aw_ids34] at ki
  refine CallX_m ki [10, 11, 12] rfl ⟨⟨rfl, rfl, by simp [SV.wf, SV.wfs]⟩, fun _ _ h => h, fun _ _ h => h, trivial⟩ (by decide) (fun _ _ _ _ => trivial) ?_
  rintro ⟨A6, d6⟩
  (conv => whnf); repeat' (first | ((with_reducible refine isO ?_); first | ((refine OpX_build0 tabOk rfl rfl rfl ?_); intro bN; conv => whnf) | ((refine OpX_build tabOk rfl rfl rfl rfl rfl ?_); intro bN; conv => whnf)) | (with_reducible exact rfl) | ((with_reducible refine xif_kt (by with_reducible assumption) ?_); conv => whnf) | ((with_reducible refine xif_kf (by with_reducible assumption) ?_); conv => whnf) | (((with_reducible refine xif_s ?_ ?_) <;> (intro hb; (try simp (disch := omega) only [hbS] at hb))) <;> (conv => whnf)))
  refine CallX_w (Ints_w A6 _ d6 _ [0] rfl (by decide)) (fun σ fp w hm => ⟨ArgSl.row 13 rfl σ fp w hm, ArgSl.row 14 rfl σ fp w hm⟩) ?_
  (conv => whnf); repeat' (first | ((with_reducible refine isO ?_); first | ((refine OpX_build0 tabOk rfl rfl rfl ?_); intro bN; conv => whnf) | ((refine OpX_build tabOk rfl rfl rfl rfl rfl ?_); intro bN; conv => whnf)) | (with_reducible exact rfl) | ((with_reducible refine xif_kt (by with_reducible assumption) ?_); conv => whnf) | ((with_reducible refine xif_kf (by with_reducible assumption) ?_); conv => whnf) | (((with_reducible refine xif_s ?_ ?_) <;> (intro hb; (try simp (disch := omega) only [hbS] at hb))) <;> (conv => whnf)))
  exact Fin_pure rfl rfl trivial
end Go.Proofs.YtlnplelandimeaaGreat.En
end
section
namespace Go.Proofs.YtlnplelandimeaaGreat.En
open Go.RowKit
set_option maxRecDepth 100000
theorem empty0 (me : Int) : emptyS (sn0 me) := by
  constructor
  · unfold pairs pairsN
    rw [List.filterMap_eq_nil_iff]
    intro t _
    rfl
  · intro i _
    exact (by decide +kernel : idsF (hasA at0) 64 = [])
theorem not_empty {me : Int} {x : RelT} (hx : addOk x = true) : ¬ emptyS (takeS (sn0 me) x) := by
  rintro ⟨h, _⟩
  obtain ⟨h1, h2, hne, _, _⟩ := addOk_bd hx
  have key : ∀ (u v : Nat) (f : Fr), u < 8 → v < 8 → pairs (setR (sn0 me) u v f) ≠ [] := by
    intro u v f hu hv h
    unfold pairs pairsN at h
    rw [List.filterMap_eq_nil_iff] at h
    have := h (8 * u + v) (List.mem_range.2 (by omega))
    rw [prs_at hv] at this
    unfold setR upd2 at this
    simp [sn0, mxO] at this
  refine key _ _ _ ?_ ?_ h
  · unfold normR
    split
    · dsimp only; omega
    · dsimp only; omega
  · unfold normR
    split
    · dsimp only; omega
    · dsimp only; omega
set_option maxHeartbeats 8000000 in
theorem fleetNew_x (me : Int) (x : RelT) : PureX Tryz.prog 10 [I me, .a [I x.1, I x.2.1, I x.2.2.1, I x.2.2.2.1, I x.2.2.2.2]] (B true) := by
  have hme : rbB me = decide (0 ≤ me ∧ me < 8) := rfl
  rcases Bool.eq_false_or_eq_true (rbB me) with h | h
  rotate_left
  · have kn := fNew_bad me h
    rw [h] at hme
    have hme : ¬ (0 ≤ me ∧ me < 8) := of_decide_eq_false hme.symm
    refine PureX.of Tryz.func10 rfl tabOk rfl rfl rfl (by simp [SV.wfs, SV.wf]) (by simp [SV.wfs, SV.wf]) fun w => ?_
    (conv => whnf); repeat' (first | ((with_reducible refine isC ?_); first | ((with_reducible refine CallX_pure (awake34_x) ?_) <;> first | omega | (with_reducible show (_ : Int) ≤ _) | (with_reducible show (_ : Int) < _) | (with_reducible show (_ : Nat) ≤ _) | (with_reducible show (_ : Nat) < _) | (conv => whnf)) | ((with_reducible refine CallX_pure (kn) ?_) <;> first | omega | (with_reducible show (_ : Int) ≤ _) | (with_reducible show (_ : Int) < _) | (with_reducible show (_ : Nat) ≤ _) | (with_reducible show (_ : Nat) < _) | (conv => whnf)) | ((with_reducible refine CallX_pure (nRelate_x x) ?_) <;> first | omega | (with_reducible show (_ : Int) ≤ _) | (with_reducible show (_ : Int) < _) | (with_reducible show (_ : Nat) ≤ _) | (with_reducible show (_ : Nat) < _) | (conv => whnf)) | ((with_reducible refine CallX_pure (nHear2_x) ?_) <;> first | omega | (with_reducible show (_ : Int) ≤ _) | (with_reducible show (_ : Int) < _) | (with_reducible show (_ : Nat) ≤ _) | (with_reducible show (_ : Nat) < _) | (conv => whnf)) | ((with_reducible refine CallX_pure (nPut34_x _ _) ?_) <;> first | omega | (with_reducible show (_ : Int) ≤ _) | (with_reducible show (_ : Int) < _) | (with_reducible show (_ : Nat) ≤ _) | (with_reducible show (_ : Nat) < _) | (conv => whnf)) | ((with_reducible refine CallX_pure (nPlace34_x _ (0, false, 0, 0, 0)) ?_) <;> first | omega | (with_reducible show (_ : Int) ≤ _) | (with_reducible show (_ : Int) < _) | (with_reducible show (_ : Nat) ≤ _) | (with_reducible show (_ : Nat) < _) | (conv => whnf)) | ((with_reducible refine CallX_pure (nMe_x) ?_) <;> first | omega | (with_reducible show (_ : Int) ≤ _) | (with_reducible show (_ : Int) < _) | (with_reducible show (_ : Nat) ≤ _) | (with_reducible show (_ : Nat) < _) | (conv => whnf)) | ((with_reducible refine CallX_pure (nAtlas_x _) ?_) <;> first | omega | (with_reducible show (_ : Int) ≤ _) | (with_reducible show (_ : Int) < _) | (with_reducible show (_ : Nat) ≤ _) | (with_reducible show (_ : Nat) < _) | (conv => whnf)) | ((with_reducible refine CallX_pure (nFrames_x) ?_) <;> first | omega | (with_reducible show (_ : Int) ≤ _) | (with_reducible show (_ : Int) < _) | (with_reducible show (_ : Nat) ≤ _) | (with_reducible show (_ : Nat) < _) | (conv => whnf)) | ((with_reducible refine CallX_pure (nRelations_x) ?_) <;> first | omega | (with_reducible show (_ : Int) ≤ _) | (with_reducible show (_ : Int) < _) | (with_reducible show (_ : Nat) ≤ _) | (with_reducible show (_ : Nat) < _) | (conv => whnf)) | ((with_reducible refine CallX_pure (nView_x _) ?_) <;> first | omega | (with_reducible show (_ : Int) ≤ _) | (with_reducible show (_ : Int) < _) | (with_reducible show (_ : Nat) ≤ _) | (with_reducible show (_ : Nat) < _) | (conv => whnf))) | (with_reducible exact rfl) | ((with_reducible refine xif_kt (by with_reducible assumption) ?_); conv => whnf) | ((with_reducible refine xif_kf (by with_reducible assumption) ?_); conv => whnf) | (((with_reducible refine xif_s ?_ ?_) <;> (intro hb; (try simp (disch := omega) only [hbS] at hb))) <;> (conv => whnf)))
    all_goals try (exfalso; omega)
    all_goals exact Fin_pure rfl rfl trivial
  · rw [h] at hme
    have hme := of_decide_eq_true hme.symm
    obtain ⟨m, rfl⟩ := Int.eq_ofNat_of_zero_le hme.1
    have kn := fNew_m m (by omega)
    have kr := Right_x x.1 x.2.1 x.2.2.1 x.2.2.2.1 x.2.2.2.2
    refine PureX.of Tryz.func10 rfl tabOk rfl rfl rfl (by simp [SV.wfs, SV.wf]) (by simp [SV.wfs, SV.wf]) fun w => ?_
    (conv => whnf); repeat' (first | ((with_reducible refine isC ?_); first | ((with_reducible refine CallX_pure (awake34_x) ?_) <;> first | omega | (with_reducible show (_ : Int) ≤ _) | (with_reducible show (_ : Int) < _) | (with_reducible show (_ : Nat) ≤ _) | (with_reducible show (_ : Nat) < _) | (conv => whnf)) | ((with_reducible refine isF 40 ?_); ((refine CallX_m kn [] rfl trivial (by decide) (fun _ _ _ _ => trivial) ?_; rintro ⟨b, c⟩; dsimp only)); conv => whnf) | ((with_reducible refine CallX_pure (nRelate_x x) ?_) <;> first | omega | (with_reducible show (_ : Int) ≤ _) | (with_reducible show (_ : Int) < _) | (with_reducible show (_ : Nat) ≤ _) | (with_reducible show (_ : Nat) < _) | (conv => whnf)) | ((with_reducible refine isF 33 ?_); (first | (with_reducible refine CallX_pure (nHear_x _) ?_) | (with_reducible refine CallX_pure (Hearn_x _) ?_)); conv => whnf) | ((with_reducible refine CallX_pure (nPut34_x _ _) ?_) <;> first | omega | (with_reducible show (_ : Int) ≤ _) | (with_reducible show (_ : Int) < _) | (with_reducible show (_ : Nat) ≤ _) | (with_reducible show (_ : Nat) < _) | (conv => whnf)) | ((with_reducible refine CallX_pure (nPlace34_x _ (0, false, 0, 0, 0)) ?_) <;> first | omega | (with_reducible show (_ : Int) ≤ _) | (with_reducible show (_ : Int) < _) | (with_reducible show (_ : Nat) ≤ _) | (with_reducible show (_ : Nat) < _) | (conv => whnf)) | ((with_reducible refine CallX_pure (nAtlas_x _) ?_) <;> first | omega | (with_reducible show (_ : Int) ≤ _) | (with_reducible show (_ : Int) < _) | (with_reducible show (_ : Nat) ≤ _) | (with_reducible show (_ : Nat) < _) | (conv => whnf)) | ((with_reducible refine CallX_pure (nFrames_x) ?_) <;> first | omega | (with_reducible show (_ : Int) ≤ _) | (with_reducible show (_ : Int) < _) | (with_reducible show (_ : Nat) ≤ _) | (with_reducible show (_ : Nat) < _) | (conv => whnf)) | ((with_reducible refine CallX_pure (nRelations_x) ?_) <;> first | omega | (with_reducible show (_ : Int) ≤ _) | (with_reducible show (_ : Int) < _) | (with_reducible show (_ : Nat) ≤ _) | (with_reducible show (_ : Nat) < _) | (conv => whnf)) | ((with_reducible refine CallX_pure (nView_x _) ?_) <;> first | omega | (with_reducible show (_ : Int) ≤ _) | (with_reducible show (_ : Int) < _) | (with_reducible show (_ : Nat) ≤ _) | (with_reducible show (_ : Nat) < _) | (conv => whnf)) | ((with_reducible refine isF 39 ?_); (first | (with_reducible refine CallX_pure nMe_x ?_) | (refine CallX_m (fMe_m b c (sn0 m)) [1] rfl ⟨fun _ _ h => h, trivial⟩ (by decide) (fun _ _ _ _ => trivial) ?_; intro u)); conv => whnf) | ((with_reducible refine isF 30 ?_); (first | (refine CallX_m (Samen34_m b c (sn0 m) true (by simp [empty0])) [1] rfl ⟨fun _ _ h => h, trivial⟩ (by decide) (fun _ _ _ _ => trivial) ?_; intro u) | (refine CallX_m (nSame34_m b c (sn0 m) true (by simp [empty0])) [1] rfl ⟨fun _ _ h => h, trivial⟩ (by decide) (fun _ _ _ _ => trivial) ?_; intro u)); conv => whnf)) | (with_reducible exact rfl) | ((with_reducible refine xif_kt (by with_reducible assumption) ?_); conv => whnf) | ((with_reducible refine xif_kf (by with_reducible assumption) ?_); conv => whnf) | (((with_reducible refine xif_s ?_ ?_) <;> (intro hb; (try simp (disch := omega) only [hbS] at hb))) <;> (conv => whnf)))
    all_goals try (exfalso; omega)
    all_goals try (exfalso; simp at hb; done)
    all_goals try (exact absurd rfl hb)
    rcases Bool.eq_false_or_eq_true (addOk x) with ha | ha
    · rw [show addOk (x.1, x.2.1, x.2.2.1, x.2.2.2.1, x.2.2.2.2) = true from ha] at kr
      refine CallX_m (relate_ok b c (sn0 m) x ha) [1] rfl ⟨fun _ _ h => h, trivial⟩ (by decide) (fun _ _ _ _ => trivial) ?_
      intro rp
      (conv => whnf); repeat' (first | ((with_reducible refine isC ?_); first | ((with_reducible refine CallX_pure (kr) ?_) <;> first | omega | (with_reducible show (_ : Int) ≤ _) | (with_reducible show (_ : Int) < _) | (with_reducible show (_ : Nat) ≤ _) | (with_reducible show (_ : Nat) < _) | (conv => whnf)) | ((with_reducible refine isF 30 ?_); ((refine CallX_m (Samen34_m b { c with rp := rp } (takeS (sn0 m) x) false (by simp [not_empty ha])) [1] rfl ⟨fun _ _ h => h, trivial⟩ (by decide) (fun _ _ _ _ => trivial) ?_; intro u)); conv => whnf)) | (with_reducible exact rfl) | ((with_reducible refine xif_kt (by with_reducible assumption) ?_); conv => whnf) | ((with_reducible refine xif_kf (by with_reducible assumption) ?_); conv => whnf) | (((with_reducible refine xif_s ?_ ?_) <;> (intro hb; (try simp (disch := omega) only [hbS] at hb))) <;> (conv => whnf)))
      all_goals exact Fin_pure rfl rfl trivial
    · rw [show addOk (x.1, x.2.1, x.2.2.1, x.2.2.2.1, x.2.2.2.2) = false from ha] at kr
      refine CallX_m (relate_no b c (sn0 m) x ha) [1] rfl ⟨fun _ _ h => h, trivial⟩ (by decide) (fun _ _ _ _ => trivial) ?_
      intro rp
      (conv => whnf); repeat' (first | ((with_reducible refine isC ?_); first | ((with_reducible refine CallX_pure (kr) ?_) <;> first | omega | (with_reducible show (_ : Int) ≤ _) | (with_reducible show (_ : Int) < _) | (with_reducible show (_ : Nat) ≤ _) | (with_reducible show (_ : Nat) < _) | (conv => whnf)) | ((with_reducible refine isF 30 ?_); ((refine CallX_m (Samen34_m b { c with rp := rp } (sn0 m) true (by simp [empty0])) [1] rfl ⟨fun _ _ h => h, trivial⟩ (by decide) (fun _ _ _ _ => trivial) ?_; intro u)); conv => whnf)) | (with_reducible exact rfl) | ((with_reducible refine xif_kt (by with_reducible assumption) ?_); conv => whnf) | ((with_reducible refine xif_kf (by with_reducible assumption) ?_); conv => whnf) | (((with_reducible refine xif_s ?_ ?_) <;> (intro hb; (try simp (disch := omega) only [hbS] at hb))) <;> (conv => whnf)))
      all_goals exact Fin_pure rfl rfl trivial
theorem fnew_walk (me : Int) (a b q x y : Int) (w : World) :
    Calls Tryz.prog 10 #[.int .i64 me, .agg #[.int .i64 a, .int .i64 b, .int .i64 q, .int .i64 x, .int .i64 y]] w fun e w' => e = .returned (.bool true) ∧ Below w.heap.size w w' :=
  (fleetNew_x me (a, b, q, x, y)).2.2 (fun _ => 0) w
end Go.Proofs.YtlnplelandimeaaGreat.En
end
