/- The reference's Between, Groups and Add, by the executor. -/
import Derived.Test.YtkacggfadalbiaaRq2
set_option linter.all false
namespace Go.Proofs.Ytkacggfadalbiaa.En
open Go.RowKit
set_option maxRecDepth 100000

theorem btF_out {rs : List RelT} {a b : Int} (h : a < 0 ∨ 8 ≤ a ∨ b < 0 ∨ 8 ≤ b) : btF rs a b = none := by
  unfold btF rbB
  rw [if_neg]
  simp
  omega
theorem btF_in {rs : List RelT} {a b : Int} (h0 : 0 ≤ a) (h1 : a < 8) (h2 : 0 ≤ b) (h3 : b < 8) : btF rs a b = fLook (fromL rs a) b := by
  unfold btF rbB
  rw [if_pos]
  simp
  omega
theorem rBetween_x (A : Option Addr) (c : Nat) (rs : List RelT) (a b : Int) (hok : ∀ r ∈ rs, RelOk r) (hl : rs.length ≤ 1000) :
    CallW Try.prog 37 [.a [.v (.slice A rs.length c)], I a, I b] (fun w => ArgSl w A rs.length 5 (rs.map encR)) (.t [frS ((btF rs a b).getD (0, 0, 0)), B (btF rs a b).isSome]) := by
  unfold frS
  refine CallW.of Try.func37 rfl tabOk rfl rfl rfl (by simp [SV.wfs, SV.wf]) (by simp [SV.wfs, SV.wf]) fun w hpre => ?_
  (conv => whnf); repeat' (first | ((with_reducible refine isC ?_); first | (refine CallX_m (reached_x A c rs a (by omega) (by omega) hok hl) [] rfl trivial (by decide) (fun σ fp w hm => ArgN.of0 (hpre.mem (by decide) rfl σ fp w hm) _) ?_; intro p; conv => whnf)) | ((with_reducible refine isV ?_); first | ((refine ValX_index tabOk rfl (ArgSl.row 2 rfl) rfl ?_ ?_ ?_) <;> first | omega | (with_reducible show (_ : Int) ≤ _) | (with_reducible show (_ : Int) < _) | (with_reducible show (_ : Nat) ≤ _) | (with_reducible show (_ : Nat) < _) | (conv => whnf)) | ((with_reducible refine nat_idx ?_); (refine ValX_loadEn _ _ ((0, 0, 0)) tabOk rfl rfl rfl rfl (ArgSl.row 2 rfl) ?_ ?_ ?_) <;> first | rfl | omega | (with_reducible show (_ : Int) ≤ _) | (with_reducible show (_ : Int) < _) | (with_reducible show (_ : Nat) ≤ _) | (with_reducible show (_ : Nat) < _) | (conv => whnf)) | ((refine ValX_loadE _ _ ((0, 0, 0)) tabOk rfl rfl rfl rfl (ArgSl.row 2 rfl) ?_ ?_ ?_) <;> first | rfl | omega | (with_reducible show (_ : Int) ≤ _) | (with_reducible show (_ : Int) < _) | (with_reducible show (_ : Nat) ≤ _) | (with_reducible show (_ : Nat) < _) | (conv => whnf)) | ((refine ValX_index tabOk rfl (ArgSl.row 3 rfl) rfl ?_ ?_ ?_) <;> first | omega | (with_reducible show (_ : Int) ≤ _) | (with_reducible show (_ : Int) < _) | (with_reducible show (_ : Nat) ≤ _) | (with_reducible show (_ : Nat) < _) | (conv => whnf)) | ((with_reducible refine nat_idx ?_); (refine ValX_load1n _ _ (false) tabOk rfl rfl rfl (ArgSl.row 3 rfl) ?_ ?_ ?_) <;> first | rfl | omega | (with_reducible show (_ : Int) ≤ _) | (with_reducible show (_ : Int) < _) | (with_reducible show (_ : Nat) ≤ _) | (with_reducible show (_ : Nat) < _) | (conv => whnf)) | ((refine ValX_load1 _ _ (false) tabOk rfl rfl rfl (ArgSl.row 3 rfl) ?_ ?_ ?_) <;> first | rfl | omega | (with_reducible show (_ : Int) ≤ _) | (with_reducible show (_ : Int) < _) | (with_reducible show (_ : Nat) ≤ _) | (with_reducible show (_ : Nat) < _) | (conv => whnf))) | ((with_reducible refine isO ?_); first | ((refine OpX_build0 tabOk rfl rfl rfl ?_); intro bN; conv => whnf) | ((refine OpX_build tabOk rfl rfl rfl rfl rfl ?_); intro bN; conv => whnf)) | ((with_reducible refine isW ?_); first | ((with_reducible refine xwr_ok (by omega) (by omega) ?_); conv => whnf) | ((with_reducible refine xwr_raw ?_); conv => whnf)) | ((with_reducible refine isQ ?_); first | ((with_reducible refine xquo_nn (by omega) (by omega) (by omega) ?_); conv => whnf) | ((with_reducible refine xquo_ok (by omega) (by omega) (by omega) ?_); conv => whnf) | ((with_reducible refine xquo_raw (by omega) ?_); conv => whnf)) | ((with_reducible refine isR ?_); first | ((with_reducible refine xrem_nn (by omega) (by omega) ?_); conv => whnf) | ((with_reducible refine xrem_raw (by omega) ?_); conv => whnf)) | ((with_reducible refine need_i ?_ ?_) <;> first | omega | (conv => whnf)) | ((refine DrawX_s tabOk folOk ?_); conv => whnf) | ((refine DrawS_i (by kernel_rfl) ?_); conv => whnf) | ((with_reducible refine andX_i ?_ ?_) <;> (conv => whnf)) | (with_reducible exact rfl) | ((with_reducible refine xif_kt (by with_reducible assumption) ?_); conv => whnf) | ((with_reducible refine xif_kf (by with_reducible assumption) ?_); conv => whnf) | (((with_reducible refine xif_s ?_ ?_) <;> (intro hb; (try simp (disch := omega) only [wr, ge_dec, gt_dec, decide_eq_true_eq, decide_eq_false_iff_not, beq_iff_eq, bne_iff_ne, beq_eq_false_iff_ne, bne_eq_false_iff_eq, Bool.not_eq_true', Bool.not_eq_false', Bool.and_eq_true, Bool.or_eq_true, Bool.not_not, ne_eq, Decidable.not_not, Int.not_le, Int.not_lt, Int.toNat_natCast, not_true_eq_false, eq_self, Bool.not_true, Bool.not_false, Bool.true_eq_false, Bool.false_eq_true] at hb))) <;> (conv => whnf)))
  · refine Fin_pure rfl ?_ (by simp [SV.wf, SV.wfs])
    rw [btF_out (by omega)]
    rfl
  · refine Fin_pure rfl ?_ (by simp [SV.wf, SV.wfs])
    rw [btF_out (by omega)]
    rfl
  · refine Fin_pure rfl ?_ (by simp [SV.wf, SV.wfs])
    rw [btF_out (by omega)]
    rfl
  · refine Fin_pure rfl ?_ (by simp [SV.wf, SV.wfs])
    rw [btF_out (by omega)]
    rfl
  · refine Fin_pure rfl ?_ (by simp [SV.wf, SV.wfs])
    have e1 := frsOf_at (fromL rs a) (k := b) (by omega) (by omega) (0, 0, 0)
    have e2 := hasOf_at (fromL rs a) (k := b) (by omega) (by omega) false
    rw [btF_in (by omega) (by omega) (by omega) (by omega), ← e1, ← e2]

theorem self_has {rs : List RelT} {a : Int} (h0 : 0 ≤ a) (h1 : a < 8) (hok : ∀ r ∈ rs, RelOk r) : (fLook (fromL rs a) a).isSome = true := by
  have h := (btF_conn hok h0 h1 h0 h1).2 .refl
  rwa [btF_in h0 h1 h0 h1] at h
theorem grp_least {rs : List RelT} {a b : Int} (h0 : 0 ≤ a) (h1 : a < 8) (hok : ∀ r ∈ rs, RelOk r) (hb : (fLook (fromL rs a) b).isSome = true) (hl : ∀ k, 0 ≤ k → k < b → (fLook (fromL rs a) k).isSome = false) : grp rs a = b := by
  obtain ⟨g1, g2, g3⟩ := grpL_spec (keysL (fromL rs a)) a
  have key : ∀ k, (fLook (fromL rs a) k).isSome = true → k ∈ keysL (fromL rs a) := by
    intro k hk
    obtain ⟨f, hf⟩ := Option.isSome_iff_exists.1 hk
    exact List.mem_map.2 ⟨_, fLook_mem hf, rfl⟩
  have ex : ∀ k, k ∈ keysL (fromL rs a) → (fLook (fromL rs a) k).isSome = true := by
    intro k hk
    cases h : fLook (fromL rs a) k with
    | some _ => rfl
    | none => exact (fLook_none h hk).elim
  have hM := fromL_ok h0 h1 hok
  have hg : grpL (keysL (fromL rs a)) a ∈ keysL (fromL rs a) := by
    rcases g3 with g3 | g3
    · rw [g3]
      exact key a (self_has h0 h1 hok)
    · exact g3
  have hle := g2 b (key b hb)
  have hge : ¬ grpL (keysL (fromL rs a)) a < b := by
    intro hlt
    obtain ⟨p, hp, e⟩ := List.mem_map.1 hg
    have := hM.keys p hp
    rw [e] at this
    have := hl _ this.1 hlt
    rw [ex _ hg] at this
    cases this
  show grpL (keysL (fromL rs a)) a = b
  omega

theorem grps_len (rs : List RelT) : (grps rs).length = 8 := by simp [grps]
theorem grps_next (rs : List RelT) {k : Nat} (hk : k < 8) : (grps rs).take (k + 1) = (grps rs).take k ++ [grp rs (k : Int)] := by
  rw [List.take_succ_eq_append_getElem (by rw [grps_len]; exact hk)]
  simp [grps]

set_option maxHeartbeats 2000000 in
theorem rGroups_x (A : Option Addr) (c : Nat) (rs : List RelT) (hok : ∀ r ∈ rs, RelOk r) (hl : rs.length ≤ 1000) :
    CallM Try.prog 34 [.a [.v (.slice A rs.length c)]] (fun w M => ArgN w M A rs.length 5 (rs.map encR)) []
      (fun (p : Option Addr × Nat) => .v (.slice p.1 8 p.2)) (fun p => [.row 3 1 p.1 8 p.2 ((grps rs).map fun x => [encI x])]) := by
  refine CallM.of (m := 0) Try.func34 rfl tabOk rfl rfl rfl rfl (by simp [SV.wfs, SV.wf]) fun w M π hpre => ?_
  (conv => whnf); repeat' (first | ((with_reducible refine isO ?_); first | ((refine OpX_build0 tabOk rfl rfl rfl ?_); intro bN; conv => whnf) | ((refine OpX_build tabOk rfl rfl rfl rfl rfl ?_); intro bN; conv => whnf)) | ((with_reducible refine isW ?_); first | ((with_reducible refine xwr_ok (by omega) (by omega) ?_); conv => whnf) | ((with_reducible refine xwr_raw ?_); conv => whnf)) | ((with_reducible refine isQ ?_); first | ((with_reducible refine xquo_nn (by omega) (by omega) (by omega) ?_); conv => whnf) | ((with_reducible refine xquo_ok (by omega) (by omega) (by omega) ?_); conv => whnf) | ((with_reducible refine xquo_raw (by omega) ?_); conv => whnf)) | ((with_reducible refine isR ?_); first | ((with_reducible refine xrem_nn (by omega) (by omega) ?_); conv => whnf) | ((with_reducible refine xrem_raw (by omega) ?_); conv => whnf)) | ((with_reducible refine need_i ?_ ?_) <;> first | omega | (conv => whnf)) | ((refine DrawX_s tabOk folOk ?_); conv => whnf) | ((refine DrawS_i (by kernel_rfl) ?_); conv => whnf) | ((with_reducible refine andX_i ?_ ?_) <;> (conv => whnf)) | (with_reducible exact rfl) | ((with_reducible refine xif_kt (by with_reducible assumption) ?_); conv => whnf) | ((with_reducible refine xif_kf (by with_reducible assumption) ?_); conv => whnf) | (((with_reducible refine xif_s ?_ ?_) <;> (intro hb; (try simp (disch := omega) only [wr, ge_dec, gt_dec, decide_eq_true_eq, decide_eq_false_iff_not, beq_iff_eq, bne_iff_ne, beq_eq_false_iff_ne, bne_eq_false_iff_eq, Bool.not_eq_true', Bool.not_eq_false', Bool.and_eq_true, Bool.or_eq_true, Bool.not_not, ne_eq, Decidable.not_not, Int.not_le, Int.not_lt, Int.toNat_natCast, not_true_eq_false, eq_self, Bool.not_true, Bool.not_false, Bool.true_eq_false, Bool.false_eq_true] at hb))) <;> (conv => whnf)))
  refine LoopX_addNil 3 1 ?_
  conv => whnf
  refine LoopX_inv tabOk (α := Nat × Option Addr × Nat) (fun p => p.1 ≤ 8) (fun p => [(4, I p.1), (1, .p 0 0), (3, .v (.slice p.2.1 p.1 p.2.2))]) (fun p => [.box 52 [.v (.slice A rs.length c)], .row 3 1 p.2.1 p.1 p.2.2 (((grps rs).take p.1).map fun x => [encI x])]) (fun p => 8 - p.1) (0, none, 0) [0, 1] (by (try dsimp only); omega) ?_ ?_
  · try dsimp only
    ((refine ⟨?_, ?_, ?_, ?_⟩) <;> (repeat' ((conv => whnf); apply And.intro)) <;> (try (first | exact trivial | decide)))
    all_goals first | rfl | exact fun _ _ h => h | simp [SV.wf, SV.wfs]
  · rintro ⟨k, A', c'⟩ hk
    try dsimp only at hk ⊢
    by_cases hlt : k < 8
    · (conv => whnf); repeat' (first | ((with_reducible refine isC ?_); first | (refine CallX_m (reached_x A c rs k (by omega) (by omega) hok hl) [] rfl trivial (by decide) (fun σ fp w hm => ArgN.of0 (hpre.mem (by decide) σ fp w hm) _) ?_; intro p; conv => whnf)) | ((with_reducible refine isO ?_); first | ((refine OpX_build0 tabOk rfl rfl rfl ?_); intro bN; conv => whnf) | ((refine OpX_build tabOk rfl rfl rfl rfl rfl ?_); intro bN; conv => whnf)) | ((with_reducible refine isW ?_); first | ((with_reducible refine xwr_ok (by omega) (by omega) ?_); conv => whnf) | ((with_reducible refine xwr_raw ?_); conv => whnf)) | ((with_reducible refine isQ ?_); first | ((with_reducible refine xquo_nn (by omega) (by omega) (by omega) ?_); conv => whnf) | ((with_reducible refine xquo_ok (by omega) (by omega) (by omega) ?_); conv => whnf) | ((with_reducible refine xquo_raw (by omega) ?_); conv => whnf)) | ((with_reducible refine isR ?_); first | ((with_reducible refine xrem_nn (by omega) (by omega) ?_); conv => whnf) | ((with_reducible refine xrem_raw (by omega) ?_); conv => whnf)) | ((with_reducible refine need_i ?_ ?_) <;> first | omega | (conv => whnf)) | ((refine DrawX_s tabOk folOk ?_); conv => whnf) | ((refine DrawS_i (by kernel_rfl) ?_); conv => whnf) | ((with_reducible refine andX_i ?_ ?_) <;> (conv => whnf)) | (with_reducible exact rfl) | ((with_reducible refine xif_kt (by with_reducible assumption) ?_); conv => whnf) | ((with_reducible refine xif_kf (by with_reducible assumption) ?_); conv => whnf) | (((with_reducible refine xif_s ?_ ?_) <;> (intro hb; (try simp (disch := omega) only [wr, ge_dec, gt_dec, decide_eq_true_eq, decide_eq_false_iff_not, beq_iff_eq, bne_iff_ne, beq_eq_false_iff_ne, bne_eq_false_iff_eq, Bool.not_eq_true', Bool.not_eq_false', Bool.and_eq_true, Bool.or_eq_true, Bool.not_not, ne_eq, Decidable.not_not, Int.not_le, Int.not_lt, Int.toNat_natCast, not_true_eq_false, eq_self, Bool.not_true, Bool.not_false, Bool.true_eq_false, Bool.false_eq_true] at hb))) <;> (conv => whnf)))
      · refine LoopX_inv tabOk (α := Nat) (fun b => b ≤ 8 ∧ ∀ q : Int, 0 ≤ q → q < b → (fLook (fromL rs k) q).isSome = false) (fun b => [(7, I b), (4, I k), (1, .p 0 0), (3, .v (.slice A' k c')), (6, .v (.slice (some ⟨p.2, 0, none⟩) 8 8))])
          (fun b => [.box 52 [.v (.slice A rs.length c)], .row 3 1 A' k c' (((grps rs).take k).map fun x => [encI x]), .row 4 1 (some ⟨p.2, 0, none⟩) 8 8 ((hasOf (fromL rs k)).map encB)]) (fun b => 8 - b) 0 [0, 1, 3] ⟨by omega, fun q h1 h2 => by omega⟩ ?_ ?_
        · try dsimp only
          ((refine ⟨?_, ?_, ?_, ?_⟩) <;> (repeat' ((conv => whnf); apply And.intro)) <;> (try (first | exact trivial | decide)))
          all_goals first | rfl | exact fun _ _ h => h | simp [SV.wf, SV.wfs]
        · intro b hb
          try dsimp only at hb
          obtain ⟨hb8, hno⟩ := hb
          by_cases hbl : b < 8
          · have hat := hasOf_at (fromL rs k) (k := (b : Int)) (by omega) (by omega) false
            rw [Int.toNat_natCast] at hat
            (conv => whnf); repeat' (first | ((with_reducible refine isV ?_); first | ((refine ValX_index tabOk rfl (ArgSl.row 2 rfl) rfl ?_ ?_ ?_) <;> first | omega | (with_reducible show (_ : Int) ≤ _) | (with_reducible show (_ : Int) < _) | (with_reducible show (_ : Nat) ≤ _) | (with_reducible show (_ : Nat) < _) | (conv => whnf)) | ((with_reducible refine nat_idx ?_); (refine ValX_load1n _ _ (false) tabOk rfl rfl rfl (ArgSl.row 2 rfl) ?_ ?_ ?_) <;> first | rfl | omega | (with_reducible show (_ : Int) ≤ _) | (with_reducible show (_ : Int) < _) | (with_reducible show (_ : Nat) ≤ _) | (with_reducible show (_ : Nat) < _) | (conv => whnf)) | ((refine ValX_load1 _ _ (false) tabOk rfl rfl rfl (ArgSl.row 2 rfl) ?_ ?_ ?_) <;> first | rfl | omega | (with_reducible show (_ : Int) ≤ _) | (with_reducible show (_ : Int) < _) | (with_reducible show (_ : Nat) ≤ _) | (with_reducible show (_ : Nat) < _) | (conv => whnf))) | ((with_reducible refine isO ?_); first | ((refine OpX_append 1 tabOk rfl rfl rfl rfl (ArgSl.row 3 rfl) (by decide) ?_ ?_ ?_) <;> first | omega | (dsimp only; omega) | (intro A' c'; conv => whnf)) | ((refine OpX_build0 tabOk rfl rfl rfl ?_); intro bN; conv => whnf) | ((refine OpX_build tabOk rfl rfl rfl rfl rfl ?_); intro bN; conv => whnf)) | ((with_reducible refine isW ?_); first | ((with_reducible refine xwr_ok (by omega) (by omega) ?_); conv => whnf) | ((with_reducible refine xwr_raw ?_); conv => whnf)) | ((with_reducible refine isQ ?_); first | ((with_reducible refine xquo_nn (by omega) (by omega) (by omega) ?_); conv => whnf) | ((with_reducible refine xquo_ok (by omega) (by omega) (by omega) ?_); conv => whnf) | ((with_reducible refine xquo_raw (by omega) ?_); conv => whnf)) | ((with_reducible refine isR ?_); first | ((with_reducible refine xrem_nn (by omega) (by omega) ?_); conv => whnf) | ((with_reducible refine xrem_raw (by omega) ?_); conv => whnf)) | ((with_reducible refine need_i ?_ ?_) <;> first | omega | (conv => whnf)) | ((refine DrawX_s tabOk folOk ?_); conv => whnf) | ((refine DrawS_i (by kernel_rfl) ?_); conv => whnf) | ((with_reducible refine andX_i ?_ ?_) <;> (conv => whnf)) | (with_reducible exact rfl) | ((with_reducible refine xif_kt (by with_reducible assumption) ?_); conv => whnf) | ((with_reducible refine xif_kf (by with_reducible assumption) ?_); conv => whnf) | (((with_reducible refine xif_s ?_ ?_) <;> (intro hb; (try simp (disch := omega) only [wr, ge_dec, gt_dec, decide_eq_true_eq, decide_eq_false_iff_not, beq_iff_eq, bne_iff_ne, beq_eq_false_iff_ne, bne_eq_false_iff_eq, Bool.not_eq_true', Bool.not_eq_false', Bool.and_eq_true, Bool.or_eq_true, Bool.not_not, ne_eq, Decidable.not_not, Int.not_le, Int.not_lt, Int.toNat_natCast, not_true_eq_false, eq_self, Bool.not_true, Bool.not_false, Bool.true_eq_false, Bool.false_eq_true] at hb))) <;> (conv => whnf)))
            · refine ⟨(k + 1, A', c'), [0, 1], by (try dsimp only); omega, ?_, by (try dsimp only); omega⟩
              try dsimp only
              rw [grps_next rs hlt, grp_least (b := (b : Int)) (by omega) (by omega) hok (hat.symm.trans hb) hno, List.map_append]
              ((refine ⟨?_, ?_, ?_, ?_⟩) <;> (repeat' ((conv => whnf); apply And.intro)) <;> (try (first | exact trivial | decide)))
              all_goals first | rfl | exact fun _ _ h => h | simp [SV.wf, SV.wfs]
            · refine ⟨b + 1, [0, 1, 2], ⟨by omega, fun q h1 h2 => ?_⟩, ?_, by (try dsimp only); omega⟩
              · by_cases e : q = b
                · rw [e, ← hat, hb]
                · exact hno q h1 (by omega)
              · try dsimp only
                ((refine ⟨?_, ?_, ?_, ?_⟩) <;> (repeat' ((conv => whnf); apply And.intro)) <;> (try (first | exact trivial | decide)))
                all_goals first | rfl | exact fun _ _ h => h | simp [SV.wf, SV.wfs]
            · omega
          · obtain rfl : b = 8 := by omega
            exfalso
            have := hno k (by omega) (by omega)
            rw [self_has (by omega) (by omega) hok] at this
            cases this
      · omega
    · obtain rfl : k = 8 := by omega
      (conv => whnf); repeat' (first | ((with_reducible refine isO ?_); first | ((refine OpX_build0 tabOk rfl rfl rfl ?_); intro bN; conv => whnf) | ((refine OpX_build tabOk rfl rfl rfl rfl rfl ?_); intro bN; conv => whnf)) | ((with_reducible refine isW ?_); first | ((with_reducible refine xwr_ok (by omega) (by omega) ?_); conv => whnf) | ((with_reducible refine xwr_raw ?_); conv => whnf)) | ((with_reducible refine isQ ?_); first | ((with_reducible refine xquo_nn (by omega) (by omega) (by omega) ?_); conv => whnf) | ((with_reducible refine xquo_ok (by omega) (by omega) (by omega) ?_); conv => whnf) | ((with_reducible refine xquo_raw (by omega) ?_); conv => whnf)) | ((with_reducible refine isR ?_); first | ((with_reducible refine xrem_nn (by omega) (by omega) ?_); conv => whnf) | ((with_reducible refine xrem_raw (by omega) ?_); conv => whnf)) | ((with_reducible refine need_i ?_ ?_) <;> first | omega | (conv => whnf)) | ((refine DrawX_s tabOk folOk ?_); conv => whnf) | ((refine DrawS_i (by kernel_rfl) ?_); conv => whnf) | ((with_reducible refine andX_i ?_ ?_) <;> (conv => whnf)) | (with_reducible exact rfl) | ((with_reducible refine xif_kt (by with_reducible assumption) ?_); conv => whnf) | ((with_reducible refine xif_kf (by with_reducible assumption) ?_); conv => whnf) | (((with_reducible refine xif_s ?_ ?_) <;> (intro hb; (try simp (disch := omega) only [wr, ge_dec, gt_dec, decide_eq_true_eq, decide_eq_false_iff_not, beq_iff_eq, bne_iff_ne, beq_eq_false_iff_ne, bne_eq_false_iff_eq, Bool.not_eq_true', Bool.not_eq_false', Bool.and_eq_true, Bool.or_eq_true, Bool.not_not, ne_eq, Decidable.not_not, Int.not_le, Int.not_lt, Int.toNat_natCast, not_true_eq_false, eq_self, Bool.not_true, Bool.not_false, Bool.true_eq_false, Bool.false_eq_true] at hb))) <;> (conv => whnf)))
      · refine Fin_m (A', c') [1] ⟨rfl, by simp [SV.wf, SV.wfs]⟩ ?_ (by decide) rfl
        have : (grps rs).take 8 = grps rs := List.take_of_length_le (by rw [grps_len]; exact Nat.le_refl _)
        try dsimp only
        rw [this]
        exact ⟨⟨rfl, rfl, rfl, rfl, rfl, rfl⟩, trivial⟩

theorem Size_x (n m : Int) (h0 : 0 ≤ m) (h1 : m ≤ 1000000000) : PureX Try.prog 54 [I n, I m] (B (szB n m)) := by
  refine PureX.of Try.func54 rfl tabOk rfl rfl rfl (by simp [SV.wfs, SV.wf]) (by simp [SV.wfs, SV.wf]) fun w => ?_
  (conv => whnf); repeat' (first | ((with_reducible refine isO ?_); first | ((refine OpX_build0 tabOk rfl rfl rfl ?_); intro bN; conv => whnf) | ((refine OpX_build tabOk rfl rfl rfl rfl rfl ?_); intro bN; conv => whnf)) | ((with_reducible refine isW ?_); first | ((with_reducible refine xwr_ok (by omega) (by omega) ?_); conv => whnf) | ((with_reducible refine xwr_raw ?_); conv => whnf)) | ((with_reducible refine isQ ?_); first | ((with_reducible refine xquo_nn (by omega) (by omega) (by omega) ?_); conv => whnf) | ((with_reducible refine xquo_ok (by omega) (by omega) (by omega) ?_); conv => whnf) | ((with_reducible refine xquo_raw (by omega) ?_); conv => whnf)) | ((with_reducible refine isR ?_); first | ((with_reducible refine xrem_nn (by omega) (by omega) ?_); conv => whnf) | ((with_reducible refine xrem_raw (by omega) ?_); conv => whnf)) | ((with_reducible refine need_i ?_ ?_) <;> first | omega | (conv => whnf)) | ((refine DrawX_s tabOk folOk ?_); conv => whnf) | ((refine DrawS_i (by kernel_rfl) ?_); conv => whnf) | ((with_reducible refine andX_i ?_ ?_) <;> (conv => whnf)) | (with_reducible exact rfl) | ((with_reducible refine xif_kt (by with_reducible assumption) ?_); conv => whnf) | ((with_reducible refine xif_kf (by with_reducible assumption) ?_); conv => whnf) | (((with_reducible refine xif_s ?_ ?_) <;> (intro hb; (try simp (disch := omega) only [wr, ge_dec, gt_dec, decide_eq_true_eq, decide_eq_false_iff_not, beq_iff_eq, bne_iff_ne, beq_eq_false_iff_ne, bne_eq_false_iff_eq, Bool.not_eq_true', Bool.not_eq_false', Bool.and_eq_true, Bool.or_eq_true, Bool.not_not, ne_eq, Decidable.not_not, Int.not_le, Int.not_lt, Int.toNat_natCast, not_true_eq_false, eq_self, Bool.not_true, Bool.not_false, Bool.true_eq_false, Bool.false_eq_true] at hb))) <;> (conv => whnf)))
  all_goals refine Fin_pure rfl ?_ trivial
  all_goals simp [szB]
  all_goals omega
theorem Right_x (a b q x y : Int) : PureX Try.prog 56 [.a [I a, I b, I q, I x, I y]] (B (addOk (a, b, q, x, y))) := by
  refine PureX.of Try.func56 rfl tabOk rfl rfl rfl (by simp [SV.wfs, SV.wf]) (by simp [SV.wfs, SV.wf]) fun w => ?_
  (conv => whnf); repeat' (first | ((with_reducible refine isC ?_); first | ((with_reducible refine CallX_pure (Size_x _ _ ?_ ?_) ?_) <;> first | omega | (with_reducible show (_ : Int) ≤ _) | (with_reducible show (_ : Int) < _) | (with_reducible show (_ : Nat) ≤ _) | (with_reducible show (_ : Nat) < _) | (conv => whnf))) | ((with_reducible refine isO ?_); first | ((refine OpX_build0 tabOk rfl rfl rfl ?_); intro bN; conv => whnf) | ((refine OpX_build tabOk rfl rfl rfl rfl rfl ?_); intro bN; conv => whnf)) | ((with_reducible refine isW ?_); first | ((with_reducible refine xwr_ok (by omega) (by omega) ?_); conv => whnf) | ((with_reducible refine xwr_raw ?_); conv => whnf)) | ((with_reducible refine isQ ?_); first | ((with_reducible refine xquo_nn (by omega) (by omega) (by omega) ?_); conv => whnf) | ((with_reducible refine xquo_ok (by omega) (by omega) (by omega) ?_); conv => whnf) | ((with_reducible refine xquo_raw (by omega) ?_); conv => whnf)) | ((with_reducible refine isR ?_); first | ((with_reducible refine xrem_nn (by omega) (by omega) ?_); conv => whnf) | ((with_reducible refine xrem_raw (by omega) ?_); conv => whnf)) | ((with_reducible refine need_i ?_ ?_) <;> first | omega | (conv => whnf)) | ((refine DrawX_s tabOk folOk ?_); conv => whnf) | ((refine DrawS_i (by kernel_rfl) ?_); conv => whnf) | ((with_reducible refine andX_i ?_ ?_) <;> (conv => whnf)) | (with_reducible exact rfl) | ((with_reducible refine xif_kt (by with_reducible assumption) ?_); conv => whnf) | ((with_reducible refine xif_kf (by with_reducible assumption) ?_); conv => whnf) | (((with_reducible refine xif_s ?_ ?_) <;> (intro hb; (try simp (disch := omega) only [wr, ge_dec, gt_dec, decide_eq_true_eq, decide_eq_false_iff_not, beq_iff_eq, bne_iff_ne, beq_eq_false_iff_ne, bne_eq_false_iff_eq, Bool.not_eq_true', Bool.not_eq_false', Bool.and_eq_true, Bool.or_eq_true, Bool.not_not, ne_eq, Decidable.not_not, Int.not_le, Int.not_lt, Int.toNat_natCast, not_true_eq_false, eq_self, Bool.not_true, Bool.not_false, Bool.true_eq_false, Bool.false_eq_true] at hb))) <;> (conv => whnf)))
  all_goals refine Fin_pure rfl ?_ trivial
  all_goals simp only [addOk, rbB]
  all_goals simp_all
  all_goals omega

/-- what Add leaves: the same list, or a new one -/
def addI (rs : List RelT) (r : RelT) : Type := { p : Option (Option Addr × Nat) // match p with | none => (addF rs r).2 = rs | some _ => (addF rs r).2.length = rs.length + 1 }
def addV (A : Option Addr) (c : Nat) (rs : List RelT) (r : RelT) (p : addI rs r) : SV :=
  match p.1 with
  | none => .t [.a [.v (.slice A rs.length c)], I (addF rs r).1]
  | some q => .t [.a [.v (.slice q.1 (addF rs r).2.length q.2)], I (addF rs r).1]
def addO (rs : List RelT) (r : RelT) (p : addI rs r) : List OB :=
  match p.1 with
  | none => []
  | some q => [.row 56 5 q.1 (addF rs r).2.length q.2 ((addF rs r).2.map encR)]
set_option maxHeartbeats 2000000 in
theorem rAdd_x (A : Option Addr) (c : Nat) (rs : List RelT) (a b q x y : Int) (hok : ∀ r ∈ rs, RelOk r) (hl : rs.length ≤ 1000) :
    CallM Try.prog 30 [.a [.v (.slice A rs.length c)], .a [I a, I b, I q, I x, I y]] (fun w M => ArgN w M A rs.length 5 (rs.map encR)) []
      (addV A c rs (a, b, q, x, y)) (addO rs (a, b, q, x, y)) := by
  refine CallM.of (m := 0) Try.func30 rfl tabOk rfl rfl rfl rfl (by simp [SV.wfs, SV.wf]) fun w M π hpre => ?_
  (conv => whnf); repeat' (first | ((with_reducible refine isC ?_); first | ((with_reducible refine CallX_pure (Right_x _ _ _ _ _) ?_) <;> first | omega | (with_reducible show (_ : Int) ≤ _) | (with_reducible show (_ : Int) < _) | (with_reducible show (_ : Nat) ≤ _) | (with_reducible show (_ : Nat) < _) | (conv => whnf)) | ((with_reducible refine CallX_pure (mod_x _ _ ?_ ?_) ?_) <;> first | omega | (with_reducible show (_ : Int) ≤ _) | (with_reducible show (_ : Int) < _) | (with_reducible show (_ : Nat) ≤ _) | (with_reducible show (_ : Nat) < _) | (conv => whnf)) | (refine CallX_w (rBetween_x A c rs _ _ hok hl) (fun σ fp w hm => hpre.mem (by decide) σ fp w hm) ?_; conv => whnf)) | ((with_reducible refine isO ?_); first | ((refine OpX_append 4 tabOk rfl rfl rfl rfl (ArgN.mem hpre (by decide)) (by decide) ?_ ?_ ?_) <;> first | omega | (dsimp only; omega) | (intro A' c'; conv => whnf)) | ((refine OpX_append 4 tabOk rfl rfl rfl rfl (ArgSl.row 5 rfl) (by decide) ?_ ?_ ?_) <;> first | omega | (dsimp only; omega) | (intro A' c'; conv => whnf)) | ((refine OpX_build0 tabOk rfl rfl rfl ?_); intro bN; conv => whnf) | ((refine OpX_build tabOk rfl rfl rfl rfl rfl ?_); intro bN; conv => whnf)) | ((with_reducible refine isW ?_); first | ((with_reducible refine xwr_ok (by omega) (by omega) ?_); conv => whnf) | ((with_reducible refine xwr_raw ?_); conv => whnf)) | ((with_reducible refine isQ ?_); first | ((with_reducible refine xquo_nn (by omega) (by omega) (by omega) ?_); conv => whnf) | ((with_reducible refine xquo_ok (by omega) (by omega) (by omega) ?_); conv => whnf) | ((with_reducible refine xquo_raw (by omega) ?_); conv => whnf)) | ((with_reducible refine isR ?_); first | ((with_reducible refine xrem_nn (by omega) (by omega) ?_); conv => whnf) | ((with_reducible refine xrem_raw (by omega) ?_); conv => whnf)) | ((with_reducible refine need_i ?_ ?_) <;> first | omega | (conv => whnf)) | ((refine DrawX_s tabOk folOk ?_); conv => whnf) | ((refine DrawS_i (by kernel_rfl) ?_); conv => whnf) | ((with_reducible refine andX_i ?_ ?_) <;> (conv => whnf)) | (with_reducible exact rfl) | ((with_reducible refine xif_kt (by with_reducible assumption) ?_); conv => whnf) | ((with_reducible refine xif_kf (by with_reducible assumption) ?_); conv => whnf) | (((with_reducible refine xif_s ?_ ?_) <;> (intro hb; (try simp (disch := omega) only [wr, ge_dec, gt_dec, decide_eq_true_eq, decide_eq_false_iff_not, beq_iff_eq, bne_iff_ne, beq_eq_false_iff_ne, bne_eq_false_iff_eq, Bool.not_eq_true', Bool.not_eq_false', Bool.and_eq_true, Bool.or_eq_true, Bool.not_not, ne_eq, Decidable.not_not, Int.not_le, Int.not_lt, Int.toNat_natCast, not_true_eq_false, eq_self, Bool.not_true, Bool.not_false, Bool.true_eq_false, Bool.false_eq_true] at hb))) <;> (conv => whnf)))
  · have e : addF rs (a, b, q, x, y) = (1, rs) := by simp [addF, hb]
    refine Fin_m (⟨none, by rw [e]⟩ : addI rs (a, b, q, x, y)) [] ⟨?_, ?_⟩ trivial (by decide) rfl
    · show _ = SV.ren [] (.t [.a [.v (.slice A rs.length c)], I (addF rs (a, b, q, x, y)).1])
      rw [e]
      rfl
    · simp [addV, SV.wf, SV.wfs]
  · have e : addF rs (a, b, q, x, y) = (11, rs) := by
      obtain ⟨f, hf⟩ := Option.isSome_iff_exists.1 (by assumption : (btF rs a b).isSome = true)
      rw [hf] at hb
      have hne : ¬ f = (q % 4, x, y) := by
        rintro rfl
        simp at hb
      simp [addF, *, addX]
    refine Fin_m (⟨none, by rw [e]⟩ : addI rs (a, b, q, x, y)) [] ⟨?_, ?_⟩ trivial (by decide) rfl
    · show _ = SV.ren [] (.t [.a [.v (.slice A rs.length c)], I (addF rs (a, b, q, x, y)).1])
      rw [e]
      rfl
    · simp [addV, SV.wf, SV.wfs]
  · have e : addF rs (a, b, q, x, y) = (0, rs) := by
      obtain ⟨f, hf⟩ := Option.isSome_iff_exists.1 (by assumption : (btF rs a b).isSome = true)
      rw [hf] at hb
      have hq : f = (q % 4, x, y) := by
        obtain ⟨h1, h2, h3, _⟩ := hb
        exact Prod.ext h1 (Prod.ext h2 h3)
      simp [addF, *, addX]
    refine Fin_m (⟨none, by rw [e]⟩ : addI rs (a, b, q, x, y)) [] ⟨?_, ?_⟩ trivial (by decide) rfl
    · show _ = SV.ren [] (.t [.a [.v (.slice A rs.length c)], I (addF rs (a, b, q, x, y)).1])
      rw [e]
      rfl
    · simp [addV, SV.wf, SV.wfs]
  · have e : addF rs (a, b, q, x, y) = (0, rs ++ [(a, b, q % 4, x, y)]) := by
      have hn : btF rs a b = none := by simpa using hb
      simp [addF, *, addX]
    refine Fin_m (⟨some (A', c'), by rw [e]; simp⟩ : addI rs (a, b, q, x, y)) [4] ⟨?_, ?_⟩ ?_ (by decide) rfl
    · show _ = SV.ren [4] (.t [.a [.v (.slice A' (addF rs (a, b, q, x, y)).2.length c')], I (addF rs (a, b, q, x, y)).1])
      rw [e, Nat.zero_add, List.length_append]
      rfl
    · simp [addV, SV.wf, SV.wfs]
    · refine ⟨?_, trivial⟩
      show OB.is [4] 1 _ (.row 56 5 A' (addF rs (a, b, q, x, y)).2.length c' ((addF rs (a, b, q, x, y)).2.map encR))
      rw [e, List.length_append]
      exact ⟨rfl, rfl, rfl, by rw [Nat.zero_add]; rfl, rfl, by simp [encR]⟩
end Go.Proofs.Ytkacggfadalbiaa.En
