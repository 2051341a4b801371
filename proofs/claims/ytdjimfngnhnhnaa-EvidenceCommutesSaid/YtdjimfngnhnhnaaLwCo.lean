/- The walk of EvidenceCommutes. -/
import Derived.Test.YtdjimfngnhnhnaaCc
import Derived.Test.YtdjimfngnhnhnaaOi
import Derived.Test.YtdjimfngnhnhnaaBr
set_option linter.all false
namespace Go.Proofs.Ytdjimfngnhnhnaa.En
open Go.RowKit
set_option maxRecDepth 100000

theorem argNil (w : World) (M : Nat → Prop) : ArgN w M none 0 4 (([] : List EntT).map encE) := ⟨⟨rfl, by simp, by simp, fun h => absurd rfl h⟩, fun h => absurd rfl h⟩
set_option maxHeartbeats 4000000 in
theorem commutes_x (A1 A2 A3 : Option Addr) (c1 c2 c3 : Nat) (a b c : List EntT) {n m k : Nat} (ha : a.length = n) (hb0 : b.length = m) (hc0 : c.length = k) (hn : n ≤ maxLen) (hm : m ≤ maxLen) (hk : k ≤ maxLen) :
    CallW Try.prog 7 [.v (.slice A1 n c1), .v (.slice A2 m c2), .v (.slice A3 k c3)] (fun w => ArgSl w A1 n 4 (a.map encE) ∧ ArgSl w A2 m 4 (b.map encE) ∧ ArgSl w A3 k 4 (c.map encE)) (B true) := by
  have hn' := hn
  have hm' := hm
  have hk' := hk
  unfold maxLen at hn' hm' hk'
  have k1 := Add_m A1 A2 c1 c2 a b ha hb0 hn hm
  have k2 := Add_m A2 A1 c2 c1 b a hb0 ha hm hn
  rw [comb_sym b a] at k2
  have k3 := Add_m A2 A3 c2 c3 b c hb0 hc0 hm hk
  have k6 := Add_m A1 none c1 0 a [] ha (m := 0) rfl hn (by decide)
  have l1 := comb_len 1 a b
  have l2 := comb_len 1 b c
  have k4 := fun A' c' => Add_m A' A3 c' c3 (combE 1 a b).1 c (n := (combE 1 a b).1.length) rfl hc0 (by unfold maxLen; omega) hk
  have k5 := fun A' c' => Add_m A1 A' c1 c' a (combE 1 b c).1 (m := (combE 1 b c).1.length) ha rfl hn (by unfold maxLen; omega)
  have l4 := comb_len 1 (combE 1 a b).1 c
  have l5 := comb_len 1 a (combE 1 b c).1
  have has := comb_assoc (a := a) (b := b) (c := c)
  have hv := Valid_v A1 c1 a ha hn
  have hinv := comb_inv (f := 1) (a := a) (b := [])
  have hnil := comb_nil (a := a)
  generalize combE 1 a b = r1 at *
  generalize combE 1 b c = r2 at *
  generalize combE 1 r1.1 c = r3 at *
  generalize combE 1 a r2.1 = r4 at *
  generalize combE 1 a [] = r5 at *
  by_cases hg : n ≤ 60 ∧ m ≤ 60 ∧ k ≤ 60
  · obtain ⟨g1, g2, g3⟩ := hg
    refine CallW.of Try.func7 rfl tabOk rfl rfl rfl (by simp [SV.wfs, SV.wf]) (by simp [SV.wfs, SV.wf]) fun w hpre => ?_
    obtain ⟨hp1, hp2, hp3⟩ := hpre
    cases hva : vE a
    all_goals
      rw [hva] at hv
      first | (have h5 := hinv hva) | (have h5 := hnil hva)
      subst h5
      clear hinv hnil
      (conv => whnf); repeat' (first | ((with_reducible refine isC ?_); first | ((with_reducible refine CallX_pure (awake15_x) ?_) <;> first | omega | (with_reducible show (_ : Int) ≤ _) | (with_reducible show (_ : Int) < _) | (with_reducible show (_ : Nat) ≤ _) | (with_reducible show (_ : Nat) < _) | (conv => whnf)) | ((with_reducible refine isF 31 ?_); (with_reducible refine CallX_m (k1) [] ?_ ?_ ?_ ?_ ?_); (focus (exact rfl)); (focus (exact trivial)); (focus (decide)); (focus (exact fun σ fp w hm => ⟨ArgN.of0 (hp1.mem (by decide) rfl σ fp w hm) _, ArgN.of0 (hp2.mem (by decide) rfl σ fp w hm) _⟩)); intro q; obtain ⟨A_1, c_1⟩ := q; dsimp only; conv => whnf) | ((with_reducible refine isF 31 ?_); (with_reducible refine CallX_m (k2) [] ?_ ?_ ?_ ?_ ?_); (focus (exact rfl)); (focus (exact trivial)); (focus (decide)); (focus (exact fun σ fp w hm => ⟨ArgN.of0 (hp2.mem (by decide) rfl σ fp w hm) _, ArgN.of0 (hp1.mem (by decide) rfl σ fp w hm) _⟩)); intro q; obtain ⟨A_2, c_2⟩ := q; dsimp only; conv => whnf) | ((with_reducible refine isF 24 ?_); (with_reducible refine CallX_w (Entries_t A_1 A_2 c_1 c_2 r1.1 r1.1 rfl rfl rfl (by omega) (by omega)) ?_ ?_); (focus (exact fun σ fp w hm => ⟨ArgSl.row 0 rfl σ fp w hm, ArgSl.row 1 rfl σ fp w hm⟩)); conv => whnf) | ((with_reducible refine isF 31 ?_); (with_reducible refine CallX_m (k3) [] ?_ ?_ ?_ ?_ ?_); (focus (exact rfl)); (focus (exact trivial)); (focus (decide)); (focus (exact fun σ fp w hm => ⟨ArgN.of0 (hp2.mem (by decide) rfl σ fp w hm) _, ArgN.of0 (hp3.mem (by decide) rfl σ fp w hm) _⟩)); intro q; obtain ⟨A_3, c_3⟩ := q; dsimp only; conv => whnf) | ((with_reducible refine isF 31 ?_); (with_reducible refine CallX_m (k4 A_1 c_1) [] ?_ ?_ ?_ ?_ ?_); (focus (exact rfl)); (focus (exact trivial)); (focus (decide)); (focus (exact fun σ fp w hm => ⟨ArgN.row 0 rfl (m := 0) (fun j hj => by omega) σ fp w hm, ArgN.of0 (hp3.mem (by decide) rfl σ fp w hm) _⟩)); intro q; obtain ⟨A_4, c_4⟩ := q; dsimp only; conv => whnf) | ((with_reducible refine isF 31 ?_); (with_reducible refine CallX_m (k5 A_3 c_3) [] ?_ ?_ ?_ ?_ ?_); (focus (exact rfl)); (focus (exact trivial)); (focus (decide)); (focus (exact fun σ fp w hm => ⟨ArgN.of0 (hp1.mem (by decide) rfl σ fp w hm) _, ArgN.row 2 rfl (m := 0) (fun j hj => by omega) σ fp w hm⟩)); intro q; obtain ⟨A_5, c_5⟩ := q; dsimp only; conv => whnf) | ((with_reducible refine isF 24 ?_); (with_reducible refine CallX_w (Entries_w A_4 A_5 c_4 c_5 r3.1 r4.1 rfl rfl (by omega) (by omega)) ?_ ?_); (focus (exact fun σ fp w hm => ⟨ArgSl.row 3 rfl σ fp w hm, ArgSl.row 4 rfl σ fp w hm⟩)); conv => whnf) | ((with_reducible refine isF 31 ?_); (with_reducible refine CallX_m (k6) [] ?_ ?_ ?_ ?_ ?_); (focus (exact rfl)); (focus (exact trivial)); (focus (decide)); (focus (exact fun σ fp w hm => ⟨ArgN.of0 (hp1.mem (by decide) rfl σ fp w hm) _, argNil _ _⟩)); intro q; obtain ⟨A_6, c_6⟩ := q; dsimp only; conv => whnf) | ((with_reducible refine isF 19 ?_); (with_reducible refine CallX_v (hv) ?_ ?_); (focus (exact hp1.mem (by decide) rfl)); conv => whnf) | ((with_reducible refine isF 24 ?_); (with_reducible refine CallX_w (Entries_t A_6 A1 c_6 c1 a a rfl ha rfl (by omega) (by omega)) ?_ ?_); (focus (exact fun σ fp w hm => ⟨ArgSl.row 5 rfl σ fp w hm, hp1.mem (by decide) rfl σ fp w hm⟩)); conv => whnf)) | ((with_reducible refine isO ?_); first | ((refine OpX_build0 tabOk rfl rfl rfl ?_); intro bN; conv => whnf) | ((refine OpX_build tabOk rfl rfl rfl rfl rfl ?_); intro bN; conv => whnf)) | ((with_reducible refine isW ?_); first | ((with_reducible refine xwr_ok (by omega) (by omega) ?_); conv => whnf) | ((with_reducible refine xwr_raw ?_); conv => whnf)) | ((with_reducible refine isQ ?_); first | ((with_reducible refine xquo_nn (by omega) (by omega) (by omega) ?_); conv => whnf) | ((with_reducible refine xquo_ok (by omega) (by omega) (by omega) ?_); conv => whnf) | ((with_reducible refine xquo_raw (by omega) ?_); conv => whnf)) | ((with_reducible refine isR ?_); first | ((with_reducible refine xrem_nn (by omega) (by omega) ?_); conv => whnf) | ((with_reducible refine xrem_raw (by omega) ?_); conv => whnf)) | ((with_reducible refine isS ?_); first | ((with_reducible refine xshr_1 ?_); conv => whnf)) | ((with_reducible refine isK ?_); first | ((with_reducible refine xcv_i64 (by omega) (by omega) ?_); conv => whnf) | ((with_reducible refine xcv_u64 (by omega) (by omega) ?_); conv => whnf) | ((with_reducible refine xcv_u8 (by omega) (by omega) ?_); conv => whnf) | ((with_reducible refine xcv_raw ?_); conv => whnf)) | ((with_reducible refine need_i ?_ ?_) <;> first | omega | (conv => whnf)) | ((refine DrawX_s tabOk folOk ?_); conv => whnf) | ((refine DrawS_i (by kernel_rfl) ?_); conv => whnf) | ((with_reducible refine andX_i ?_ ?_) <;> (conv => whnf)) | (with_reducible exact rfl) | ((with_reducible refine xif_kt (by with_reducible assumption) ?_); conv => whnf) | ((with_reducible refine xif_kf (by with_reducible assumption) ?_); conv => whnf) | (((with_reducible refine xif_s ?_ ?_) <;> (intro hb; (try simp (disch := omega) only [wr, ge_dec, gt_dec, decide_eq_true_eq, decide_eq_false_iff_not, beq_iff_eq, bne_iff_ne, beq_eq_false_iff_ne, bne_eq_false_iff_eq, Bool.not_eq_true', Bool.not_eq_false', Bool.and_eq_true, Bool.or_eq_true, Bool.not_not, ne_eq, Decidable.not_not, Int.not_le, Int.not_lt, Int.toNat_natCast, not_true_eq_false, eq_self, Bool.not_true, Bool.not_false, Bool.true_eq_false, Bool.false_eq_true] at hb))) <;> (conv => whnf)))
    all_goals first
      | exact Fin_pure rfl rfl trivial
      | (exfalso; omega)
      | (rename_i hb1 hb2 hb3 hb4 hb5; first | exact absurd (has hb1 hb2 hb3 hb4) hb5 | exact absurd (has (by assumption) (by assumption) (by assumption) (by assumption)) (by assumption))
  · refine CallW.of Try.func7 rfl tabOk rfl rfl rfl (by simp [SV.wfs, SV.wf]) (by simp [SV.wfs, SV.wf]) fun w hpre => ?_
    (conv => whnf); repeat' (first | ((with_reducible refine isC ?_); first | ((with_reducible refine CallX_pure (awake15_x) ?_) <;> first | omega | (with_reducible show (_ : Int) ≤ _) | (with_reducible show (_ : Int) < _) | (with_reducible show (_ : Nat) ≤ _) | (with_reducible show (_ : Nat) < _) | (conv => whnf))) | ((with_reducible refine isO ?_); first | ((refine OpX_build0 tabOk rfl rfl rfl ?_); intro bN; conv => whnf) | ((refine OpX_build tabOk rfl rfl rfl rfl rfl ?_); intro bN; conv => whnf)) | ((with_reducible refine isW ?_); first | ((with_reducible refine xwr_ok (by omega) (by omega) ?_); conv => whnf) | ((with_reducible refine xwr_raw ?_); conv => whnf)) | ((with_reducible refine isQ ?_); first | ((with_reducible refine xquo_nn (by omega) (by omega) (by omega) ?_); conv => whnf) | ((with_reducible refine xquo_ok (by omega) (by omega) (by omega) ?_); conv => whnf) | ((with_reducible refine xquo_raw (by omega) ?_); conv => whnf)) | ((with_reducible refine isR ?_); first | ((with_reducible refine xrem_nn (by omega) (by omega) ?_); conv => whnf) | ((with_reducible refine xrem_raw (by omega) ?_); conv => whnf)) | ((with_reducible refine isS ?_); first | ((with_reducible refine xshr_1 ?_); conv => whnf)) | ((with_reducible refine isK ?_); first | ((with_reducible refine xcv_i64 (by omega) (by omega) ?_); conv => whnf) | ((with_reducible refine xcv_u64 (by omega) (by omega) ?_); conv => whnf) | ((with_reducible refine xcv_u8 (by omega) (by omega) ?_); conv => whnf) | ((with_reducible refine xcv_raw ?_); conv => whnf)) | ((with_reducible refine need_i ?_ ?_) <;> first | omega | (conv => whnf)) | ((refine DrawX_s tabOk folOk ?_); conv => whnf) | ((refine DrawS_i (by kernel_rfl) ?_); conv => whnf) | ((with_reducible refine andX_i ?_ ?_) <;> (conv => whnf)) | (with_reducible exact rfl) | ((with_reducible refine xif_kt (by with_reducible assumption) ?_); conv => whnf) | ((with_reducible refine xif_kf (by with_reducible assumption) ?_); conv => whnf) | (((with_reducible refine xif_s ?_ ?_) <;> (intro hb; (try simp (disch := omega) only [wr, ge_dec, gt_dec, decide_eq_true_eq, decide_eq_false_iff_not, beq_iff_eq, bne_iff_ne, beq_eq_false_iff_ne, bne_eq_false_iff_eq, Bool.not_eq_true', Bool.not_eq_false', Bool.and_eq_true, Bool.or_eq_true, Bool.not_not, ne_eq, Decidable.not_not, Int.not_le, Int.not_lt, Int.toNat_natCast, not_true_eq_false, eq_self, Bool.not_true, Bool.not_false, Bool.true_eq_false, Bool.false_eq_true] at hb))) <;> (conv => whnf)))
    all_goals first
      | exact Fin_pure rfl rfl trivial
      | (exfalso; omega)
/-- the same, over slices as they are opened -/
theorem commutes_walk (A0 : Option Addr) (n0 c0 : Nat) (V0 : Nat → Nat → Int) (A1 : Option Addr) (n1 c1 : Nat) (V1 : Nat → Nat → Int) (A2 : Option Addr) (n2 c2 : Nat) (V2 : Nat → Nat → Int) (w : World) (h0 : SlO w A0 n0 4 V0) (g0 : n0 ≤ c0) (k0 : c0 ≤ maxLen) (h1 : SlO w A1 n1 4 V1) (g1 : n1 ≤ c1) (k1 : c1 ≤ maxLen) (h2 : SlO w A2 n2 4 V2) (g2 : n2 ≤ c2) (k2 : c2 ≤ maxLen) :
    Calls Try.prog 7 #[.slice A0 n0 c0, .slice A1 n1 c1, .slice A2 n2 c2] w fun e w' => e = .returned (.bool true) ∧ Below w.heap.size w w' := by
  have a0 := ArgSl.of_SlO encE (fun i => (V0 i 0, V0 i 1, V0 i 2, V0 i 3)) h0 (by decide) (fun i => rfl)
  have a1 := ArgSl.of_SlO encE (fun i => (V1 i 0, V1 i 1, V1 i 2, V1 i 3)) h1 (by decide) (fun i => rfl)
  have a2 := ArgSl.of_SlO encE (fun i => (V2 i 0, V2 i 1, V2 i 2, V2 i 3)) h2 (by decide) (fun i => rfl)
  generalize e0 : (List.range n0).map (fun i => (V0 i 0, V0 i 1, V0 i 2, V0 i 3)) = xs at a0
  generalize e1 : (List.range n1).map (fun i => (V1 i 0, V1 i 1, V1 i 2, V1 i 3)) = ys at a1
  generalize e2 : (List.range n2).map (fun i => (V2 i 0, V2 i 1, V2 i 2, V2 i 3)) = zs at a2
  obtain rfl : xs.length = n0 := by rw [← e0]; simp
  obtain rfl : ys.length = n1 := by rw [← e1]; simp
  obtain rfl : zs.length = n2 := by rw [← e2]; simp
  exact (commutes_x A0 A1 A2 c0 c1 c2 xs ys zs rfl rfl rfl (by omega) (by omega) (by omega)).2.2 (fun _ => 0) w ⟨a0, a1, a2⟩
end Go.Proofs.Ytdjimfngnhnhnaa.En
