/- The walk of FrameOrder. -/
import Derived.Test.YtkacggfadalbiaaTr
import Derived.Test.YtkacggfadalbiaaBr
namespace Go.Proofs.Ytkacggfadalbiaa.En
open Go.RowKit
set_option maxRecDepth 100000

theorem plc_ok (ats : List Fr) (k : Int) : FrOk (plc ats k) := by
  simp only [plc, nearF, FrOk]
  omega
theorem plc_bd (ats : List Fr) (k : Int) : -200 ≤ (plc ats k).2.1 ∧ (plc ats k).2.1 ≤ 200 ∧ -200 ≤ (plc ats k).2.2 ∧ (plc ats k).2.2 ≤ 200 := nearF_bd _ 200 (by decide)
theorem truths_good (ats : List Fr) (l : List (Int × Int)) : Good (plc ats) (truths ats l) := by
  refine ⟨plc_ok ats, fun x hx => ?_⟩
  obtain ⟨t, _, ht⟩ := List.mem_filterMap.1 hx
  split at ht
  · cases ht
  · cases ht
    exact trueRel_good (plc_ok ats) (plc_bd ats) (by omega) (by omega) (by omega) (by omega) (by assumption)
theorem good_step {P : Int → Fr} {L : List RelT} (h : Good P L) {k : Nat} (hk : k < L.length) : (addF (addAll [] (L.take k)) (L.getD k (0, 0, 0, 0, 0))).1 = 0 ∧ (addF (addAll [] (L.take k)) (L.getD k (0, 0, 0, 0, 0))).2 = addAll [] (L.take (k + 1)) := by
  have h1 := good_add h (k := k) (x := L[k]) (by simp [hk])
  have : L.getD k (0, 0, 0, 0, 0) = L[k] := by simp [hk]
  rw [this]
  exact ⟨h1.1, h1.2.symm⟩
theorem good_back {P : Int → Fr} {L : List RelT} (h : Good P L) {k : Nat} {i : Int} (hk : k < L.length) (hi : i = (L.length : Int) - 1 - k) : (addF (addAll [] (L.reverse.take k)) (L.getD i.toNat (0, 0, 0, 0, 0))).1 = 0 ∧ (addF (addAll [] (L.reverse.take k)) (L.getD i.toNat (0, 0, 0, 0, 0))).2 = addAll [] (L.reverse.take (k + 1)) := by
  have hr : Good P L.reverse := h.sub fun x hx => by simpa using hx
  have h1 := good_step hr (k := k) (by simpa using hk)
  have e : L.getD i.toNat (0, 0, 0, 0, 0) = L.reverse.getD k (0, 0, 0, 0, 0) := by
    have e1 : i.toNat = L.length - 1 - k := by omega
    rw [e1]
    simp [List.getElem?_reverse hk]
  rw [e]
  exact h1
theorem order_grps {P : Int → Fr} {l l' : List RelT} (h : Good P l) (hs : ∀ x, x ∈ l ↔ x ∈ l') : grps (addAll [] l') = grps (addAll [] l) := by
  have h1 := good_inv h
  have h2 := good_inv (h.sub fun x hx => (hs x).2 hx)
  unfold grps
  refine List.map_congr_left fun i hi => ?_
  have hi8 : i < 8 := by simpa using hi
  exact grp_same (by omega) (by omega) (by omega) (by omega) h2.acc.ok h1.acc.ok fun k => (order_conn h hs i k).symm

theorem Ints_n (A1 A2 : Option Addr) (c1 c2 : Nat) {xs ys : List Int} {n m : Nat} (hn : xs.length = n) (hm : ys.length = m) (h1 : n ≤ 1000000000) (h2 : m ≤ 1000000000) :
    CallW Try.prog 32 [.v (.slice A1 n c1), .v (.slice A2 m c2)] (fun w => ArgSl w A1 n 1 (xs.map fun x => [encI x]) ∧ ArgSl w A2 m 1 (ys.map fun x => [encI x])) (B (decide (xs = ys))) := by
  subst hn hm
  exact Ints_x A1 A2 c1 c2 xs ys h1 h2
theorem order_x (A1 A2 : Option Addr) (c1 c2 : Nat) (ats : List Fr) (l : List (Int × Int)) (a : Int) (h1 : ats.length ≤ maxLen) (h2 : l.length ≤ maxLen) :
    CallW Try.prog 8 [.v (.slice A1 ats.length c1), .v (.slice A2 l.length c2), I a] (fun w => ArgSl w A1 ats.length 3 (ats.map encF) ∧ ArgSl w A2 l.length 2 (l.map encT)) (B true) := by
  unfold maxLen at h1 h2
  refine CallW.of Try.func8 rfl tabOk rfl rfl rfl (by simp [SV.wfs, SV.wf]) (by simp [SV.wfs, SV.wf]) fun w hpre => ?_
  obtain ⟨hA1, hA2⟩ := hpre
  have htl := truths_len ats l
  have hG := truths_good ats l
  (conv => whnf); repeat' (first | ((with_reducible refine xif_t ?_); conv => whnf) | ((with_reducible refine xif_f ?_); conv => whnf) | ((with_reducible refine CallX_pure (awake_x) ?_) <;> first | omega | (conv => whnf)) | (refine CallX_r (truth_r A1 A2 c1 c2 ats l (by omega) (by omega)) (fun σ fp w hm => ⟨hA1.mem (by decide) rfl σ fp w hm, hA2.mem (by decide) rfl σ fp w hm⟩) ?_; intro A c; conv => whnf) | (refine CallX_New rfl ?_; intro rb2; conv => whnf) | ((with_reducible refine xwr_ok (by omega) (by omega) ?_); conv => whnf) | ((with_reducible refine xwr_raw ?_); conv => whnf) | ((with_reducible refine xquo_nn (by omega) (by omega) (by omega) ?_); conv => whnf) | ((with_reducible refine xquo_ok (by omega) (by omega) (by omega) ?_); conv => whnf) | ((with_reducible refine xquo_raw (by omega) ?_); conv => whnf) | ((with_reducible refine xrem_nn (by omega) (by omega) ?_); conv => whnf) | ((with_reducible refine xrem_raw (by omega) ?_); conv => whnf) | ((refine OpX_build0 tabOk rfl rfl rfl ?_); intro bN; conv => whnf) | ((refine OpX_build tabOk rfl rfl rfl rfl rfl ?_); intro bN; conv => whnf) | ((with_reducible refine need_i ?_ ?_) <;> first | omega | (conv => whnf)) | ((refine DrawX_s tabOk folOk ?_); conv => whnf) | ((refine DrawS_i (by kernel_rfl) ?_); conv => whnf) | ((with_reducible refine andX_i ?_ ?_) <;> (conv => whnf)) | (with_reducible exact rfl) | (((with_reducible refine xif_s ?_ ?_) <;> (intro hb; (try simp (disch := omega) only [wr, ge_dec, gt_dec, decide_eq_true_eq, decide_eq_false_iff_not, beq_iff_eq, bne_iff_ne, beq_eq_false_iff_ne, bne_eq_false_iff_eq, Bool.not_eq_true', Bool.not_eq_false', Bool.and_eq_true, Bool.or_eq_true, Bool.not_not, ne_eq, Decidable.not_not, Int.not_le, Int.not_lt, Int.toNat_natCast, not_true_eq_false, eq_self, Bool.not_true, Bool.not_false, Bool.true_eq_false, Bool.false_eq_true] at hb))) <;> (conv => whnf)))
  · exact Fin_pure rfl rfl trivial
  · exact Fin_pure rfl rfl trivial
  rename_i hl1 hl2 hT rb1
  clear hA1 hA2
  generalize truths ats l = L at *
  have hlen : (L.map encR).length = L.length := by simp
  rw [hlen]
  refine LoopX_inv tabOk (α := Nat) (fun k => k ≤ L.length) (fun k => [(11, I k), (7, .v (.slice A L.length c)), (9, .v (.pointer (some ⟨rb1, 0, none⟩))), (10, .v (.pointer (some ⟨rb2, 0, none⟩))), (2, I a)]) (fun k => [.row 56 5 A L.length c (L.map encR), relO rb1 (addAll [] (L.take k)), relO rb2 (addAll [] (L.reverse.take k))]) (fun k => L.length - k) 0 [0, 1, 2] (by (try dsimp only); omega) ?_ ?_
  · try dsimp only
    ((refine ⟨?_, ?_, ?_⟩) <;> (repeat' ((conv => whnf); apply And.intro)) <;> (try (first | exact trivial | decide)))
    all_goals first | rfl | exact fun _ _ h => h
  · intro k hk
    have ha1 := addAll_len (L.take k) []
    have ha2 := addAll_len (L.reverse.take k) []
    have ht1 : (L.take k).length ≤ k := List.length_take_le _ _
    have ht2 : (L.reverse.take k).length ≤ k := List.length_take_le _ _
    simp only [List.length_nil] at ha1 ha2
    (conv => whnf); repeat' (first | ((with_reducible refine xif_t ?_); conv => whnf) | ((with_reducible refine xif_f ?_); conv => whnf) | ((refine ValX_index tabOk rfl (ArgSl.row 0 rfl) rfl ?_ ?_ ?_) <;> first | omega | (conv => whnf)) | ((refine ValX_loadE _ _ ((0, 0, 0, 0, 0)) tabOk rfl rfl rfl rfl (ArgSl.row 0 rfl) ?_ ?_ ?_) <;> first | rfl | omega | (conv => whnf)) | ((refine CallX_Add 1 rfl rfl ?_ ?_) <;> first | omega | (conv => whnf)) | ((refine CallX_Add 2 rfl rfl ?_ ?_) <;> first | omega | (conv => whnf)) | ((with_reducible refine xwr_ok (by omega) (by omega) ?_); conv => whnf) | ((with_reducible refine xwr_raw ?_); conv => whnf) | ((with_reducible refine xquo_nn (by omega) (by omega) (by omega) ?_); conv => whnf) | ((with_reducible refine xquo_ok (by omega) (by omega) (by omega) ?_); conv => whnf) | ((with_reducible refine xquo_raw (by omega) ?_); conv => whnf) | ((with_reducible refine xrem_nn (by omega) (by omega) ?_); conv => whnf) | ((with_reducible refine xrem_raw (by omega) ?_); conv => whnf) | ((refine OpX_build0 tabOk rfl rfl rfl ?_); intro bN; conv => whnf) | ((refine OpX_build tabOk rfl rfl rfl rfl rfl ?_); intro bN; conv => whnf) | ((with_reducible refine need_i ?_ ?_) <;> first | omega | (conv => whnf)) | ((refine DrawX_s tabOk folOk ?_); conv => whnf) | ((refine DrawS_i (by kernel_rfl) ?_); conv => whnf) | ((with_reducible refine andX_i ?_ ?_) <;> (conv => whnf)) | (with_reducible exact rfl) | (((with_reducible refine xif_s ?_ ?_) <;> (intro hb; (try simp (disch := omega) only [wr, ge_dec, gt_dec, decide_eq_true_eq, decide_eq_false_iff_not, beq_iff_eq, bne_iff_ne, beq_eq_false_iff_ne, bne_eq_false_iff_eq, Bool.not_eq_true', Bool.not_eq_false', Bool.and_eq_true, Bool.or_eq_true, Bool.not_not, ne_eq, Decidable.not_not, Int.not_le, Int.not_lt, Int.toNat_natCast, not_true_eq_false, eq_self, Bool.not_true, Bool.not_false, Bool.true_eq_false, Bool.false_eq_true] at hb))) <;> (conv => whnf)))
    · exact absurd (good_step hG (by omega)).1 hb
    · exact absurd (good_back hG (by omega) (by omega)).1 hb
    · refine ⟨k + 1, [0, 1, 2], by (try dsimp only); omega, ?_, by (try dsimp only); omega⟩
      dsimp only
      rw [← (good_step hG (k := k) (by omega)).2, ← (good_back hG (k := k) (i := (L.length : Int) - 1 - k) (by omega) rfl).2]
      ((refine ⟨?_, ?_, ?_⟩) <;> (repeat' ((conv => whnf); apply And.intro)) <;> (try (first | exact trivial | decide)))
      all_goals first | rfl | exact fun _ _ h => h
    · obtain rfl : k = L.length := by omega
      have hrl : L.reverse.length = L.length := by simp
      rw [List.take_length, List.take_of_length_le (by omega)] at *
      (conv => whnf); repeat' (first | ((with_reducible refine xif_t ?_); conv => whnf) | ((with_reducible refine xif_f ?_); conv => whnf) | ((with_reducible refine CallX_pure (mod_x _ _ ?_ ?_) ?_) <;> first | omega | (conv => whnf)) | ((with_reducible refine xwr_ok (by omega) (by omega) ?_); conv => whnf) | ((with_reducible refine xwr_raw ?_); conv => whnf) | ((with_reducible refine xquo_nn (by omega) (by omega) (by omega) ?_); conv => whnf) | ((with_reducible refine xquo_ok (by omega) (by omega) (by omega) ?_); conv => whnf) | ((with_reducible refine xquo_raw (by omega) ?_); conv => whnf) | ((with_reducible refine xrem_nn (by omega) (by omega) ?_); conv => whnf) | ((with_reducible refine xrem_raw (by omega) ?_); conv => whnf) | ((refine OpX_build0 tabOk rfl rfl rfl ?_); intro bN; conv => whnf) | ((refine OpX_build tabOk rfl rfl rfl rfl rfl ?_); intro bN; conv => whnf) | ((with_reducible refine need_i ?_ ?_) <;> first | omega | (conv => whnf)) | ((refine DrawX_s tabOk folOk ?_); conv => whnf) | ((refine DrawS_i (by kernel_rfl) ?_); conv => whnf) | ((with_reducible refine andX_i ?_ ?_) <;> (conv => whnf)) | (with_reducible exact rfl) | (((with_reducible refine xif_s ?_ ?_) <;> (intro hb; (try simp (disch := omega) only [wr, ge_dec, gt_dec, decide_eq_true_eq, decide_eq_false_iff_not, beq_iff_eq, bne_iff_ne, beq_eq_false_iff_ne, bne_eq_false_iff_eq, Bool.not_eq_true', Bool.not_eq_false', Bool.and_eq_true, Bool.or_eq_true, Bool.not_not, ne_eq, Decidable.not_not, Int.not_le, Int.not_lt, Int.toNat_natCast, not_true_eq_false, eq_self, Bool.not_true, Bool.not_false, Bool.true_eq_false, Bool.false_eq_true] at hb))) <;> (conv => whnf)))
      refine LoopX_inv tabOk (α := Nat) (fun k => k ≤ 8) (fun k => [(12, I k), (9, .v (.pointer (some ⟨rb1, 0, none⟩))), (10, .v (.pointer (some ⟨rb2, 0, none⟩))), (2, I (a % 8))]) (fun _ => [relO rb1 (addAll [] L), relO rb2 (addAll [] L.reverse)]) (fun k => 8 - k) 0 [1, 2] (by (try dsimp only); omega) ?_ ?_
      · try dsimp only
        ((refine ⟨?_, ?_, ?_⟩) <;> (repeat' ((conv => whnf); apply And.intro)) <;> (try (first | exact trivial | decide)))
        all_goals first | rfl | exact fun _ _ h => h
      · intro k hk
        (conv => whnf); repeat' (first | ((with_reducible refine xif_t ?_); conv => whnf) | ((with_reducible refine xif_f ?_); conv => whnf) | ((refine CallX_Between 0 rfl rfl ?_ ?_) <;> first | omega | (conv => whnf)) | ((refine CallX_Between 1 rfl rfl ?_ ?_) <;> first | omega | (conv => whnf)) | ((with_reducible refine xwr_ok (by omega) (by omega) ?_); conv => whnf) | ((with_reducible refine xwr_raw ?_); conv => whnf) | ((with_reducible refine xquo_nn (by omega) (by omega) (by omega) ?_); conv => whnf) | ((with_reducible refine xquo_ok (by omega) (by omega) (by omega) ?_); conv => whnf) | ((with_reducible refine xquo_raw (by omega) ?_); conv => whnf) | ((with_reducible refine xrem_nn (by omega) (by omega) ?_); conv => whnf) | ((with_reducible refine xrem_raw (by omega) ?_); conv => whnf) | ((refine OpX_build0 tabOk rfl rfl rfl ?_); intro bN; conv => whnf) | ((refine OpX_build tabOk rfl rfl rfl rfl rfl ?_); intro bN; conv => whnf) | ((with_reducible refine need_i ?_ ?_) <;> first | omega | (conv => whnf)) | ((refine DrawX_s tabOk folOk ?_); conv => whnf) | ((refine DrawS_i (by kernel_rfl) ?_); conv => whnf) | ((with_reducible refine andX_i ?_ ?_) <;> (conv => whnf)) | (with_reducible exact rfl) | (((with_reducible refine xif_s ?_ ?_) <;> (intro hb; (try simp (disch := omega) only [wr, ge_dec, gt_dec, decide_eq_true_eq, decide_eq_false_iff_not, beq_iff_eq, bne_iff_ne, beq_eq_false_iff_ne, bne_eq_false_iff_eq, Bool.not_eq_true', Bool.not_eq_false', Bool.and_eq_true, Bool.or_eq_true, Bool.not_not, ne_eq, Decidable.not_not, Int.not_le, Int.not_lt, Int.toNat_natCast, not_true_eq_false, eq_self, Bool.not_true, Bool.not_false, Bool.true_eq_false, Bool.false_eq_true] at hb))) <;> (conv => whnf)))
        · have hbt := order_bt hG (l' := L.reverse) (by simp) (a := a % 8) (b := (k : Int)) (by omega) (by omega) (by omega) (by omega)
          rw [hbt] at hb
          simp at hb
        · have hbt := order_bt hG (l' := L.reverse) (by simp) (a := a % 8) (b := (k : Int)) (by omega) (by omega) (by omega) (by omega)
          rw [hbt] at hb
          exact absurd rfl hb
        · refine ⟨k + 1, [0, 1], by (try dsimp only); omega, ?_, by (try dsimp only); omega⟩
          ((refine ⟨?_, ?_, ?_⟩) <;> (repeat' ((conv => whnf); apply And.intro)) <;> (try (first | exact trivial | decide)))
          all_goals first | rfl | exact fun _ _ h => h
        · (conv => whnf); repeat' (first | ((with_reducible refine xif_t ?_); conv => whnf) | ((with_reducible refine xif_f ?_); conv => whnf) | (refine CallX_Groups 0 rfl rfl (by omega) ?_; intro b1; conv => whnf) | (refine CallX_Groups 1 rfl rfl (by omega) ?_; intro b2; conv => whnf) | ((with_reducible refine xwr_ok (by omega) (by omega) ?_); conv => whnf) | ((with_reducible refine xwr_raw ?_); conv => whnf) | ((with_reducible refine xquo_nn (by omega) (by omega) (by omega) ?_); conv => whnf) | ((with_reducible refine xquo_ok (by omega) (by omega) (by omega) ?_); conv => whnf) | ((with_reducible refine xquo_raw (by omega) ?_); conv => whnf) | ((with_reducible refine xrem_nn (by omega) (by omega) ?_); conv => whnf) | ((with_reducible refine xrem_raw (by omega) ?_); conv => whnf) | ((refine OpX_build0 tabOk rfl rfl rfl ?_); intro bN; conv => whnf) | ((refine OpX_build tabOk rfl rfl rfl rfl rfl ?_); intro bN; conv => whnf) | ((with_reducible refine need_i ?_ ?_) <;> first | omega | (conv => whnf)) | ((refine DrawX_s tabOk folOk ?_); conv => whnf) | ((refine DrawS_i (by kernel_rfl) ?_); conv => whnf) | ((with_reducible refine andX_i ?_ ?_) <;> (conv => whnf)) | (with_reducible exact rfl) | (((with_reducible refine xif_s ?_ ?_) <;> (intro hb; (try simp (disch := omega) only [wr, ge_dec, gt_dec, decide_eq_true_eq, decide_eq_false_iff_not, beq_iff_eq, bne_iff_ne, beq_eq_false_iff_ne, bne_eq_false_iff_eq, Bool.not_eq_true', Bool.not_eq_false', Bool.and_eq_true, Bool.or_eq_true, Bool.not_not, ne_eq, Decidable.not_not, Int.not_le, Int.not_lt, Int.toNat_natCast, not_true_eq_false, eq_self, Bool.not_true, Bool.not_false, Bool.true_eq_false, Bool.false_eq_true] at hb))) <;> (conv => whnf)))
          refine CallX_w (Ints_n (xs := grps (addAll [] L)) (ys := grps (addAll [] L.reverse)) (n := 8) (m := 8) _ _ _ _ rfl rfl (by decide) (by decide)) (fun σ fp w hm => ⟨ArgSl.row 2 rfl σ fp w hm, ArgSl.row 3 rfl σ fp w hm⟩) ?_
          conv => whnf
          refine Fin_pure rfl ?_ trivial
          rw [order_grps hG (l' := L.reverse) (by simp)]
          simp
/-- the same, over slices as they are opened -/
theorem order_walk (A0 : Option Addr) (n0 c0 : Nat) (V0 : Nat → Nat → Int) (A1 : Option Addr) (n1 c1 : Nat) (V1 : Nat → Nat → Int) (a : Int) (w : World) (h0 : SlO w A0 n0 3 V0) (g0 : n0 ≤ c0) (k0 : c0 ≤ maxLen) (h1 : SlO w A1 n1 2 V1) (g1 : n1 ≤ c1) (k1 : c1 ≤ maxLen) :
    Calls Try.prog 8 #[.slice A0 n0 c0, .slice A1 n1 c1, .int .i64 a] w fun e w' => e = .returned (.bool true) ∧ Below w.heap.size w w' := by
  have a0 := ArgSl.of_SlO encF (fun i => (V0 i 0, V0 i 1, V0 i 2)) h0 (by decide) (fun i => rfl)
  have a1 := ArgSl.of_SlO encT (fun i => (V1 i 0, V1 i 1)) h1 (by decide) (fun i => rfl)
  generalize e0 : (List.range n0).map (fun i => (V0 i 0, V0 i 1, V0 i 2)) = xs at a0
  generalize e1 : (List.range n1).map (fun i => (V1 i 0, V1 i 1)) = ys at a1
  obtain rfl : xs.length = n0 := by rw [← e0]; simp
  obtain rfl : ys.length = n1 := by rw [← e1]; simp
  exact (order_x A0 A1 c0 c1 xs ys a (by omega) (by omega)).2.2 (fun _ => 0) w ⟨a0, a1⟩
end Go.Proofs.Ytkacggfadalbiaa.En
