/- The walk of FrameShapes. -/
import Derived.Test.YtbjkbjiglcomkaaFd
import Derived.Test.YtbjkbjiglcomkaaFv
import Derived.Test.YtbjkbjiglcomkaaBr
set_option linter.all false
namespace Go.Proofs.Ytbjkbjiglcomkaa.En
open Go.RowKit
set_option maxRecDepth 100000

theorem IsOut.len {f : FrT} {l ys : List EntT} (h : IsOut f l ys) {n : Nat} (hn : l.length ≤ n) : ys.length ≤ n := by
  unfold IsOut at h
  split at h
  · have := h.1.length_eq
    simp at this
    omega
  · rw [h]
    simp
theorem Entries_t (A1 A2 : Option Addr) (c1 c2 : Nat) (xs ys : List EntT) {n m : Nat} (hx : xs.length = n) (hy : ys.length = m) (he : xs = ys) (h1 : n ≤ 60) (h2 : m ≤ 60) :
    CallW Try.prog 22 [.v (.slice A1 n c1), .v (.slice A2 m c2)] (fun w => ArgSl w A1 n 4 (xs.map encE) ∧ ArgSl w A2 m 4 (ys.map encE)) (B true) := by
  have := Entries_w A1 A2 c1 c2 xs ys hx hy (by omega) (by omega)
  rwa [decide_eq_true he] at this

set_option maxHeartbeats 4000000 in
theorem shapes_x (f : FrT) (b : BoxT) (A : Option Addr) (c : Nat) (l : List EntT) {n : Nat} (hl : l.length = n) (hm : n ≤ maxLen) :
    CallW Try.prog 3 [.a [I f.1, I f.2.1, I f.2.2], .a [I b.1, I b.2.1, I b.2.2.1, I b.2.2.2.1, I b.2.2.2.2.1, I b.2.2.2.2.2], .v (.slice A n c)] (fun w => ArgSl w A n 4 (l.map encE)) (B true) := by
  unfold maxLen at hm
  refine CallW.of Try.func3 rfl tabOk rfl rfl rfl (by simp [SV.wfs, SV.wf]) (by simp [SV.wfs, SV.wf]) fun w hpre => ?_
  (conv => whnf); repeat' (first | ((with_reducible refine isC ?_); first | ((with_reducible refine CallX_pure (awake_x) ?_) <;> first | omega | (with_reducible show (_ : Int) ≤ _) | (with_reducible show (_ : Int) < _) | (with_reducible show (_ : Nat) ≤ _) | (with_reducible show (_ : Nat) < _) | (conv => whnf)) | ((with_reducible refine CallX_pure (Box_x f b) ?_) <;> first | omega | (with_reducible show (_ : Int) ≤ _) | (with_reducible show (_ : Int) < _) | (with_reducible show (_ : Nat) ≤ _) | (with_reducible show (_ : Nat) < _) | (conv => whnf)) | ((with_reducible refine CallX_pure (rBox_x f b) ?_) <;> first | omega | (with_reducible show (_ : Int) ≤ _) | (with_reducible show (_ : Int) < _) | (with_reducible show (_ : Nat) ≤ _) | (with_reducible show (_ : Nat) < _) | (conv => whnf)) | ((with_reducible refine CallX_pure (Cell_x f (_, _)) ?_) <;> first | omega | (with_reducible show (_ : Int) ≤ _) | (with_reducible show (_ : Int) < _) | (with_reducible show (_ : Nat) ≤ _) | (with_reducible show (_ : Nat) < _) | (conv => whnf)) | ((with_reducible refine CallX_pure (rCell_x f (_, _)) ?_) <;> first | omega | (with_reducible show (_ : Int) ≤ _) | (with_reducible show (_ : Int) < _) | (with_reducible show (_ : Nat) ≤ _) | (with_reducible show (_ : Nat) < _) | (conv => whnf)) | (refine CallX_m (Entries_m f A' c' l (n := 0 + n) (by omega) (by omega)) [] rfl trivial (by decide) (ArgN.row 6 rfl (m := 0) (fun j hj => by omega)) ?_; intro p; conv => whnf) | (refine CallX_m (rEntries_m f A c l hl (by omega)) [] rfl trivial (by decide) (fun σ fp w hm => ArgN.of0 (hpre.mem (by decide) rfl σ fp w hm) _) ?_; intro q; conv => whnf) | (refine CallX_w (Entries_t _ _ _ _ p.1.2.2 q.1.2.2 rfl rfl (p.2.unique q.2) (p.2.len (by omega)) (q.2.len (by omega))) (fun σ fp w hm => ⟨ArgSl.row 7 rfl σ fp w hm, ArgSl.row 8 rfl σ fp w hm⟩) ?_; conv => whnf) | (refine CallX_w (Entries_t _ _ _ _ l l (n := 0 + n) (by omega) hl rfl (by omega) (by omega)) (fun σ fp w hm => ⟨ArgSl.row 6 rfl σ fp w hm, hpre.mem (by decide) rfl σ fp w hm⟩) ?_; conv => whnf)) | ((with_reducible refine isO ?_); first | ((refine OpX_append 6 tabOk rfl rfl rfl rfl (hpre.mem (by decide) rfl) (by decide) ?_ ?_ ?_) <;> first | omega | (dsimp only; omega) | (intro A' c'; conv => whnf)) | ((refine OpX_build0 tabOk rfl rfl rfl ?_); intro bN; conv => whnf) | ((refine OpX_build tabOk rfl rfl rfl rfl rfl ?_); intro bN; conv => whnf)) | ((with_reducible refine isW ?_); first | ((with_reducible refine xwr_ok (by omega) (by omega) ?_); conv => whnf) | ((with_reducible refine xwr_raw ?_); conv => whnf)) | ((with_reducible refine isQ ?_); first | ((with_reducible refine xquo_nn (by omega) (by omega) (by omega) ?_); conv => whnf) | ((with_reducible refine xquo_ok (by omega) (by omega) (by omega) ?_); conv => whnf) | ((with_reducible refine xquo_raw (by omega) ?_); conv => whnf)) | ((with_reducible refine isR ?_); first | ((with_reducible refine xrem_nn (by omega) (by omega) ?_); conv => whnf) | ((with_reducible refine xrem_raw (by omega) ?_); conv => whnf)) | ((with_reducible refine need_i ?_ ?_) <;> first | omega | (conv => whnf)) | ((refine DrawX_s tabOk folOk ?_); conv => whnf) | ((refine DrawS_i (by kernel_rfl) ?_); conv => whnf) | ((with_reducible refine andX_i ?_ ?_) <;> (conv => whnf)) | (with_reducible exact rfl) | ((with_reducible refine xif_kt (by with_reducible assumption) ?_); conv => whnf) | ((with_reducible refine xif_kf (by with_reducible assumption) ?_); conv => whnf) | (((with_reducible refine xif_s ?_ ?_) <;> (intro hb; (try simp (disch := omega) only [wr, ge_dec, gt_dec, decide_eq_true_eq, decide_eq_false_iff_not, beq_iff_eq, bne_iff_ne, beq_eq_false_iff_ne, bne_eq_false_iff_eq, Bool.not_eq_true', Bool.not_eq_false', Bool.and_eq_true, Bool.or_eq_true, Bool.not_not, ne_eq, Decidable.not_not, Int.not_le, Int.not_lt, Int.toNat_natCast, not_true_eq_false, eq_self, Bool.not_true, Bool.not_false, Bool.true_eq_false, Bool.false_eq_true] at hb))) <;> (conv => whnf)))
  all_goals first
    | exact Fin_pure rfl rfl trivial
    | (exfalso; simp at hb; done)
    | trace_state
/-- the same, over a slice as it is opened -/
theorem shapes_walk (Fq Fx Fy X0 Y0 X1 Y1 Fr Ct : Int) (A0 : Option Addr) (n0 c0 : Nat) (V0 : Nat → Nat → Int) (w : World) (h0 : SlO w A0 n0 4 V0) (g0 : n0 ≤ c0) (k0 : c0 ≤ maxLen) :
    Calls Try.prog 3 #[.agg #[.int .i64 Fq, .int .i64 Fx, .int .i64 Fy], .agg #[.int .i64 X0, .int .i64 Y0, .int .i64 X1, .int .i64 Y1, .int .i64 Fr, .int .i64 Ct], .slice A0 n0 c0] w fun e w' => e = .returned (.bool true) ∧ Below w.heap.size w w' := by
  have a0 := ArgSl.of_SlO encE (fun i => (V0 i 0, V0 i 1, V0 i 2, V0 i 3)) h0 (by decide) (fun i => rfl)
  generalize e0 : (List.range n0).map (fun i => (V0 i 0, V0 i 1, V0 i 2, V0 i 3)) = xs at a0
  obtain rfl : xs.length = n0 := by rw [← e0]; simp
  exact (shapes_x (Fq, Fx, Fy) (X0, Y0, X1, Y1, Fr, Ct) A0 c0 xs rfl (by omega)).2.2 (fun _ => 0) w a0
end Go.Proofs.Ytbjkbjiglcomkaa.En
