/- Equal lists, law17's few, Same of atlases that know the same, Part -/
/- Package atlas by the executor: Same of atlases that know the same, Part; law17's awake -/
/- law17's awake by the executor -/
import Derived.Test.YtodaijlclbngbaaGreatAb
import Derived.Test.YtodaijlclbngbaaGreatOl
set_option linter.all false
namespace Go.Proofs.YtodaijlclbngbaaGreat.En
open Go.RowKit
set_option maxRecDepth 100000

theorem EqualI_w (A1 A2 : Option Addr) (c1 c2 : Nat) (l : List Int) {n : Nat} (hl : l.length = n) (hn : n ≤ 1000000000) :
    CallW Tryz.prog 46 [.v (.slice A1 n c1), .v (.slice A2 n c2)] (fun w => ArgSl w A1 n 1 (l.map fun x => [encI x]) ∧ ArgSl w A2 n 1 (l.map fun x => [encI x])) (B true) := by
  refine CallW.of Tryz.func46 rfl tabOk rfl rfl rfl (by simp [SV.wfs, SV.wf]) (by simp [SV.wfs, SV.wf]) fun w hpre => ?_
  obtain ⟨h1, h2⟩ := hpre
  (conv => whnf); repeat' (first | ((with_reducible refine isW ?_); first | ((with_reducible refine xwr_ok (by omega) (by omega) ?_); conv => whnf) | ((with_reducible refine xwr_raw ?_); conv => whnf)) | ((refine DrawX_s tabOk folOk ?_); conv => whnf) | ((refine DrawS_i (by kernel_rfl) ?_); conv => whnf) | ((with_reducible refine andX_i ?_ ?_) <;> (conv => whnf)) | (with_reducible exact rfl) | ((with_reducible refine xif_kt (by with_reducible assumption) ?_); conv => whnf) | ((with_reducible refine xif_kf (by with_reducible assumption) ?_); conv => whnf) | (((with_reducible refine xif_s ?_ ?_) <;> (intro hb; (try simp (disch := omega) only [hbS] at hb))) <;> (conv => whnf)))
  all_goals try (exfalso; omega)
  refine LoopX_inv tabOk (α := Nat) (fun k => k ≤ n) (fun k => [(0, .v (.slice A1 n c1)), (1, .v (.slice A2 n c2)), (12, I n), (13, I k)]) (fun _ => []) (fun k => n - k) 0 [] (Nat.zero_le _) ?_ ?_
  · ((refine ⟨?_, ?_, ?_, ?_⟩) <;> (repeat' ((conv => whnf); apply And.intro)) <;> (try (first | exact trivial | decide)))
    all_goals first | rfl | exact fun _ _ h => h | simp [SV.wf, SV.wfs]
  · intro k hk
    by_cases hlt : k < n
    · (conv => whnf); repeat' (first | ((with_reducible refine isV ?_); first | ((refine ValX_index tabOk rfl (h1.mem (by decide) rfl) rfl ?_ ?_ ?_) <;> first | omega | (with_reducible show (_ : Int) ≤ _) | (with_reducible show (_ : Int) < _) | (with_reducible show (_ : Nat) ≤ _) | (with_reducible show (_ : Nat) < _) | (conv => whnf)) | ((with_reducible refine nat_idx ?_); (refine ValX_load1n _ _ (0) tabOk rfl rfl rfl (h1.mem (by decide) rfl) ?_ ?_ ?_) <;> first | rfl | omega | (with_reducible show (_ : Int) ≤ _) | (with_reducible show (_ : Int) < _) | (with_reducible show (_ : Nat) ≤ _) | (with_reducible show (_ : Nat) < _) | (conv => whnf)) | ((refine ValX_load1 _ _ (0) tabOk rfl rfl rfl (h1.mem (by decide) rfl) ?_ ?_ ?_) <;> first | rfl | omega | (with_reducible show (_ : Int) ≤ _) | (with_reducible show (_ : Int) < _) | (with_reducible show (_ : Nat) ≤ _) | (with_reducible show (_ : Nat) < _) | (conv => whnf)) | ((refine ValX_index tabOk rfl (h2.mem (by decide) rfl) rfl ?_ ?_ ?_) <;> first | omega | (with_reducible show (_ : Int) ≤ _) | (with_reducible show (_ : Int) < _) | (with_reducible show (_ : Nat) ≤ _) | (with_reducible show (_ : Nat) < _) | (conv => whnf)) | ((with_reducible refine nat_idx ?_); (refine ValX_load1n _ _ (0) tabOk rfl rfl rfl (h2.mem (by decide) rfl) ?_ ?_ ?_) <;> first | rfl | omega | (with_reducible show (_ : Int) ≤ _) | (with_reducible show (_ : Int) < _) | (with_reducible show (_ : Nat) ≤ _) | (with_reducible show (_ : Nat) < _) | (conv => whnf)) | ((refine ValX_load1 _ _ (0) tabOk rfl rfl rfl (h2.mem (by decide) rfl) ?_ ?_ ?_) <;> first | rfl | omega | (with_reducible show (_ : Int) ≤ _) | (with_reducible show (_ : Int) < _) | (with_reducible show (_ : Nat) ≤ _) | (with_reducible show (_ : Nat) < _) | (conv => whnf))) | ((with_reducible refine isW ?_); first | ((with_reducible refine xwr_ok (by omega) (by omega) ?_); conv => whnf) | ((with_reducible refine xwr_raw ?_); conv => whnf)) | ((refine DrawX_s tabOk folOk ?_); conv => whnf) | ((refine DrawS_i (by kernel_rfl) ?_); conv => whnf) | ((with_reducible refine andX_i ?_ ?_) <;> (conv => whnf)) | (with_reducible exact rfl) | ((with_reducible refine xif_kt (by with_reducible assumption) ?_); conv => whnf) | ((with_reducible refine xif_kf (by with_reducible assumption) ?_); conv => whnf) | (((with_reducible refine xif_s ?_ ?_) <;> (intro hb; (try simp (disch := omega) only [hbS] at hb))) <;> (conv => whnf)))
      all_goals try (exfalso; omega)
      refine ⟨k + 1, [], by (try dsimp only); omega, ?_, by (try dsimp only); omega⟩
      ((refine ⟨?_, ?_, ?_, ?_⟩) <;> (repeat' ((conv => whnf); apply And.intro)) <;> (try (first | exact trivial | decide)))
      all_goals first | rfl | exact fun _ _ h => h | (simp [SV.wf, SV.wfs]; done) | trace_state
    · (conv => whnf); repeat' (first | ((with_reducible refine isW ?_); first | ((with_reducible refine xwr_ok (by omega) (by omega) ?_); conv => whnf) | ((with_reducible refine xwr_raw ?_); conv => whnf)) | ((refine DrawX_s tabOk folOk ?_); conv => whnf) | ((refine DrawS_i (by kernel_rfl) ?_); conv => whnf) | ((with_reducible refine andX_i ?_ ?_) <;> (conv => whnf)) | (with_reducible exact rfl) | ((with_reducible refine xif_kt (by with_reducible assumption) ?_); conv => whnf) | ((with_reducible refine xif_kf (by with_reducible assumption) ?_); conv => whnf) | (((with_reducible refine xif_s ?_ ?_) <;> (intro hb; (try simp (disch := omega) only [hbS] at hb))) <;> (conv => whnf)))
      all_goals try (exfalso; omega)
      exact Fin_pure rfl rfl trivial
theorem Ints_w (A1 A2 : Option Addr) (c1 c2 : Nat) (l : List Int) {n : Nat} (hl : l.length = n) (hn : n ≤ 1000000000) :
    CallW Tryz.prog 36 [.v (.slice A1 n c1), .v (.slice A2 n c2)] (fun w => ArgSl w A1 n 1 (l.map fun x => [encI x]) ∧ ArgSl w A2 n 1 (l.map fun x => [encI x])) (B true) := by
  refine CallW.of Tryz.func36 rfl tabOk rfl rfl rfl (by simp [SV.wfs, SV.wf]) (by simp [SV.wfs, SV.wf]) fun w hpre => ?_
  obtain ⟨h1, h2⟩ := hpre
  (conv => whnf); repeat' (first | ((with_reducible refine isW ?_); first | ((with_reducible refine xwr_ok (by omega) (by omega) ?_); conv => whnf) | ((with_reducible refine xwr_raw ?_); conv => whnf)) | ((refine DrawX_s tabOk folOk ?_); conv => whnf) | ((refine DrawS_i (by kernel_rfl) ?_); conv => whnf) | ((with_reducible refine andX_i ?_ ?_) <;> (conv => whnf)) | (with_reducible exact rfl) | ((with_reducible refine xif_kt (by with_reducible assumption) ?_); conv => whnf) | ((with_reducible refine xif_kf (by with_reducible assumption) ?_); conv => whnf) | (((with_reducible refine xif_s ?_ ?_) <;> (intro hb; (try simp (disch := omega) only [hbS] at hb))) <;> (conv => whnf)))
  all_goals try (exfalso; omega)
  refine LoopX_inv tabOk (α := Nat) (fun k => k ≤ n) (fun k => [(0, .v (.slice A1 n c1)), (1, .v (.slice A2 n c2)), (5, I k)]) (fun _ => []) (fun k => n - k) 0 [] (Nat.zero_le _) ?_ ?_
  · ((refine ⟨?_, ?_, ?_, ?_⟩) <;> (repeat' ((conv => whnf); apply And.intro)) <;> (try (first | exact trivial | decide)))
    all_goals first | rfl | exact fun _ _ h => h | simp [SV.wf, SV.wfs]
  · intro k hk
    by_cases hlt : k < n
    · (conv => whnf); repeat' (first | ((with_reducible refine isV ?_); first | ((refine ValX_index tabOk rfl (h1.mem (by decide) rfl) rfl ?_ ?_ ?_) <;> first | omega | (with_reducible show (_ : Int) ≤ _) | (with_reducible show (_ : Int) < _) | (with_reducible show (_ : Nat) ≤ _) | (with_reducible show (_ : Nat) < _) | (conv => whnf)) | ((with_reducible refine nat_idx ?_); (refine ValX_load1n _ _ (0) tabOk rfl rfl rfl (h1.mem (by decide) rfl) ?_ ?_ ?_) <;> first | rfl | omega | (with_reducible show (_ : Int) ≤ _) | (with_reducible show (_ : Int) < _) | (with_reducible show (_ : Nat) ≤ _) | (with_reducible show (_ : Nat) < _) | (conv => whnf)) | ((refine ValX_load1 _ _ (0) tabOk rfl rfl rfl (h1.mem (by decide) rfl) ?_ ?_ ?_) <;> first | rfl | omega | (with_reducible show (_ : Int) ≤ _) | (with_reducible show (_ : Int) < _) | (with_reducible show (_ : Nat) ≤ _) | (with_reducible show (_ : Nat) < _) | (conv => whnf)) | ((refine ValX_index tabOk rfl (h2.mem (by decide) rfl) rfl ?_ ?_ ?_) <;> first | omega | (with_reducible show (_ : Int) ≤ _) | (with_reducible show (_ : Int) < _) | (with_reducible show (_ : Nat) ≤ _) | (with_reducible show (_ : Nat) < _) | (conv => whnf)) | ((with_reducible refine nat_idx ?_); (refine ValX_load1n _ _ (0) tabOk rfl rfl rfl (h2.mem (by decide) rfl) ?_ ?_ ?_) <;> first | rfl | omega | (with_reducible show (_ : Int) ≤ _) | (with_reducible show (_ : Int) < _) | (with_reducible show (_ : Nat) ≤ _) | (with_reducible show (_ : Nat) < _) | (conv => whnf)) | ((refine ValX_load1 _ _ (0) tabOk rfl rfl rfl (h2.mem (by decide) rfl) ?_ ?_ ?_) <;> first | rfl | omega | (with_reducible show (_ : Int) ≤ _) | (with_reducible show (_ : Int) < _) | (with_reducible show (_ : Nat) ≤ _) | (with_reducible show (_ : Nat) < _) | (conv => whnf))) | ((with_reducible refine isW ?_); first | ((with_reducible refine xwr_ok (by omega) (by omega) ?_); conv => whnf) | ((with_reducible refine xwr_raw ?_); conv => whnf)) | ((refine DrawX_s tabOk folOk ?_); conv => whnf) | ((refine DrawS_i (by kernel_rfl) ?_); conv => whnf) | ((with_reducible refine andX_i ?_ ?_) <;> (conv => whnf)) | (with_reducible exact rfl) | ((with_reducible refine xif_kt (by with_reducible assumption) ?_); conv => whnf) | ((with_reducible refine xif_kf (by with_reducible assumption) ?_); conv => whnf) | (((with_reducible refine xif_s ?_ ?_) <;> (intro hb; (try simp (disch := omega) only [hbS] at hb))) <;> (conv => whnf)))
      all_goals try (exfalso; omega)
      refine ⟨k + 1, [], by (try dsimp only); omega, ?_, by (try dsimp only); omega⟩
      ((refine ⟨?_, ?_, ?_, ?_⟩) <;> (repeat' ((conv => whnf); apply And.intro)) <;> (try (first | exact trivial | decide)))
      all_goals first | rfl | exact fun _ _ h => h | (simp [SV.wf, SV.wfs]; done) | trace_state
    · (conv => whnf); repeat' (first | ((with_reducible refine isW ?_); first | ((with_reducible refine xwr_ok (by omega) (by omega) ?_); conv => whnf) | ((with_reducible refine xwr_raw ?_); conv => whnf)) | ((refine DrawX_s tabOk folOk ?_); conv => whnf) | ((refine DrawS_i (by kernel_rfl) ?_); conv => whnf) | ((with_reducible refine andX_i ?_ ?_) <;> (conv => whnf)) | (with_reducible exact rfl) | ((with_reducible refine xif_kt (by with_reducible assumption) ?_); conv => whnf) | ((with_reducible refine xif_kf (by with_reducible assumption) ?_); conv => whnf) | (((with_reducible refine xif_s ?_ ?_) <;> (intro hb; (try simp (disch := omega) only [hbS] at hb))) <;> (conv => whnf)))
      all_goals try (exfalso; omega)
      exact Fin_pure rfl rfl trivial
theorem EqualB_w (A1 A2 : Option Addr) (c1 c2 : Nat) (l : BmsT) {n : Nat} (hl : l.length = n) (hn : n ≤ 1000000000) :
    CallW Tryz.prog 47 [.v (.slice A1 n c1), .v (.slice A2 n c2)] (fun w => ArgSl w A1 n 2 (l.map encBm) ∧ ArgSl w A2 n 2 (l.map encBm)) (B true) := by
  refine CallW.of Tryz.func47 rfl tabOk rfl rfl rfl (by simp [SV.wfs, SV.wf]) (by simp [SV.wfs, SV.wf]) fun w hpre => ?_
  obtain ⟨h1, h2⟩ := hpre
  (conv => whnf); repeat' (first | ((with_reducible refine isW ?_); first | ((with_reducible refine xwr_ok (by omega) (by omega) ?_); conv => whnf) | ((with_reducible refine xwr_raw ?_); conv => whnf)) | ((refine DrawX_s tabOk folOk ?_); conv => whnf) | ((refine DrawS_i (by kernel_rfl) ?_); conv => whnf) | ((with_reducible refine andX_i ?_ ?_) <;> (conv => whnf)) | (with_reducible exact rfl) | ((with_reducible refine xif_kt (by with_reducible assumption) ?_); conv => whnf) | ((with_reducible refine xif_kf (by with_reducible assumption) ?_); conv => whnf) | (((with_reducible refine xif_s ?_ ?_) <;> (intro hb; (try simp (disch := omega) only [hbS] at hb))) <;> (conv => whnf)))
  all_goals try (exfalso; omega)
  refine LoopX_inv tabOk (α := Nat) (fun k => k ≤ n) (fun k => [(0, .v (.slice A1 n c1)), (1, .v (.slice A2 n c2)), (12, I n), (13, I k)]) (fun _ => []) (fun k => n - k) 0 [] (Nat.zero_le _) ?_ ?_
  · ((refine ⟨?_, ?_, ?_, ?_⟩) <;> (repeat' ((conv => whnf); apply And.intro)) <;> (try (first | exact trivial | decide)))
    all_goals first | rfl | exact fun _ _ h => h | simp [SV.wf, SV.wfs]
  · intro k hk
    by_cases hlt : k < n
    · (conv => whnf); repeat' (first | ((with_reducible refine isV ?_); first | ((refine ValX_index tabOk rfl (h1.mem (by decide) rfl) rfl ?_ ?_ ?_) <;> first | omega | (with_reducible show (_ : Int) ≤ _) | (with_reducible show (_ : Int) < _) | (with_reducible show (_ : Nat) ≤ _) | (with_reducible show (_ : Nat) < _) | (conv => whnf)) | ((with_reducible refine nat_idx ?_); (refine ValX_loadEn _ _ (b0) tabOk rfl rfl rfl rfl (h1.mem (by decide) rfl) ?_ ?_ ?_) <;> first | rfl | omega | (with_reducible show (_ : Int) ≤ _) | (with_reducible show (_ : Int) < _) | (with_reducible show (_ : Nat) ≤ _) | (with_reducible show (_ : Nat) < _) | (conv => whnf)) | ((refine ValX_loadE _ _ (b0) tabOk rfl rfl rfl rfl (h1.mem (by decide) rfl) ?_ ?_ ?_) <;> first | rfl | omega | (with_reducible show (_ : Int) ≤ _) | (with_reducible show (_ : Int) < _) | (with_reducible show (_ : Nat) ≤ _) | (with_reducible show (_ : Nat) < _) | (conv => whnf)) | ((refine ValX_index tabOk rfl (h2.mem (by decide) rfl) rfl ?_ ?_ ?_) <;> first | omega | (with_reducible show (_ : Int) ≤ _) | (with_reducible show (_ : Int) < _) | (with_reducible show (_ : Nat) ≤ _) | (with_reducible show (_ : Nat) < _) | (conv => whnf)) | ((with_reducible refine nat_idx ?_); (refine ValX_loadEn _ _ (b0) tabOk rfl rfl rfl rfl (h2.mem (by decide) rfl) ?_ ?_ ?_) <;> first | rfl | omega | (with_reducible show (_ : Int) ≤ _) | (with_reducible show (_ : Int) < _) | (with_reducible show (_ : Nat) ≤ _) | (with_reducible show (_ : Nat) < _) | (conv => whnf)) | ((refine ValX_loadE _ _ (b0) tabOk rfl rfl rfl rfl (h2.mem (by decide) rfl) ?_ ?_ ?_) <;> first | rfl | omega | (with_reducible show (_ : Int) ≤ _) | (with_reducible show (_ : Int) < _) | (with_reducible show (_ : Nat) ≤ _) | (with_reducible show (_ : Nat) < _) | (conv => whnf))) | ((with_reducible refine isW ?_); first | ((with_reducible refine xwr_ok (by omega) (by omega) ?_); conv => whnf) | ((with_reducible refine xwr_raw ?_); conv => whnf)) | ((refine DrawX_s tabOk folOk ?_); conv => whnf) | ((refine DrawS_i (by kernel_rfl) ?_); conv => whnf) | ((with_reducible refine andX_i ?_ ?_) <;> (conv => whnf)) | (with_reducible exact rfl) | ((with_reducible refine xif_kt (by with_reducible assumption) ?_); conv => whnf) | ((with_reducible refine xif_kf (by with_reducible assumption) ?_); conv => whnf) | (((with_reducible refine xif_s ?_ ?_) <;> (intro hb; (try simp (disch := omega) only [hbS] at hb))) <;> (conv => whnf)))
      all_goals try (exfalso; omega)
      all_goals try (exfalso; simp at hb; done)
      refine ⟨k + 1, [], by (try dsimp only); omega, ?_, by (try dsimp only); omega⟩
      ((refine ⟨?_, ?_, ?_, ?_⟩) <;> (repeat' ((conv => whnf); apply And.intro)) <;> (try (first | exact trivial | decide)))
      all_goals first | rfl | exact fun _ _ h => h | (simp [SV.wf, SV.wfs]; done) | trace_state
    · (conv => whnf); repeat' (first | ((with_reducible refine isW ?_); first | ((with_reducible refine xwr_ok (by omega) (by omega) ?_); conv => whnf) | ((with_reducible refine xwr_raw ?_); conv => whnf)) | ((refine DrawX_s tabOk folOk ?_); conv => whnf) | ((refine DrawS_i (by kernel_rfl) ?_); conv => whnf) | ((with_reducible refine andX_i ?_ ?_) <;> (conv => whnf)) | (with_reducible exact rfl) | ((with_reducible refine xif_kt (by with_reducible assumption) ?_); conv => whnf) | ((with_reducible refine xif_kf (by with_reducible assumption) ?_); conv => whnf) | (((with_reducible refine xif_s ?_ ?_) <;> (intro hb; (try simp (disch := omega) only [hbS] at hb))) <;> (conv => whnf)))
      all_goals try (exfalso; omega)
      exact Fin_pure rfl rfl trivial
def lenF (o : AOp) : Int := min (o.2.2.1.2.2.length : Int) 1000
def fewB (l : List AOp) : Bool := decide (l.length ≤ 30) && decide (((l.take 100).map lenF).sum ≤ 150)
theorem few_next {l : List AOp} {k : Nat} (hk : k < l.length) : ((l.take (k + 1)).map lenF).sum = ((l.take k).map lenF).sum + lenF (l.getD k op0) := by
  have e : l.getD k op0 = l[k] := by simp [hk]
  rw [List.take_succ_eq_append_getElem hk, e, List.map_append, List.sum_append]
  simp only [List.map_cons, List.map_nil, List.sum_cons, List.sum_nil, Int.add_zero]
theorem few_bd (l : List AOp) : ∀ k : Nat, 0 ≤ ((l.take k).map lenF).sum ∧ ((l.take k).map lenF).sum ≤ 1000 * k := by
  intro k
  induction k with
  | zero => simp
  | succ k ih =>
    by_cases hk : k < l.length
    · rw [few_next hk]
      unfold lenF at *
      omega
    · rw [List.take_of_length_le (by omega)]
      rw [List.take_of_length_le (by omega)] at ih
      omega
theorem few_w (A : Option Addr) (c : Nat) (l : List AOp) {n : Nat} (hl : l.length = n) (hn : n ≤ maxLen) :
    CallW Tryz.prog 9 [.v (.slice A n c)] (fun w => ArgSl w A n 8 (l.map encOp) ∧ ∀ o ∈ l, o.2.2.1.2.2.length ≤ maxLen) (B (fewB l)) := by
  unfold maxLen at hn
  refine CallW.of Tryz.func9 rfl tabOk rfl rfl rfl (by simp [SV.wfs, SV.wf]) (by simp [SV.wfs, SV.wf]) fun w hpre => ?_
  obtain ⟨hpre, hlen⟩ := hpre
  (conv => whnf); repeat' (first | ((with_reducible refine isW ?_); first | ((with_reducible refine xwr_ok (by omega) (by omega) ?_); conv => whnf) | ((with_reducible refine xwr_raw ?_); conv => whnf)) | (with_reducible exact rfl) | ((with_reducible refine xif_kt (by with_reducible assumption) ?_); conv => whnf) | ((with_reducible refine xif_kf (by with_reducible assumption) ?_); conv => whnf) | (((with_reducible refine xif_s ?_ ?_) <;> (intro hb; (try simp (disch := omega) only [hbS] at hb))) <;> (conv => whnf)))
  refine LoopX_inv tabOk (α := Nat) (fun k => k ≤ n ∧ k ≤ 100) (fun k => [(0, .v (.slice A n c)), (3, I ((l.take k).map lenF).sum), (4, I k)]) (fun _ => []) (fun k => n - k) 0 [] ⟨Nat.zero_le _, Nat.zero_le _⟩ ?_ ?_
  · ((refine ⟨?_, ?_, ?_, ?_⟩) <;> (repeat' ((conv => whnf); apply And.intro)) <;> (try (first | exact trivial | decide)))
    all_goals first | rfl | exact fun _ _ h => h | simp [SV.wf, SV.wfs]
  · rintro k ⟨hk, hk2⟩
    have hbk := few_bd l k
    by_cases hlt : k < n
    · by_cases hlt2 : k < 100
      · have hnx := few_next (l := l) (k := k) (by omega)
        have hol := hlen (l.getD k op0) (by simp [show k < l.length by omega])
        unfold maxLen at hol
        have hlf : lenF (l.getD k op0) = min ((l.getD k op0).2.2.1.2.2.length : Int) 1000 := rfl
        rw [hlf] at hnx
        generalize ((l.take k).map lenF).sum = S at *
        (conv => whnf); repeat' (first | ((with_reducible refine isV ?_); first | ((with_reducible refine nat_idxF ?_); (refine ValX_loadFn _ _ (op0) _ tabOk rfl rfl rfl (hpre.mem (by decide) rfl) ?_ ?_ rfl ?_) <;> first | omega | (simp; omega) | (with_reducible show (_ : Int) ≤ _) | (with_reducible show (_ : Int) < _) | (with_reducible show (_ : Nat) ≤ _) | (with_reducible show (_ : Nat) < _) | (conv => whnf)) | ((refine ValX_loadF _ _ (op0) _ tabOk rfl rfl rfl (hpre.mem (by decide) rfl) ?_ ?_ rfl ?_) <;> first | omega | (simp; omega) | (with_reducible show (_ : Int) ≤ _) | (with_reducible show (_ : Int) < _) | (with_reducible show (_ : Nat) ≤ _) | (with_reducible show (_ : Nat) < _) | (conv => whnf)) | ((refine ValX_index tabOk rfl (hpre.mem (by decide) rfl) rfl ?_ ?_ ?_) <;> first | omega | (with_reducible show (_ : Int) ≤ _) | (with_reducible show (_ : Int) < _) | (with_reducible show (_ : Nat) ≤ _) | (with_reducible show (_ : Nat) < _) | (conv => whnf))) | ((with_reducible refine isW ?_); first | ((with_reducible refine xwr_ok (by omega) (by omega) ?_); conv => whnf) | ((with_reducible refine xwr_raw ?_); conv => whnf)) | (with_reducible exact rfl) | ((with_reducible refine xif_kt (by with_reducible assumption) ?_); conv => whnf) | ((with_reducible refine xif_kf (by with_reducible assumption) ?_); conv => whnf) | (((with_reducible refine xif_s ?_ ?_) <;> (intro hb; (try simp (disch := omega) only [hbS] at hb))) <;> (conv => whnf)))
        all_goals try (exfalso; omega)
        refine ⟨k + 1, [], ⟨by (try dsimp only); omega, by (try dsimp only); omega⟩, ?_, by (try dsimp only); omega⟩
        dsimp only
        rw [hnx]
        ((refine ⟨?_, ?_, ?_, ?_⟩) <;> (repeat' ((conv => whnf); apply And.intro)) <;> (try (first | exact trivial | decide)))
        all_goals first | rfl | exact fun _ _ h => h | (simp [SV.wf, SV.wfs]; done) | trace_state
      · obtain rfl : k = 100 := by omega
        have hf : fewB l = (decide (l.length ≤ 30) && decide (((l.take 100).map lenF).sum ≤ 150)) := rfl
        rw [hf]
        generalize ((l.take 100).map lenF).sum = S at *
        (conv => whnf); repeat' (first | ((with_reducible refine isW ?_); first | ((with_reducible refine xwr_ok (by omega) (by omega) ?_); conv => whnf) | ((with_reducible refine xwr_raw ?_); conv => whnf)) | (with_reducible exact rfl) | ((with_reducible refine xif_kt (by with_reducible assumption) ?_); conv => whnf) | ((with_reducible refine xif_kf (by with_reducible assumption) ?_); conv => whnf) | (((with_reducible refine xif_s ?_ ?_) <;> (intro hb; (try simp (disch := omega) only [hbS] at hb))) <;> (conv => whnf)))
        all_goals try (exfalso; omega)
        all_goals refine Fin_pure rfl (B_eq ?_) trivial
        all_goals simp
        all_goals omega
    · obtain rfl : k = n := by omega
      have hf : fewB l = (decide (l.length ≤ 30) && decide (((l.take k).map lenF).sum ≤ 150)) := by
        unfold fewB
        rw [List.take_of_length_le (show l.length ≤ 100 by omega), List.take_of_length_le (by omega)]
      rw [hf]
      generalize ((l.take k).map lenF).sum = S at *
      (conv => whnf); repeat' (first | ((with_reducible refine isW ?_); first | ((with_reducible refine xwr_ok (by omega) (by omega) ?_); conv => whnf) | ((with_reducible refine xwr_raw ?_); conv => whnf)) | (with_reducible exact rfl) | ((with_reducible refine xif_kt (by with_reducible assumption) ?_); conv => whnf) | ((with_reducible refine xif_kf (by with_reducible assumption) ?_); conv => whnf) | (((with_reducible refine xif_s ?_ ?_) <;> (intro hb; (try simp (disch := omega) only [hbS] at hb))) <;> (conv => whnf)))
      all_goals try (exfalso; omega)
      all_goals refine Fin_pure rfl (B_eq ?_) trivial
      all_goals simp
      all_goals omega
end Go.Proofs.YtodaijlclbngbaaGreat.En

namespace Go.Proofs.YtodaijlclbngbaaGreat.En
open Go.RowKit
set_option maxRecDepth 100000

theorem abs_eq {m1 m2 : List (Int × SlT)} {q1 q2 : List (Int × PlT)} (h : absM (m1, q1) = absM (m2, q2)) (k : Int) : (slOf m1 k).2.2 = (slOf m2 k).2.2 ∧ (lkI m1 k).isSome = (lkI m2 k).isSome ∧ plOf q1 k = plOf q2 k ∧ (lkI q1 k).isSome = (lkI q2 k).isSome := by
  have h1 : semS m1 k = semS m2 k := congrFun (congrArg Prod.fst h) k
  have h2 : lkI q1 k = lkI q2 k := congrFun (congrArg Prod.snd h) k
  unfold semS at h1
  refine ⟨?_, ?_, by unfold plOf; rw [h2], by rw [h2]⟩
  · unfold slOf
    cases hi : lkI m1 k <;> cases hj : lkI m2 k <;> rw [hi, hj] at h1 <;> simp at h1 <;> simp [h1]
  · cases hi : lkI m1 k <;> cases hj : lkI m2 k <;> rw [hi, hj] at h1 <;> simp at h1 <;> rfl
set_option maxHeartbeats 4000000 in
theorem Same_m (a1 a2 b1 b2 : Nat) (m1 m2 : List (Int × SlT)) (q1 q2 : List (Int × PlT)) (h1 : okS m1) (h2 : okS m2) (h : absM (m1, q1) = absM (m2, q2)) :
    CallM Tryz.prog 23 [.p 0 0, .p 3 0] (fun _ _ => True) [atB a1 a2, scO a1 m1, plO a2 q1, atB b1 b2, scO b1 m2, plO b2 q2] (fun _ : Unit => B true) (fun _ => [atB a1 a2, scO a1 m1, plO a2 q1, atB b1 b2, scO b1 m2, plO b2 q2]) := by
  refine CallM.of (m := 6) Tryz.func23 rfl tabOk rfl rfl rfl rfl (by simp [SV.wfs, SV.wf]) fun w M π _ => ?_
  have hids : hasM m1 q1 = hasM m2 q2 := by
    rw [has_sem, has_sem]
    exact congrArg hasA h
  have k1 := Ids_m a1 a2 m1 q1
  have k2 := Ids_m b1 b2 m2 q2
  rw [← hids] at k2
  have hlen := idsF_len (hasM m1 q1) 64
  generalize idsF (hasM m1 q1) 64 = L at *
  (conv => whnf); repeat' (first | ((with_reducible refine isC ?_); first | ((with_reducible refine isF 33 ?_); (first | (refine CallX_m k1 [0, 1, 2] rfl ⟨⟨rfl, rfl, by simp [SV.wf, SV.wfs]⟩, fun _ _ h => h, fun _ _ h => h, trivial⟩ (by decide) (fun _ _ _ _ => trivial) ?_; intro r1; obtain ⟨A1, c1⟩ := r1) | (refine CallX_m k2 [3, 4, 5] rfl ⟨⟨rfl, rfl, by simp [SV.wf, SV.wfs]⟩, fun _ _ h => h, fun _ _ h => h, trivial⟩ (by decide) (fun _ _ _ _ => trivial) ?_; intro r2; obtain ⟨A2, c2⟩ := r2)); conv => whnf)) | ((with_reducible refine isW ?_); first | ((with_reducible refine xwr_ok (by omega) (by omega) ?_); conv => whnf) | ((with_reducible refine xwr_raw ?_); conv => whnf)) | (with_reducible exact rfl) | ((with_reducible refine xif_kt (by with_reducible assumption) ?_); conv => whnf) | ((with_reducible refine xif_kf (by with_reducible assumption) ?_); conv => whnf) | (((with_reducible refine xif_s ?_ ?_) <;> (intro hb; (try simp (disch := omega) only [hbS] at hb))) <;> (conv => whnf)))
  refine CallX_w (EqualI_w A1 A2 c1 c2 L rfl (by omega)) (fun σ fp w hm => ⟨ArgSl.row 6 rfl σ fp w hm, ArgSl.row 7 rfl σ fp w hm⟩) ?_
  (conv => whnf); repeat' (first | ((with_reducible refine isC ?_); first | ((with_reducible refine isF 33 ?_); ((refine CallX_m k1 [0, 1, 2] rfl ⟨⟨rfl, rfl, by simp [SV.wf, SV.wfs]⟩, fun _ _ h => h, fun _ _ h => h, trivial⟩ (by decide) (fun _ _ _ _ => trivial) ?_; intro r3; obtain ⟨A3, c3⟩ := r3)); conv => whnf)) | ((with_reducible refine isW ?_); first | ((with_reducible refine xwr_ok (by omega) (by omega) ?_); conv => whnf) | ((with_reducible refine xwr_raw ?_); conv => whnf)) | (with_reducible exact rfl) | ((with_reducible refine xif_kt (by with_reducible assumption) ?_); conv => whnf) | ((with_reducible refine xif_kf (by with_reducible assumption) ?_); conv => whnf) | (((with_reducible refine xif_s ?_ ?_) <;> (intro hb; (try simp (disch := omega) only [hbS] at hb))) <;> (conv => whnf)))
  clear k1 k2
  refine LoopX_inv tabOk (α := Nat) (fun k => k ≤ L.length) (fun k => [(0, .p 0 0), (1, .p 3 0), (22, .v (.slice A3 L.length c3)), (23, I L.length), (24, I k)])
    (fun _ => [atB a1 a2, scO a1 m1, plO a2 q1, atB b1 b2, scO b1 m2, plO b2 q2, .row 3 1 A3 L.length c3 (L.map fun x => [encI x])]) (fun k => L.length - k) 0 [0, 1, 2, 3, 4, 5, 8] (Nat.zero_le _) ?_ ?_
  · ((refine ⟨?_, ?_, ?_, ?_⟩) <;> (repeat' ((conv => whnf); apply And.intro)) <;> (try (first | exact trivial | decide)))
    all_goals first | rfl | exact fun _ _ h => h | (simp [SV.wf, SV.wfs]; done) | trace_state
  · intro k hk
    by_cases hlt : k < L.length
    · have s1 := Scan_m a1 a2 m1 q1 (L.getD k 0) h1
      have s2 := Scan_m b1 b2 m2 q2 (L.getD k 0) h2
      have w1 := Where_m a1 a2 m1 q1 (L.getD k 0)
      have w2 := Where_m b1 b2 m2 q2 (L.getD k 0)
      obtain ⟨e1, e2, e3, e4⟩ := abs_eq h (L.getD k 0)
      have ho := h1.of (L.getD k 0)
      rw [← e1, ← e2] at s2
      rw [← e3, ← e4] at w2
      generalize (slOf m1 (L.getD k 0)).2.2 = bs at *
      generalize (lkI m1 (L.getD k 0)).isSome = hs at *
      generalize plOf q1 (L.getD k 0) = pv at *
      generalize (lkI q1 (L.getD k 0)).isSome = hp at *
      (conv => whnf); repeat' (first | ((with_reducible refine isC ?_); first | ((with_reducible refine isF 34 ?_); (first | (refine CallX_m s1 [0, 1, 2] rfl ⟨⟨rfl, rfl, by simp [SV.wf, SV.wfs]⟩, fun _ _ h => h, fun _ _ h => h, trivial⟩ (by decide) (fun _ _ _ _ => trivial) ?_; intro r1; obtain ⟨B1, d1⟩ := r1) | (refine CallX_m s2 [3, 4, 5] rfl ⟨⟨rfl, rfl, by simp [SV.wf, SV.wfs]⟩, fun _ _ h => h, fun _ _ h => h, trivial⟩ (by decide) (fun _ _ _ _ => trivial) ?_; intro r2; obtain ⟨B2, d2⟩ := r2)); conv => whnf) | ((with_reducible refine isF 26 ?_); (first | (refine CallX_m w1 [0, 1, 2] rfl ⟨⟨rfl, rfl, by simp [SV.wf, SV.wfs]⟩, fun _ _ h => h, fun _ _ h => h, trivial⟩ (by decide) (fun _ _ _ _ => trivial) ?_; intro r3) | (refine CallX_m w2 [3, 4, 5] rfl ⟨⟨rfl, rfl, by simp [SV.wf, SV.wfs]⟩, fun _ _ h => h, fun _ _ h => h, trivial⟩ (by decide) (fun _ _ _ _ => trivial) ?_; intro r4)); conv => whnf)) | ((with_reducible refine isV ?_); first | ((refine ValX_index tabOk rfl (ArgSl.row 6 rfl) rfl ?_ ?_ ?_) <;> first | omega | (with_reducible show (_ : Int) ≤ _) | (with_reducible show (_ : Int) < _) | (with_reducible show (_ : Nat) ≤ _) | (with_reducible show (_ : Nat) < _) | (conv => whnf)) | ((with_reducible refine nat_idx ?_); (refine ValX_load1n _ _ (0) tabOk rfl rfl rfl (ArgSl.row 6 rfl) ?_ ?_ ?_) <;> first | rfl | omega | (with_reducible show (_ : Int) ≤ _) | (with_reducible show (_ : Int) < _) | (with_reducible show (_ : Nat) ≤ _) | (with_reducible show (_ : Nat) < _) | (conv => whnf)) | ((refine ValX_load1 _ _ (0) tabOk rfl rfl rfl (ArgSl.row 6 rfl) ?_ ?_ ?_) <;> first | rfl | omega | (with_reducible show (_ : Int) ≤ _) | (with_reducible show (_ : Int) < _) | (with_reducible show (_ : Nat) ≤ _) | (with_reducible show (_ : Nat) < _) | (conv => whnf))) | ((with_reducible refine isW ?_); first | ((with_reducible refine xwr_ok (by omega) (by omega) ?_); conv => whnf) | ((with_reducible refine xwr_raw ?_); conv => whnf)) | (with_reducible exact rfl) | ((with_reducible refine xif_kt (by with_reducible assumption) ?_); conv => whnf) | ((with_reducible refine xif_kf (by with_reducible assumption) ?_); conv => whnf) | (((with_reducible refine xif_s ?_ ?_) <;> (intro hb; (try simp (disch := omega) only [hbS] at hb))) <;> (conv => whnf)))
      all_goals try (exfalso; omega)
      all_goals try (exfalso; simp at hb; done)
      refine CallX_w (EqualB_w B1 B2 d1 d2 bs rfl (by omega)) (fun σ fp w hm => ⟨ArgSl.bm (s := (B1, d1, bs)) 7 rfl σ fp w hm, ArgSl.bm (s := (B2, d2, bs)) 8 rfl σ fp w hm⟩) ?_
      (conv => whnf); repeat' (first | ((with_reducible refine isW ?_); first | ((with_reducible refine xwr_ok (by omega) (by omega) ?_); conv => whnf) | ((with_reducible refine xwr_raw ?_); conv => whnf)) | (with_reducible exact rfl) | ((with_reducible refine xif_kt (by with_reducible assumption) ?_); conv => whnf) | ((with_reducible refine xif_kf (by with_reducible assumption) ?_); conv => whnf) | (((with_reducible refine xif_s ?_ ?_) <;> (intro hb; (try simp (disch := omega) only [hbS] at hb))) <;> (conv => whnf)))
      refine ⟨k + 1, [0, 1, 2, 3, 4, 5, 6], by (try dsimp only); omega, ?_, by (try dsimp only); omega⟩
      ((refine ⟨?_, ?_, ?_, ?_⟩) <;> (repeat' ((conv => whnf); apply And.intro)) <;> (try (first | exact trivial | decide)))
      all_goals first | rfl | exact fun _ _ h => h | (simp [SV.wf, SV.wfs]; done) | trace_state
    · obtain rfl : k = L.length := by omega
      (conv => whnf); repeat' (first | ((with_reducible refine isW ?_); first | ((with_reducible refine xwr_ok (by omega) (by omega) ?_); conv => whnf) | ((with_reducible refine xwr_raw ?_); conv => whnf)) | (with_reducible exact rfl) | ((with_reducible refine xif_kt (by with_reducible assumption) ?_); conv => whnf) | ((with_reducible refine xif_kf (by with_reducible assumption) ?_); conv => whnf) | (((with_reducible refine xif_s ?_ ?_) <;> (intro hb; (try simp (disch := omega) only [hbS] at hb))) <;> (conv => whnf)))
      all_goals try (exfalso; omega)
      exact Fin_m () [0, 1, 2, 3, 4, 5] ⟨rfl, by simp [SV.wf, SV.wfs]⟩ ⟨⟨rfl, rfl, by simp [SV.wf, SV.wfs]⟩, fun _ _ h => h, fun _ _ h => h, ⟨rfl, rfl, by simp [SV.wf, SV.wfs]⟩, fun _ _ h => h, fun _ _ h => h, trivial⟩ (by decide) rfl
/-- the evidence of a scan at its placement -/
def partA (a : AtT) (k : Int) : List EntT := match a.1 k, a.2 k with
  | some s, some p => if p.2.1 then [] else (ofE p.2.2 s).1
  | _, _ => []
set_option maxHeartbeats 2000000 in
theorem Part_m (b1 b2 : Nat) (m : List (Int × SlT)) (q : List (Int × PlT)) (k : Int) (hok : okS m) :
    CallM Tryz.prog 18 [.p 0 0, I k] (fun _ _ => True) [atB b1 b2, scO b1 m, plO b2 q]
      (fun r : Option Addr × Nat => .v (.slice r.1 (partA (absM (m, q)) k).length r.2)) (fun r => [atB b1 b2, scO b1 m, plO b2 q, .row 81 4 r.1 (partA (absM (m, q)) k).length r.2 ((partA (absM (m, q)) k).map encE)]) := by
  have ks := Scan_m b1 b2 m q k hok
  have kw := Where_m b1 b2 m q k
  have ho := hok.of k
  have hp : partA (absM (m, q)) k = if (lkI m k).isSome && (lkI q k).isSome && !(plOf q k).2.1 then (ofE (plOf q k).2.2 (slOf m k).2.2).1 else [] := by
    unfold partA absM semS plOf slOf
    cases hi : lkI m k with
    | none => simp [hi]
    | some v =>
      cases hj : lkI q k with
      | none => simp [hi, hj]
      | some p =>
        simp only [hi, hj, Option.map_some, Option.getD_some, Option.isSome_some, Bool.and_self, Bool.true_and]
        cases p.2.1 <;> rfl
  have hl := ofE_len (plOf q k).2.2 (slOf m k).2.2
  rw [hp]
  generalize hs : (lkI m k).isSome = has at *
  generalize hq : (lkI q k).isSome = had at *
  generalize hbs : (slOf m k).2.2 = bs at *
  generalize hpv : plOf q k = p at *
  obtain ⟨v, g, pose⟩ := p
  clear hs hq hp
  refine CallM.of (m := 3) Tryz.func18 rfl tabOk rfl rfl rfl rfl (by simp [SV.wfs, SV.wf]) fun w M π _ => ?_
  have hof := fun (A : Option Addr) (c : Nat) => ofE_m pose A c bs _ rfl rfl (by unfold maxLen; omega)
  dsimp only at hl ⊢
  generalize ofE pose bs = r at *
  cases has with
  | false =>
    (conv => whnf); repeat' (first | ((with_reducible refine isC ?_); first | ((with_reducible refine isF 34 ?_); ((refine CallX_m ks [0, 1, 2] rfl ⟨⟨rfl, rfl, by simp [SV.wf, SV.wfs]⟩, fun _ _ h => h, fun _ _ h => h, trivial⟩ (by decide) (fun _ _ _ _ => trivial) ?_; intro r1; obtain ⟨B1, d1⟩ := r1)); conv => whnf) | ((with_reducible refine isF 26 ?_); ((refine CallX_m kw [0, 1, 2] rfl ⟨⟨rfl, rfl, by simp [SV.wf, SV.wfs]⟩, fun _ _ h => h, fun _ _ h => h, trivial⟩ (by decide) (fun _ _ _ _ => trivial) ?_; intro r3)); conv => whnf)) | (with_reducible exact rfl) | ((with_reducible refine xif_kt (by with_reducible assumption) ?_); conv => whnf) | ((with_reducible refine xif_kf (by with_reducible assumption) ?_); conv => whnf) | (((with_reducible refine xif_s ?_ ?_) <;> (intro hb; (try simp (disch := omega) only [hbS] at hb))) <;> (conv => whnf)))
    refine Fin_addNil 81 4 ?_
    exact Fin_m (none, 0) [0, 1, 2, 5] ⟨rfl, by simp [SV.wf, SV.wfs]⟩ ⟨⟨rfl, rfl, by simp [SV.wf, SV.wfs]⟩, fun _ _ h => h, fun _ _ h => h, ⟨rfl, rfl, rfl, rfl, rfl, rfl⟩, trivial⟩ (by decide) rfl
  | true =>
    cases had with
    | false =>
      (conv => whnf); repeat' (first | ((with_reducible refine isC ?_); first | ((with_reducible refine isF 34 ?_); ((refine CallX_m ks [0, 1, 2] rfl ⟨⟨rfl, rfl, by simp [SV.wf, SV.wfs]⟩, fun _ _ h => h, fun _ _ h => h, trivial⟩ (by decide) (fun _ _ _ _ => trivial) ?_; intro r1; obtain ⟨B1, d1⟩ := r1)); conv => whnf) | ((with_reducible refine isF 26 ?_); ((refine CallX_m kw [0, 1, 2] rfl ⟨⟨rfl, rfl, by simp [SV.wf, SV.wfs]⟩, fun _ _ h => h, fun _ _ h => h, trivial⟩ (by decide) (fun _ _ _ _ => trivial) ?_; intro r3)); conv => whnf)) | (with_reducible exact rfl) | ((with_reducible refine xif_kt (by with_reducible assumption) ?_); conv => whnf) | ((with_reducible refine xif_kf (by with_reducible assumption) ?_); conv => whnf) | (((with_reducible refine xif_s ?_ ?_) <;> (intro hb; (try simp (disch := omega) only [hbS] at hb))) <;> (conv => whnf)))
      refine Fin_addNil 81 4 ?_
      exact Fin_m (none, 0) [0, 1, 2, 5] ⟨rfl, by simp [SV.wf, SV.wfs]⟩ ⟨⟨rfl, rfl, by simp [SV.wf, SV.wfs]⟩, fun _ _ h => h, fun _ _ h => h, ⟨rfl, rfl, rfl, rfl, rfl, rfl⟩, trivial⟩ (by decide) rfl
    | true =>
      cases g with
      | true =>
        (conv => whnf); repeat' (first | ((with_reducible refine isC ?_); first | ((with_reducible refine isF 34 ?_); ((refine CallX_m ks [0, 1, 2] rfl ⟨⟨rfl, rfl, by simp [SV.wf, SV.wfs]⟩, fun _ _ h => h, fun _ _ h => h, trivial⟩ (by decide) (fun _ _ _ _ => trivial) ?_; intro r1; obtain ⟨B1, d1⟩ := r1)); conv => whnf) | ((with_reducible refine isF 26 ?_); ((refine CallX_m kw [0, 1, 2] rfl ⟨⟨rfl, rfl, by simp [SV.wf, SV.wfs]⟩, fun _ _ h => h, fun _ _ h => h, trivial⟩ (by decide) (fun _ _ _ _ => trivial) ?_; intro r3)); conv => whnf)) | (with_reducible exact rfl) | ((with_reducible refine xif_kt (by with_reducible assumption) ?_); conv => whnf) | ((with_reducible refine xif_kf (by with_reducible assumption) ?_); conv => whnf) | (((with_reducible refine xif_s ?_ ?_) <;> (intro hb; (try simp (disch := omega) only [hbS] at hb))) <;> (conv => whnf)))
        refine Fin_addNil 81 4 ?_
        exact Fin_m (none, 0) [0, 1, 2, 5] ⟨rfl, by simp [SV.wf, SV.wfs]⟩ ⟨⟨rfl, rfl, by simp [SV.wf, SV.wfs]⟩, fun _ _ h => h, fun _ _ h => h, ⟨rfl, rfl, rfl, rfl, rfl, rfl⟩, trivial⟩ (by decide) rfl
      | false =>
        (conv => whnf); repeat' (first | ((with_reducible refine isC ?_); first | ((with_reducible refine isF 34 ?_); ((refine CallX_m ks [0, 1, 2] rfl ⟨⟨rfl, rfl, by simp [SV.wf, SV.wfs]⟩, fun _ _ h => h, fun _ _ h => h, trivial⟩ (by decide) (fun _ _ _ _ => trivial) ?_; intro r1; obtain ⟨B1, d1⟩ := r1)); conv => whnf) | ((with_reducible refine isF 26 ?_); ((refine CallX_m kw [0, 1, 2] rfl ⟨⟨rfl, rfl, by simp [SV.wf, SV.wfs]⟩, fun _ _ h => h, fun _ _ h => h, trivial⟩ (by decide) (fun _ _ _ _ => trivial) ?_; intro r3)); conv => whnf) | ((with_reducible refine isF 43 ?_); ((refine CallX_m (hof B1 d1) [] rfl trivial (by decide) (fun σ fp w hm => ArgN.of0 (ArgSl.bm (s := (B1, d1, bs)) 3 rfl σ fp w hm) _) ?_; intro r4; obtain ⟨B2, d2⟩ := r4)); conv => whnf)) | (with_reducible exact rfl) | ((with_reducible refine xif_kt (by with_reducible assumption) ?_); conv => whnf) | ((with_reducible refine xif_kf (by with_reducible assumption) ?_); conv => whnf) | (((with_reducible refine xif_s ?_ ?_) <;> (intro hb; (try simp (disch := omega) only [hbS] at hb))) <;> (conv => whnf)))
        exact Fin_m (B2, d2) [0, 1, 2, 5] ⟨rfl, by simp [SV.wf, SV.wfs]⟩ ⟨⟨rfl, rfl, by simp [SV.wf, SV.wfs]⟩, fun _ _ h => h, fun _ _ h => h, ⟨rfl, rfl, rfl, rfl, rfl, rfl⟩, trivial⟩ (by decide) rfl
end Go.Proofs.YtodaijlclbngbaaGreat.En

namespace Go.Proofs.YtodaijlclbngbaaGreat.En
open Go.RowKit
set_option maxRecDepth 100000

theorem aw_of : (ofE (32, 32, 0) [(0, 10)]).1.length = 1 := by decide +kernel
theorem aw_ids : idsF (fun i => decide (i = 3)) 64 = [3] := by decide +kernel
theorem awake17_x : PureX Tryz.prog 8 [] (B true) := by
  have hok0 : okS [] := by intro e he; cases he
  have hc1 : putC 3 [(0, 10)] = 0 := by decide
  have hc2 : plcC 3 (1, false, 32, 32, 0) = 0 := by decide
  have key : ∀ (r1 : PutI [] 3 [(0, 10)]) (r2 : PlcI [] 3 (1, false, 32, 32, 0)), plOf r2.1 3 = (1, false, 32, 32, 0) ∧ (lkI r2.1 3).isSome = true ∧ (partA (absM (r1.1, r2.1)) 3).length = 1 ∧ idsF (hasM r1.1 r2.1) 64 = [3] := by
    rintro ⟨m, hok, hm⟩ ⟨q, hq⟩
    have h1 : semS m = updF (fun _ => none) 3 (some [(0, 10)]) := hm
    have h2 : lkI q = updF (fun _ => none) 3 (some (1, false, 32, 32, 0)) := hq
    have e2 : lkI q 3 = some (1, false, 32, 32, 0) := by rw [h2]; rfl
    refine ⟨by unfold plOf; rw [e2]; rfl, by rw [e2]; rfl, ?_, ?_⟩
    · have : partA (absM (m, q)) 3 = (ofE (32, 32, 0) [(0, 10)]).1 := by
        unfold partA absM
        dsimp only
        rw [h1, e2]
        rfl
      rw [this]
      exact aw_of
    · have : hasM m q = fun i => decide (i = 3) := by
        rw [has_sem, h1, h2]
        funext i
        unfold hasA updF
        dsimp only
        by_cases hi : i = 3
        · simp [hi]
        · simp [hi]
      rw [this]
      exact aw_ids
  refine PureX.of Tryz.func8 rfl tabOk rfl rfl rfl (by simp [SV.wfs, SV.wf]) (by simp [SV.wfs, SV.wf]) fun w => ?_
  (conv => whnf); repeat' (first | ((with_reducible refine isC ?_); first | ((with_reducible refine isF 10 ?_); (refine CallX_m New_m [] rfl trivial (by decide) (fun _ _ _ _ => trivial) ?_; intro b; obtain ⟨b1, b2⟩ := b); conv => whnf) | ((with_reducible refine isF 35 ?_); (refine CallX_m (Put_m b1 b2 [] [] 3 _ _ [(0, 10)] rfl (by decide) hok0) [0, 1, 2] rfl ⟨⟨rfl, rfl, by simp [SV.wf, SV.wfs]⟩, fun _ _ h => h, fun _ _ h => h, trivial⟩ (by decide) (ArgN.row 3 rfl (m := 3) (r := [0, 1, 2]) (fun j hj => by rcases (by omega : j = 0 ∨ j = 1 ∨ j = 2) with rfl | rfl | rfl <;> simp)) ?_; intro r1; rw [hc1]); conv => whnf) | ((with_reducible refine isF 27 ?_); (refine CallX_m (Place_m b1 b2 r1.1 [] 3 (1, false, 32, 32, 0)) [0, 1, 2] rfl ⟨⟨rfl, rfl, by simp [SV.wf, SV.wfs]⟩, fun _ _ h => h, fun _ _ h => h, trivial⟩ (by decide) (fun _ _ _ _ => trivial) ?_; intro r2; rw [hc2]; obtain ⟨y1, y2, y3, y4⟩ := key r1 r2); conv => whnf)) | ((with_reducible refine isO ?_); first | ((refine OpX_build0 tabOk rfl rfl rfl ?_); intro bN; conv => whnf) | ((refine OpX_build tabOk rfl rfl rfl rfl rfl ?_); intro bN; conv => whnf)) | (with_reducible exact rfl) | ((with_reducible refine xif_kt (by with_reducible assumption) ?_); conv => whnf) | ((with_reducible refine xif_kf (by with_reducible assumption) ?_); conv => whnf) | (((with_reducible refine xif_s ?_ ?_) <;> (intro hb; (try simp (disch := omega) only [hbS] at hb))) <;> (conv => whnf)))
  have hok := r1.2.1
  have kw := Where_m b1 b2 r1.1 r2.1 3
  have kp := Part_m b1 b2 r1.1 r2.1 3 hok
  have ki := Ids_m b1 b2 r1.1 r2.1
  rw [y1, y2] at kw
  rw [y4] at ki
  generalize partA (absM (r1.1, r2.1)) 3 = pl at *
  rw [y3] at kp
  refine CallX_m kw [0, 1, 2] rfl ⟨⟨rfl, rfl, by simp [SV.wf, SV.wfs]⟩, fun _ _ h => h, fun _ _ h => h, trivial⟩ (by decide) (fun _ _ _ _ => trivial) ?_
  intro r3
  (conv => whnf); repeat' (first | ((with_reducible refine isC ?_); first | ((with_reducible refine isF 18 ?_); (refine CallX_m kp [0, 1, 2] rfl ⟨⟨rfl, rfl, by simp [SV.wf, SV.wfs]⟩, fun _ _ h => h, fun _ _ h => h, trivial⟩ (by decide) (fun _ _ _ _ => trivial) ?_; intro r4; obtain ⟨A4, c4⟩ := r4); conv => whnf) | ((with_reducible refine isF 33 ?_); (refine CallX_m ki [0, 1, 2] rfl ⟨⟨rfl, rfl, by simp [SV.wf, SV.wfs]⟩, fun _ _ h => h, fun _ _ h => h, trivial⟩ (by decide) (fun _ _ _ _ => trivial) ?_; intro r5; obtain ⟨A5, c5⟩ := r5); conv => whnf)) | ((with_reducible refine isO ?_); first | ((refine OpX_build0 tabOk rfl rfl rfl ?_); intro bN; conv => whnf) | ((refine OpX_build tabOk rfl rfl rfl rfl rfl ?_); intro bN; conv => whnf)) | (with_reducible exact rfl) | ((with_reducible refine xif_kt (by with_reducible assumption) ?_); conv => whnf) | ((with_reducible refine xif_kf (by with_reducible assumption) ?_); conv => whnf) | (((with_reducible refine xif_s ?_ ?_) <;> (intro hb; (try simp (disch := omega) only [hbS] at hb))) <;> (conv => whnf)))
  refine CallX_w (Ints_w A5 _ c5 _ [3] rfl (by decide)) (fun σ fp w hm => ⟨ArgSl.row 6 rfl σ fp w hm, ArgSl.row 7 rfl σ fp w hm⟩) ?_
  (conv => whnf); repeat' (first | ((with_reducible refine isO ?_); first | ((refine OpX_build0 tabOk rfl rfl rfl ?_); intro bN; conv => whnf) | ((refine OpX_build tabOk rfl rfl rfl rfl rfl ?_); intro bN; conv => whnf)) | (with_reducible exact rfl) | ((with_reducible refine xif_kt (by with_reducible assumption) ?_); conv => whnf) | ((with_reducible refine xif_kf (by with_reducible assumption) ?_); conv => whnf) | (((with_reducible refine xif_s ?_ ?_) <;> (intro hb; (try simp (disch := omega) only [hbS] at hb))) <;> (conv => whnf)))
  exact Fin_pure rfl rfl trivial
end Go.Proofs.YtodaijlclbngbaaGreat.En
