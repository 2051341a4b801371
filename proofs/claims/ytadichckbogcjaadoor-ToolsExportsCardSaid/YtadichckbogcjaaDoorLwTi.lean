/- The walks of ToolsImports and ToolsExports. -/
import Derived.Test.YtadichckbogcjaaDoorNr
import Derived.Test.YtadichckbogcjaaDoorXq
import Derived.Test.YtadichckbogcjaaDoorBr
set_option linter.all false
namespace Go.Proofs.YtadichckbogcjaaDoor.En
open Go.RowKit
set_option maxRecDepth 100000

theorem entries_self {s : List EntT} : decide (s = s) = true := by simp
theorem Entries_self (A1 A2 : Option Addr) (c1 c2 : Nat) (xs : List EntT) {n : Nat} (hx : xs.length = n) (h1 : n ≤ 1000000000) :
    CallW Tryd.prog 16 [.v (.slice A1 n c1), .v (.slice A2 n c2)] (fun w => ArgSl w A1 n 4 (xs.map encE) ∧ ArgSl w A2 n 4 (xs.map encE)) (B true) := by
  have := Entries_w A1 A2 c1 c2 xs xs hx hx h1 h1
  rwa [decide_eq_true rfl] at this
theorem im_len (s : List UInt8) : (imF s).1.length ≤ s.length := by
  rcases im_spec s with ⟨l, _, h2, h3⟩ | ⟨_, h2⟩
  · rw [h3, ← h2]
    exact exportS_ge l
  · rw [h2]
    simp
set_option maxHeartbeats 4000000 in
theorem imports_x (s : List UInt8) : CallW Tryd.prog 6 [S s] stW (B true) := by
  by_cases hs : s.length ≤ 3000
  · have k1 := Import_m s (by omega)
    have k2 := rImport_m s (by omega)
    have hsp := im_spec s
    have hln := im_len s
    have ke := fun A1 A2 c1 c2 => Entries_self A1 A2 c1 c2 (imF s).1 rfl (by omega)
    have kx := fun A' c' => Export_w A' c' (imF s).1 rfl (by unfold maxLen; omega)
    have hex : (imF s).2 = 3 ∨ ((imF s).2 = 0 ∧ (if vE (imF s).1 then exportS (imF s).1 else []) = s) := by
      rcases hsp with ⟨l, h1, h2, h3⟩ | ⟨_, h2⟩
      · right
        rw [h3]
        dsimp only
        rw [if_pos h1]
        exact ⟨rfl, h2⟩
      · left
        rw [h2]
    clear hsp
    generalize imF s = R at *
    obtain ⟨L, e⟩ := R
    dsimp only at *
    refine CallW.of Tryd.func6 rfl tabOk rfl rfl rfl (by simp [SV.wfs, SV.wf]) (by simp [SV.wfs, SV.wf]) fun w hpre => ?_
    have hst := fun {ob : List OB} => stW.mem (C := ⟨Tryd.prog, tab, Tryd.f6.ntmps, w, fun _ => False, 0, id, false⟩) (ob := ob) hpre rfl
    rcases hex with rfl | ⟨rfl, hX⟩
    · (conv=>whnf);repeat' (first|((with_reducible refine isC ?_);first|((first|(with_reducible refine isF 7 ?_;refine CallX_w (awake45_x) ?_ ?_);(focus exact fun σ fp w' hm => (hst σ fp w' hm).p10)|(with_reducible refine isF 13 ?_);((refine CallX_m k1 [] rfl trivial (by decide) (fun σ fp w' hm => ⟨hst σ fp w' hm, MOf_zero _⟩) ?_; intro q; obtain ⟨A1, c1⟩ := q; dsimp only))|(with_reducible refine isF 17 ?_);((refine CallX_m k2 [] rfl trivial (by decide) (fun _ _ _ _ => trivial) ?_; intro q; obtain ⟨A2, c2⟩ := q; dsimp only))|(with_reducible refine isF 16 ?_;refine CallX_w (ke _ _ _ _) ?_ ?_);(focus exact fun σ fp w' hm => ⟨ArgSl.row 0 rfl σ fp w' hm, ArgSl.row 1 rfl σ fp w' hm⟩));conv=>whnf))|((with_reducible refine isV ?_);first|((refine ValX_sLen rfl Tryd.underlying9 ?_); conv => whnf))|with_reducible exact rfl|((with_reducible first|refine xif_kt (by assumption) ?_|refine xif_kf (by assumption) ?_);conv=>whnf)|((with_reducible refine xif_s ?_ ?_)<;>(intro hb;(try simp (disch:=omega) only [hbS] at hb)<;>conv=>whnf)))
      all_goals try (exfalso; omega)
      all_goals first
        | exact Fin_pure rfl rfl trivial
        | trace_state
    · generalize (if vE L then exportS L else []) = X at *
      subst hX
      (conv=>whnf);repeat' (first|((with_reducible refine isC ?_);first|((first|(with_reducible refine isF 7 ?_;refine CallX_w (awake45_x) ?_ ?_);(focus exact fun σ fp w' hm => (hst σ fp w' hm).p10)|(with_reducible refine isF 13 ?_);((refine CallX_m k1 [] rfl trivial (by decide) (fun σ fp w' hm => ⟨hst σ fp w' hm, MOf_zero _⟩) ?_; intro q; obtain ⟨A1, c1⟩ := q; dsimp only))|(with_reducible refine isF 17 ?_);((refine CallX_m k2 [] rfl trivial (by decide) (fun _ _ _ _ => trivial) ?_; intro q; obtain ⟨A2, c2⟩ := q; dsimp only))|(with_reducible refine isF 16 ?_;refine CallX_w (ke _ _ _ _) ?_ ?_);(focus exact fun σ fp w' hm => ⟨ArgSl.row 0 rfl σ fp w' hm, ArgSl.row 1 rfl σ fp w' hm⟩)|(with_reducible refine isF 12 ?_;refine CallX_w (kx _ _) ?_ ?_);(focus exact fun σ fp w' hm => ⟨ArgSl.row 0 rfl σ fp w' hm, (hst σ fp w' hm).p10⟩));conv=>whnf))|((with_reducible refine isV ?_);first|((refine ValX_sLen rfl Tryd.underlying9 ?_); conv => whnf)|(refine ValX_sEq (r := true) rfl Tryd.underlying9 (by simp) ?_; conv => whnf))|with_reducible exact rfl|((with_reducible first|refine xif_kt (by assumption) ?_|refine xif_kf (by assumption) ?_);conv=>whnf)|((with_reducible refine xif_s ?_ ?_)<;>(intro hb;(try simp (disch:=omega) only [hbS] at hb)<;>conv=>whnf)))
      all_goals try (exfalso; omega)
      all_goals first
        | exact Fin_pure rfl rfl trivial
        | trace_state
  · refine CallW.of Tryd.func6 rfl tabOk rfl rfl rfl (by simp [SV.wfs, SV.wf]) (by simp [SV.wfs, SV.wf]) fun w hpre => ?_
    have hst := fun {ob : List OB} => stW.mem (C := ⟨Tryd.prog, tab, Tryd.f6.ntmps, w, fun _ => False, 0, id, false⟩) (ob := ob) hpre rfl
    (conv=>whnf);repeat' (first|((with_reducible refine isC ?_);first|(((with_reducible refine isF 7 ?_;refine CallX_w (awake45_x) ?_ ?_);(focus exact fun σ fp w' hm => (hst σ fp w' hm).p10));conv=>whnf))|((with_reducible refine isV ?_);first|((refine ValX_sLen rfl Tryd.underlying9 ?_); conv => whnf))|with_reducible exact rfl|((with_reducible first|refine xif_kt (by assumption) ?_|refine xif_kf (by assumption) ?_);conv=>whnf)|((with_reducible refine xif_s ?_ ?_)<;>(intro hb;(try simp (disch:=omega) only [hbS] at hb)<;>conv=>whnf)))
    all_goals try (exfalso; omega)
    all_goals exact Fin_pure rfl rfl trivial
/-- the same, over arguments as they are opened -/
theorem imports_walk (s : ByteArray) (w : World) (hp : stW w) :
    Calls Tryd.prog 6 #[.string s] w fun e w' => e = .returned (.bool true) ∧ Below w.heap.size w w' := by
  obtain ⟨⟨l⟩⟩ := s
  exact (imports_x l).2.2 (fun _ => 0) w hp
set_option maxHeartbeats 4000000 in
theorem exports_x (A : Option Addr) (c : Nat) (l : List EntT) {n : Nat} (hl : l.length = n) (hn : n ≤ maxLen) :
    CallW Tryd.prog 5 [.v (.slice A n c)] (fun w => stW w ∧ ArgSl w A n 4 (l.map encE)) (B true) := by
  have hn' := hn
  unfold maxLen at hn'
  by_cases h3 : n ≤ 300
  · have k1 := Export_w A c l hl hn
    have k2 := rExport_w A c l hl hn
    have kv := rVE_w A c l hl hn
    cases hv : vE l with
    | true =>
      have hsl : (exportS l).length ≤ 1048576 := by
        have := exportS_len (l := l) fun e he => vE_good hv he
        omega
      have k3 := Import_m (exportS l) hsl
      rw [im_export hv] at k3
      rw [hv] at k1 k2 kv
      rw [if_pos rfl] at k1 k2
      dsimp only at k3
      rw [hl] at k3
      have ke := fun A1 c1 => Entries_self A1 A c1 c l hl (by omega)
      generalize exportS l = X at *
      refine CallW.of Tryd.func5 rfl tabOk rfl rfl rfl (by simp [SV.wfs, SV.wf]) (by simp [SV.wfs, SV.wf]) fun w hpre => ?_
      obtain ⟨hpw, hpa⟩ := hpre
      have hst := fun {ob : List OB} => stW.mem (C := ⟨Tryd.prog, tab, Tryd.f5.ntmps, w, fun _ => False, 0, id, false⟩) (ob := ob) hpw rfl
      have hpm := fun {ob : List OB} => hpa.mem (C := ⟨Tryd.prog, tab, Tryd.f5.ntmps, w, fun _ => False, 0, id, false⟩) (ob := ob) (by decide) rfl
      (conv=>whnf);repeat' (first|((with_reducible refine isC ?_);first|((first|(with_reducible refine isF 7 ?_;refine CallX_w (awake45_x) ?_ ?_);(focus exact fun σ fp w' hm => (hst σ fp w' hm).p10)|(with_reducible refine isF 12 ?_;refine CallX_w (k1) ?_ ?_);(focus exact fun σ fp w' hm => ⟨hpm σ fp w' hm, (hst σ fp w' hm).p10⟩)|(with_reducible refine isF 14 ?_;refine CallX_w (k2) ?_ ?_);(focus exact hpm)|(with_reducible refine isF 15 ?_;refine CallX_w (kv) ?_ ?_);(focus exact hpm)|(with_reducible refine isF 13 ?_);((refine CallX_m k3 [] rfl trivial (by decide) (fun σ fp w' hm => ⟨hst σ fp w' hm, MOf_zero _⟩) ?_; intro q; obtain ⟨A1, c1⟩ := q; dsimp only))|(with_reducible refine isF 16 ?_;refine CallX_w (ke _ _) ?_ ?_);(focus exact fun σ fp w' hm => ⟨ArgSl.row 0 rfl σ fp w' hm, hpm σ fp w' hm⟩));conv=>whnf))|((with_reducible refine isV ?_);first|(refine ValX_sNe (r := false) rfl Tryd.underlying9 (by simp) ?_; conv => whnf))|with_reducible exact rfl|((with_reducible first|refine xif_kt (by assumption) ?_|refine xif_kf (by assumption) ?_);conv=>whnf)|((with_reducible refine xif_s ?_ ?_)<;>(intro hb;(try simp (disch:=omega) only [hbS] at hb)<;>conv=>whnf)))
      all_goals try (exfalso; omega)
      all_goals first
        | exact Fin_pure rfl rfl trivial
        | trace_state
    | false =>
      have k3 := Import_m [] (by simp)
      rw [show imF [] = ([], 0) by simpa [exportS] using im_export (l := []) (by simp [vE])] at k3
      rw [hv] at k1 k2 kv
      rw [if_neg (by simp)] at k1 k2
      dsimp only at k3
      refine CallW.of Tryd.func5 rfl tabOk rfl rfl rfl (by simp [SV.wfs, SV.wf]) (by simp [SV.wfs, SV.wf]) fun w hpre => ?_
      obtain ⟨hpw, hpa⟩ := hpre
      have hst := fun {ob : List OB} => stW.mem (C := ⟨Tryd.prog, tab, Tryd.f5.ntmps, w, fun _ => False, 0, id, false⟩) (ob := ob) hpw rfl
      have hpm := fun {ob : List OB} => hpa.mem (C := ⟨Tryd.prog, tab, Tryd.f5.ntmps, w, fun _ => False, 0, id, false⟩) (ob := ob) (by decide) rfl
      (conv=>whnf);repeat' (first|((with_reducible refine isC ?_);first|((first|(with_reducible refine isF 7 ?_;refine CallX_w (awake45_x) ?_ ?_);(focus exact fun σ fp w' hm => (hst σ fp w' hm).p10)|(with_reducible refine isF 12 ?_;refine CallX_w (k1) ?_ ?_);(focus exact fun σ fp w' hm => ⟨hpm σ fp w' hm, (hst σ fp w' hm).p10⟩)|(with_reducible refine isF 14 ?_;refine CallX_w (k2) ?_ ?_);(focus exact hpm)|(with_reducible refine isF 15 ?_;refine CallX_w (kv) ?_ ?_);(focus exact hpm)|(with_reducible refine isF 13 ?_);((refine CallX_m k3 [] rfl trivial (by decide) (fun σ fp w' hm => ⟨hst σ fp w' hm, MOf_zero _⟩) ?_; intro q; obtain ⟨A1, c1⟩ := q; dsimp only)));conv=>whnf))|((with_reducible refine isV ?_);first|(refine ValX_sNe (r := false) rfl Tryd.underlying9 (by simp) ?_; conv => whnf))|with_reducible exact rfl|((with_reducible first|refine xif_kt (by assumption) ?_|refine xif_kf (by assumption) ?_);conv=>whnf)|((with_reducible refine xif_s ?_ ?_)<;>(intro hb;(try simp (disch:=omega) only [hbS] at hb)<;>conv=>whnf)))
      all_goals try (exfalso; omega)
      all_goals first
        | exact Fin_pure rfl rfl trivial
        | trace_state
  · refine CallW.of Tryd.func5 rfl tabOk rfl rfl rfl (by simp [SV.wfs, SV.wf]) (by simp [SV.wfs, SV.wf]) fun w hpre => ?_
    have hst := fun {ob : List OB} => stW.mem (C := ⟨Tryd.prog, tab, Tryd.f5.ntmps, w, fun _ => False, 0, id, false⟩) (ob := ob) hpre.1 rfl
    (conv=>whnf);repeat' (first|((with_reducible refine isC ?_);first|(((with_reducible refine isF 7 ?_;refine CallX_w (awake45_x) ?_ ?_);(focus exact fun σ fp w' hm => (hst σ fp w' hm).p10));conv=>whnf))|with_reducible exact rfl|((with_reducible first|refine xif_kt (by assumption) ?_|refine xif_kf (by assumption) ?_);conv=>whnf)|((with_reducible refine xif_s ?_ ?_)<;>(intro hb;(try simp (disch:=omega) only [hbS] at hb)<;>conv=>whnf)))
    all_goals try (exfalso; omega)
    all_goals exact Fin_pure rfl rfl trivial
/-- the same, over arguments as they are opened -/
theorem exports_walk (A : Option Addr) (n c : Nat) (V : Nat → Nat → Int) (w : World) (hp : stW w) (h0 : SlO w A n 4 V) (g : n ≤ c) (k : c ≤ maxLen) :
    Calls Tryd.prog 5 #[.slice A n c] w fun e w' => e = .returned (.bool true) ∧ Below w.heap.size w w' := by
  have a0 := ArgSl.of_SlO encE (fun i => (V i 0, V i 1, V i 2, V i 3)) h0 (by decide) (fun i => rfl)
  generalize e0 : (List.range n).map (fun i => (V i 0, V i 1, V i 2, V i 3)) = xs at a0
  obtain rfl : xs.length = n := by rw [← e0]; simp
  exact (exports_x A c xs rfl (by omega)).2.2 (fun _ => 0) w ⟨hp, a0⟩
end Go.Proofs.YtadichckbogcjaaDoor.En
