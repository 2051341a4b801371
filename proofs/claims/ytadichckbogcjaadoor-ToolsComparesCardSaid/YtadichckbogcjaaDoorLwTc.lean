/- The walk of ToolsCompares. -/
import Derived.Test.YtadichckbogcjaaDoorXw
import Derived.Test.YtadichckbogcjaaDoorBr
set_option linter.all false
namespace Go.Proofs.YtadichckbogcjaaDoor.En
open Go.RowKit
set_option maxRecDepth 100000

theorem cmpD_swap (a b : List EntT) : cmpD b a = ((cmpD a b).1, (cmpD a b).2.2.1, (cmpD a b).2.1, (cmpD a b).2.2.2) := by
  unfold cmpD
  rw [Bool.and_comm]
  by_cases h : (vE a && vE b) = true
  · rw [if_pos h, if_pos h]
    rw [Bool.and_eq_true] at h
    rw [← merge_ref (a.length + b.length) (Nat.le_refl _) (asc_of h.1) (asc_of h.2), ← merge_ref (a.length + b.length) (by omega) (asc_of h.2) (asc_of h.1)]
    exact merge_swap _ _ _
  · rw [if_neg h, if_neg h]
theorem cmpD_self {a : List EntT} (b : List EntT) (h1 : vE a = true) (h2 : vE b = true) : cmpD a a = ((cmpD a b).1 + (cmpD a b).2.1, 0, 0, a.length) := by
  unfold cmpD
  rw [h1, h2, if_pos (by rfl), if_pos (by rfl), ref_sum, ref_self (asc_of h1)]
theorem cmpD_bd {a : List EntT} (b : List EntT) : (cmpD a b).1 + (cmpD a b).2.1 ≤ a.length := by
  unfold cmpD
  split
  · rw [ref_sum]
    exact List.countP_le_length
  · simp
set_option maxHeartbeats 4000000 in
theorem compares_x (A : Option Addr) (c : Nat) (a : List EntT) {n : Nat} (hl : a.length = n) (hn : n ≤ maxLen) (hc : n ≤ c) (A2 : Option Addr) (c2 : Nat) (b : List EntT) {m : Nat} (hm : b.length = m) (hm2 : m ≤ maxLen) (hc2 : m ≤ c2) :
    CallW Tryd.prog 4 [.v (.slice A n c), .v (.slice A2 m c2)] (fun w => p10W w ∧ ArgSl w A n 4 (a.map encE) ∧ ArgSl w A2 m 4 (b.map encE)) (B true) := by
  have k1 := Compare_w A c a hl hn hc A2 c2 b hm hm2 hc2
  have k2 := Compare_w A2 c2 b hm hm2 hc2 A c a hl hn hc
  have k3 := rCompare_w A c a hl hn A2 c2 b hm hm2
  have k4 := Compare_w A c a hl hn hc A c a hl hn hc
  have hs := cmpD_self (a := a) b
  have hb0 := cmpD_bd (a := a) b
  rw [cmpD_swap a b, Bool.and_comm] at k2
  rw [Bool.and_self] at k4
  have hn1 := hn
  have hm1 := hm2
  unfold maxLen at hn1 hm1
  generalize hD : cmpD a b = D at *
  obtain ⟨d1, d2, d3, d4⟩ := D
  generalize hE : cmpD a a = E at *
  obtain ⟨e1, e2, e3, e4⟩ := E
  generalize vE a = va at *
  generalize vE b = vb at *
  dsimp only at *
  refine CallW.of Tryd.func4 rfl tabOk rfl rfl rfl (by simp [SV.wfs, SV.wf]) (by simp [SV.wfs, SV.wf]) fun w hpre => ?_
  obtain ⟨hp, hpre, hpre2⟩ := hpre
  have htm := fun {ob : List OB} => p10W.mem (C := ⟨Tryd.prog, tab, Tryd.f4.ntmps, w, fun _ => False, 0, id, false⟩) (ob := ob) hp rfl
  cases va <;> cases vb
  all_goals simp only [Bool.and_self, Bool.and_true, Bool.and_false, Bool.false_and, Bool.true_and, if_true, if_false, Bool.false_eq_true] at k1 k2 k3 k4
  all_goals try (have hs := hs rfl rfl; simp only [Prod.mk.injEq] at hs; obtain ⟨rfl, rfl, rfl, rfl⟩ := hs)
  all_goals
    (conv=>whnf);repeat' (first|((with_reducible refine isC ?_);first|((first|(with_reducible refine isF 7 ?_;refine CallX_w (awake45_x) ?_ ?_);(focus exact htm)|(with_reducible refine isF 10 ?_;refine CallX_w (k1) ?_ ?_);(focus exact fun σ fp w hm => ⟨hpre.mem (by decide) rfl σ fp w hm, hpre2.mem (by decide) rfl σ fp w hm⟩)|(with_reducible refine isF 10 ?_;refine CallX_w (k2) ?_ ?_);(focus exact fun σ fp w hm => ⟨hpre2.mem (by decide) rfl σ fp w hm, hpre.mem (by decide) rfl σ fp w hm⟩)|(with_reducible refine isF 10 ?_;refine CallX_w (k4) ?_ ?_);(focus exact fun σ fp w hm => ⟨hpre.mem (by decide) rfl σ fp w hm, hpre.mem (by decide) rfl σ fp w hm⟩)|(with_reducible refine isF 11 ?_;refine CallX_w (k3) ?_ ?_);(focus exact fun σ fp w hm => ⟨hpre.mem (by decide) rfl σ fp w hm, hpre2.mem (by decide) rfl σ fp w hm⟩));conv=>whnf))|((with_reducible refine isW ?_;first|refine xwr_ok (by omega) (by omega) ?_|refine xwr_raw ?_);conv=>whnf)|with_reducible exact rfl|((with_reducible first|refine xif_kt (by assumption) ?_|refine xif_kf (by assumption) ?_);conv=>whnf)|((with_reducible refine xif_s ?_ ?_)<;>(intro hb;(try simp (disch:=omega) only [hbS] at hb)<;>conv=>whnf)))
  all_goals try (exfalso; omega)
  all_goals first
    | exact Fin_pure rfl rfl trivial
    | (exfalso; simp at hb; done)
    | (exfalso; simp [hl] at hb; done)
    | (refine Fin_pure rfl ?_ trivial; simp [hl]; done)
/-- the same, over arguments as they are opened -/
theorem compares_walk (A0 : Option Addr) (n0 c0 : Nat) (V0 : Nat → Nat → Int) (A1 : Option Addr) (n1 c1 : Nat) (V1 : Nat → Nat → Int) (w : World) (hp : p10W w) (h0 : SlO w A0 n0 4 V0) (g0 : n0 ≤ c0) (k0 : c0 ≤ maxLen) (h1 : SlO w A1 n1 4 V1) (g1 : n1 ≤ c1) (k1 : c1 ≤ maxLen) :
    Calls Tryd.prog 4 #[.slice A0 n0 c0, .slice A1 n1 c1] w fun e w' => e = .returned (.bool true) ∧ Below w.heap.size w w' := by
  have a0 := ArgSl.of_SlO encE (fun i => (V0 i 0, V0 i 1, V0 i 2, V0 i 3)) h0 (by decide) (fun i => rfl)
  generalize e0 : (List.range n0).map (fun i => (V0 i 0, V0 i 1, V0 i 2, V0 i 3)) = xs at a0
  obtain rfl : xs.length = n0 := by rw [← e0]; simp
  have a1 := ArgSl.of_SlO encE (fun i => (V1 i 0, V1 i 1, V1 i 2, V1 i 3)) h1 (by decide) (fun i => rfl)
  generalize e1 : (List.range n1).map (fun i => (V1 i 0, V1 i 1, V1 i 2, V1 i 3)) = ys at a1
  obtain rfl : ys.length = n1 := by rw [← e1]; simp
  exact (compares_x A0 c0 xs rfl (by omega) g0 A1 c1 ys rfl (by omega) g1).2.2 (fun _ => 0) w ⟨hp, a0, a1⟩
end Go.Proofs.YtadichckbogcjaaDoor.En
