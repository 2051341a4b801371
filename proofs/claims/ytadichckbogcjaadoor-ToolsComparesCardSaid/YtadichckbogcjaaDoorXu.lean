/- tools.Compare and the reference's Compare. -/
import Derived.Test.YtadichckbogcjaaDoorXv
import Derived.Test.YtadichckbogcjaaDoorXq
set_option linter.all false
namespace Go.Proofs.YtadichckbogcjaaDoor.En
open Go.RowKit
set_option maxRecDepth 100000

theorem ArgSl.cutS {w : World} {A : Option Addr} {n sz : Nat} {els : List (List Value)} (h : ArgSl w A n sz els) {m : Nat} (hm : m ≤ n) {c : Nat} (hc : n ≤ c) : ArgSl w (cutA A c m sz) (n - m) sz (els.drop m) := by
  refine ⟨by rw [List.length_drop, h.len], fun e he => h.size e (List.mem_of_mem_drop he), fun e he => h.one e (List.mem_of_mem_drop he), fun hn => ?_⟩
  obtain ⟨b, o, hA, hcl⟩ := h.at_ (by omega)
  refine ⟨b, o + m * sz, ?_, fun i e hi j v hj => ?_⟩
  · unfold cutA
    rw [if_neg (by omega), hA]
    rfl
  · rw [List.getElem?_drop] at hi
    have := hcl (m + i) e hi j v hj
    rw [← this, Nat.add_mul]
    congr 2
    omega
theorem ArgSl.spotN {w : World} {A : Option Addr} {n sz : Nat} {els : List (List Value)} (h : ArgSl w A n sz els) (hn : n ≠ 0) : ∀ a, A = some a → a.spot = none := by
  obtain ⟨b, o, hA, _⟩ := h.at_ hn
  rintro a ha
  rw [hA] at ha
  cases ha
  rfl
theorem stp_le (f s : Bool) (x y : EntT) : (stp f s x y).1 ≤ 1 ∧ (stp f s x y).2.1 ≤ 1 ∧ (stp f s x y).2.2.1 ≤ 1 ∧ (stp f s x y).2.2.2 ≤ 1 := by
  have h : ∀ b : Bool, b2n b ≤ 1 := by intro b; cases b <;> simp [b2n]
  exact ⟨h _, h _, h _, h _⟩
theorem tbefore_x (a b : CellT) : PureX Tryd.prog 24 [.a [I a.1, I a.2], .a [I b.1, I b.2]] (B (befB a b)) := by
  refine PureX.of Tryd.func24 rfl tabOk rfl rfl rfl (by simp [SV.wfs, SV.wf]) (by simp [SV.wfs, SV.wf]) fun w => ?_
  (conv=>whnf);repeat' (first|with_reducible exact rfl|((with_reducible first|refine xif_kt (by assumption) ?_|refine xif_kf (by assumption) ?_);conv=>whnf)|((with_reducible refine xif_s ?_ ?_)<;>(intro hb;(try simp (disch:=omega) only [hbS] at hb)<;>conv=>whnf)))
  all_goals refine Fin_pure rfl ?_ trivial
  all_goals refine congrArg (fun b => SV.v (Value.bool b)) ?_
  all_goals rw [Bool.eq_iff_iff, befB_iff]
  all_goals try simp only [decide_eq_true_eq, Bool.false_eq_true, true_iff, false_iff]
  all_goals omega
abbrev boxD (d : D4) : OB := .box 33 [I d.1, I d.2.1, I d.2.2.1, I d.2.2.2]
set_option maxHeartbeats 4000000 in
theorem Compare_w (A : Option Addr) (c : Nat) (a : List EntT) {n : Nat} (hl : a.length = n) (hn : n ≤ maxLen) (hc : n ≤ c) (A2 : Option Addr) (c2 : Nat) (b : List EntT) {m : Nat} (hm : b.length = m) (hm2 : m ≤ maxLen) (hc2 : m ≤ c2) :
    CallW Tryd.prog 10 [.v (.slice A n c), .v (.slice A2 m c2)] (fun w => ArgSl w A n 4 (a.map encE) ∧ ArgSl w A2 m 4 (b.map encE)) (.t [.a [I (cmpD a b).1, I (cmpD a b).2.1, I (cmpD a b).2.2.1, I (cmpD a b).2.2.2], I (if vE a && vE b then 0 else 1)]) := by
  have k1 := Valid_v A c a hl hn
  have k2 := Valid_v A2 c2 b hm hm2
  unfold cmpD
  refine CallW.of Tryd.func10 rfl tabOk rfl rfl rfl (by simp [SV.wfs, SV.wf]) (by simp [SV.wfs, SV.wf]) fun w hpre => ?_
  (conv=>whnf);repeat' (first|((with_reducible refine isC ?_);first|((first|(with_reducible refine isF 23 ?_;refine CallX_v (k1) ?_ ?_);(focus exact hpre.1.mem (by decide) rfl)|(with_reducible refine isF 23 ?_;refine CallX_v (k2) ?_ ?_);(focus exact hpre.2.mem (by decide) rfl));conv=>whnf))|((with_reducible refine isW ?_;first|refine xwr_ok (by omega) (by omega) ?_|refine xwr_raw ?_);conv=>whnf)|((first|refine DrawX_s tabOk folOk ?_|refine DrawS_i (by kernel_rfl) ?_|with_reducible refine andX_i ?_ ?_)<;>conv=>whnf)|with_reducible exact rfl|((with_reducible first|refine xif_kt (by assumption) ?_|refine xif_kf (by assumption) ?_);conv=>whnf)|((with_reducible refine xif_s ?_ ?_)<;>(intro hb;(try simp (disch:=omega) only [hbS] at hb)<;>conv=>whnf)))
  · rw [hb]
    exact Fin_pure rfl rfl (by simp [SV.wf, SV.wfs])
  · rename_i hb1
    rw [hb1, hb]
    exact Fin_pure rfl rfl (by simp [SV.wf, SV.wfs])
  · rename_i hb1
    have l1 := vE_le hb1
    have l2 := vE_le hb
    have hR := merge_ref (n + m) (a := a) (b := b) (by omega) (asc_of hb1) (asc_of hb)
    have hm1 := fun {ob : List OB} => hpre.1.mem (C := ⟨Tryd.prog, tab, Tryd.f10.ntmps, w, fun _ => False, 0, id, false⟩) (ob := ob) (by decide) rfl
    have hm2 := fun {ob : List OB} => hpre.2.mem (C := ⟨Tryd.prog, tab, Tryd.f10.ntmps, w, fun _ => False, 0, id, false⟩) (ob := ob) (by decide) rfl
    rw [hb1, hb, ← hR]
    refine LoopX_inv tabOk (α := (xs : List EntT) × (ys : List EntT) × (Option Addr × Nat) × (Option Addr × Nat) × D4)
      (fun s => ad4 s.2.2.2.2 (mergeD (s.1.length + s.2.1.length) s.1 s.2.1) = mergeD (n + m) a b ∧ s.1.length ≤ s.2.2.1.2 ∧ s.2.1.length ≤ s.2.2.2.1.2 ∧
        (s.2.2.2.2.1 + (s.1.length + s.2.1.length) ≤ n + m ∧ s.2.2.2.2.2.1 + (s.1.length + s.2.1.length) ≤ n + m ∧ s.2.2.2.2.2.2.1 + (s.1.length + s.2.1.length) ≤ n + m ∧ s.2.2.2.2.2.2.2 + (s.1.length + s.2.1.length) ≤ n + m) ∧
        (∀ ob σ fp w', Mem ⟨Tryd.prog, tab, Tryd.f10.ntmps, w, fun _ => False, 0, id, false⟩ σ fp ob w' → ArgSl w' s.2.2.1.1 s.1.length 4 (s.1.map encE)) ∧
        (∀ ob σ fp w', Mem ⟨Tryd.prog, tab, Tryd.f10.ntmps, w, fun _ => False, 0, id, false⟩ σ fp ob w' → ArgSl w' s.2.2.2.1.1 s.2.1.length 4 (s.2.1.map encE)))
      (fun s => [(0, .v (.slice s.2.2.1.1 s.1.length s.2.2.1.2)), (1, .v (.slice s.2.2.2.1.1 s.2.1.length s.2.2.2.1.2)), (4, .p 0 0), (6, .p 1 0)])
      (fun s => [boxD (0, 0, 0, 0), boxD s.2.2.2.2]) (fun s => s.1.length + s.2.1.length) ⟨a, b, (A, c), (A2, c2), (0, 0, 0, 0)⟩ [0, 1] ?_ ?_ ?_
    · refine ⟨by simp [ad4, hl, hm], by simpa [hl] using hc, by simpa [hm] using hc2, by simp [hl, hm], ?_, ?_⟩
      · dsimp only; rw [hl]; exact fun ob => hm1
      · dsimp only; rw [hm]; exact fun ob => hm2
    · dsimp only
      rw [hl, hm]
      ((refine ⟨?_, ?_, ?_, ?_⟩) <;> (repeat' ((conv => whnf); apply And.intro)) <;> (try (first | exact trivial | decide)))
      all_goals first | rfl | exact fun _ _ h => h | (simp [SV.wf, SV.wfs]; done) | trace_state
    · clear hR hpre k1 k2 hm1 hm2
      rintro ⟨xs, ys, ⟨A3, c3⟩, ⟨A4, c4⟩, ⟨d1, d2, d3, d4⟩⟩ ⟨hD, hc3, hc4, ⟨hb1, hb2, hb3, hb4⟩, hA3, hA4⟩
      dsimp only at hD hc3 hc4 hb1 hb2 hb3 hb4 hA3 hA4 ⊢
      simp only [boxD]
      cases xs with
      | nil => cases ys with
        | nil =>
          have hD : (d1, d2, d3, d4) = mergeD (n + m) a b := hD
          rw [← hD]
          obtain ⟨p, hp, hpn⟩ : ∃ p, p = 0 ∧ ([] : List EntT).length = p := ⟨0, rfl, rfl⟩
          rw [hpn]
          (conv=>whnf);repeat' (first|((with_reducible refine isW ?_;first|refine xwr_ok (by omega) (by omega) ?_|refine xwr_raw ?_);conv=>whnf)|((first|refine DrawX_s tabOk folOk ?_|refine DrawS_i (by kernel_rfl) ?_|with_reducible refine andX_i ?_ ?_)<;>conv=>whnf)|with_reducible exact rfl|((with_reducible first|refine xif_kt (by assumption) ?_|refine xif_kf (by assumption) ?_);conv=>whnf)|((with_reducible refine xif_s ?_ ?_)<;>(intro hb;(try simp (disch:=omega) only [hbS] at hb)<;>conv=>whnf)))
          all_goals try (exfalso; omega)
          exact Fin_pure rfl rfl (by simp [SV.wf, SV.wfs])
        | cons y ys =>
          have hoy : PureX Tryd.prog 25 [.a [I ((y :: ys).getD (Int.toNat 0) e0).1, I ((y :: ys).getD (Int.toNat 0) e0).2.1, I ((y :: ys).getD (Int.toNat 0) e0).2.2.1, I ((y :: ys).getD (Int.toNat 0) e0).2.2.2]] (B (occE y)) := Occupied_x y
          have hD : ad4 (d1, d2, d3, d4) (ad4 (stp false true e0 y) (mergeD (0 + ys.length) [] ys)) = mergeD (n + m) a b := by rw [← hD]; simp only [List.length_nil, List.length_cons]; rw [show 0 + (ys.length + 1) = (0 + ys.length) + 1 by omega]; rfl
          rw [← ad4_assoc] at hD
          simp only [List.length_cons, List.length_nil] at *
          generalize hS : stp false true e0 y = S at *
          rcases Bool.eq_false_or_eq_true (occE y) with hy | hy
          all_goals
            rw [hy] at hoy
            simp only [stp, hy, b2n, Bool.and_true, Bool.and_false, Bool.true_and, Bool.false_and, Bool.not_true, Bool.not_false, if_true, if_false, Bool.false_eq_true] at hS
            subst hS
            (conv=>whnf);repeat' (first|((with_reducible refine isC ?_);first|((with_reducible refine CallX_pure (hoy) ?_)<;>first|omega|with_reducible refine isP ?_|conv=>whnf))|((with_reducible refine isV ?_);first|((first|refine ValX_index tabOk rfl (hA4 _) rfl ?_ ?_ ?_|(with_reducible refine nat_idx ?_);refine ValX_loadEn _ _ (e0) tabOk rfl rfl rfl rfl (hA4 _) ?_ ?_ ?_|refine ValX_loadE _ _ (e0) tabOk rfl rfl rfl rfl (hA4 _) ?_ ?_ ?_)<;>first|rfl|omega|with_reducible refine isP ?_|conv=>whnf)|(refine ValX_sliceLo (m := 1) tabOk rfl rfl (fun σ fp w hm => (hA4 _ σ fp w hm).spotN (by omega)) (by omega) ?_; conv => whnf))|((with_reducible refine isW ?_;first|refine xwr_ok (by omega) (by omega) ?_|refine xwr_raw ?_);conv=>whnf)|((first|refine DrawX_s tabOk folOk ?_|refine DrawS_i (by kernel_rfl) ?_|with_reducible refine andX_i ?_ ?_)<;>conv=>whnf)|with_reducible exact rfl|((with_reducible first|refine xif_kt (by assumption) ?_|refine xif_kf (by assumption) ?_);conv=>whnf)|((with_reducible refine xif_s ?_ ?_)<;>(intro hb;(try simp (disch:=omega) only [hbS] at hb)<;>conv=>whnf)))
            all_goals try (exfalso; omega)
          · refine ⟨⟨[], ys, (A3, c3), (cutA A4 c4 1 4, c4 - 1), (d1, d2, d3 + 1, d4)⟩, [0, 1], ⟨hD, by simp, by simp only; omega, by dsimp only [List.length_nil]; omega, hA3, fun ob σ fp w' h => by simpa using (hA4 ob σ fp w' h).cutS (m := 1) (by omega) hc4⟩, ?_, by simp only [List.length_nil, List.length_cons]; omega⟩
            ((refine ⟨?_, ?_, ?_, ?_⟩) <;> (repeat' ((conv => whnf); apply And.intro)) <;> (try (first | exact trivial | decide)))
            all_goals first | rfl | exact fun _ _ h => h | (simp [SV.wf, SV.wfs]; done) | trace_state
          · refine ⟨⟨[], ys, (A3, c3), (cutA A4 c4 1 4, c4 - 1), (d1, d2, d3, d4)⟩, [0, 1], ⟨hD, by simp, by simp only; omega, by dsimp only [List.length_nil]; omega, hA3, fun ob σ fp w' h => by simpa using (hA4 ob σ fp w' h).cutS (m := 1) (by omega) hc4⟩, ?_, by simp only [List.length_nil, List.length_cons]; omega⟩
            ((refine ⟨?_, ?_, ?_, ?_⟩) <;> (repeat' ((conv => whnf); apply And.intro)) <;> (try (first | exact trivial | decide)))
            all_goals first | rfl | exact fun _ _ h => h | (simp [SV.wf, SV.wfs]; done) | trace_state
      | cons x xs => cases ys with
        | nil =>
          have ho : PureX Tryd.prog 25 [.a [I ((x :: xs).getD (Int.toNat 0) e0).1, I ((x :: xs).getD (Int.toNat 0) e0).2.1, I ((x :: xs).getD (Int.toNat 0) e0).2.2.1, I ((x :: xs).getD (Int.toNat 0) e0).2.2.2]] (B (occE x)) := Occupied_x x
          have hD : ad4 (d1, d2, d3, d4) (ad4 (stp true false x e0) (mergeD (xs.length + 0) xs [])) = mergeD (n + m) a b := hD
          rw [← ad4_assoc] at hD
          simp only [List.length_cons, List.length_nil] at *
          generalize hS : stp true false x e0 = S at *
          rcases Bool.eq_false_or_eq_true (occE x) with hx | hx
          all_goals
            rw [hx] at ho
            simp only [stp, hx, b2n, Bool.and_true, Bool.and_false, Bool.true_and, Bool.false_and, Bool.not_true, Bool.not_false, if_true, if_false, Bool.false_eq_true] at hS
            subst hS
            (conv=>whnf);repeat' (first|((with_reducible refine isC ?_);first|((with_reducible refine CallX_pure (ho) ?_)<;>first|omega|with_reducible refine isP ?_|conv=>whnf))|((with_reducible refine isV ?_);first|((first|refine ValX_index tabOk rfl (hA3 _) rfl ?_ ?_ ?_|(with_reducible refine nat_idx ?_);refine ValX_loadEn _ _ (e0) tabOk rfl rfl rfl rfl (hA3 _) ?_ ?_ ?_|refine ValX_loadE _ _ (e0) tabOk rfl rfl rfl rfl (hA3 _) ?_ ?_ ?_)<;>first|rfl|omega|with_reducible refine isP ?_|conv=>whnf)|(refine ValX_sliceLo (m := 1) tabOk rfl rfl (fun σ fp w hm => (hA3 _ σ fp w hm).spotN (by omega)) (by omega) ?_; conv => whnf))|((with_reducible refine isW ?_;first|refine xwr_ok (by omega) (by omega) ?_|refine xwr_raw ?_);conv=>whnf)|((first|refine DrawX_s tabOk folOk ?_|refine DrawS_i (by kernel_rfl) ?_|with_reducible refine andX_i ?_ ?_)<;>conv=>whnf)|with_reducible exact rfl|((with_reducible first|refine xif_kt (by assumption) ?_|refine xif_kf (by assumption) ?_);conv=>whnf)|((with_reducible refine xif_s ?_ ?_)<;>(intro hb;(try simp (disch:=omega) only [hbS] at hb)<;>conv=>whnf)))
            all_goals try (exfalso; omega)
          · refine ⟨⟨xs, [], (cutA A3 c3 1 4, c3 - 1), (A4, c4), (d1, d2 + 1, d3, d4)⟩, [0, 1], ⟨hD, by simp only; omega, by simp, by dsimp only [List.length_nil]; omega, fun ob σ fp w' h => by simpa using (hA3 ob σ fp w' h).cutS (m := 1) (by omega) hc3, hA4⟩, ?_, by simp only [List.length_nil, List.length_cons]; omega⟩
            ((refine ⟨?_, ?_, ?_, ?_⟩) <;> (repeat' ((conv => whnf); apply And.intro)) <;> (try (first | exact trivial | decide)))
            all_goals first | rfl | exact fun _ _ h => h | (simp [SV.wf, SV.wfs]; done) | trace_state
          · refine ⟨⟨xs, [], (cutA A3 c3 1 4, c3 - 1), (A4, c4), (d1, d2, d3, d4)⟩, [0, 1], ⟨hD, by simp only; omega, by simp, by dsimp only [List.length_nil]; omega, fun ob σ fp w' h => by simpa using (hA3 ob σ fp w' h).cutS (m := 1) (by omega) hc3, hA4⟩, ?_, by simp only [List.length_nil, List.length_cons]; omega⟩
            ((refine ⟨?_, ?_, ?_, ?_⟩) <;> (repeat' ((conv => whnf); apply And.intro)) <;> (try (first | exact trivial | decide)))
            all_goals first | rfl | exact fun _ _ h => h | (simp [SV.wf, SV.wfs]; done) | trace_state
        | cons y ys =>
          have ho : PureX Tryd.prog 25 [.a [I ((x :: xs).getD (Int.toNat 0) e0).1, I ((x :: xs).getD (Int.toNat 0) e0).2.1, I ((x :: xs).getD (Int.toNat 0) e0).2.2.1, I ((x :: xs).getD (Int.toNat 0) e0).2.2.2]] (B (occE x)) := Occupied_x x
          have hoy : PureX Tryd.prog 25 [.a [I ((y :: ys).getD (Int.toNat 0) e0).1, I ((y :: ys).getD (Int.toNat 0) e0).2.1, I ((y :: ys).getD (Int.toNat 0) e0).2.2.1, I ((y :: ys).getD (Int.toNat 0) e0).2.2.2]] (B (occE y)) := Occupied_x y
          have hxy : PureX Tryd.prog 24 [.a [I ((x :: xs).getD (Int.toNat 0) e0).1, I ((x :: xs).getD (Int.toNat 0) e0).2.1], .a [I ((y :: ys).getD (Int.toNat 0) e0).1, I ((y :: ys).getD (Int.toNat 0) e0).2.1]] (B (befB x.cell y.cell)) := tbefore_x x.cell y.cell
          have hyx : PureX Tryd.prog 24 [.a [I ((y :: ys).getD (Int.toNat 0) e0).1, I ((y :: ys).getD (Int.toNat 0) e0).2.1], .a [I ((x :: xs).getD (Int.toNat 0) e0).1, I ((x :: xs).getD (Int.toNat 0) e0).2.1]] (B (befB y.cell x.cell)) := tbefore_x y.cell x.cell
          have hD : ad4 (d1, d2, d3, d4) (mergeD (xs.length + (ys.length + 1) + 1) (x :: xs) (y :: ys)) = mergeD (n + m) a b := by rw [← hD]; simp only [List.length_cons]; congr 2; omega
          rw [mergeD] at hD
          simp only [List.length_cons] at *
          by_cases h1 : befB y.cell x.cell = true
          · have h2 : befB x.cell y.cell = false := by
              rcases Bool.eq_false_or_eq_true (befB x.cell y.cell) with h | h
              · have := befB_trans h1 h; rw [befB_irr] at this; cases this
              · exact h
            rw [if_pos h1, ← ad4_assoc] at hD
            rw [h1] at hyx
            rw [h2] at hxy
            generalize hS : stp false true x y = S at *
            rcases Bool.eq_false_or_eq_true (occE y) with hy | hy
            all_goals
              rw [hy] at hoy
              simp only [stp, hy, b2n, Bool.and_true, Bool.and_false, Bool.true_and, Bool.false_and, Bool.not_true, Bool.not_false, if_true, if_false, Bool.false_eq_true] at hS
              subst hS
              (conv=>whnf);repeat' (first|((with_reducible refine isC ?_);first|((first|with_reducible refine CallX_pure (ho) ?_|with_reducible refine CallX_pure (hoy) ?_|with_reducible refine CallX_pure (hxy) ?_|with_reducible refine CallX_pure (hyx) ?_)<;>first|omega|with_reducible refine isP ?_|conv=>whnf))|((with_reducible refine isV ?_);first|((first|refine ValX_index tabOk rfl (hA3 _) rfl ?_ ?_ ?_|(with_reducible refine nat_idx ?_);refine ValX_loadEn _ _ (e0) tabOk rfl rfl rfl rfl (hA3 _) ?_ ?_ ?_|refine ValX_loadE _ _ (e0) tabOk rfl rfl rfl rfl (hA3 _) ?_ ?_ ?_|refine ValX_index tabOk rfl (hA4 _) rfl ?_ ?_ ?_|(with_reducible refine nat_idx ?_);refine ValX_loadEn _ _ (e0) tabOk rfl rfl rfl rfl (hA4 _) ?_ ?_ ?_|refine ValX_loadE _ _ (e0) tabOk rfl rfl rfl rfl (hA4 _) ?_ ?_ ?_)<;>first|rfl|omega|with_reducible refine isP ?_|conv=>whnf)|((first|(with_reducible refine nat_idxF ?_);refine ValX_loadGn _ _ (e0) _ tabOk rfl rfl rfl (hA3 _) ?_ ?_ rfl rfl ?_|refine ValX_loadG _ _ (e0) _ tabOk rfl rfl rfl (hA3 _) ?_ ?_ rfl rfl ?_|(with_reducible refine nat_idxF ?_);refine ValX_loadGn _ _ (e0) _ tabOk rfl rfl rfl (hA4 _) ?_ ?_ rfl rfl ?_|refine ValX_loadG _ _ (e0) _ tabOk rfl rfl rfl (hA4 _) ?_ ?_ rfl rfl ?_)<;>first|omega|with_reducible refine isP ?_|conv=>whnf)|(refine ValX_sliceLo (m := 1) tabOk rfl rfl (fun σ fp w hm => (hA3 _ σ fp w hm).spotN (by omega)) (by omega) ?_; conv => whnf)|(refine ValX_sliceLo (m := 1) tabOk rfl rfl (fun σ fp w hm => (hA4 _ σ fp w hm).spotN (by omega)) (by omega) ?_; conv => whnf))|((with_reducible refine isW ?_;first|refine xwr_ok (by omega) (by omega) ?_|refine xwr_raw ?_);conv=>whnf)|((first|refine DrawX_s tabOk folOk ?_|refine DrawS_i (by kernel_rfl) ?_|with_reducible refine andX_i ?_ ?_)<;>conv=>whnf)|with_reducible exact rfl|((with_reducible first|refine xif_kt (by assumption) ?_|refine xif_kf (by assumption) ?_);conv=>whnf)|((with_reducible refine xif_s ?_ ?_)<;>(intro hb;(try simp (disch:=omega) only [hbS] at hb)<;>conv=>whnf)))
              all_goals try exact List.length_cons
              all_goals try (exfalso; omega)
            · refine ⟨⟨x :: xs, ys, (A3, c3), (cutA A4 c4 1 4, c4 - 1), (d1, d2, d3 + 1, d4)⟩, [0, 1], ⟨by rw [← hD]; simp only [List.length_cons]; rw [show xs.length + 1 + ys.length = xs.length + (ys.length + 1) by omega]; rfl, hc3, by simp only; omega, by dsimp only [List.length_cons]; omega, hA3, fun ob σ fp w' h => by simpa using (hA4 ob σ fp w' h).cutS (m := 1) (by omega) hc4⟩, ?_, by simp only [List.length_cons]; omega⟩
              ((refine ⟨?_, ?_, ?_, ?_⟩) <;> (repeat' ((conv => whnf); apply And.intro)) <;> (try (first | exact trivial | decide)))
              all_goals first | rfl | exact fun _ _ h => h | (simp [SV.wf, SV.wfs]; done) | trace_state
            · refine ⟨⟨x :: xs, ys, (A3, c3), (cutA A4 c4 1 4, c4 - 1), (d1, d2, d3, d4)⟩, [0, 1], ⟨by rw [← hD]; simp only [List.length_cons]; rw [show xs.length + 1 + ys.length = xs.length + (ys.length + 1) by omega]; rfl, hc3, by simp only; omega, by dsimp only [List.length_cons]; omega, hA3, fun ob σ fp w' h => by simpa using (hA4 ob σ fp w' h).cutS (m := 1) (by omega) hc4⟩, ?_, by simp only [List.length_cons]; omega⟩
              ((refine ⟨?_, ?_, ?_, ?_⟩) <;> (repeat' ((conv => whnf); apply And.intro)) <;> (try (first | exact trivial | decide)))
              all_goals first | rfl | exact fun _ _ h => h | (simp [SV.wf, SV.wfs]; done) | trace_state
          · rw [if_neg h1] at hD
            have h1 : befB y.cell x.cell = false := by simpa using h1
            rw [h1] at hyx
            by_cases h2 : befB x.cell y.cell = true
            · rw [if_pos h2, ← ad4_assoc] at hD
              rw [h2] at hxy
              generalize hS : stp true false x y = S at *
              rcases Bool.eq_false_or_eq_true (occE x) with hx | hx
              all_goals
                rw [hx] at ho
                simp only [stp, hx, b2n, Bool.and_true, Bool.and_false, Bool.true_and, Bool.false_and, Bool.not_true, Bool.not_false, if_true, if_false, Bool.false_eq_true] at hS
                subst hS
                (conv=>whnf);repeat' (first|((with_reducible refine isC ?_);first|((first|with_reducible refine CallX_pure (ho) ?_|with_reducible refine CallX_pure (hoy) ?_|with_reducible refine CallX_pure (hxy) ?_|with_reducible refine CallX_pure (hyx) ?_)<;>first|omega|with_reducible refine isP ?_|conv=>whnf))|((with_reducible refine isV ?_);first|((first|refine ValX_index tabOk rfl (hA3 _) rfl ?_ ?_ ?_|(with_reducible refine nat_idx ?_);refine ValX_loadEn _ _ (e0) tabOk rfl rfl rfl rfl (hA3 _) ?_ ?_ ?_|refine ValX_loadE _ _ (e0) tabOk rfl rfl rfl rfl (hA3 _) ?_ ?_ ?_|refine ValX_index tabOk rfl (hA4 _) rfl ?_ ?_ ?_|(with_reducible refine nat_idx ?_);refine ValX_loadEn _ _ (e0) tabOk rfl rfl rfl rfl (hA4 _) ?_ ?_ ?_|refine ValX_loadE _ _ (e0) tabOk rfl rfl rfl rfl (hA4 _) ?_ ?_ ?_)<;>first|rfl|omega|with_reducible refine isP ?_|conv=>whnf)|((first|(with_reducible refine nat_idxF ?_);refine ValX_loadGn _ _ (e0) _ tabOk rfl rfl rfl (hA3 _) ?_ ?_ rfl rfl ?_|refine ValX_loadG _ _ (e0) _ tabOk rfl rfl rfl (hA3 _) ?_ ?_ rfl rfl ?_|(with_reducible refine nat_idxF ?_);refine ValX_loadGn _ _ (e0) _ tabOk rfl rfl rfl (hA4 _) ?_ ?_ rfl rfl ?_|refine ValX_loadG _ _ (e0) _ tabOk rfl rfl rfl (hA4 _) ?_ ?_ rfl rfl ?_)<;>first|omega|with_reducible refine isP ?_|conv=>whnf)|(refine ValX_sliceLo (m := 1) tabOk rfl rfl (fun σ fp w hm => (hA3 _ σ fp w hm).spotN (by omega)) (by omega) ?_; conv => whnf)|(refine ValX_sliceLo (m := 1) tabOk rfl rfl (fun σ fp w hm => (hA4 _ σ fp w hm).spotN (by omega)) (by omega) ?_; conv => whnf))|((with_reducible refine isW ?_;first|refine xwr_ok (by omega) (by omega) ?_|refine xwr_raw ?_);conv=>whnf)|((first|refine DrawX_s tabOk folOk ?_|refine DrawS_i (by kernel_rfl) ?_|with_reducible refine andX_i ?_ ?_)<;>conv=>whnf)|with_reducible exact rfl|((with_reducible first|refine xif_kt (by assumption) ?_|refine xif_kf (by assumption) ?_);conv=>whnf)|((with_reducible refine xif_s ?_ ?_)<;>(intro hb;(try simp (disch:=omega) only [hbS] at hb)<;>conv=>whnf)))
                all_goals try exact List.length_cons
                all_goals try (exfalso; omega)
              · refine ⟨⟨xs, y :: ys, (cutA A3 c3 1 4, c3 - 1), (A4, c4), (d1, d2 + 1, d3, d4)⟩, [0, 1], ⟨hD, by simp only; omega, hc4, by dsimp only [List.length_cons]; omega, fun ob σ fp w' h => by simpa using (hA3 ob σ fp w' h).cutS (m := 1) (by omega) hc3, hA4⟩, ?_, by simp only [List.length_cons]; omega⟩
                ((refine ⟨?_, ?_, ?_, ?_⟩) <;> (repeat' ((conv => whnf); apply And.intro)) <;> (try (first | exact trivial | decide)))
                all_goals first | rfl | exact fun _ _ h => h | (simp [SV.wf, SV.wfs]; done) | trace_state
              · refine ⟨⟨xs, y :: ys, (cutA A3 c3 1 4, c3 - 1), (A4, c4), (d1, d2, d3, d4)⟩, [0, 1], ⟨hD, by simp only; omega, hc4, by dsimp only [List.length_cons]; omega, fun ob σ fp w' h => by simpa using (hA3 ob σ fp w' h).cutS (m := 1) (by omega) hc3, hA4⟩, ?_, by simp only [List.length_cons]; omega⟩
                ((refine ⟨?_, ?_, ?_, ?_⟩) <;> (repeat' ((conv => whnf); apply And.intro)) <;> (try (first | exact trivial | decide)))
                all_goals first | rfl | exact fun _ _ h => h | (simp [SV.wf, SV.wfs]; done) | trace_state
            · rw [if_neg h2, ← ad4_assoc, show xs.length + (ys.length + 1) = (xs.length + ys.length) + 1 by omega, merge_fuel _ _ _ (Nat.le_refl _)] at hD
              have h2 : befB x.cell y.cell = false := by simpa using h2
              rw [h2] at hxy
              generalize hS : stp true true x y = S at *
              rcases Bool.eq_false_or_eq_true (occE x) with hx | hx <;> rcases Bool.eq_false_or_eq_true (occE y) with hy | hy
              all_goals
                rw [hx] at ho
                rw [hy] at hoy
                simp only [stp, hx, hy, b2n, Bool.and_true, Bool.and_false, Bool.true_and, Bool.false_and, Bool.not_true, Bool.not_false, if_true, if_false, Bool.false_eq_true] at hS
                subst hS
                (conv=>whnf);repeat' (first|((with_reducible refine isC ?_);first|((first|with_reducible refine CallX_pure (ho) ?_|with_reducible refine CallX_pure (hoy) ?_|with_reducible refine CallX_pure (hxy) ?_|with_reducible refine CallX_pure (hyx) ?_)<;>first|omega|with_reducible refine isP ?_|conv=>whnf))|((with_reducible refine isV ?_);first|((first|refine ValX_index tabOk rfl (hA3 _) rfl ?_ ?_ ?_|(with_reducible refine nat_idx ?_);refine ValX_loadEn _ _ (e0) tabOk rfl rfl rfl rfl (hA3 _) ?_ ?_ ?_|refine ValX_loadE _ _ (e0) tabOk rfl rfl rfl rfl (hA3 _) ?_ ?_ ?_|refine ValX_index tabOk rfl (hA4 _) rfl ?_ ?_ ?_|(with_reducible refine nat_idx ?_);refine ValX_loadEn _ _ (e0) tabOk rfl rfl rfl rfl (hA4 _) ?_ ?_ ?_|refine ValX_loadE _ _ (e0) tabOk rfl rfl rfl rfl (hA4 _) ?_ ?_ ?_)<;>first|rfl|omega|with_reducible refine isP ?_|conv=>whnf)|((first|(with_reducible refine nat_idxF ?_);refine ValX_loadGn _ _ (e0) _ tabOk rfl rfl rfl (hA3 _) ?_ ?_ rfl rfl ?_|refine ValX_loadG _ _ (e0) _ tabOk rfl rfl rfl (hA3 _) ?_ ?_ rfl rfl ?_|(with_reducible refine nat_idxF ?_);refine ValX_loadGn _ _ (e0) _ tabOk rfl rfl rfl (hA4 _) ?_ ?_ rfl rfl ?_|refine ValX_loadG _ _ (e0) _ tabOk rfl rfl rfl (hA4 _) ?_ ?_ rfl rfl ?_)<;>first|omega|with_reducible refine isP ?_|conv=>whnf)|(refine ValX_sliceLo (m := 1) tabOk rfl rfl (fun σ fp w hm => (hA3 _ σ fp w hm).spotN (by omega)) (by omega) ?_; conv => whnf)|(refine ValX_sliceLo (m := 1) tabOk rfl rfl (fun σ fp w hm => (hA4 _ σ fp w hm).spotN (by omega)) (by omega) ?_; conv => whnf))|((with_reducible refine isW ?_;first|refine xwr_ok (by omega) (by omega) ?_|refine xwr_raw ?_);conv=>whnf)|((first|refine DrawX_s tabOk folOk ?_|refine DrawS_i (by kernel_rfl) ?_|with_reducible refine andX_i ?_ ?_)<;>conv=>whnf)|with_reducible exact rfl|((with_reducible first|refine xif_kt (by assumption) ?_|refine xif_kf (by assumption) ?_);conv=>whnf)|((with_reducible refine xif_s ?_ ?_)<;>(intro hb;(try simp (disch:=omega) only [hbS] at hb)<;>conv=>whnf)))
                all_goals try exact List.length_cons
                all_goals try (exfalso; omega)
              · refine ⟨⟨xs, ys, (cutA A3 c3 1 4, c3 - 1), (cutA A4 c4 1 4, c4 - 1), (d1 + 1, d2, d3, d4 + 1)⟩, [0, 1], ⟨hD, by simp only; omega, by simp only; omega, by dsimp only [List.length_cons]; omega, fun ob σ fp w' h => by simpa using (hA3 ob σ fp w' h).cutS (m := 1) (by omega) hc3, fun ob σ fp w' h => by simpa using (hA4 ob σ fp w' h).cutS (m := 1) (by omega) hc4⟩, ?_, by simp only [List.length_cons]; omega⟩
                ((refine ⟨?_, ?_, ?_, ?_⟩) <;> (repeat' ((conv => whnf); apply And.intro)) <;> (try (first | exact trivial | decide)))
                all_goals first | rfl | exact fun _ _ h => h | (simp [SV.wf, SV.wfs]; done) | trace_state
              · refine ⟨⟨xs, ys, (cutA A3 c3 1 4, c3 - 1), (cutA A4 c4 1 4, c4 - 1), (d1, d2 + 1, d3, d4 + 1)⟩, [0, 1], ⟨hD, by simp only; omega, by simp only; omega, by dsimp only [List.length_cons]; omega, fun ob σ fp w' h => by simpa using (hA3 ob σ fp w' h).cutS (m := 1) (by omega) hc3, fun ob σ fp w' h => by simpa using (hA4 ob σ fp w' h).cutS (m := 1) (by omega) hc4⟩, ?_, by simp only [List.length_cons]; omega⟩
                ((refine ⟨?_, ?_, ?_, ?_⟩) <;> (repeat' ((conv => whnf); apply And.intro)) <;> (try (first | exact trivial | decide)))
                all_goals first | rfl | exact fun _ _ h => h | (simp [SV.wf, SV.wfs]; done) | trace_state
              · refine ⟨⟨xs, ys, (cutA A3 c3 1 4, c3 - 1), (cutA A4 c4 1 4, c4 - 1), (d1, d2, d3 + 1, d4 + 1)⟩, [0, 1], ⟨hD, by simp only; omega, by simp only; omega, by dsimp only [List.length_cons]; omega, fun ob σ fp w' h => by simpa using (hA3 ob σ fp w' h).cutS (m := 1) (by omega) hc3, fun ob σ fp w' h => by simpa using (hA4 ob σ fp w' h).cutS (m := 1) (by omega) hc4⟩, ?_, by simp only [List.length_cons]; omega⟩
                ((refine ⟨?_, ?_, ?_, ?_⟩) <;> (repeat' ((conv => whnf); apply And.intro)) <;> (try (first | exact trivial | decide)))
                all_goals first | rfl | exact fun _ _ h => h | (simp [SV.wf, SV.wfs]; done) | trace_state
              · refine ⟨⟨xs, ys, (cutA A3 c3 1 4, c3 - 1), (cutA A4 c4 1 4, c4 - 1), (d1, d2, d3, d4 + 1)⟩, [0, 1], ⟨hD, by simp only; omega, by simp only; omega, by dsimp only [List.length_cons]; omega, fun ob σ fp w' h => by simpa using (hA3 ob σ fp w' h).cutS (m := 1) (by omega) hc3, fun ob σ fp w' h => by simpa using (hA4 ob σ fp w' h).cutS (m := 1) (by omega) hc4⟩, ?_, by simp only [List.length_cons]; omega⟩
                ((refine ⟨?_, ?_, ?_, ?_⟩) <;> (repeat' ((conv => whnf); apply And.intro)) <;> (try (first | exact trivial | decide)))
                all_goals first | rfl | exact fun _ _ h => h | (simp [SV.wf, SV.wfs]; done) | trace_state
end Go.Proofs.YtadichckbogcjaaDoor.En
