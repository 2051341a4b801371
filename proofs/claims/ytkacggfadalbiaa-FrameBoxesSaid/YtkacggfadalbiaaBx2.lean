/- Contracts of heading.Has, box.Has, box.Volume. -/
import Derived.Test.YtkacggfadalbiaaBx1
import Derived.Test.YtkacggfadalbiaaHd1
namespace Go.Proofs.Ytkacggfadalbiaa
open Go.RowKit

def hasB (fr ct h : Int) : Bool := arcB fr ct && decide ((h - fr) % 256 < ct)
theorem arcB_of {fr ct : Int} (h : arcB fr ct = true) : 0 ≤ fr ∧ fr < 256 ∧ 1 ≤ ct ∧ ct ≤ 256 := by simp [arcB] at h; omega

set_option maxRecDepth 100000 in
set_option maxHeartbeats 1000000 in
theorem hdHas_any (fr ct h : Int) (w : World) (h1 : -1000000000 ≤ h) (h2 : h ≤ 1000000000) : Calls Try.prog 63 #[.agg #[.int .i64 fr, .int .i64 ct], .int .i64 h] w fun e w' => e = .returned (.bool (hasB fr ct h)) ∧ Below w.heap.size w w' := by
  cases ha : arcB fr ct
  · have HS := Lib.hid (show hasB fr ct h = false by simp [hasB, ha])
    go_enter Try.func63, Try.ntmps63
    go_wp2_with fail
    refine abs_world (fun W => Below w.heap.size w W ∧ Bk W (w.heap.size) 111 #[.int .i64 fr, .int .i64 ct]) ⟨by repeat (first | with_reducible assumption | with_reducible exact bw_refl _ | with_reducible refine bw_alloc ?_ _ | with_reducible refine bw_drew ?_ | with_reducible refine bw_drewN _ ?_ | refine bw_set ?_ (by simp; try omega) _ | refine bw_call (by with_reducible assumption) ?_), by repeat (first | with_reducible assumption | with_reducible refine Bk.drew ?_ | with_reducible refine Bk.drewN ?_ _ | with_reducible exact Bk.new _ _ _ | with_reducible exact Bk.new1 _ _ _ _ | with_reducible exact Bk.new2 _ _ _ _ _ | with_reducible exact Bk.new3 _ _ _ _ _ _ | with_reducible refine Bk.alloc ?_ _ | with_reducible exact Bk.set6 (by repeat (first | with_reducible assumption | ((with_reducible refine Bk.far' ?_ ?_); (focus (first | (simp; done) | (simp; omega)))) | with_reducible refine Bk.drew ?_ | with_reducible refine Bk.alloc ?_ _)) _ _ _ _ _ _ | with_reducible exact Bk.set3 (by repeat (first | with_reducible assumption | ((with_reducible refine Bk.far' ?_ ?_); (focus (first | (simp; done) | (simp; omega)))) | with_reducible refine Bk.drew ?_ | with_reducible refine Bk.alloc ?_ _)) _ _ _ | with_reducible exact Bk.set2 (by repeat (first | with_reducible assumption | ((with_reducible refine Bk.far' ?_ ?_); (focus (first | (simp; done) | (simp; omega)))) | with_reducible refine Bk.drew ?_ | with_reducible refine Bk.alloc ?_ _)) _ _ | ((with_reducible refine Bk.far' ?_ ?_); (focus (first | (simp; done) | (simp; omega)))))⟩ ?_
    rintro W ⟨hbW, a0⟩
    have a0_0 : W.cell? ⟨w.heap.size, 0, none⟩ = some (.int .i64 fr) := a0.cell 0
    have a0_1 : W.cell? ⟨w.heap.size, 1, none⟩ = some (.int .i64 ct) := a0.cell 1
    have a0_f := a0.frozen
    have a0_l := a0.lt
    refine region_grow (fun w0 => Below W.heap.size W w0) 12 (by kernel_rfl) (by kernel_rfl) (by repeat (first | with_reducible assumption | with_reducible exact bw_refl _ | with_reducible refine bw_alloc ?_ _ | with_reducible refine bw_drew ?_ | with_reducible refine bw_drewN _ ?_ | refine bw_set ?_ (by simp; try omega) _ | refine bw_call (by with_reducible assumption) ?_)) ?_
    simp only [List.take_succ_cons, List.take_zero, List.drop_succ_cons, List.drop_zero]
    iterate 12 (first | (refine wpG_ex ?_ ?_; (focus (go_simp; done)); constructor; constructor; (focus (intro w0 hS0; obtain ⟨hSc, hSf⟩ := bcell hS0; go_simp; exact ⟨rfl, hS0⟩)); (focus (intro K hK; go_simp; refine hK _ ?_; clear hK K))) | (refine wpG_ex ?_ ?_; (focus (go_simp; done)); constructor; constructor; (focus (intro w0 hS0; obtain ⟨hSc, hSf⟩ := bcell hS0; go_simp; exact grow_of hS0 ((ValidArc_any _ _ _).mono fun _ _ h => ⟨h.1, by rw [← h.2]; repeat (first | with_reducible assumption | with_reducible exact bw_refl _ | with_reducible refine bw_alloc ?_ _ | with_reducible refine bw_drew ?_ | with_reducible refine bw_drewN _ ?_ | refine bw_set ?_ (by simp; try omega) _ | refine bw_call (by with_reducible assumption) ?_)⟩))); (focus (intro K hK; go_simp; refine hK _ ?_; clear hK K))) | (refine wpG_skip ?_ ?_; (focus (go_simp; done)); intro K hK; go_simp; refine hK _ ?_; clear hK K))
    refine wpG_nil ?_
    intro w1 hSw1
    go_wp2
    go_ret
    exact ⟨by simp [HS.out], by repeat (first | with_reducible assumption | with_reducible exact bw_refl _ | with_reducible refine bw_alloc ?_ _ | with_reducible refine bw_drew ?_ | with_reducible refine bw_drewN _ ?_ | refine bw_set ?_ (by simp; try omega) _ | refine bw_call (by with_reducible assumption) ?_)⟩
  · have HS := Lib.hid (show hasB fr ct h = decide ((h - fr) % 256 < ct) by simp [hasB, ha])
    obtain ⟨k1, k2, k3, k4⟩ := arcB_of ha
    go_enter Try.func63, Try.ntmps63
    go_wp2_with fail
    refine abs_world (fun W => Below w.heap.size w W ∧ Bk W (w.heap.size) 111 #[.int .i64 fr, .int .i64 ct]) ⟨by repeat (first | with_reducible assumption | with_reducible exact bw_refl _ | with_reducible refine bw_alloc ?_ _ | with_reducible refine bw_drew ?_ | with_reducible refine bw_drewN _ ?_ | refine bw_set ?_ (by simp; try omega) _ | refine bw_call (by with_reducible assumption) ?_), by repeat (first | with_reducible assumption | with_reducible refine Bk.drew ?_ | with_reducible refine Bk.drewN ?_ _ | with_reducible exact Bk.new _ _ _ | with_reducible exact Bk.new1 _ _ _ _ | with_reducible exact Bk.new2 _ _ _ _ _ | with_reducible exact Bk.new3 _ _ _ _ _ _ | with_reducible refine Bk.alloc ?_ _ | with_reducible exact Bk.set6 (by repeat (first | with_reducible assumption | ((with_reducible refine Bk.far' ?_ ?_); (focus (first | (simp; done) | (simp; omega)))) | with_reducible refine Bk.drew ?_ | with_reducible refine Bk.alloc ?_ _)) _ _ _ _ _ _ | with_reducible exact Bk.set3 (by repeat (first | with_reducible assumption | ((with_reducible refine Bk.far' ?_ ?_); (focus (first | (simp; done) | (simp; omega)))) | with_reducible refine Bk.drew ?_ | with_reducible refine Bk.alloc ?_ _)) _ _ _ | with_reducible exact Bk.set2 (by repeat (first | with_reducible assumption | ((with_reducible refine Bk.far' ?_ ?_); (focus (first | (simp; done) | (simp; omega)))) | with_reducible refine Bk.drew ?_ | with_reducible refine Bk.alloc ?_ _)) _ _ | ((with_reducible refine Bk.far' ?_ ?_); (focus (first | (simp; done) | (simp; omega)))))⟩ ?_
    rintro W ⟨hbW, a0⟩
    have a0_0 : W.cell? ⟨w.heap.size, 0, none⟩ = some (.int .i64 fr) := a0.cell 0
    have a0_1 : W.cell? ⟨w.heap.size, 1, none⟩ = some (.int .i64 ct) := a0.cell 1
    have a0_f := a0.frozen
    have a0_l := a0.lt
    have e1 : IntKind.i64.wrap (h - fr) = h - fr := IntWalk.i64_in _ (by omega)
    refine region_grow (fun w0 => Below W.heap.size W w0) 12 (by kernel_rfl) (by kernel_rfl) (by repeat (first | with_reducible assumption | with_reducible exact bw_refl _ | with_reducible refine bw_alloc ?_ _ | with_reducible refine bw_drew ?_ | with_reducible refine bw_drewN _ ?_ | refine bw_set ?_ (by simp; try omega) _ | refine bw_call (by with_reducible assumption) ?_)) ?_
    simp only [List.take_succ_cons, List.take_zero, List.drop_succ_cons, List.drop_zero]
    iterate 12 (first | (refine wpG_ex ?_ ?_; (focus (go_simp; done)); constructor; constructor; (focus (intro w0 hS0; obtain ⟨hSc, hSf⟩ := bcell hS0; go_simp; exact ⟨rfl, hS0⟩)); (focus (intro K hK; go_simp; refine hK _ ?_; clear hK K))) | (refine wpG_ex ?_ ?_; (focus (go_simp; done)); constructor; constructor; (focus (intro w0 hS0; obtain ⟨hSc, hSf⟩ := bcell hS0; go_simp; exact grow_of hS0 ((ValidArc_any _ _ _).mono fun _ _ h => ⟨h.1, by rw [← h.2]; repeat (first | with_reducible assumption | with_reducible exact bw_refl _ | with_reducible refine bw_alloc ?_ _ | with_reducible refine bw_drew ?_ | with_reducible refine bw_drewN _ ?_ | refine bw_set ?_ (by simp; try omega) _ | refine bw_call (by with_reducible assumption) ?_)⟩))); (focus (intro K hK; go_simp; refine hK _ ?_; clear hK K))) | (refine wpG_ex ?_ ?_; (focus (go_simp; done)); constructor; constructor; (focus (intro w0 hS0; obtain ⟨hSc, hSf⟩ := bcell hS0; go_simp; exact grow_still hS0 (mark_any _ _))); (focus (intro K hK; go_simp; refine hK _ ?_; clear hK K))) | (refine wpG_skip ?_ ?_; (focus (go_simp; done)); intro K hK; go_simp; refine hK _ ?_; clear hK K))
    refine wpG_nil ?_
    intro w1 hSw1
    clear e1
    go_wp2
    go_ret
    exact ⟨by simp [HS.out], by repeat (first | with_reducible assumption | with_reducible exact bw_refl _ | with_reducible refine bw_alloc ?_ _ | with_reducible refine bw_drew ?_ | with_reducible refine bw_drewN _ ?_ | refine bw_set ?_ (by simp; try omega) _ | refine bw_call (by with_reducible assumption) ?_)⟩

def bhB (x0 y0 x1 y1 fr ct px py ph : Int) : Bool := bxB x0 y0 x1 y1 fr ct && decide (x0 ≤ px) && decide (px ≤ x1) && decide (y0 ≤ py) && decide (py ≤ y1) && hasB fr ct ph

set_option maxRecDepth 100000 in
set_option maxHeartbeats 4000000 in
theorem bxHas_any (x0 y0 x1 y1 fr ct px py ph : Int) (w : World) (h1 : -1000000000 ≤ ph) (h2 : ph ≤ 1000000000) : Calls Try.prog 41 #[.agg #[.int .i64 x0, .int .i64 y0, .int .i64 x1, .int .i64 y1, .int .i64 fr, .int .i64 ct], .agg #[.int .i64 px, .int .i64 py, .int .i64 ph]] w fun e w' => e = .returned (.bool (bhB x0 y0 x1 y1 fr ct px py ph)) ∧ Below w.heap.size w w' := by
  cases hb : bxB x0 y0 x1 y1 fr ct
  · have HS := Lib.hid (show bhB x0 y0 x1 y1 fr ct px py ph = false by simp [bhB, hb])
    go_enter Try.func41, Try.ntmps41
    go_wp2_with fail
    refine abs_world (fun W => Below w.heap.size w W ∧ Bk W (w.heap.size) 76 #[.int .i64 x0, .int .i64 y0, .int .i64 x1, .int .i64 y1, .int .i64 fr, .int .i64 ct] ∧ Bk W (w.heap.size + 1) 42 #[.int .i64 px, .int .i64 py, .int .i64 ph]) ⟨by repeat (first | with_reducible assumption | with_reducible exact bw_refl _ | with_reducible refine bw_alloc ?_ _ | with_reducible refine bw_drew ?_ | with_reducible refine bw_drewN _ ?_ | refine bw_set ?_ (by simp; try omega) _ | refine bw_call (by with_reducible assumption) ?_), by repeat (first | with_reducible assumption | with_reducible refine Bk.drew ?_ | with_reducible refine Bk.drewN ?_ _ | with_reducible exact Bk.new _ _ _ | with_reducible exact Bk.new1 _ _ _ _ | with_reducible exact Bk.new2 _ _ _ _ _ | with_reducible exact Bk.new3 _ _ _ _ _ _ | with_reducible refine Bk.alloc ?_ _ | with_reducible exact Bk.set6 (by repeat (first | with_reducible assumption | ((with_reducible refine Bk.far' ?_ ?_); (focus (first | (simp; done) | (simp; omega)))) | with_reducible refine Bk.drew ?_ | with_reducible refine Bk.alloc ?_ _)) _ _ _ _ _ _ | with_reducible exact Bk.set3 (by repeat (first | with_reducible assumption | ((with_reducible refine Bk.far' ?_ ?_); (focus (first | (simp; done) | (simp; omega)))) | with_reducible refine Bk.drew ?_ | with_reducible refine Bk.alloc ?_ _)) _ _ _ | with_reducible exact Bk.set2 (by repeat (first | with_reducible assumption | ((with_reducible refine Bk.far' ?_ ?_); (focus (first | (simp; done) | (simp; omega)))) | with_reducible refine Bk.drew ?_ | with_reducible refine Bk.alloc ?_ _)) _ _ | ((with_reducible refine Bk.far' ?_ ?_); (focus (first | (simp; done) | (simp; omega))))), by repeat (first | with_reducible assumption | with_reducible refine Bk.drew ?_ | with_reducible refine Bk.drewN ?_ _ | with_reducible exact Bk.new _ _ _ | with_reducible exact Bk.new1 _ _ _ _ | with_reducible exact Bk.new2 _ _ _ _ _ | with_reducible exact Bk.new3 _ _ _ _ _ _ | with_reducible refine Bk.alloc ?_ _ | with_reducible exact Bk.set6 (by repeat (first | with_reducible assumption | ((with_reducible refine Bk.far' ?_ ?_); (focus (first | (simp; done) | (simp; omega)))) | with_reducible refine Bk.drew ?_ | with_reducible refine Bk.alloc ?_ _)) _ _ _ _ _ _ | with_reducible exact Bk.set3 (by repeat (first | with_reducible assumption | ((with_reducible refine Bk.far' ?_ ?_); (focus (first | (simp; done) | (simp; omega)))) | with_reducible refine Bk.drew ?_ | with_reducible refine Bk.alloc ?_ _)) _ _ _ | with_reducible exact Bk.set2 (by repeat (first | with_reducible assumption | ((with_reducible refine Bk.far' ?_ ?_); (focus (first | (simp; done) | (simp; omega)))) | with_reducible refine Bk.drew ?_ | with_reducible refine Bk.alloc ?_ _)) _ _ | ((with_reducible refine Bk.far' ?_ ?_); (focus (first | (simp; done) | (simp; omega)))))⟩ ?_
    rintro W ⟨hbW, a0, a1⟩
    have a0_0 : W.cell? ⟨w.heap.size, 0, none⟩ = some (.int .i64 x0) := a0.cell 0
    have a0_1 : W.cell? ⟨w.heap.size, 1, none⟩ = some (.int .i64 y0) := a0.cell 1
    have a0_2 : W.cell? ⟨w.heap.size, 2, none⟩ = some (.int .i64 x1) := a0.cell 2
    have a0_3 : W.cell? ⟨w.heap.size, 3, none⟩ = some (.int .i64 y1) := a0.cell 3
    have a0_4 : W.cell? ⟨w.heap.size, 4, none⟩ = some (.int .i64 fr) := a0.cell 4
    have a0_5 : W.cell? ⟨w.heap.size, 5, none⟩ = some (.int .i64 ct) := a0.cell 5
    have a0_f := a0.frozen
    have a0_l := a0.lt
    have a1_0 : W.cell? ⟨w.heap.size + 1, 0, none⟩ = some (.int .i64 px) := a1.cell 0
    have a1_1 : W.cell? ⟨w.heap.size + 1, 1, none⟩ = some (.int .i64 py) := a1.cell 1
    have a1_2 : W.cell? ⟨w.heap.size + 1, 2, none⟩ = some (.int .i64 ph) := a1.cell 2
    have a1_f := a1.frozen
    have a1_l := a1.lt
    refine region_grow (fun w0 => Below W.heap.size W w0) 37 (by kernel_rfl) (by kernel_rfl) (by repeat (first | with_reducible assumption | with_reducible exact bw_refl _ | with_reducible refine bw_alloc ?_ _ | with_reducible refine bw_drew ?_ | with_reducible refine bw_drewN _ ?_ | refine bw_set ?_ (by simp; try omega) _ | refine bw_call (by with_reducible assumption) ?_)) ?_
    simp only [List.take_succ_cons, List.take_zero, List.drop_succ_cons, List.drop_zero]
    iterate 37 (first | (refine wpG_ex ?_ ?_; (focus (go_simp; done)); constructor; constructor; (focus (intro w0 hS0; obtain ⟨hSc, hSf⟩ := bcell hS0; go_simp; exact ⟨rfl, hS0⟩)); (focus (intro K hK; go_simp; refine hK _ ?_; clear hK K))) | (refine wpG_ex ?_ ?_; (focus (go_simp; done)); constructor; constructor; (focus (intro w0 hS0; obtain ⟨hSc, hSf⟩ := bcell hS0; go_simp; exact grow_of hS0 (bxValid_any _ _ _ _ _ _ _))); (focus (intro K hK; go_simp; refine hK _ ?_; clear hK K))) | (refine wpG_ex ?_ ?_; (focus (go_simp; done)); constructor; constructor; (focus (intro w0 hS0; obtain ⟨hSc, hSf⟩ := bcell hS0; go_simp; exact grow_of hS0 ((arc_any _ _ _ _ _ _ _).mono fun _ _ h => ⟨h.1, by rw [← h.2]; repeat (first | with_reducible assumption | with_reducible exact bw_refl _ | with_reducible refine bw_alloc ?_ _ | with_reducible refine bw_drew ?_ | with_reducible refine bw_drewN _ ?_ | refine bw_set ?_ (by simp; try omega) _ | refine bw_call (by with_reducible assumption) ?_)⟩))); (focus (intro K hK; go_simp; refine hK _ ?_; clear hK K))) | (refine wpG_ex ?_ ?_; (focus (go_simp; done)); constructor; constructor; (focus (intro w0 hS0; obtain ⟨hSc, hSf⟩ := bcell hS0; go_simp; exact grow_of hS0 (hdHas_any _ _ _ _ (by omega) (by omega)))); (focus (intro K hK; go_simp; refine hK _ ?_; clear hK K))) | (refine wpG_skip ?_ ?_; (focus (go_simp; done)); intro K hK; go_simp; refine hK _ ?_; clear hK K))
    refine wpG_nil ?_
    intro w1 hSw1
    go_wp2
    go_ret
    exact ⟨by simp [HS.out], by repeat (first | with_reducible assumption | with_reducible exact bw_refl _ | with_reducible refine bw_alloc ?_ _ | with_reducible refine bw_drew ?_ | with_reducible refine bw_drewN _ ?_ | refine bw_set ?_ (by simp; try omega) _ | refine bw_call (by with_reducible assumption) ?_)⟩
  · by_cases c1 : x0 ≤ px
    · by_cases c2 : px ≤ x1
      · by_cases c3 : y0 ≤ py
        · by_cases c4 : py ≤ y1
          · have HS := Lib.hid (show bhB x0 y0 x1 y1 fr ct px py ph = hasB fr ct ph by simp [bhB, hb, c1, c2, c3, c4])
            go_enter Try.func41, Try.ntmps41
            go_wp2_with fail
            refine abs_world (fun W => Below w.heap.size w W ∧ Bk W (w.heap.size) 76 #[.int .i64 x0, .int .i64 y0, .int .i64 x1, .int .i64 y1, .int .i64 fr, .int .i64 ct] ∧ Bk W (w.heap.size + 1) 42 #[.int .i64 px, .int .i64 py, .int .i64 ph]) ⟨by repeat (first | with_reducible assumption | with_reducible exact bw_refl _ | with_reducible refine bw_alloc ?_ _ | with_reducible refine bw_drew ?_ | with_reducible refine bw_drewN _ ?_ | refine bw_set ?_ (by simp; try omega) _ | refine bw_call (by with_reducible assumption) ?_), by repeat (first | with_reducible assumption | with_reducible refine Bk.drew ?_ | with_reducible refine Bk.drewN ?_ _ | with_reducible exact Bk.new _ _ _ | with_reducible exact Bk.new1 _ _ _ _ | with_reducible exact Bk.new2 _ _ _ _ _ | with_reducible exact Bk.new3 _ _ _ _ _ _ | with_reducible refine Bk.alloc ?_ _ | with_reducible exact Bk.set6 (by repeat (first | with_reducible assumption | ((with_reducible refine Bk.far' ?_ ?_); (focus (first | (simp; done) | (simp; omega)))) | with_reducible refine Bk.drew ?_ | with_reducible refine Bk.alloc ?_ _)) _ _ _ _ _ _ | with_reducible exact Bk.set3 (by repeat (first | with_reducible assumption | ((with_reducible refine Bk.far' ?_ ?_); (focus (first | (simp; done) | (simp; omega)))) | with_reducible refine Bk.drew ?_ | with_reducible refine Bk.alloc ?_ _)) _ _ _ | with_reducible exact Bk.set2 (by repeat (first | with_reducible assumption | ((with_reducible refine Bk.far' ?_ ?_); (focus (first | (simp; done) | (simp; omega)))) | with_reducible refine Bk.drew ?_ | with_reducible refine Bk.alloc ?_ _)) _ _ | ((with_reducible refine Bk.far' ?_ ?_); (focus (first | (simp; done) | (simp; omega))))), by repeat (first | with_reducible assumption | with_reducible refine Bk.drew ?_ | with_reducible refine Bk.drewN ?_ _ | with_reducible exact Bk.new _ _ _ | with_reducible exact Bk.new1 _ _ _ _ | with_reducible exact Bk.new2 _ _ _ _ _ | with_reducible exact Bk.new3 _ _ _ _ _ _ | with_reducible refine Bk.alloc ?_ _ | with_reducible exact Bk.set6 (by repeat (first | with_reducible assumption | ((with_reducible refine Bk.far' ?_ ?_); (focus (first | (simp; done) | (simp; omega)))) | with_reducible refine Bk.drew ?_ | with_reducible refine Bk.alloc ?_ _)) _ _ _ _ _ _ | with_reducible exact Bk.set3 (by repeat (first | with_reducible assumption | ((with_reducible refine Bk.far' ?_ ?_); (focus (first | (simp; done) | (simp; omega)))) | with_reducible refine Bk.drew ?_ | with_reducible refine Bk.alloc ?_ _)) _ _ _ | with_reducible exact Bk.set2 (by repeat (first | with_reducible assumption | ((with_reducible refine Bk.far' ?_ ?_); (focus (first | (simp; done) | (simp; omega)))) | with_reducible refine Bk.drew ?_ | with_reducible refine Bk.alloc ?_ _)) _ _ | ((with_reducible refine Bk.far' ?_ ?_); (focus (first | (simp; done) | (simp; omega)))))⟩ ?_
            rintro W ⟨hbW, a0, a1⟩
            have a0_0 : W.cell? ⟨w.heap.size, 0, none⟩ = some (.int .i64 x0) := a0.cell 0
            have a0_1 : W.cell? ⟨w.heap.size, 1, none⟩ = some (.int .i64 y0) := a0.cell 1
            have a0_2 : W.cell? ⟨w.heap.size, 2, none⟩ = some (.int .i64 x1) := a0.cell 2
            have a0_3 : W.cell? ⟨w.heap.size, 3, none⟩ = some (.int .i64 y1) := a0.cell 3
            have a0_4 : W.cell? ⟨w.heap.size, 4, none⟩ = some (.int .i64 fr) := a0.cell 4
            have a0_5 : W.cell? ⟨w.heap.size, 5, none⟩ = some (.int .i64 ct) := a0.cell 5
            have a0_f := a0.frozen
            have a0_l := a0.lt
            have a1_0 : W.cell? ⟨w.heap.size + 1, 0, none⟩ = some (.int .i64 px) := a1.cell 0
            have a1_1 : W.cell? ⟨w.heap.size + 1, 1, none⟩ = some (.int .i64 py) := a1.cell 1
            have a1_2 : W.cell? ⟨w.heap.size + 1, 2, none⟩ = some (.int .i64 ph) := a1.cell 2
            have a1_f := a1.frozen
            have a1_l := a1.lt
            refine region_grow (fun w0 => Below W.heap.size W w0) 37 (by kernel_rfl) (by kernel_rfl) (by repeat (first | with_reducible assumption | with_reducible exact bw_refl _ | with_reducible refine bw_alloc ?_ _ | with_reducible refine bw_drew ?_ | with_reducible refine bw_drewN _ ?_ | refine bw_set ?_ (by simp; try omega) _ | refine bw_call (by with_reducible assumption) ?_)) ?_
            simp only [List.take_succ_cons, List.take_zero, List.drop_succ_cons, List.drop_zero]
            iterate 37 (first | (refine wpG_ex ?_ ?_; (focus (go_simp; done)); constructor; constructor; (focus (intro w0 hS0; obtain ⟨hSc, hSf⟩ := bcell hS0; go_simp; exact ⟨rfl, hS0⟩)); (focus (intro K hK; go_simp; refine hK _ ?_; clear hK K))) | (refine wpG_ex ?_ ?_; (focus (go_simp; done)); constructor; constructor; (focus (intro w0 hS0; obtain ⟨hSc, hSf⟩ := bcell hS0; go_simp; exact grow_of hS0 (bxValid_any _ _ _ _ _ _ _))); (focus (intro K hK; go_simp; refine hK _ ?_; clear hK K))) | (refine wpG_ex ?_ ?_; (focus (go_simp; done)); constructor; constructor; (focus (intro w0 hS0; obtain ⟨hSc, hSf⟩ := bcell hS0; go_simp; exact grow_of hS0 ((arc_any _ _ _ _ _ _ _).mono fun _ _ h => ⟨h.1, by rw [← h.2]; repeat (first | with_reducible assumption | with_reducible exact bw_refl _ | with_reducible refine bw_alloc ?_ _ | with_reducible refine bw_drew ?_ | with_reducible refine bw_drewN _ ?_ | refine bw_set ?_ (by simp; try omega) _ | refine bw_call (by with_reducible assumption) ?_)⟩))); (focus (intro K hK; go_simp; refine hK _ ?_; clear hK K))) | (refine wpG_ex ?_ ?_; (focus (go_simp; done)); constructor; constructor; (focus (intro w0 hS0; obtain ⟨hSc, hSf⟩ := bcell hS0; go_simp; exact grow_of hS0 (hdHas_any _ _ _ _ (by omega) (by omega)))); (focus (intro K hK; go_simp; refine hK _ ?_; clear hK K))) | (refine wpG_skip ?_ ?_; (focus (go_simp; done)); intro K hK; go_simp; refine hK _ ?_; clear hK K))
            refine wpG_nil ?_
            intro w1 hSw1
            go_wp2
            go_ret
            exact ⟨by simp [HS.out], by repeat (first | with_reducible assumption | with_reducible exact bw_refl _ | with_reducible refine bw_alloc ?_ _ | with_reducible refine bw_drew ?_ | with_reducible refine bw_drewN _ ?_ | refine bw_set ?_ (by simp; try omega) _ | refine bw_call (by with_reducible assumption) ?_)⟩
          · have HS := Lib.hid (show bhB x0 y0 x1 y1 fr ct px py ph = false by simp [bhB, c4])
            have c4f : decide (py ≤ y1) = false := by simp; omega
            go_enter Try.func41, Try.ntmps41
            go_wp2_with fail
            refine abs_world (fun W => Below w.heap.size w W ∧ Bk W (w.heap.size) 76 #[.int .i64 x0, .int .i64 y0, .int .i64 x1, .int .i64 y1, .int .i64 fr, .int .i64 ct] ∧ Bk W (w.heap.size + 1) 42 #[.int .i64 px, .int .i64 py, .int .i64 ph]) ⟨by repeat (first | with_reducible assumption | with_reducible exact bw_refl _ | with_reducible refine bw_alloc ?_ _ | with_reducible refine bw_drew ?_ | with_reducible refine bw_drewN _ ?_ | refine bw_set ?_ (by simp; try omega) _ | refine bw_call (by with_reducible assumption) ?_), by repeat (first | with_reducible assumption | with_reducible refine Bk.drew ?_ | with_reducible refine Bk.drewN ?_ _ | with_reducible exact Bk.new _ _ _ | with_reducible exact Bk.new1 _ _ _ _ | with_reducible exact Bk.new2 _ _ _ _ _ | with_reducible exact Bk.new3 _ _ _ _ _ _ | with_reducible refine Bk.alloc ?_ _ | with_reducible exact Bk.set6 (by repeat (first | with_reducible assumption | ((with_reducible refine Bk.far' ?_ ?_); (focus (first | (simp; done) | (simp; omega)))) | with_reducible refine Bk.drew ?_ | with_reducible refine Bk.alloc ?_ _)) _ _ _ _ _ _ | with_reducible exact Bk.set3 (by repeat (first | with_reducible assumption | ((with_reducible refine Bk.far' ?_ ?_); (focus (first | (simp; done) | (simp; omega)))) | with_reducible refine Bk.drew ?_ | with_reducible refine Bk.alloc ?_ _)) _ _ _ | with_reducible exact Bk.set2 (by repeat (first | with_reducible assumption | ((with_reducible refine Bk.far' ?_ ?_); (focus (first | (simp; done) | (simp; omega)))) | with_reducible refine Bk.drew ?_ | with_reducible refine Bk.alloc ?_ _)) _ _ | ((with_reducible refine Bk.far' ?_ ?_); (focus (first | (simp; done) | (simp; omega))))), by repeat (first | with_reducible assumption | with_reducible refine Bk.drew ?_ | with_reducible refine Bk.drewN ?_ _ | with_reducible exact Bk.new _ _ _ | with_reducible exact Bk.new1 _ _ _ _ | with_reducible exact Bk.new2 _ _ _ _ _ | with_reducible exact Bk.new3 _ _ _ _ _ _ | with_reducible refine Bk.alloc ?_ _ | with_reducible exact Bk.set6 (by repeat (first | with_reducible assumption | ((with_reducible refine Bk.far' ?_ ?_); (focus (first | (simp; done) | (simp; omega)))) | with_reducible refine Bk.drew ?_ | with_reducible refine Bk.alloc ?_ _)) _ _ _ _ _ _ | with_reducible exact Bk.set3 (by repeat (first | with_reducible assumption | ((with_reducible refine Bk.far' ?_ ?_); (focus (first | (simp; done) | (simp; omega)))) | with_reducible refine Bk.drew ?_ | with_reducible refine Bk.alloc ?_ _)) _ _ _ | with_reducible exact Bk.set2 (by repeat (first | with_reducible assumption | ((with_reducible refine Bk.far' ?_ ?_); (focus (first | (simp; done) | (simp; omega)))) | with_reducible refine Bk.drew ?_ | with_reducible refine Bk.alloc ?_ _)) _ _ | ((with_reducible refine Bk.far' ?_ ?_); (focus (first | (simp; done) | (simp; omega)))))⟩ ?_
            rintro W ⟨hbW, a0, a1⟩
            have a0_0 : W.cell? ⟨w.heap.size, 0, none⟩ = some (.int .i64 x0) := a0.cell 0
            have a0_1 : W.cell? ⟨w.heap.size, 1, none⟩ = some (.int .i64 y0) := a0.cell 1
            have a0_2 : W.cell? ⟨w.heap.size, 2, none⟩ = some (.int .i64 x1) := a0.cell 2
            have a0_3 : W.cell? ⟨w.heap.size, 3, none⟩ = some (.int .i64 y1) := a0.cell 3
            have a0_4 : W.cell? ⟨w.heap.size, 4, none⟩ = some (.int .i64 fr) := a0.cell 4
            have a0_5 : W.cell? ⟨w.heap.size, 5, none⟩ = some (.int .i64 ct) := a0.cell 5
            have a0_f := a0.frozen
            have a0_l := a0.lt
            have a1_0 : W.cell? ⟨w.heap.size + 1, 0, none⟩ = some (.int .i64 px) := a1.cell 0
            have a1_1 : W.cell? ⟨w.heap.size + 1, 1, none⟩ = some (.int .i64 py) := a1.cell 1
            have a1_2 : W.cell? ⟨w.heap.size + 1, 2, none⟩ = some (.int .i64 ph) := a1.cell 2
            have a1_f := a1.frozen
            have a1_l := a1.lt
            refine region_grow (fun w0 => Below W.heap.size W w0) 37 (by kernel_rfl) (by kernel_rfl) (by repeat (first | with_reducible assumption | with_reducible exact bw_refl _ | with_reducible refine bw_alloc ?_ _ | with_reducible refine bw_drew ?_ | with_reducible refine bw_drewN _ ?_ | refine bw_set ?_ (by simp; try omega) _ | refine bw_call (by with_reducible assumption) ?_)) ?_
            simp only [List.take_succ_cons, List.take_zero, List.drop_succ_cons, List.drop_zero]
            iterate 37 (first | (refine wpG_ex ?_ ?_; (focus (go_simp; done)); constructor; constructor; (focus (intro w0 hS0; obtain ⟨hSc, hSf⟩ := bcell hS0; go_simp; exact ⟨rfl, hS0⟩)); (focus (intro K hK; go_simp; refine hK _ ?_; clear hK K))) | (refine wpG_ex ?_ ?_; (focus (go_simp; done)); constructor; constructor; (focus (intro w0 hS0; obtain ⟨hSc, hSf⟩ := bcell hS0; go_simp; exact grow_of hS0 (bxValid_any _ _ _ _ _ _ _))); (focus (intro K hK; go_simp; refine hK _ ?_; clear hK K))) | (refine wpG_ex ?_ ?_; (focus (go_simp; done)); constructor; constructor; (focus (intro w0 hS0; obtain ⟨hSc, hSf⟩ := bcell hS0; go_simp; exact grow_of hS0 ((arc_any _ _ _ _ _ _ _).mono fun _ _ h => ⟨h.1, by rw [← h.2]; repeat (first | with_reducible assumption | with_reducible exact bw_refl _ | with_reducible refine bw_alloc ?_ _ | with_reducible refine bw_drew ?_ | with_reducible refine bw_drewN _ ?_ | refine bw_set ?_ (by simp; try omega) _ | refine bw_call (by with_reducible assumption) ?_)⟩))); (focus (intro K hK; go_simp; refine hK _ ?_; clear hK K))) | (refine wpG_ex ?_ ?_; (focus (go_simp; done)); constructor; constructor; (focus (intro w0 hS0; obtain ⟨hSc, hSf⟩ := bcell hS0; go_simp; exact grow_of hS0 (hdHas_any _ _ _ _ (by omega) (by omega)))); (focus (intro K hK; go_simp; refine hK _ ?_; clear hK K))) | (refine wpG_skip ?_ ?_; (focus (go_simp; done)); intro K hK; go_simp; refine hK _ ?_; clear hK K))
            refine wpG_nil ?_
            intro w1 hSw1
            go_wp2
            go_ret
            exact ⟨by simp [HS.out], by repeat (first | with_reducible assumption | with_reducible exact bw_refl _ | with_reducible refine bw_alloc ?_ _ | with_reducible refine bw_drew ?_ | with_reducible refine bw_drewN _ ?_ | refine bw_set ?_ (by simp; try omega) _ | refine bw_call (by with_reducible assumption) ?_)⟩
        · have HS := Lib.hid (show bhB x0 y0 x1 y1 fr ct px py ph = false by simp [bhB, c3])
          have c3f : decide (y0 ≤ py) = false := by simp; omega
          go_enter Try.func41, Try.ntmps41
          go_wp2_with fail
          refine abs_world (fun W => Below w.heap.size w W ∧ Bk W (w.heap.size) 76 #[.int .i64 x0, .int .i64 y0, .int .i64 x1, .int .i64 y1, .int .i64 fr, .int .i64 ct] ∧ Bk W (w.heap.size + 1) 42 #[.int .i64 px, .int .i64 py, .int .i64 ph]) ⟨by repeat (first | with_reducible assumption | with_reducible exact bw_refl _ | with_reducible refine bw_alloc ?_ _ | with_reducible refine bw_drew ?_ | with_reducible refine bw_drewN _ ?_ | refine bw_set ?_ (by simp; try omega) _ | refine bw_call (by with_reducible assumption) ?_), by repeat (first | with_reducible assumption | with_reducible refine Bk.drew ?_ | with_reducible refine Bk.drewN ?_ _ | with_reducible exact Bk.new _ _ _ | with_reducible exact Bk.new1 _ _ _ _ | with_reducible exact Bk.new2 _ _ _ _ _ | with_reducible exact Bk.new3 _ _ _ _ _ _ | with_reducible refine Bk.alloc ?_ _ | with_reducible exact Bk.set6 (by repeat (first | with_reducible assumption | ((with_reducible refine Bk.far' ?_ ?_); (focus (first | (simp; done) | (simp; omega)))) | with_reducible refine Bk.drew ?_ | with_reducible refine Bk.alloc ?_ _)) _ _ _ _ _ _ | with_reducible exact Bk.set3 (by repeat (first | with_reducible assumption | ((with_reducible refine Bk.far' ?_ ?_); (focus (first | (simp; done) | (simp; omega)))) | with_reducible refine Bk.drew ?_ | with_reducible refine Bk.alloc ?_ _)) _ _ _ | with_reducible exact Bk.set2 (by repeat (first | with_reducible assumption | ((with_reducible refine Bk.far' ?_ ?_); (focus (first | (simp; done) | (simp; omega)))) | with_reducible refine Bk.drew ?_ | with_reducible refine Bk.alloc ?_ _)) _ _ | ((with_reducible refine Bk.far' ?_ ?_); (focus (first | (simp; done) | (simp; omega))))), by repeat (first | with_reducible assumption | with_reducible refine Bk.drew ?_ | with_reducible refine Bk.drewN ?_ _ | with_reducible exact Bk.new _ _ _ | with_reducible exact Bk.new1 _ _ _ _ | with_reducible exact Bk.new2 _ _ _ _ _ | with_reducible exact Bk.new3 _ _ _ _ _ _ | with_reducible refine Bk.alloc ?_ _ | with_reducible exact Bk.set6 (by repeat (first | with_reducible assumption | ((with_reducible refine Bk.far' ?_ ?_); (focus (first | (simp; done) | (simp; omega)))) | with_reducible refine Bk.drew ?_ | with_reducible refine Bk.alloc ?_ _)) _ _ _ _ _ _ | with_reducible exact Bk.set3 (by repeat (first | with_reducible assumption | ((with_reducible refine Bk.far' ?_ ?_); (focus (first | (simp; done) | (simp; omega)))) | with_reducible refine Bk.drew ?_ | with_reducible refine Bk.alloc ?_ _)) _ _ _ | with_reducible exact Bk.set2 (by repeat (first | with_reducible assumption | ((with_reducible refine Bk.far' ?_ ?_); (focus (first | (simp; done) | (simp; omega)))) | with_reducible refine Bk.drew ?_ | with_reducible refine Bk.alloc ?_ _)) _ _ | ((with_reducible refine Bk.far' ?_ ?_); (focus (first | (simp; done) | (simp; omega)))))⟩ ?_
          rintro W ⟨hbW, a0, a1⟩
          have a0_0 : W.cell? ⟨w.heap.size, 0, none⟩ = some (.int .i64 x0) := a0.cell 0
          have a0_1 : W.cell? ⟨w.heap.size, 1, none⟩ = some (.int .i64 y0) := a0.cell 1
          have a0_2 : W.cell? ⟨w.heap.size, 2, none⟩ = some (.int .i64 x1) := a0.cell 2
          have a0_3 : W.cell? ⟨w.heap.size, 3, none⟩ = some (.int .i64 y1) := a0.cell 3
          have a0_4 : W.cell? ⟨w.heap.size, 4, none⟩ = some (.int .i64 fr) := a0.cell 4
          have a0_5 : W.cell? ⟨w.heap.size, 5, none⟩ = some (.int .i64 ct) := a0.cell 5
          have a0_f := a0.frozen
          have a0_l := a0.lt
          have a1_0 : W.cell? ⟨w.heap.size + 1, 0, none⟩ = some (.int .i64 px) := a1.cell 0
          have a1_1 : W.cell? ⟨w.heap.size + 1, 1, none⟩ = some (.int .i64 py) := a1.cell 1
          have a1_2 : W.cell? ⟨w.heap.size + 1, 2, none⟩ = some (.int .i64 ph) := a1.cell 2
          have a1_f := a1.frozen
          have a1_l := a1.lt
          refine region_grow (fun w0 => Below W.heap.size W w0) 37 (by kernel_rfl) (by kernel_rfl) (by repeat (first | with_reducible assumption | with_reducible exact bw_refl _ | with_reducible refine bw_alloc ?_ _ | with_reducible refine bw_drew ?_ | with_reducible refine bw_drewN _ ?_ | refine bw_set ?_ (by simp; try omega) _ | refine bw_call (by with_reducible assumption) ?_)) ?_
          simp only [List.take_succ_cons, List.take_zero, List.drop_succ_cons, List.drop_zero]
          iterate 37 (first | (refine wpG_ex ?_ ?_; (focus (go_simp; done)); constructor; constructor; (focus (intro w0 hS0; obtain ⟨hSc, hSf⟩ := bcell hS0; go_simp; exact ⟨rfl, hS0⟩)); (focus (intro K hK; go_simp; refine hK _ ?_; clear hK K))) | (refine wpG_ex ?_ ?_; (focus (go_simp; done)); constructor; constructor; (focus (intro w0 hS0; obtain ⟨hSc, hSf⟩ := bcell hS0; go_simp; exact grow_of hS0 (bxValid_any _ _ _ _ _ _ _))); (focus (intro K hK; go_simp; refine hK _ ?_; clear hK K))) | (refine wpG_ex ?_ ?_; (focus (go_simp; done)); constructor; constructor; (focus (intro w0 hS0; obtain ⟨hSc, hSf⟩ := bcell hS0; go_simp; exact grow_of hS0 ((arc_any _ _ _ _ _ _ _).mono fun _ _ h => ⟨h.1, by rw [← h.2]; repeat (first | with_reducible assumption | with_reducible exact bw_refl _ | with_reducible refine bw_alloc ?_ _ | with_reducible refine bw_drew ?_ | with_reducible refine bw_drewN _ ?_ | refine bw_set ?_ (by simp; try omega) _ | refine bw_call (by with_reducible assumption) ?_)⟩))); (focus (intro K hK; go_simp; refine hK _ ?_; clear hK K))) | (refine wpG_ex ?_ ?_; (focus (go_simp; done)); constructor; constructor; (focus (intro w0 hS0; obtain ⟨hSc, hSf⟩ := bcell hS0; go_simp; exact grow_of hS0 (hdHas_any _ _ _ _ (by omega) (by omega)))); (focus (intro K hK; go_simp; refine hK _ ?_; clear hK K))) | (refine wpG_skip ?_ ?_; (focus (go_simp; done)); intro K hK; go_simp; refine hK _ ?_; clear hK K))
          refine wpG_nil ?_
          intro w1 hSw1
          go_wp2
          go_ret
          exact ⟨by simp [HS.out], by repeat (first | with_reducible assumption | with_reducible exact bw_refl _ | with_reducible refine bw_alloc ?_ _ | with_reducible refine bw_drew ?_ | with_reducible refine bw_drewN _ ?_ | refine bw_set ?_ (by simp; try omega) _ | refine bw_call (by with_reducible assumption) ?_)⟩
      · have HS := Lib.hid (show bhB x0 y0 x1 y1 fr ct px py ph = false by simp [bhB, c2])
        have c2f : decide (px ≤ x1) = false := by simp; omega
        go_enter Try.func41, Try.ntmps41
        go_wp2_with fail
        refine abs_world (fun W => Below w.heap.size w W ∧ Bk W (w.heap.size) 76 #[.int .i64 x0, .int .i64 y0, .int .i64 x1, .int .i64 y1, .int .i64 fr, .int .i64 ct] ∧ Bk W (w.heap.size + 1) 42 #[.int .i64 px, .int .i64 py, .int .i64 ph]) ⟨by repeat (first | with_reducible assumption | with_reducible exact bw_refl _ | with_reducible refine bw_alloc ?_ _ | with_reducible refine bw_drew ?_ | with_reducible refine bw_drewN _ ?_ | refine bw_set ?_ (by simp; try omega) _ | refine bw_call (by with_reducible assumption) ?_), by repeat (first | with_reducible assumption | with_reducible refine Bk.drew ?_ | with_reducible refine Bk.drewN ?_ _ | with_reducible exact Bk.new _ _ _ | with_reducible exact Bk.new1 _ _ _ _ | with_reducible exact Bk.new2 _ _ _ _ _ | with_reducible exact Bk.new3 _ _ _ _ _ _ | with_reducible refine Bk.alloc ?_ _ | with_reducible exact Bk.set6 (by repeat (first | with_reducible assumption | ((with_reducible refine Bk.far' ?_ ?_); (focus (first | (simp; done) | (simp; omega)))) | with_reducible refine Bk.drew ?_ | with_reducible refine Bk.alloc ?_ _)) _ _ _ _ _ _ | with_reducible exact Bk.set3 (by repeat (first | with_reducible assumption | ((with_reducible refine Bk.far' ?_ ?_); (focus (first | (simp; done) | (simp; omega)))) | with_reducible refine Bk.drew ?_ | with_reducible refine Bk.alloc ?_ _)) _ _ _ | with_reducible exact Bk.set2 (by repeat (first | with_reducible assumption | ((with_reducible refine Bk.far' ?_ ?_); (focus (first | (simp; done) | (simp; omega)))) | with_reducible refine Bk.drew ?_ | with_reducible refine Bk.alloc ?_ _)) _ _ | ((with_reducible refine Bk.far' ?_ ?_); (focus (first | (simp; done) | (simp; omega))))), by repeat (first | with_reducible assumption | with_reducible refine Bk.drew ?_ | with_reducible refine Bk.drewN ?_ _ | with_reducible exact Bk.new _ _ _ | with_reducible exact Bk.new1 _ _ _ _ | with_reducible exact Bk.new2 _ _ _ _ _ | with_reducible exact Bk.new3 _ _ _ _ _ _ | with_reducible refine Bk.alloc ?_ _ | with_reducible exact Bk.set6 (by repeat (first | with_reducible assumption | ((with_reducible refine Bk.far' ?_ ?_); (focus (first | (simp; done) | (simp; omega)))) | with_reducible refine Bk.drew ?_ | with_reducible refine Bk.alloc ?_ _)) _ _ _ _ _ _ | with_reducible exact Bk.set3 (by repeat (first | with_reducible assumption | ((with_reducible refine Bk.far' ?_ ?_); (focus (first | (simp; done) | (simp; omega)))) | with_reducible refine Bk.drew ?_ | with_reducible refine Bk.alloc ?_ _)) _ _ _ | with_reducible exact Bk.set2 (by repeat (first | with_reducible assumption | ((with_reducible refine Bk.far' ?_ ?_); (focus (first | (simp; done) | (simp; omega)))) | with_reducible refine Bk.drew ?_ | with_reducible refine Bk.alloc ?_ _)) _ _ | ((with_reducible refine Bk.far' ?_ ?_); (focus (first | (simp; done) | (simp; omega)))))⟩ ?_
        rintro W ⟨hbW, a0, a1⟩
        have a0_0 : W.cell? ⟨w.heap.size, 0, none⟩ = some (.int .i64 x0) := a0.cell 0
        have a0_1 : W.cell? ⟨w.heap.size, 1, none⟩ = some (.int .i64 y0) := a0.cell 1
        have a0_2 : W.cell? ⟨w.heap.size, 2, none⟩ = some (.int .i64 x1) := a0.cell 2
        have a0_3 : W.cell? ⟨w.heap.size, 3, none⟩ = some (.int .i64 y1) := a0.cell 3
        have a0_4 : W.cell? ⟨w.heap.size, 4, none⟩ = some (.int .i64 fr) := a0.cell 4
        have a0_5 : W.cell? ⟨w.heap.size, 5, none⟩ = some (.int .i64 ct) := a0.cell 5
        have a0_f := a0.frozen
        have a0_l := a0.lt
        have a1_0 : W.cell? ⟨w.heap.size + 1, 0, none⟩ = some (.int .i64 px) := a1.cell 0
        have a1_1 : W.cell? ⟨w.heap.size + 1, 1, none⟩ = some (.int .i64 py) := a1.cell 1
        have a1_2 : W.cell? ⟨w.heap.size + 1, 2, none⟩ = some (.int .i64 ph) := a1.cell 2
        have a1_f := a1.frozen
        have a1_l := a1.lt
        refine region_grow (fun w0 => Below W.heap.size W w0) 37 (by kernel_rfl) (by kernel_rfl) (by repeat (first | with_reducible assumption | with_reducible exact bw_refl _ | with_reducible refine bw_alloc ?_ _ | with_reducible refine bw_drew ?_ | with_reducible refine bw_drewN _ ?_ | refine bw_set ?_ (by simp; try omega) _ | refine bw_call (by with_reducible assumption) ?_)) ?_
        simp only [List.take_succ_cons, List.take_zero, List.drop_succ_cons, List.drop_zero]
        iterate 37 (first | (refine wpG_ex ?_ ?_; (focus (go_simp; done)); constructor; constructor; (focus (intro w0 hS0; obtain ⟨hSc, hSf⟩ := bcell hS0; go_simp; exact ⟨rfl, hS0⟩)); (focus (intro K hK; go_simp; refine hK _ ?_; clear hK K))) | (refine wpG_ex ?_ ?_; (focus (go_simp; done)); constructor; constructor; (focus (intro w0 hS0; obtain ⟨hSc, hSf⟩ := bcell hS0; go_simp; exact grow_of hS0 (bxValid_any _ _ _ _ _ _ _))); (focus (intro K hK; go_simp; refine hK _ ?_; clear hK K))) | (refine wpG_ex ?_ ?_; (focus (go_simp; done)); constructor; constructor; (focus (intro w0 hS0; obtain ⟨hSc, hSf⟩ := bcell hS0; go_simp; exact grow_of hS0 ((arc_any _ _ _ _ _ _ _).mono fun _ _ h => ⟨h.1, by rw [← h.2]; repeat (first | with_reducible assumption | with_reducible exact bw_refl _ | with_reducible refine bw_alloc ?_ _ | with_reducible refine bw_drew ?_ | with_reducible refine bw_drewN _ ?_ | refine bw_set ?_ (by simp; try omega) _ | refine bw_call (by with_reducible assumption) ?_)⟩))); (focus (intro K hK; go_simp; refine hK _ ?_; clear hK K))) | (refine wpG_ex ?_ ?_; (focus (go_simp; done)); constructor; constructor; (focus (intro w0 hS0; obtain ⟨hSc, hSf⟩ := bcell hS0; go_simp; exact grow_of hS0 (hdHas_any _ _ _ _ (by omega) (by omega)))); (focus (intro K hK; go_simp; refine hK _ ?_; clear hK K))) | (refine wpG_skip ?_ ?_; (focus (go_simp; done)); intro K hK; go_simp; refine hK _ ?_; clear hK K))
        refine wpG_nil ?_
        intro w1 hSw1
        go_wp2
        go_ret
        exact ⟨by simp [HS.out], by repeat (first | with_reducible assumption | with_reducible exact bw_refl _ | with_reducible refine bw_alloc ?_ _ | with_reducible refine bw_drew ?_ | with_reducible refine bw_drewN _ ?_ | refine bw_set ?_ (by simp; try omega) _ | refine bw_call (by with_reducible assumption) ?_)⟩
    · have HS := Lib.hid (show bhB x0 y0 x1 y1 fr ct px py ph = false by simp [bhB, c1])
      have c1f : decide (x0 ≤ px) = false := by simp; omega
      go_enter Try.func41, Try.ntmps41
      go_wp2_with fail
      refine abs_world (fun W => Below w.heap.size w W ∧ Bk W (w.heap.size) 76 #[.int .i64 x0, .int .i64 y0, .int .i64 x1, .int .i64 y1, .int .i64 fr, .int .i64 ct] ∧ Bk W (w.heap.size + 1) 42 #[.int .i64 px, .int .i64 py, .int .i64 ph]) ⟨by repeat (first | with_reducible assumption | with_reducible exact bw_refl _ | with_reducible refine bw_alloc ?_ _ | with_reducible refine bw_drew ?_ | with_reducible refine bw_drewN _ ?_ | refine bw_set ?_ (by simp; try omega) _ | refine bw_call (by with_reducible assumption) ?_), by repeat (first | with_reducible assumption | with_reducible refine Bk.drew ?_ | with_reducible refine Bk.drewN ?_ _ | with_reducible exact Bk.new _ _ _ | with_reducible exact Bk.new1 _ _ _ _ | with_reducible exact Bk.new2 _ _ _ _ _ | with_reducible exact Bk.new3 _ _ _ _ _ _ | with_reducible refine Bk.alloc ?_ _ | with_reducible exact Bk.set6 (by repeat (first | with_reducible assumption | ((with_reducible refine Bk.far' ?_ ?_); (focus (first | (simp; done) | (simp; omega)))) | with_reducible refine Bk.drew ?_ | with_reducible refine Bk.alloc ?_ _)) _ _ _ _ _ _ | with_reducible exact Bk.set3 (by repeat (first | with_reducible assumption | ((with_reducible refine Bk.far' ?_ ?_); (focus (first | (simp; done) | (simp; omega)))) | with_reducible refine Bk.drew ?_ | with_reducible refine Bk.alloc ?_ _)) _ _ _ | with_reducible exact Bk.set2 (by repeat (first | with_reducible assumption | ((with_reducible refine Bk.far' ?_ ?_); (focus (first | (simp; done) | (simp; omega)))) | with_reducible refine Bk.drew ?_ | with_reducible refine Bk.alloc ?_ _)) _ _ | ((with_reducible refine Bk.far' ?_ ?_); (focus (first | (simp; done) | (simp; omega))))), by repeat (first | with_reducible assumption | with_reducible refine Bk.drew ?_ | with_reducible refine Bk.drewN ?_ _ | with_reducible exact Bk.new _ _ _ | with_reducible exact Bk.new1 _ _ _ _ | with_reducible exact Bk.new2 _ _ _ _ _ | with_reducible exact Bk.new3 _ _ _ _ _ _ | with_reducible refine Bk.alloc ?_ _ | with_reducible exact Bk.set6 (by repeat (first | with_reducible assumption | ((with_reducible refine Bk.far' ?_ ?_); (focus (first | (simp; done) | (simp; omega)))) | with_reducible refine Bk.drew ?_ | with_reducible refine Bk.alloc ?_ _)) _ _ _ _ _ _ | with_reducible exact Bk.set3 (by repeat (first | with_reducible assumption | ((with_reducible refine Bk.far' ?_ ?_); (focus (first | (simp; done) | (simp; omega)))) | with_reducible refine Bk.drew ?_ | with_reducible refine Bk.alloc ?_ _)) _ _ _ | with_reducible exact Bk.set2 (by repeat (first | with_reducible assumption | ((with_reducible refine Bk.far' ?_ ?_); (focus (first | (simp; done) | (simp; omega)))) | with_reducible refine Bk.drew ?_ | with_reducible refine Bk.alloc ?_ _)) _ _ | ((with_reducible refine Bk.far' ?_ ?_); (focus (first | (simp; done) | (simp; omega)))))⟩ ?_
      rintro W ⟨hbW, a0, a1⟩
      have a0_0 : W.cell? ⟨w.heap.size, 0, none⟩ = some (.int .i64 x0) := a0.cell 0
      have a0_1 : W.cell? ⟨w.heap.size, 1, none⟩ = some (.int .i64 y0) := a0.cell 1
      have a0_2 : W.cell? ⟨w.heap.size, 2, none⟩ = some (.int .i64 x1) := a0.cell 2
      have a0_3 : W.cell? ⟨w.heap.size, 3, none⟩ = some (.int .i64 y1) := a0.cell 3
      have a0_4 : W.cell? ⟨w.heap.size, 4, none⟩ = some (.int .i64 fr) := a0.cell 4
      have a0_5 : W.cell? ⟨w.heap.size, 5, none⟩ = some (.int .i64 ct) := a0.cell 5
      have a0_f := a0.frozen
      have a0_l := a0.lt
      have a1_0 : W.cell? ⟨w.heap.size + 1, 0, none⟩ = some (.int .i64 px) := a1.cell 0
      have a1_1 : W.cell? ⟨w.heap.size + 1, 1, none⟩ = some (.int .i64 py) := a1.cell 1
      have a1_2 : W.cell? ⟨w.heap.size + 1, 2, none⟩ = some (.int .i64 ph) := a1.cell 2
      have a1_f := a1.frozen
      have a1_l := a1.lt
      refine region_grow (fun w0 => Below W.heap.size W w0) 37 (by kernel_rfl) (by kernel_rfl) (by repeat (first | with_reducible assumption | with_reducible exact bw_refl _ | with_reducible refine bw_alloc ?_ _ | with_reducible refine bw_drew ?_ | with_reducible refine bw_drewN _ ?_ | refine bw_set ?_ (by simp; try omega) _ | refine bw_call (by with_reducible assumption) ?_)) ?_
      simp only [List.take_succ_cons, List.take_zero, List.drop_succ_cons, List.drop_zero]
      iterate 37 (first | (refine wpG_ex ?_ ?_; (focus (go_simp; done)); constructor; constructor; (focus (intro w0 hS0; obtain ⟨hSc, hSf⟩ := bcell hS0; go_simp; exact ⟨rfl, hS0⟩)); (focus (intro K hK; go_simp; refine hK _ ?_; clear hK K))) | (refine wpG_ex ?_ ?_; (focus (go_simp; done)); constructor; constructor; (focus (intro w0 hS0; obtain ⟨hSc, hSf⟩ := bcell hS0; go_simp; exact grow_of hS0 (bxValid_any _ _ _ _ _ _ _))); (focus (intro K hK; go_simp; refine hK _ ?_; clear hK K))) | (refine wpG_ex ?_ ?_; (focus (go_simp; done)); constructor; constructor; (focus (intro w0 hS0; obtain ⟨hSc, hSf⟩ := bcell hS0; go_simp; exact grow_of hS0 ((arc_any _ _ _ _ _ _ _).mono fun _ _ h => ⟨h.1, by rw [← h.2]; repeat (first | with_reducible assumption | with_reducible exact bw_refl _ | with_reducible refine bw_alloc ?_ _ | with_reducible refine bw_drew ?_ | with_reducible refine bw_drewN _ ?_ | refine bw_set ?_ (by simp; try omega) _ | refine bw_call (by with_reducible assumption) ?_)⟩))); (focus (intro K hK; go_simp; refine hK _ ?_; clear hK K))) | (refine wpG_ex ?_ ?_; (focus (go_simp; done)); constructor; constructor; (focus (intro w0 hS0; obtain ⟨hSc, hSf⟩ := bcell hS0; go_simp; exact grow_of hS0 (hdHas_any _ _ _ _ (by omega) (by omega)))); (focus (intro K hK; go_simp; refine hK _ ?_; clear hK K))) | (refine wpG_skip ?_ ?_; (focus (go_simp; done)); intro K hK; go_simp; refine hK _ ?_; clear hK K))
      refine wpG_nil ?_
      intro w1 hSw1
      go_wp2
      go_ret
      exact ⟨by simp [HS.out], by repeat (first | with_reducible assumption | with_reducible exact bw_refl _ | with_reducible refine bw_alloc ?_ _ | with_reducible refine bw_drew ?_ | with_reducible refine bw_drewN _ ?_ | refine bw_set ?_ (by simp; try omega) _ | refine bw_call (by with_reducible assumption) ?_)⟩

def volI (x0 y0 x1 y1 fr ct : Int) : Int := if bxB x0 y0 x1 y1 fr ct then (x1 - x0 + 1) * (y1 - y0 + 1) * ct else 0
theorem bxB_of {x0 y0 x1 y1 fr ct : Int} (h : bxB x0 y0 x1 y1 fr ct = true) : x0 ≤ x1 ∧ y0 ≤ y1 ∧ -1048576 ≤ x0 ∧ x1 ≤ 1048576 ∧ -1048576 ≤ y0 ∧ y1 ≤ 1048576 ∧ arcB fr ct = true := by
  simp only [bxB, Bool.and_eq_true, decide_eq_true_eq] at h
  obtain ⟨⟨⟨h1, h2⟩, h3⟩, h4⟩ := h
  simp [badB, szB] at h3
  exact ⟨h1, h2, by omega, by omega, by omega, by omega, h4⟩

set_option maxHeartbeats 1000000 in
theorem Volume_any (x0 y0 x1 y1 fr ct : Int) (w : World) : Calls Try.prog 42 #[.agg #[.int .i64 x0, .int .i64 y0, .int .i64 x1, .int .i64 y1, .int .i64 fr, .int .i64 ct]] w fun e w' => e = .returned (.int .i64 (volI x0 y0 x1 y1 fr ct)) ∧ Below w.heap.size w w' := by
  cases hb : bxB x0 y0 x1 y1 fr ct
  · have HS := Lib.hid (show volI x0 y0 x1 y1 fr ct = 0 by simp [volI, hb])
    go_enter Try.func42, Try.ntmps42
    go_wp2_with fail
    refine (bxValid_any _ _ _ _ _ _ _).mono ?_
    rintro e w1 ⟨rfl, hb1⟩
    go_wp2_with fail
    go_ret
    exact ⟨by simp [HS.out], by repeat (first | with_reducible assumption | with_reducible exact bw_refl _ | with_reducible refine bw_alloc ?_ _ | with_reducible refine bw_drew ?_ | with_reducible refine bw_drewN _ ?_ | refine bw_set ?_ (by simp; try omega) _ | refine bw_call (by with_reducible assumption) ?_)⟩
  · have HS := Lib.hid (show volI x0 y0 x1 y1 fr ct = (x1 - x0 + 1) * (y1 - y0 + 1) * ct by simp [volI, hb])
    obtain ⟨k1, k2, k3, k4, k5, k6, k7⟩ := bxB_of hb
    obtain ⟨k8, k9, k10, k11⟩ := arcB_of k7
    go_enter Try.func42, Try.ntmps42
    go_wp2_with fail
    refine (bxValid_any _ _ _ _ _ _ _).mono ?_
    rintro e w1 ⟨rfl, hb1⟩
    have a0 : Bk w1 (w.heap.size) 76 #[.int .i64 x0, .int .i64 y0, .int .i64 x1, .int .i64 y1, .int .i64 fr, .int .i64 ct] := Bk.call (by repeat (first | with_reducible assumption | with_reducible refine Bk.drew ?_ | with_reducible refine Bk.drewN ?_ _ | with_reducible exact Bk.new _ _ _ | with_reducible exact Bk.new1 _ _ _ _ | with_reducible exact Bk.new2 _ _ _ _ _ | with_reducible exact Bk.new3 _ _ _ _ _ _ | with_reducible refine Bk.alloc ?_ _ | with_reducible exact Bk.set6 (by repeat (first | with_reducible assumption | ((with_reducible refine Bk.far' ?_ ?_); (focus (first | (simp; done) | (simp; omega)))) | with_reducible refine Bk.drew ?_ | with_reducible refine Bk.alloc ?_ _)) _ _ _ _ _ _ | with_reducible exact Bk.set3 (by repeat (first | with_reducible assumption | ((with_reducible refine Bk.far' ?_ ?_); (focus (first | (simp; done) | (simp; omega)))) | with_reducible refine Bk.drew ?_ | with_reducible refine Bk.alloc ?_ _)) _ _ _ | with_reducible exact Bk.set2 (by repeat (first | with_reducible assumption | ((with_reducible refine Bk.far' ?_ ?_); (focus (first | (simp; done) | (simp; omega)))) | with_reducible refine Bk.drew ?_ | with_reducible refine Bk.alloc ?_ _)) _ _ | ((with_reducible refine Bk.far' ?_ ?_); (focus (first | (simp; done) | (simp; omega)))))) hb1
    have hbw1 : Below w.heap.size w w1 := by repeat (first | with_reducible assumption | with_reducible exact bw_refl _ | with_reducible refine bw_alloc ?_ _ | with_reducible refine bw_drew ?_ | with_reducible refine bw_drewN _ ?_ | refine bw_set ?_ (by simp; try omega) _ | refine bw_call (by with_reducible assumption) ?_)
    clear hb1
    have a0_0 : w1.cell? ⟨w.heap.size, 0, none⟩ = some (.int .i64 x0) := a0.cell 0
    have a0_1 : w1.cell? ⟨w.heap.size, 1, none⟩ = some (.int .i64 y0) := a0.cell 1
    have a0_2 : w1.cell? ⟨w.heap.size, 2, none⟩ = some (.int .i64 x1) := a0.cell 2
    have a0_3 : w1.cell? ⟨w.heap.size, 3, none⟩ = some (.int .i64 y1) := a0.cell 3
    have a0_4 : w1.cell? ⟨w.heap.size, 4, none⟩ = some (.int .i64 fr) := a0.cell 4
    have a0_5 : w1.cell? ⟨w.heap.size, 5, none⟩ = some (.int .i64 ct) := a0.cell 5
    have a0_f := a0.frozen
    have a0_l := a0.lt
    have m1 : 0 ≤ (x1 - x0 + 1) * (y1 - y0 + 1) := Int.mul_nonneg (by omega) (by omega)
    have m2 : (x1 - x0 + 1) * (y1 - y0 + 1) ≤ 2097153 * 2097153 := Int.mul_le_mul (by omega) (by omega) (by omega) (by omega)
    have m3 : 0 ≤ (x1 - x0 + 1) * (y1 - y0 + 1) * ct := Int.mul_nonneg m1 (by omega)
    have m4 : (x1 - x0 + 1) * (y1 - y0 + 1) * ct ≤ 2097153 * 2097153 * 256 := Int.mul_le_mul m2 (by omega) (by omega) (by omega)
    go_wp2_with fail
    go_ret
    exact ⟨by simp [HS.out], by repeat (first | with_reducible assumption | with_reducible exact bw_refl _ | with_reducible refine bw_alloc ?_ _ | with_reducible refine bw_drew ?_ | with_reducible refine bw_drewN _ ?_ | refine bw_set ?_ (by simp; try omega) _ | refine bw_call (by with_reducible assumption) ?_)⟩

end Go.Proofs.Ytkacggfadalbiaa
