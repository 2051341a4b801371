/- The walk of FrameBoxes. -/
import Derived.Test.YtkacggfadalbiaaLbP
namespace Go.Proofs.Ytkacggfadalbiaa
open Go.RowKit

theorem clip_bd5 (n lo hi : Int) (h : lo ≤ hi) : lo ≤ clipI n lo hi ∧ clipI n lo hi ≤ hi := by unfold clipI; omega

theorem Bk.far6 {w : World} {g b : Nat} {t : TypeId} {cs : Array Value} (h : Bk w g t cs) (hb : g ≠ b) (x0 x1 x2 x3 x4 x5 : Value) :
    Bk ((((((w.setCell ⟨b, 0, none⟩ x0).setCell ⟨b, 1, none⟩ x1).setCell ⟨b, 2, none⟩ x2).setCell ⟨b, 3, none⟩ x3).setCell ⟨b, 4, none⟩ x4).setCell ⟨b, 5, none⟩ x5) g t cs :=
  (((((h.far hb x0).far hb x1).far hb x2).far hb x3).far hb x4).far hb x5

set_option maxRecDepth 100000 in
set_option maxHeartbeats 8000000 in
theorem boxes_walk (Fq Fx Fy X0 Y0 X1 Y1 Fr Ct Px Py Ph : Int) (w : World) :
    Calls Try.prog 11 #[.agg #[.int .i64 Fq, .int .i64 Fx, .int .i64 Fy], .agg #[.int .i64 X0, .int .i64 Y0, .int .i64 X1, .int .i64 Y1, .int .i64 Fr, .int .i64 Ct], .agg #[.int .i64 Px, .int .i64 Py, .int .i64 Ph]] w fun e w' => e = .returned (.bool true) ∧ Below w.heap.size w w' := by
  go_enter Try.func11, Try.ntmps11
  go_wp2_with fail
  refine (awake_any _).mono ?_
  rintro e w1 ⟨rfl, hb1⟩
  have a0 : Bk w1 (w.heap.size) 23 #[.int .i64 Fq, .int .i64 Fx, .int .i64 Fy] := Bk.call (by repeat (first | with_reducible assumption | with_reducible refine Bk.drew ?_ | with_reducible refine Bk.drewN ?_ _ | with_reducible exact Bk.new _ _ _ | with_reducible exact Bk.new1 _ _ _ _ | with_reducible exact Bk.new2 _ _ _ _ _ | with_reducible exact Bk.new3 _ _ _ _ _ _ | with_reducible refine Bk.alloc ?_ _ | with_reducible exact Bk.set6 (by repeat (first | with_reducible assumption | ((with_reducible refine Bk.far' ?_ ?_); (focus (first | (simp; done) | (simp; omega)))) | with_reducible refine Bk.drew ?_ | with_reducible refine Bk.alloc ?_ _)) _ _ _ _ _ _ | with_reducible exact Bk.set3 (by repeat (first | with_reducible assumption | ((with_reducible refine Bk.far' ?_ ?_); (focus (first | (simp; done) | (simp; omega)))) | with_reducible refine Bk.drew ?_ | with_reducible refine Bk.alloc ?_ _)) _ _ _ | with_reducible exact Bk.set2 (by repeat (first | with_reducible assumption | ((with_reducible refine Bk.far' ?_ ?_); (focus (first | (simp; done) | (simp; omega)))) | with_reducible refine Bk.drew ?_ | with_reducible refine Bk.alloc ?_ _)) _ _ | ((with_reducible refine Bk.far' ?_ ?_); (focus (first | (simp; done) | (simp; omega)))))) hb1
  have a1 : Bk w1 (w.heap.size + 1) 76 #[.int .i64 X0, .int .i64 Y0, .int .i64 X1, .int .i64 Y1, .int .i64 Fr, .int .i64 Ct] := Bk.call (by repeat (first | with_reducible assumption | with_reducible refine Bk.drew ?_ | with_reducible refine Bk.drewN ?_ _ | with_reducible exact Bk.new _ _ _ | with_reducible exact Bk.new1 _ _ _ _ | with_reducible exact Bk.new2 _ _ _ _ _ | with_reducible exact Bk.new3 _ _ _ _ _ _ | with_reducible refine Bk.alloc ?_ _ | with_reducible exact Bk.set6 (by repeat (first | with_reducible assumption | ((with_reducible refine Bk.far' ?_ ?_); (focus (first | (simp; done) | (simp; omega)))) | with_reducible refine Bk.drew ?_ | with_reducible refine Bk.alloc ?_ _)) _ _ _ _ _ _ | with_reducible exact Bk.set3 (by repeat (first | with_reducible assumption | ((with_reducible refine Bk.far' ?_ ?_); (focus (first | (simp; done) | (simp; omega)))) | with_reducible refine Bk.drew ?_ | with_reducible refine Bk.alloc ?_ _)) _ _ _ | with_reducible exact Bk.set2 (by repeat (first | with_reducible assumption | ((with_reducible refine Bk.far' ?_ ?_); (focus (first | (simp; done) | (simp; omega)))) | with_reducible refine Bk.drew ?_ | with_reducible refine Bk.alloc ?_ _)) _ _ | ((with_reducible refine Bk.far' ?_ ?_); (focus (first | (simp; done) | (simp; omega)))))) hb1
  have a2 : Bk w1 (w.heap.size + 1 + 1) 42 #[.int .i64 Px, .int .i64 Py, .int .i64 Ph] := Bk.call (by repeat (first | with_reducible assumption | with_reducible refine Bk.drew ?_ | with_reducible refine Bk.drewN ?_ _ | with_reducible exact Bk.new _ _ _ | with_reducible exact Bk.new1 _ _ _ _ | with_reducible exact Bk.new2 _ _ _ _ _ | with_reducible exact Bk.new3 _ _ _ _ _ _ | with_reducible refine Bk.alloc ?_ _ | with_reducible exact Bk.set6 (by repeat (first | with_reducible assumption | ((with_reducible refine Bk.far' ?_ ?_); (focus (first | (simp; done) | (simp; omega)))) | with_reducible refine Bk.drew ?_ | with_reducible refine Bk.alloc ?_ _)) _ _ _ _ _ _ | with_reducible exact Bk.set3 (by repeat (first | with_reducible assumption | ((with_reducible refine Bk.far' ?_ ?_); (focus (first | (simp; done) | (simp; omega)))) | with_reducible refine Bk.drew ?_ | with_reducible refine Bk.alloc ?_ _)) _ _ _ | with_reducible exact Bk.set2 (by repeat (first | with_reducible assumption | ((with_reducible refine Bk.far' ?_ ?_); (focus (first | (simp; done) | (simp; omega)))) | with_reducible refine Bk.drew ?_ | with_reducible refine Bk.alloc ?_ _)) _ _ | ((with_reducible refine Bk.far' ?_ ?_); (focus (first | (simp; done) | (simp; omega)))))) hb1
  have hbw1 : Below w.heap.size w w1 := by repeat (first | with_reducible assumption | with_reducible exact bw_refl _ | with_reducible refine bw_alloc ?_ _ | with_reducible refine bw_drew ?_ | with_reducible refine bw_drewN _ ?_ | refine bw_set ?_ (by simp; try omega) _ | refine bw_call (by with_reducible assumption) ?_)
  clear hb1
  have a0_0 : w1.cell? ⟨w.heap.size, 0, none⟩ = some (.int .i64 Fq) := a0.cell 0
  have a0_1 : w1.cell? ⟨w.heap.size, 1, none⟩ = some (.int .i64 Fx) := a0.cell 1
  have a0_2 : w1.cell? ⟨w.heap.size, 2, none⟩ = some (.int .i64 Fy) := a0.cell 2
  have a0_f := a0.frozen
  have a0_l := a0.lt
  have a1_0 : w1.cell? ⟨w.heap.size + 1, 0, none⟩ = some (.int .i64 X0) := a1.cell 0
  have a1_1 : w1.cell? ⟨w.heap.size + 1, 1, none⟩ = some (.int .i64 Y0) := a1.cell 1
  have a1_2 : w1.cell? ⟨w.heap.size + 1, 2, none⟩ = some (.int .i64 X1) := a1.cell 2
  have a1_3 : w1.cell? ⟨w.heap.size + 1, 3, none⟩ = some (.int .i64 Y1) := a1.cell 3
  have a1_4 : w1.cell? ⟨w.heap.size + 1, 4, none⟩ = some (.int .i64 Fr) := a1.cell 4
  have a1_5 : w1.cell? ⟨w.heap.size + 1, 5, none⟩ = some (.int .i64 Ct) := a1.cell 5
  have a1_f := a1.frozen
  have a1_l := a1.lt
  have a2_0 : w1.cell? ⟨w.heap.size + 1 + 1, 0, none⟩ = some (.int .i64 Px) := a2.cell 0
  have a2_1 : w1.cell? ⟨w.heap.size + 1 + 1, 1, none⟩ = some (.int .i64 Py) := a2.cell 1
  have a2_2 : w1.cell? ⟨w.heap.size + 1 + 1, 2, none⟩ = some (.int .i64 Ph) := a2.cell 2
  have a2_f := a2.frozen
  have a2_l := a2.lt
  go_wp2_with fail
  refine region_grow (fun w0 => Below w1.heap.size w1 w0) 4 (by kernel_rfl) (by kernel_rfl) (by repeat (first | with_reducible assumption | with_reducible exact bw_refl _ | with_reducible refine bw_alloc ?_ _ | with_reducible refine bw_drew ?_ | with_reducible refine bw_drewN _ ?_ | refine bw_set ?_ (by simp; try omega) _ | refine bw_call (by with_reducible assumption) ?_)) ?_
  simp only [List.take_succ_cons, List.take_zero, List.drop_succ_cons, List.drop_zero]
  iterate 4 (first | (refine wpG_ex ?_ ?_; (focus (go_simp; done)); constructor; constructor; (focus (intro w0 hS0; obtain ⟨hSc, hSf⟩ := bcell hS0; go_simp; exact ⟨rfl, hS0⟩)); (focus (intro K hK; go_simp; refine hK _ ?_; clear hK K))) | (refine wpG_ex ?_ ?_; (focus (go_simp; done)); constructor; constructor; (focus (intro w0 hS0; obtain ⟨hSc, hSf⟩ := bcell hS0; go_simp; exact grow_of hS0 (nearf_any _ _ _ _ _ (by omega) (by omega)))); (focus (intro K hK; go_simp; refine hK _ ?_; clear hK K))) | (refine wpG_ex ?_ ?_; (focus (go_simp; done)); constructor; constructor; (focus (intro w0 hS0; obtain ⟨hSc, hSf⟩ := bcell hS0; go_simp; exact grow_of hS0 (place_any _ _ _ _ _ (by omega) (by omega)))); (focus (intro K hK; go_simp; refine hK _ ?_; clear hK K))) | (refine wpG_skip ?_ ?_; (focus (go_simp; done)); intro K hK; go_simp; refine hK _ ?_; clear hK K))
  refine wpG_nil ?_
  intro w2 hSw2
  have fq1 : 0 ≤ Fq % 4 := by omega
  have fq2 : Fq % 4 < 4 := by omega
  generalize Fq % 4 = fq at *
  obtain ⟨fx1, fx2⟩ := clip_bd5 Fx (-1000) 1000 (by omega)
  generalize clipI Fx (-1000) 1000 = fx at *
  obtain ⟨fy1, fy2⟩ := clip_bd5 Fy (-1000) 1000 (by omega)
  generalize clipI Fy (-1000) 1000 = fy at *
  have ph1 : 0 ≤ Ph % 256 := by omega
  have ph2 : Ph % 256 < 256 := by omega
  generalize Ph % 256 = ph at *
  obtain ⟨px1, px2⟩ := clip_bd5 Px (-131072) 131072 (by omega)
  generalize clipI Px (-131072) 131072 = px at *
  obtain ⟨py1, py2⟩ := clip_bd5 Py (-131072) 131072 (by omega)
  generalize clipI Py (-131072) 131072 = py at *
  clear a0_0 a0_1 a0_2 a0_f a0_l a1_0 a1_1 a1_2 a1_3 a1_4 a1_5 a1_f a1_l a2_0 a2_1 a2_2 a2_f a2_l
  replace a0 := a0.call hSw2
  replace a1 := a1.call hSw2
  replace a2 := a2.call hSw2
  have a0_0 : w2.cell? ⟨w.heap.size, 0, none⟩ = some (.int .i64 Fq) := a0.cell 0
  have a0_1 : w2.cell? ⟨w.heap.size, 1, none⟩ = some (.int .i64 Fx) := a0.cell 1
  have a0_2 : w2.cell? ⟨w.heap.size, 2, none⟩ = some (.int .i64 Fy) := a0.cell 2
  have a0_f := a0.frozen
  have a0_l := a0.lt
  have a1_0 : w2.cell? ⟨w.heap.size + 1, 0, none⟩ = some (.int .i64 X0) := a1.cell 0
  have a1_1 : w2.cell? ⟨w.heap.size + 1, 1, none⟩ = some (.int .i64 Y0) := a1.cell 1
  have a1_2 : w2.cell? ⟨w.heap.size + 1, 2, none⟩ = some (.int .i64 X1) := a1.cell 2
  have a1_3 : w2.cell? ⟨w.heap.size + 1, 3, none⟩ = some (.int .i64 Y1) := a1.cell 3
  have a1_4 : w2.cell? ⟨w.heap.size + 1, 4, none⟩ = some (.int .i64 Fr) := a1.cell 4
  have a1_5 : w2.cell? ⟨w.heap.size + 1, 5, none⟩ = some (.int .i64 Ct) := a1.cell 5
  have a1_f := a1.frozen
  have a1_l := a1.lt
  have a2_0 : w2.cell? ⟨w.heap.size + 1 + 1, 0, none⟩ = some (.int .i64 Px) := a2.cell 0
  have a2_1 : w2.cell? ⟨w.heap.size + 1 + 1, 1, none⟩ = some (.int .i64 Py) := a2.cell 1
  have a2_2 : w2.cell? ⟨w.heap.size + 1 + 1, 2, none⟩ = some (.int .i64 Ph) := a2.cell 2
  have a2_f := a2.frozen
  have a2_l := a2.lt
  have hbw2 : Below w.heap.size w w2 := by repeat (first | with_reducible assumption | with_reducible exact bw_refl _ | with_reducible refine bw_alloc ?_ _ | with_reducible refine bw_drew ?_ | with_reducible refine bw_drewN _ ?_ | refine bw_set ?_ (by simp; try omega) _ | refine bw_call (by with_reducible assumption) ?_)
  clear hSw2 hbw1
  go_wp2_with fail
  refine abs_world (fun W3 => Below w.heap.size w W3 ∧ Bk W3 (w.heap.size) 23 #[.int .i64 fq, .int .i64 fx, .int .i64 fy] ∧ Bk W3 (w.heap.size + 1) 76 #[.int .i64 X0, .int .i64 Y0, .int .i64 X1, .int .i64 Y1, .int .i64 Fr, .int .i64 Ct] ∧ Bk W3 (w.heap.size + 1 + 1) 42 #[.int .i64 px, .int .i64 py, .int .i64 ph]) ⟨by repeat (first | with_reducible assumption | with_reducible exact bw_refl _ | with_reducible refine bw_alloc ?_ _ | with_reducible refine bw_drew ?_ | with_reducible refine bw_drewN _ ?_ | refine bw_set ?_ (by simp; try omega) _ | refine bw_call (by with_reducible assumption) ?_), by repeat (first | with_reducible assumption | with_reducible refine Bk.drew ?_ | with_reducible refine Bk.drewN ?_ _ | with_reducible exact Bk.new _ _ _ | with_reducible exact Bk.new1 _ _ _ _ | with_reducible exact Bk.new2 _ _ _ _ _ | with_reducible exact Bk.new3 _ _ _ _ _ _ | with_reducible refine Bk.alloc ?_ _ | with_reducible exact Bk.set6 (by repeat (first | with_reducible assumption | ((with_reducible refine Bk.far' ?_ ?_); (focus (first | (simp; done) | (simp; omega)))) | with_reducible refine Bk.drew ?_ | with_reducible refine Bk.alloc ?_ _)) _ _ _ _ _ _ | with_reducible exact Bk.set3 (by repeat (first | with_reducible assumption | ((with_reducible refine Bk.far' ?_ ?_); (focus (first | (simp; done) | (simp; omega)))) | with_reducible refine Bk.drew ?_ | with_reducible refine Bk.alloc ?_ _)) _ _ _ | with_reducible exact Bk.set2 (by repeat (first | with_reducible assumption | ((with_reducible refine Bk.far' ?_ ?_); (focus (first | (simp; done) | (simp; omega)))) | with_reducible refine Bk.drew ?_ | with_reducible refine Bk.alloc ?_ _)) _ _ | ((with_reducible refine Bk.far' ?_ ?_); (focus (first | (simp; done) | (simp; omega))))), by repeat (first | with_reducible assumption | with_reducible refine Bk.drew ?_ | with_reducible refine Bk.drewN ?_ _ | with_reducible exact Bk.new _ _ _ | with_reducible exact Bk.new1 _ _ _ _ | with_reducible exact Bk.new2 _ _ _ _ _ | with_reducible exact Bk.new3 _ _ _ _ _ _ | with_reducible refine Bk.alloc ?_ _ | with_reducible exact Bk.set6 (by repeat (first | with_reducible assumption | ((with_reducible refine Bk.far' ?_ ?_); (focus (first | (simp; done) | (simp; omega)))) | with_reducible refine Bk.drew ?_ | with_reducible refine Bk.alloc ?_ _)) _ _ _ _ _ _ | with_reducible exact Bk.set3 (by repeat (first | with_reducible assumption | ((with_reducible refine Bk.far' ?_ ?_); (focus (first | (simp; done) | (simp; omega)))) | with_reducible refine Bk.drew ?_ | with_reducible refine Bk.alloc ?_ _)) _ _ _ | with_reducible exact Bk.set2 (by repeat (first | with_reducible assumption | ((with_reducible refine Bk.far' ?_ ?_); (focus (first | (simp; done) | (simp; omega)))) | with_reducible refine Bk.drew ?_ | with_reducible refine Bk.alloc ?_ _)) _ _ | ((with_reducible refine Bk.far' ?_ ?_); (focus (first | (simp; done) | (simp; omega))))), by repeat (first | with_reducible assumption | with_reducible refine Bk.drew ?_ | with_reducible refine Bk.drewN ?_ _ | with_reducible exact Bk.new _ _ _ | with_reducible exact Bk.new1 _ _ _ _ | with_reducible exact Bk.new2 _ _ _ _ _ | with_reducible exact Bk.new3 _ _ _ _ _ _ | with_reducible refine Bk.alloc ?_ _ | with_reducible exact Bk.set6 (by repeat (first | with_reducible assumption | ((with_reducible refine Bk.far' ?_ ?_); (focus (first | (simp; done) | (simp; omega)))) | with_reducible refine Bk.drew ?_ | with_reducible refine Bk.alloc ?_ _)) _ _ _ _ _ _ | with_reducible exact Bk.set3 (by repeat (first | with_reducible assumption | ((with_reducible refine Bk.far' ?_ ?_); (focus (first | (simp; done) | (simp; omega)))) | with_reducible refine Bk.drew ?_ | with_reducible refine Bk.alloc ?_ _)) _ _ _ | with_reducible exact Bk.set2 (by repeat (first | with_reducible assumption | ((with_reducible refine Bk.far' ?_ ?_); (focus (first | (simp; done) | (simp; omega)))) | with_reducible refine Bk.drew ?_ | with_reducible refine Bk.alloc ?_ _)) _ _ | ((with_reducible refine Bk.far' ?_ ?_); (focus (first | (simp; done) | (simp; omega)))))⟩ ?_
  clear a0 a0_0 a0_1 a0_2 a0_f a0_l a1 a1_0 a1_1 a1_2 a1_3 a1_4 a1_5 a1_f a1_l a2 a2_0 a2_1 a2_2 a2_f a2_l
  rintro W3 ⟨hbW3, b0, b1, b2⟩
  have b0_0 : W3.cell? ⟨w.heap.size, 0, none⟩ = some (.int .i64 fq) := b0.cell 0
  have b0_1 : W3.cell? ⟨w.heap.size, 1, none⟩ = some (.int .i64 fx) := b0.cell 1
  have b0_2 : W3.cell? ⟨w.heap.size, 2, none⟩ = some (.int .i64 fy) := b0.cell 2
  have b0_f := b0.frozen
  have b0_l := b0.lt
  have b1_0 : W3.cell? ⟨w.heap.size + 1, 0, none⟩ = some (.int .i64 X0) := b1.cell 0
  have b1_1 : W3.cell? ⟨w.heap.size + 1, 1, none⟩ = some (.int .i64 Y0) := b1.cell 1
  have b1_2 : W3.cell? ⟨w.heap.size + 1, 2, none⟩ = some (.int .i64 X1) := b1.cell 2
  have b1_3 : W3.cell? ⟨w.heap.size + 1, 3, none⟩ = some (.int .i64 Y1) := b1.cell 3
  have b1_4 : W3.cell? ⟨w.heap.size + 1, 4, none⟩ = some (.int .i64 Fr) := b1.cell 4
  have b1_5 : W3.cell? ⟨w.heap.size + 1, 5, none⟩ = some (.int .i64 Ct) := b1.cell 5
  have b1_f := b1.frozen
  have b1_l := b1.lt
  have b2_0 : W3.cell? ⟨w.heap.size + 1 + 1, 0, none⟩ = some (.int .i64 px) := b2.cell 0
  have b2_1 : W3.cell? ⟨w.heap.size + 1 + 1, 1, none⟩ = some (.int .i64 py) := b2.cell 1
  have b2_2 : W3.cell? ⟨w.heap.size + 1 + 1, 2, none⟩ = some (.int .i64 ph) := b2.cell 2
  have b2_f := b2.frozen
  have b2_l := b2.lt
  clear hbw2
  refine region_grow (fun w0 => Below W3.heap.size W3 w0) 6 (by kernel_rfl) (by kernel_rfl) (by repeat (first | with_reducible assumption | with_reducible exact bw_refl _ | with_reducible refine bw_alloc ?_ _ | with_reducible refine bw_drew ?_ | with_reducible refine bw_drewN _ ?_ | refine bw_set ?_ (by simp; try omega) _ | refine bw_call (by with_reducible assumption) ?_)) ?_
  simp only [List.take_succ_cons, List.take_zero, List.drop_succ_cons, List.drop_zero]
  iterate 6 (first | (refine wpG_ex ?_ ?_; (focus (go_simp; done)); constructor; constructor; (focus (intro w0 hS0; obtain ⟨hSc, hSf⟩ := bcell hS0; go_simp; exact ⟨rfl, hS0⟩)); (focus (intro K hK; go_simp; refine hK _ ?_; clear hK K))) | (refine wpG_ex ?_ ?_; (focus (go_simp; done)); constructor; constructor; (focus (intro w0 hS0; obtain ⟨hSc, hSf⟩ := bcell hS0; go_simp; exact grow_still hS0 (clip_any _ _ _ _))); (focus (intro K hK; go_simp; refine hK _ ?_; clear hK K))) | (refine wpG_skip ?_ ?_; (focus (go_simp; done)); intro K hK; go_simp; refine hK _ ?_; clear hK K))
  refine wpG_nil ?_
  intro w4 hSw4
  obtain ⟨x01, x02⟩ := clip_bd5 X0 (-65536) 65536 (by omega)
  generalize clipI X0 (-65536) 65536 = x0 at *
  obtain ⟨y01, y02⟩ := clip_bd5 Y0 (-65536) 65536 (by omega)
  generalize clipI Y0 (-65536) 65536 = y0 at *
  clear b0_0 b0_1 b0_2 b0_f b0_l b1_0 b1_1 b1_2 b1_3 b1_4 b1_5 b1_f b1_l b2_0 b2_1 b2_2 b2_f b2_l
  replace b0 := b0.call hSw4
  replace b1 := b1.call hSw4
  replace b2 := b2.call hSw4
  have b0_0 : w4.cell? ⟨w.heap.size, 0, none⟩ = some (.int .i64 fq) := b0.cell 0
  have b0_1 : w4.cell? ⟨w.heap.size, 1, none⟩ = some (.int .i64 fx) := b0.cell 1
  have b0_2 : w4.cell? ⟨w.heap.size, 2, none⟩ = some (.int .i64 fy) := b0.cell 2
  have b0_f := b0.frozen
  have b0_l := b0.lt
  have b1_0 : w4.cell? ⟨w.heap.size + 1, 0, none⟩ = some (.int .i64 X0) := b1.cell 0
  have b1_1 : w4.cell? ⟨w.heap.size + 1, 1, none⟩ = some (.int .i64 Y0) := b1.cell 1
  have b1_2 : w4.cell? ⟨w.heap.size + 1, 2, none⟩ = some (.int .i64 X1) := b1.cell 2
  have b1_3 : w4.cell? ⟨w.heap.size + 1, 3, none⟩ = some (.int .i64 Y1) := b1.cell 3
  have b1_4 : w4.cell? ⟨w.heap.size + 1, 4, none⟩ = some (.int .i64 Fr) := b1.cell 4
  have b1_5 : w4.cell? ⟨w.heap.size + 1, 5, none⟩ = some (.int .i64 Ct) := b1.cell 5
  have b1_f := b1.frozen
  have b1_l := b1.lt
  have b2_0 : w4.cell? ⟨w.heap.size + 1 + 1, 0, none⟩ = some (.int .i64 px) := b2.cell 0
  have b2_1 : w4.cell? ⟨w.heap.size + 1 + 1, 1, none⟩ = some (.int .i64 py) := b2.cell 1
  have b2_2 : w4.cell? ⟨w.heap.size + 1 + 1, 2, none⟩ = some (.int .i64 ph) := b2.cell 2
  have b2_f := b2.frozen
  have b2_l := b2.lt
  have hbw4 : Below w.heap.size w w4 := by repeat (first | with_reducible assumption | with_reducible exact bw_refl _ | with_reducible refine bw_alloc ?_ _ | with_reducible refine bw_drew ?_ | with_reducible refine bw_drewN _ ?_ | refine bw_set ?_ (by simp; try omega) _ | refine bw_call (by with_reducible assumption) ?_)
  clear hSw4 hbW3
  go_wp2_with fail
  obtain ⟨dx1, dx2⟩ := clip_bd5 X1 0 1000 (by omega)
  obtain ⟨dy1, dy2⟩ := clip_bd5 Y1 0 1000 (by omega)
  obtain ⟨ct1, ct2⟩ := clip_bd5 Ct 1 255 (by omega)
  have fr1 : 0 ≤ Fr % 256 := by omega
  have fr2 : Fr % 256 < 256 := by omega
  have HM := Lib.hid (fun n W => mod_any n 256 W (by omega) (by omega))
  have e1 : IntKind.i64.wrap (x0 + clipI X1 0 1000) = x0 + clipI X1 0 1000 := IntWalk.i64_in _ (by omega)
  have e2 : IntKind.i64.wrap (y0 + clipI Y1 0 1000) = y0 + clipI Y1 0 1000 := IntWalk.i64_in _ (by omega)
  refine region_grow (fun w0 => Below w4.heap.size w4 w0) 19 (by kernel_rfl) (by kernel_rfl) (by repeat (first | with_reducible assumption | with_reducible exact bw_refl _ | with_reducible refine bw_alloc ?_ _ | with_reducible refine bw_drew ?_ | with_reducible refine bw_drewN _ ?_ | refine bw_set ?_ (by simp; try omega) _ | refine bw_call (by with_reducible assumption) ?_)) ?_
  simp only [List.take_succ_cons, List.take_zero, List.drop_succ_cons, List.drop_zero]
  iterate 19 (first | (refine wpG_ex ?_ ?_; (focus (go_simp; done)); constructor; constructor; (focus (intro w0 hS0; obtain ⟨hSc, hSf⟩ := bcell hS0; go_simp; exact ⟨rfl, hS0⟩)); (focus (intro K hK; go_simp; refine hK _ ?_; clear hK K))) | (refine wpG_ex ?_ ?_; (focus (go_simp; done)); constructor; constructor; (focus (intro w0 hS0; obtain ⟨hSc, hSf⟩ := bcell hS0; go_simp; exact grow_still hS0 (clip_any _ _ _ _))); (focus (intro K hK; go_simp; refine hK _ ?_; clear hK K))) | (refine wpG_ex ?_ ?_; (focus (go_simp; done)); constructor; constructor; (focus (intro w0 hS0; obtain ⟨hSc, hSf⟩ := bcell hS0; go_simp; exact grow_still hS0 (HM.out _ _))); (focus (intro K hK; go_simp; refine hK _ ?_; clear hK K))) | (refine wpG_skip ?_ ?_; (focus (go_simp; done)); intro K hK; go_simp; refine hK _ ?_; clear hK K))
  refine wpG_nil ?_
  intro w5 hSw5
  clear e1 e2 HM
  generalize hx1 : x0 + clipI X1 0 1000 = x1 at *
  generalize hy1 : y0 + clipI Y1 0 1000 = y1 at *
  generalize clipI Ct 1 255 = ct at *
  generalize Fr % 256 = fr at *
  have x11 : x0 ≤ x1 := by omega
  have x12 : x1 ≤ 66536 := by omega
  have y11 : y0 ≤ y1 := by omega
  have y12 : y1 ≤ 66536 := by omega
  clear hx1 hy1 dx1 dx2 dy1 dy2
  clear b0_0 b0_1 b0_2 b0_f b0_l b1_0 b1_1 b1_2 b1_3 b1_4 b1_5 b1_f b1_l b2_0 b2_1 b2_2 b2_f b2_l
  replace b0 := b0.call hSw5
  replace b1 := b1.call hSw5
  replace b2 := b2.call hSw5
  have b0_0 : w5.cell? ⟨w.heap.size, 0, none⟩ = some (.int .i64 fq) := b0.cell 0
  have b0_1 : w5.cell? ⟨w.heap.size, 1, none⟩ = some (.int .i64 fx) := b0.cell 1
  have b0_2 : w5.cell? ⟨w.heap.size, 2, none⟩ = some (.int .i64 fy) := b0.cell 2
  have b0_f := b0.frozen
  have b0_l := b0.lt
  have b1_0 : w5.cell? ⟨w.heap.size + 1, 0, none⟩ = some (.int .i64 X0) := b1.cell 0
  have b1_1 : w5.cell? ⟨w.heap.size + 1, 1, none⟩ = some (.int .i64 Y0) := b1.cell 1
  have b1_2 : w5.cell? ⟨w.heap.size + 1, 2, none⟩ = some (.int .i64 X1) := b1.cell 2
  have b1_3 : w5.cell? ⟨w.heap.size + 1, 3, none⟩ = some (.int .i64 Y1) := b1.cell 3
  have b1_4 : w5.cell? ⟨w.heap.size + 1, 4, none⟩ = some (.int .i64 Fr) := b1.cell 4
  have b1_5 : w5.cell? ⟨w.heap.size + 1, 5, none⟩ = some (.int .i64 Ct) := b1.cell 5
  have b1_f := b1.frozen
  have b1_l := b1.lt
  have b2_0 : w5.cell? ⟨w.heap.size + 1 + 1, 0, none⟩ = some (.int .i64 px) := b2.cell 0
  have b2_1 : w5.cell? ⟨w.heap.size + 1 + 1, 1, none⟩ = some (.int .i64 py) := b2.cell 1
  have b2_2 : w5.cell? ⟨w.heap.size + 1 + 1, 2, none⟩ = some (.int .i64 ph) := b2.cell 2
  have b2_f := b2.frozen
  have b2_l := b2.lt
  have hbw5 : Below w.heap.size w w5 := by repeat (first | with_reducible assumption | with_reducible exact bw_refl _ | with_reducible refine bw_alloc ?_ _ | with_reducible refine bw_drew ?_ | with_reducible refine bw_drewN _ ?_ | refine bw_set ?_ (by simp; try omega) _ | refine bw_call (by with_reducible assumption) ?_)
  clear hSw5 hbw4
  go_wp2_with fail
  refine (Box_ok 1000 66536 _ _ _ _ _ _ _ _ _ _ (by omega) (by omega) (by omega) (by omega) (by omega) (by omega) (by omega) (by omega) (by omega) (by omega) (by omega) (by omega) (by omega) (by omega) (by omega) (by omega) (by omega)).mono ?_
  rintro e w6 ⟨c0, c1, c2, c3, c4, c5, rfl, Hc, hb6⟩
  have f0b : Bk w6 (w.heap.size) 23 #[.int .i64 fq, .int .i64 fx, .int .i64 fy] := Bk.call (Bk.far6 b0 (by omega) _ _ _ _ _ _) hb6
  have b0b : Bk w6 (w.heap.size + 1) 76 #[.int .i64 x0, .int .i64 y0, .int .i64 x1, .int .i64 y1, .int .i64 fr, .int .i64 ct] := Bk.call (Bk.set6 b1 _ _ _ _ _ _) hb6
  have p0b : Bk w6 (w.heap.size + 1 + 1) 42 #[.int .i64 px, .int .i64 py, .int .i64 ph] := Bk.call (Bk.far6 b2 (by omega) _ _ _ _ _ _) hb6
  have hbw6 : Below w.heap.size w w6 := by repeat (first | with_reducible assumption | with_reducible exact bw_refl _ | with_reducible refine bw_alloc ?_ _ | with_reducible refine bw_drew ?_ | with_reducible refine bw_drewN _ ?_ | refine bw_set ?_ (by simp; try omega) _ | refine bw_call (by with_reducible assumption) ?_)
  clear b0 b0_0 b0_1 b0_2 b0_f b0_l b1 b1_0 b1_1 b1_2 b1_3 b1_4 b1_5 b1_f b1_l b2 b2_0 b2_1 b2_2 b2_f b2_l hbw5 hb6
  have f0b_0 : w6.cell? ⟨w.heap.size, 0, none⟩ = some (.int .i64 fq) := f0b.cell 0
  have f0b_1 : w6.cell? ⟨w.heap.size, 1, none⟩ = some (.int .i64 fx) := f0b.cell 1
  have f0b_2 : w6.cell? ⟨w.heap.size, 2, none⟩ = some (.int .i64 fy) := f0b.cell 2
  have f0b_f := f0b.frozen
  have f0b_l := f0b.lt
  have b0b_0 : w6.cell? ⟨w.heap.size + 1, 0, none⟩ = some (.int .i64 x0) := b0b.cell 0
  have b0b_1 : w6.cell? ⟨w.heap.size + 1, 1, none⟩ = some (.int .i64 y0) := b0b.cell 1
  have b0b_2 : w6.cell? ⟨w.heap.size + 1, 2, none⟩ = some (.int .i64 x1) := b0b.cell 2
  have b0b_3 : w6.cell? ⟨w.heap.size + 1, 3, none⟩ = some (.int .i64 y1) := b0b.cell 3
  have b0b_4 : w6.cell? ⟨w.heap.size + 1, 4, none⟩ = some (.int .i64 fr) := b0b.cell 4
  have b0b_5 : w6.cell? ⟨w.heap.size + 1, 5, none⟩ = some (.int .i64 ct) := b0b.cell 5
  have b0b_f := b0b.frozen
  have b0b_l := b0b.lt
  have p0b_0 : w6.cell? ⟨w.heap.size + 1 + 1, 0, none⟩ = some (.int .i64 px) := p0b.cell 0
  have p0b_1 : w6.cell? ⟨w.heap.size + 1 + 1, 1, none⟩ = some (.int .i64 py) := p0b.cell 1
  have p0b_2 : w6.cell? ⟨w.heap.size + 1 + 1, 2, none⟩ = some (.int .i64 ph) := p0b.cell 2
  have p0b_f := p0b.frozen
  have p0b_l := p0b.lt
  go_wp2_with fail
  refine (Pose_ok2 1000 131072 _ _ _ _ _ _ _ (by omega) (by omega) (by omega) (by omega) (by omega) (by omega) (by omega) (by omega) (by omega) (by omega) (by omega) (by omega)).mono ?_
  rintro e w7 ⟨qx, qy, qh, rfl, Hq, ⟨qh1, qh2, qx1, qx2, qy1, qy2⟩, hb7⟩
  have f1b : Bk w7 (w.heap.size) 23 #[.int .i64 fq, .int .i64 fx, .int .i64 fy] := Bk.call (by repeat (first | with_reducible assumption | with_reducible refine Bk.drew ?_ | with_reducible refine Bk.drewN ?_ _ | with_reducible exact Bk.new _ _ _ | with_reducible exact Bk.new1 _ _ _ _ | with_reducible exact Bk.new2 _ _ _ _ _ | with_reducible exact Bk.new3 _ _ _ _ _ _ | with_reducible refine Bk.alloc ?_ _ | with_reducible exact Bk.set6 (by repeat (first | with_reducible assumption | ((with_reducible refine Bk.far' ?_ ?_); (focus (first | (simp; done) | (simp; omega)))) | with_reducible refine Bk.drew ?_ | with_reducible refine Bk.alloc ?_ _)) _ _ _ _ _ _ | with_reducible exact Bk.set3 (by repeat (first | with_reducible assumption | ((with_reducible refine Bk.far' ?_ ?_); (focus (first | (simp; done) | (simp; omega)))) | with_reducible refine Bk.drew ?_ | with_reducible refine Bk.alloc ?_ _)) _ _ _ | with_reducible exact Bk.set2 (by repeat (first | with_reducible assumption | ((with_reducible refine Bk.far' ?_ ?_); (focus (first | (simp; done) | (simp; omega)))) | with_reducible refine Bk.drew ?_ | with_reducible refine Bk.alloc ?_ _)) _ _ | ((with_reducible refine Bk.far' ?_ ?_); (focus (first | (simp; done) | (simp; omega)))))) hb7
  have b1b : Bk w7 (w.heap.size + 1) 76 #[.int .i64 x0, .int .i64 y0, .int .i64 x1, .int .i64 y1, .int .i64 fr, .int .i64 ct] := Bk.call (by repeat (first | with_reducible assumption | with_reducible refine Bk.drew ?_ | with_reducible refine Bk.drewN ?_ _ | with_reducible exact Bk.new _ _ _ | with_reducible exact Bk.new1 _ _ _ _ | with_reducible exact Bk.new2 _ _ _ _ _ | with_reducible exact Bk.new3 _ _ _ _ _ _ | with_reducible refine Bk.alloc ?_ _ | with_reducible exact Bk.set6 (by repeat (first | with_reducible assumption | ((with_reducible refine Bk.far' ?_ ?_); (focus (first | (simp; done) | (simp; omega)))) | with_reducible refine Bk.drew ?_ | with_reducible refine Bk.alloc ?_ _)) _ _ _ _ _ _ | with_reducible exact Bk.set3 (by repeat (first | with_reducible assumption | ((with_reducible refine Bk.far' ?_ ?_); (focus (first | (simp; done) | (simp; omega)))) | with_reducible refine Bk.drew ?_ | with_reducible refine Bk.alloc ?_ _)) _ _ _ | with_reducible exact Bk.set2 (by repeat (first | with_reducible assumption | ((with_reducible refine Bk.far' ?_ ?_); (focus (first | (simp; done) | (simp; omega)))) | with_reducible refine Bk.drew ?_ | with_reducible refine Bk.alloc ?_ _)) _ _ | ((with_reducible refine Bk.far' ?_ ?_); (focus (first | (simp; done) | (simp; omega)))))) hb7
  have p1b : Bk w7 (w.heap.size + 1 + 1) 42 #[.int .i64 px, .int .i64 py, .int .i64 ph] := Bk.call (by repeat (first | with_reducible assumption | with_reducible refine Bk.drew ?_ | with_reducible refine Bk.drewN ?_ _ | with_reducible exact Bk.new _ _ _ | with_reducible exact Bk.new1 _ _ _ _ | with_reducible exact Bk.new2 _ _ _ _ _ | with_reducible exact Bk.new3 _ _ _ _ _ _ | with_reducible refine Bk.alloc ?_ _ | with_reducible exact Bk.set6 (by repeat (first | with_reducible assumption | ((with_reducible refine Bk.far' ?_ ?_); (focus (first | (simp; done) | (simp; omega)))) | with_reducible refine Bk.drew ?_ | with_reducible refine Bk.alloc ?_ _)) _ _ _ _ _ _ | with_reducible exact Bk.set3 (by repeat (first | with_reducible assumption | ((with_reducible refine Bk.far' ?_ ?_); (focus (first | (simp; done) | (simp; omega)))) | with_reducible refine Bk.drew ?_ | with_reducible refine Bk.alloc ?_ _)) _ _ _ | with_reducible exact Bk.set2 (by repeat (first | with_reducible assumption | ((with_reducible refine Bk.far' ?_ ?_); (focus (first | (simp; done) | (simp; omega)))) | with_reducible refine Bk.drew ?_ | with_reducible refine Bk.alloc ?_ _)) _ _ | ((with_reducible refine Bk.far' ?_ ?_); (focus (first | (simp; done) | (simp; omega)))))) hb7
  have c1b : Bk w7 (w6.heap.size) 76 #[.int .i64 c0, .int .i64 c1, .int .i64 c2, .int .i64 c3, .int .i64 c4, .int .i64 c5] := Bk.call (by repeat (first | with_reducible assumption | with_reducible refine Bk.drew ?_ | with_reducible refine Bk.drewN ?_ _ | with_reducible exact Bk.new _ _ _ | with_reducible exact Bk.new1 _ _ _ _ | with_reducible exact Bk.new2 _ _ _ _ _ | with_reducible exact Bk.new3 _ _ _ _ _ _ | with_reducible refine Bk.alloc ?_ _ | with_reducible exact Bk.set6 (by repeat (first | with_reducible assumption | ((with_reducible refine Bk.far' ?_ ?_); (focus (first | (simp; done) | (simp; omega)))) | with_reducible refine Bk.drew ?_ | with_reducible refine Bk.alloc ?_ _)) _ _ _ _ _ _ | with_reducible exact Bk.set3 (by repeat (first | with_reducible assumption | ((with_reducible refine Bk.far' ?_ ?_); (focus (first | (simp; done) | (simp; omega)))) | with_reducible refine Bk.drew ?_ | with_reducible refine Bk.alloc ?_ _)) _ _ _ | with_reducible exact Bk.set2 (by repeat (first | with_reducible assumption | ((with_reducible refine Bk.far' ?_ ?_); (focus (first | (simp; done) | (simp; omega)))) | with_reducible refine Bk.drew ?_ | with_reducible refine Bk.alloc ?_ _)) _ _ | ((with_reducible refine Bk.far' ?_ ?_); (focus (first | (simp; done) | (simp; omega)))))) hb7
  have hbw7 : Below w.heap.size w w7 := by repeat (first | with_reducible assumption | with_reducible exact bw_refl _ | with_reducible refine bw_alloc ?_ _ | with_reducible refine bw_drew ?_ | with_reducible refine bw_drewN _ ?_ | refine bw_set ?_ (by simp; try omega) _ | refine bw_call (by with_reducible assumption) ?_)
  clear f0b f0b_0 f0b_1 f0b_2 f0b_f f0b_l b0b b0b_0 b0b_1 b0b_2 b0b_3 b0b_4 b0b_5 b0b_f b0b_l p0b p0b_0 p0b_1 p0b_2 p0b_f p0b_l hbw6 hb7
  have f1b_0 : w7.cell? ⟨w.heap.size, 0, none⟩ = some (.int .i64 fq) := f1b.cell 0
  have f1b_1 : w7.cell? ⟨w.heap.size, 1, none⟩ = some (.int .i64 fx) := f1b.cell 1
  have f1b_2 : w7.cell? ⟨w.heap.size, 2, none⟩ = some (.int .i64 fy) := f1b.cell 2
  have f1b_f := f1b.frozen
  have f1b_l := f1b.lt
  have b1b_0 : w7.cell? ⟨w.heap.size + 1, 0, none⟩ = some (.int .i64 x0) := b1b.cell 0
  have b1b_1 : w7.cell? ⟨w.heap.size + 1, 1, none⟩ = some (.int .i64 y0) := b1b.cell 1
  have b1b_2 : w7.cell? ⟨w.heap.size + 1, 2, none⟩ = some (.int .i64 x1) := b1b.cell 2
  have b1b_3 : w7.cell? ⟨w.heap.size + 1, 3, none⟩ = some (.int .i64 y1) := b1b.cell 3
  have b1b_4 : w7.cell? ⟨w.heap.size + 1, 4, none⟩ = some (.int .i64 fr) := b1b.cell 4
  have b1b_5 : w7.cell? ⟨w.heap.size + 1, 5, none⟩ = some (.int .i64 ct) := b1b.cell 5
  have b1b_f := b1b.frozen
  have b1b_l := b1b.lt
  have p1b_0 : w7.cell? ⟨w.heap.size + 1 + 1, 0, none⟩ = some (.int .i64 px) := p1b.cell 0
  have p1b_1 : w7.cell? ⟨w.heap.size + 1 + 1, 1, none⟩ = some (.int .i64 py) := p1b.cell 1
  have p1b_2 : w7.cell? ⟨w.heap.size + 1 + 1, 2, none⟩ = some (.int .i64 ph) := p1b.cell 2
  have p1b_f := p1b.frozen
  have p1b_l := p1b.lt
  have c1b_0 : w7.cell? ⟨w6.heap.size, 0, none⟩ = some (.int .i64 c0) := c1b.cell 0
  have c1b_1 : w7.cell? ⟨w6.heap.size, 1, none⟩ = some (.int .i64 c1) := c1b.cell 1
  have c1b_2 : w7.cell? ⟨w6.heap.size, 2, none⟩ = some (.int .i64 c2) := c1b.cell 2
  have c1b_3 : w7.cell? ⟨w6.heap.size, 3, none⟩ = some (.int .i64 c3) := c1b.cell 3
  have c1b_4 : w7.cell? ⟨w6.heap.size, 4, none⟩ = some (.int .i64 c4) := c1b.cell 4
  have c1b_5 : w7.cell? ⟨w6.heap.size, 5, none⟩ = some (.int .i64 c5) := c1b.cell 5
  have c1b_f := c1b.frozen
  have c1b_l := c1b.lt
  go_wp2_with fail
  refine (Pose_ok2 1000 66536 _ _ _ _ _ _ _ (by omega) (by omega) (by omega) (by omega) (by omega) (by omega) (by omega) (by omega) (by omega) (by omega) (by omega) (by omega)).mono ?_
  rintro e w8 ⟨kx, ky, kh, rfl, Hk, ⟨kh1, kh2, kx1, kx2, ky1, ky2⟩, hb8⟩
  have b2b : Bk w8 (w.heap.size + 1) 76 #[.int .i64 x0, .int .i64 y0, .int .i64 x1, .int .i64 y1, .int .i64 fr, .int .i64 ct] := Bk.call (by repeat (first | with_reducible assumption | with_reducible refine Bk.drew ?_ | with_reducible refine Bk.drewN ?_ _ | with_reducible exact Bk.new _ _ _ | with_reducible exact Bk.new1 _ _ _ _ | with_reducible exact Bk.new2 _ _ _ _ _ | with_reducible exact Bk.new3 _ _ _ _ _ _ | with_reducible refine Bk.alloc ?_ _ | with_reducible exact Bk.set6 (by repeat (first | with_reducible assumption | ((with_reducible refine Bk.far' ?_ ?_); (focus (first | (simp; done) | (simp; omega)))) | with_reducible refine Bk.drew ?_ | with_reducible refine Bk.alloc ?_ _)) _ _ _ _ _ _ | with_reducible exact Bk.set3 (by repeat (first | with_reducible assumption | ((with_reducible refine Bk.far' ?_ ?_); (focus (first | (simp; done) | (simp; omega)))) | with_reducible refine Bk.drew ?_ | with_reducible refine Bk.alloc ?_ _)) _ _ _ | with_reducible exact Bk.set2 (by repeat (first | with_reducible assumption | ((with_reducible refine Bk.far' ?_ ?_); (focus (first | (simp; done) | (simp; omega)))) | with_reducible refine Bk.drew ?_ | with_reducible refine Bk.alloc ?_ _)) _ _ | ((with_reducible refine Bk.far' ?_ ?_); (focus (first | (simp; done) | (simp; omega)))))) hb8
  have p2b : Bk w8 (w.heap.size + 1 + 1) 42 #[.int .i64 px, .int .i64 py, .int .i64 ph] := Bk.call (by repeat (first | with_reducible assumption | with_reducible refine Bk.drew ?_ | with_reducible refine Bk.drewN ?_ _ | with_reducible exact Bk.new _ _ _ | with_reducible exact Bk.new1 _ _ _ _ | with_reducible exact Bk.new2 _ _ _ _ _ | with_reducible exact Bk.new3 _ _ _ _ _ _ | with_reducible refine Bk.alloc ?_ _ | with_reducible exact Bk.set6 (by repeat (first | with_reducible assumption | ((with_reducible refine Bk.far' ?_ ?_); (focus (first | (simp; done) | (simp; omega)))) | with_reducible refine Bk.drew ?_ | with_reducible refine Bk.alloc ?_ _)) _ _ _ _ _ _ | with_reducible exact Bk.set3 (by repeat (first | with_reducible assumption | ((with_reducible refine Bk.far' ?_ ?_); (focus (first | (simp; done) | (simp; omega)))) | with_reducible refine Bk.drew ?_ | with_reducible refine Bk.alloc ?_ _)) _ _ _ | with_reducible exact Bk.set2 (by repeat (first | with_reducible assumption | ((with_reducible refine Bk.far' ?_ ?_); (focus (first | (simp; done) | (simp; omega)))) | with_reducible refine Bk.drew ?_ | with_reducible refine Bk.alloc ?_ _)) _ _ | ((with_reducible refine Bk.far' ?_ ?_); (focus (first | (simp; done) | (simp; omega)))))) hb8
  have c2b : Bk w8 (w6.heap.size) 76 #[.int .i64 c0, .int .i64 c1, .int .i64 c2, .int .i64 c3, .int .i64 c4, .int .i64 c5] := Bk.call (by repeat (first | with_reducible assumption | with_reducible refine Bk.drew ?_ | with_reducible refine Bk.drewN ?_ _ | with_reducible exact Bk.new _ _ _ | with_reducible exact Bk.new1 _ _ _ _ | with_reducible exact Bk.new2 _ _ _ _ _ | with_reducible exact Bk.new3 _ _ _ _ _ _ | with_reducible refine Bk.alloc ?_ _ | with_reducible exact Bk.set6 (by repeat (first | with_reducible assumption | ((with_reducible refine Bk.far' ?_ ?_); (focus (first | (simp; done) | (simp; omega)))) | with_reducible refine Bk.drew ?_ | with_reducible refine Bk.alloc ?_ _)) _ _ _ _ _ _ | with_reducible exact Bk.set3 (by repeat (first | with_reducible assumption | ((with_reducible refine Bk.far' ?_ ?_); (focus (first | (simp; done) | (simp; omega)))) | with_reducible refine Bk.drew ?_ | with_reducible refine Bk.alloc ?_ _)) _ _ _ | with_reducible exact Bk.set2 (by repeat (first | with_reducible assumption | ((with_reducible refine Bk.far' ?_ ?_); (focus (first | (simp; done) | (simp; omega)))) | with_reducible refine Bk.drew ?_ | with_reducible refine Bk.alloc ?_ _)) _ _ | ((with_reducible refine Bk.far' ?_ ?_); (focus (first | (simp; done) | (simp; omega)))))) hb8
  have q2b : Bk w8 (w7.heap.size) 42 #[.int .i64 qx, .int .i64 qy, .int .i64 qh] := Bk.call (by repeat (first | with_reducible assumption | with_reducible refine Bk.drew ?_ | with_reducible refine Bk.drewN ?_ _ | with_reducible exact Bk.new _ _ _ | with_reducible exact Bk.new1 _ _ _ _ | with_reducible exact Bk.new2 _ _ _ _ _ | with_reducible exact Bk.new3 _ _ _ _ _ _ | with_reducible refine Bk.alloc ?_ _ | with_reducible exact Bk.set6 (by repeat (first | with_reducible assumption | ((with_reducible refine Bk.far' ?_ ?_); (focus (first | (simp; done) | (simp; omega)))) | with_reducible refine Bk.drew ?_ | with_reducible refine Bk.alloc ?_ _)) _ _ _ _ _ _ | with_reducible exact Bk.set3 (by repeat (first | with_reducible assumption | ((with_reducible refine Bk.far' ?_ ?_); (focus (first | (simp; done) | (simp; omega)))) | with_reducible refine Bk.drew ?_ | with_reducible refine Bk.alloc ?_ _)) _ _ _ | with_reducible exact Bk.set2 (by repeat (first | with_reducible assumption | ((with_reducible refine Bk.far' ?_ ?_); (focus (first | (simp; done) | (simp; omega)))) | with_reducible refine Bk.drew ?_ | with_reducible refine Bk.alloc ?_ _)) _ _ | ((with_reducible refine Bk.far' ?_ ?_); (focus (first | (simp; done) | (simp; omega)))))) hb8
  have hbw8 : Below w.heap.size w w8 := by repeat (first | with_reducible assumption | with_reducible exact bw_refl _ | with_reducible refine bw_alloc ?_ _ | with_reducible refine bw_drew ?_ | with_reducible refine bw_drewN _ ?_ | refine bw_set ?_ (by simp; try omega) _ | refine bw_call (by with_reducible assumption) ?_)
  clear f1b f1b_0 f1b_1 f1b_2 f1b_f f1b_l b1b b1b_0 b1b_1 b1b_2 b1b_3 b1b_4 b1b_5 b1b_f b1b_l p1b p1b_0 p1b_1 p1b_2 p1b_f p1b_l c1b c1b_0 c1b_1 c1b_2 c1b_3 c1b_4 c1b_5 c1b_f c1b_l hbw7 hb8
  have b2b_0 : w8.cell? ⟨w.heap.size + 1, 0, none⟩ = some (.int .i64 x0) := b2b.cell 0
  have b2b_1 : w8.cell? ⟨w.heap.size + 1, 1, none⟩ = some (.int .i64 y0) := b2b.cell 1
  have b2b_2 : w8.cell? ⟨w.heap.size + 1, 2, none⟩ = some (.int .i64 x1) := b2b.cell 2
  have b2b_3 : w8.cell? ⟨w.heap.size + 1, 3, none⟩ = some (.int .i64 y1) := b2b.cell 3
  have b2b_4 : w8.cell? ⟨w.heap.size + 1, 4, none⟩ = some (.int .i64 fr) := b2b.cell 4
  have b2b_5 : w8.cell? ⟨w.heap.size + 1, 5, none⟩ = some (.int .i64 ct) := b2b.cell 5
  have b2b_f := b2b.frozen
  have b2b_l := b2b.lt
  have p2b_0 : w8.cell? ⟨w.heap.size + 1 + 1, 0, none⟩ = some (.int .i64 px) := p2b.cell 0
  have p2b_1 : w8.cell? ⟨w.heap.size + 1 + 1, 1, none⟩ = some (.int .i64 py) := p2b.cell 1
  have p2b_2 : w8.cell? ⟨w.heap.size + 1 + 1, 2, none⟩ = some (.int .i64 ph) := p2b.cell 2
  have p2b_f := p2b.frozen
  have p2b_l := p2b.lt
  have c2b_0 : w8.cell? ⟨w6.heap.size, 0, none⟩ = some (.int .i64 c0) := c2b.cell 0
  have c2b_1 : w8.cell? ⟨w6.heap.size, 1, none⟩ = some (.int .i64 c1) := c2b.cell 1
  have c2b_2 : w8.cell? ⟨w6.heap.size, 2, none⟩ = some (.int .i64 c2) := c2b.cell 2
  have c2b_3 : w8.cell? ⟨w6.heap.size, 3, none⟩ = some (.int .i64 c3) := c2b.cell 3
  have c2b_4 : w8.cell? ⟨w6.heap.size, 4, none⟩ = some (.int .i64 c4) := c2b.cell 4
  have c2b_5 : w8.cell? ⟨w6.heap.size, 5, none⟩ = some (.int .i64 c5) := c2b.cell 5
  have c2b_f := c2b.frozen
  have c2b_l := c2b.lt
  have q2b_0 : w8.cell? ⟨w7.heap.size, 0, none⟩ = some (.int .i64 qx) := q2b.cell 0
  have q2b_1 : w8.cell? ⟨w7.heap.size, 1, none⟩ = some (.int .i64 qy) := q2b.cell 1
  have q2b_2 : w8.cell? ⟨w7.heap.size, 2, none⟩ = some (.int .i64 qh) := q2b.cell 2
  have q2b_f := q2b.frozen
  have q2b_l := q2b.lt
  go_wp2_with fail
  have HL := boxes_law fq fx fy x0 y0 x1 y1 fr ct px py ph fq1 fq2 fx1 fx2 fy1 fy2 x11 y11 (by omega) (by omega) (by omega) (by omega) fr1 fr2 ct1 (by omega)
  rw [← Hc.out, ← Hq.out, ← Hk.out] at HL
  simp only [has6, vol6] at HL
  obtain ⟨l1, l2, l3⟩ := HL
  have HA := Lib.hid (show bhB x0 y0 x1 y1 fr ct px py ph = bhB c0 c1 c2 c3 c4 c5 qx qy qh from l1.symm)
  have HV := Lib.hid (show volI x0 y0 x1 y1 fr ct = volI c0 c1 c2 c3 c4 c5 from l3.symm)
  clear l1 l3 Hc Hq Hk
  refine abs_world (fun W => Below w.heap.size w W ∧ Bk W (w.heap.size + 1) 76 #[.int .i64 x0, .int .i64 y0, .int .i64 x1, .int .i64 y1, .int .i64 fr, .int .i64 ct] ∧ Bk W (w.heap.size + 1 + 1) 42 #[.int .i64 px, .int .i64 py, .int .i64 ph] ∧ Bk W (w6.heap.size) 76 #[.int .i64 c0, .int .i64 c1, .int .i64 c2, .int .i64 c3, .int .i64 c4, .int .i64 c5] ∧ Bk W (w7.heap.size) 42 #[.int .i64 qx, .int .i64 qy, .int .i64 qh] ∧ Bk W (w8.heap.size) 42 #[.int .i64 kx, .int .i64 ky, .int .i64 kh]) ⟨by repeat (first | with_reducible assumption | with_reducible exact bw_refl _ | with_reducible refine bw_alloc ?_ _ | with_reducible refine bw_drew ?_ | with_reducible refine bw_drewN _ ?_ | refine bw_set ?_ (by simp; try omega) _ | refine bw_call (by with_reducible assumption) ?_), by repeat (first | with_reducible assumption | with_reducible refine Bk.drew ?_ | with_reducible refine Bk.drewN ?_ _ | with_reducible exact Bk.new _ _ _ | with_reducible exact Bk.new1 _ _ _ _ | with_reducible exact Bk.new2 _ _ _ _ _ | with_reducible exact Bk.new3 _ _ _ _ _ _ | with_reducible refine Bk.alloc ?_ _ | with_reducible exact Bk.set6 (by repeat (first | with_reducible assumption | ((with_reducible refine Bk.far' ?_ ?_); (focus (first | (simp; done) | (simp; omega)))) | with_reducible refine Bk.drew ?_ | with_reducible refine Bk.alloc ?_ _)) _ _ _ _ _ _ | with_reducible exact Bk.set3 (by repeat (first | with_reducible assumption | ((with_reducible refine Bk.far' ?_ ?_); (focus (first | (simp; done) | (simp; omega)))) | with_reducible refine Bk.drew ?_ | with_reducible refine Bk.alloc ?_ _)) _ _ _ | with_reducible exact Bk.set2 (by repeat (first | with_reducible assumption | ((with_reducible refine Bk.far' ?_ ?_); (focus (first | (simp; done) | (simp; omega)))) | with_reducible refine Bk.drew ?_ | with_reducible refine Bk.alloc ?_ _)) _ _ | ((with_reducible refine Bk.far' ?_ ?_); (focus (first | (simp; done) | (simp; omega))))), by repeat (first | with_reducible assumption | with_reducible refine Bk.drew ?_ | with_reducible refine Bk.drewN ?_ _ | with_reducible exact Bk.new _ _ _ | with_reducible exact Bk.new1 _ _ _ _ | with_reducible exact Bk.new2 _ _ _ _ _ | with_reducible exact Bk.new3 _ _ _ _ _ _ | with_reducible refine Bk.alloc ?_ _ | with_reducible exact Bk.set6 (by repeat (first | with_reducible assumption | ((with_reducible refine Bk.far' ?_ ?_); (focus (first | (simp; done) | (simp; omega)))) | with_reducible refine Bk.drew ?_ | with_reducible refine Bk.alloc ?_ _)) _ _ _ _ _ _ | with_reducible exact Bk.set3 (by repeat (first | with_reducible assumption | ((with_reducible refine Bk.far' ?_ ?_); (focus (first | (simp; done) | (simp; omega)))) | with_reducible refine Bk.drew ?_ | with_reducible refine Bk.alloc ?_ _)) _ _ _ | with_reducible exact Bk.set2 (by repeat (first | with_reducible assumption | ((with_reducible refine Bk.far' ?_ ?_); (focus (first | (simp; done) | (simp; omega)))) | with_reducible refine Bk.drew ?_ | with_reducible refine Bk.alloc ?_ _)) _ _ | ((with_reducible refine Bk.far' ?_ ?_); (focus (first | (simp; done) | (simp; omega))))), by repeat (first | with_reducible assumption | with_reducible refine Bk.drew ?_ | with_reducible refine Bk.drewN ?_ _ | with_reducible exact Bk.new _ _ _ | with_reducible exact Bk.new1 _ _ _ _ | with_reducible exact Bk.new2 _ _ _ _ _ | with_reducible exact Bk.new3 _ _ _ _ _ _ | with_reducible refine Bk.alloc ?_ _ | with_reducible exact Bk.set6 (by repeat (first | with_reducible assumption | ((with_reducible refine Bk.far' ?_ ?_); (focus (first | (simp; done) | (simp; omega)))) | with_reducible refine Bk.drew ?_ | with_reducible refine Bk.alloc ?_ _)) _ _ _ _ _ _ | with_reducible exact Bk.set3 (by repeat (first | with_reducible assumption | ((with_reducible refine Bk.far' ?_ ?_); (focus (first | (simp; done) | (simp; omega)))) | with_reducible refine Bk.drew ?_ | with_reducible refine Bk.alloc ?_ _)) _ _ _ | with_reducible exact Bk.set2 (by repeat (first | with_reducible assumption | ((with_reducible refine Bk.far' ?_ ?_); (focus (first | (simp; done) | (simp; omega)))) | with_reducible refine Bk.drew ?_ | with_reducible refine Bk.alloc ?_ _)) _ _ | ((with_reducible refine Bk.far' ?_ ?_); (focus (first | (simp; done) | (simp; omega))))), by repeat (first | with_reducible assumption | with_reducible refine Bk.drew ?_ | with_reducible refine Bk.drewN ?_ _ | with_reducible exact Bk.new _ _ _ | with_reducible exact Bk.new1 _ _ _ _ | with_reducible exact Bk.new2 _ _ _ _ _ | with_reducible exact Bk.new3 _ _ _ _ _ _ | with_reducible refine Bk.alloc ?_ _ | with_reducible exact Bk.set6 (by repeat (first | with_reducible assumption | ((with_reducible refine Bk.far' ?_ ?_); (focus (first | (simp; done) | (simp; omega)))) | with_reducible refine Bk.drew ?_ | with_reducible refine Bk.alloc ?_ _)) _ _ _ _ _ _ | with_reducible exact Bk.set3 (by repeat (first | with_reducible assumption | ((with_reducible refine Bk.far' ?_ ?_); (focus (first | (simp; done) | (simp; omega)))) | with_reducible refine Bk.drew ?_ | with_reducible refine Bk.alloc ?_ _)) _ _ _ | with_reducible exact Bk.set2 (by repeat (first | with_reducible assumption | ((with_reducible refine Bk.far' ?_ ?_); (focus (first | (simp; done) | (simp; omega)))) | with_reducible refine Bk.drew ?_ | with_reducible refine Bk.alloc ?_ _)) _ _ | ((with_reducible refine Bk.far' ?_ ?_); (focus (first | (simp; done) | (simp; omega))))), by repeat (first | with_reducible assumption | with_reducible refine Bk.drew ?_ | with_reducible refine Bk.drewN ?_ _ | with_reducible exact Bk.new _ _ _ | with_reducible exact Bk.new1 _ _ _ _ | with_reducible exact Bk.new2 _ _ _ _ _ | with_reducible exact Bk.new3 _ _ _ _ _ _ | with_reducible refine Bk.alloc ?_ _ | with_reducible exact Bk.set6 (by repeat (first | with_reducible assumption | ((with_reducible refine Bk.far' ?_ ?_); (focus (first | (simp; done) | (simp; omega)))) | with_reducible refine Bk.drew ?_ | with_reducible refine Bk.alloc ?_ _)) _ _ _ _ _ _ | with_reducible exact Bk.set3 (by repeat (first | with_reducible assumption | ((with_reducible refine Bk.far' ?_ ?_); (focus (first | (simp; done) | (simp; omega)))) | with_reducible refine Bk.drew ?_ | with_reducible refine Bk.alloc ?_ _)) _ _ _ | with_reducible exact Bk.set2 (by repeat (first | with_reducible assumption | ((with_reducible refine Bk.far' ?_ ?_); (focus (first | (simp; done) | (simp; omega)))) | with_reducible refine Bk.drew ?_ | with_reducible refine Bk.alloc ?_ _)) _ _ | ((with_reducible refine Bk.far' ?_ ?_); (focus (first | (simp; done) | (simp; omega)))))⟩ ?_
  clear b2b b2b_0 b2b_1 b2b_2 b2b_3 b2b_4 b2b_5 b2b_f b2b_l p2b p2b_0 p2b_1 p2b_2 p2b_f p2b_l c2b c2b_0 c2b_1 c2b_2 c2b_3 c2b_4 c2b_5 c2b_f c2b_l q2b q2b_0 q2b_1 q2b_2 q2b_f q2b_l
  rintro W ⟨hbW, zb, zp, zc, zq, zk⟩
  have zb_0 : W.cell? ⟨w.heap.size + 1, 0, none⟩ = some (.int .i64 x0) := zb.cell 0
  have zb_1 : W.cell? ⟨w.heap.size + 1, 1, none⟩ = some (.int .i64 y0) := zb.cell 1
  have zb_2 : W.cell? ⟨w.heap.size + 1, 2, none⟩ = some (.int .i64 x1) := zb.cell 2
  have zb_3 : W.cell? ⟨w.heap.size + 1, 3, none⟩ = some (.int .i64 y1) := zb.cell 3
  have zb_4 : W.cell? ⟨w.heap.size + 1, 4, none⟩ = some (.int .i64 fr) := zb.cell 4
  have zb_5 : W.cell? ⟨w.heap.size + 1, 5, none⟩ = some (.int .i64 ct) := zb.cell 5
  have zb_f := zb.frozen
  have zb_l := zb.lt
  have zp_0 : W.cell? ⟨w.heap.size + 1 + 1, 0, none⟩ = some (.int .i64 px) := zp.cell 0
  have zp_1 : W.cell? ⟨w.heap.size + 1 + 1, 1, none⟩ = some (.int .i64 py) := zp.cell 1
  have zp_2 : W.cell? ⟨w.heap.size + 1 + 1, 2, none⟩ = some (.int .i64 ph) := zp.cell 2
  have zp_f := zp.frozen
  have zp_l := zp.lt
  have zc_0 : W.cell? ⟨w6.heap.size, 0, none⟩ = some (.int .i64 c0) := zc.cell 0
  have zc_1 : W.cell? ⟨w6.heap.size, 1, none⟩ = some (.int .i64 c1) := zc.cell 1
  have zc_2 : W.cell? ⟨w6.heap.size, 2, none⟩ = some (.int .i64 c2) := zc.cell 2
  have zc_3 : W.cell? ⟨w6.heap.size, 3, none⟩ = some (.int .i64 c3) := zc.cell 3
  have zc_4 : W.cell? ⟨w6.heap.size, 4, none⟩ = some (.int .i64 c4) := zc.cell 4
  have zc_5 : W.cell? ⟨w6.heap.size, 5, none⟩ = some (.int .i64 c5) := zc.cell 5
  have zc_f := zc.frozen
  have zc_l := zc.lt
  have zq_0 : W.cell? ⟨w7.heap.size, 0, none⟩ = some (.int .i64 qx) := zq.cell 0
  have zq_1 : W.cell? ⟨w7.heap.size, 1, none⟩ = some (.int .i64 qy) := zq.cell 1
  have zq_2 : W.cell? ⟨w7.heap.size, 2, none⟩ = some (.int .i64 qh) := zq.cell 2
  have zq_f := zq.frozen
  have zq_l := zq.lt
  have zk_0 : W.cell? ⟨w8.heap.size, 0, none⟩ = some (.int .i64 kx) := zk.cell 0
  have zk_1 : W.cell? ⟨w8.heap.size, 1, none⟩ = some (.int .i64 ky) := zk.cell 1
  have zk_2 : W.cell? ⟨w8.heap.size, 2, none⟩ = some (.int .i64 kh) := zk.cell 2
  have zk_f := zk.frozen
  have zk_l := zk.lt
  clear hbw8
  have KA := Lib.hid (fun W => bxHas_any x0 y0 x1 y1 fr ct px py ph W (by omega) (by omega))
  rw [HA.out] at KA
  have KV := Lib.hid (fun W => Volume_any x0 y0 x1 y1 fr ct W)
  rw [HV.out] at KV
  have KB := Lib.hid (fun W => bxHas_any c0 c1 c2 c3 c4 c5 qx qy qh W (by omega) (by omega))
  have KC := Lib.hid (fun W => bxHas_any c0 c1 c2 c3 c4 c5 kx ky kh W (by omega) (by omega))
  rw [l2] at KC
  have KD := Lib.hid (fun W => Volume_any c0 c1 c2 c3 c4 c5 W)
  clear HA HV l2
  generalize bhB c0 c1 c2 c3 c4 c5 qx qy qh = bb at *
  generalize volI c0 c1 c2 c3 c4 c5 = vv at *
  refine region_grow (fun w0 => Below W.heap.size W w0) 31 (by kernel_rfl) (by kernel_rfl) (by repeat (first | with_reducible assumption | with_reducible exact bw_refl _ | with_reducible refine bw_alloc ?_ _ | with_reducible refine bw_drew ?_ | with_reducible refine bw_drewN _ ?_ | refine bw_set ?_ (by simp; try omega) _ | refine bw_call (by with_reducible assumption) ?_)) ?_
  simp only [List.take_succ_cons, List.take_zero, List.drop_succ_cons, List.drop_zero]
  iterate 31 (first | (refine wpG_ex ?_ ?_; (focus (go_simp; done)); constructor; constructor; (focus (intro w0 hS0; obtain ⟨hSc, hSf⟩ := bcell hS0; go_simp; exact ⟨rfl, hS0⟩)); (focus (intro K hK; go_simp; refine hK _ ?_; clear hK K))) | (refine wpG_ex ?_ ?_; (focus (go_simp; done)); constructor; constructor; (focus (intro w0 hS0; obtain ⟨hSc, hSf⟩ := bcell hS0; go_simp; rw [growUpon_enter]; with_reducible exact grow_of hS0 (KA.out _))); (focus (intro K hK; go_simp; refine hK _ ?_; clear hK K))) | (refine wpG_ex ?_ ?_; (focus (go_simp; done)); constructor; constructor; (focus (intro w0 hS0; obtain ⟨hSc, hSf⟩ := bcell hS0; go_simp; rw [growUpon_enter]; with_reducible exact grow_of hS0 (KB.out _))); (focus (intro K hK; go_simp; refine hK _ ?_; clear hK K))) | (refine wpG_ex ?_ ?_; (focus (go_simp; done)); constructor; constructor; (focus (intro w0 hS0; obtain ⟨hSc, hSf⟩ := bcell hS0; go_simp; rw [growUpon_enter]; with_reducible exact grow_of hS0 (KC.out _))); (focus (intro K hK; go_simp; refine hK _ ?_; clear hK K))) | (refine wpG_ex ?_ ?_; (focus (go_simp; done)); constructor; constructor; (focus (intro w0 hS0; obtain ⟨hSc, hSf⟩ := bcell hS0; go_simp; rw [growUpon_enter]; with_reducible exact grow_of hS0 (KV.out _))); (focus (intro K hK; go_simp; refine hK _ ?_; clear hK K))) | (refine wpG_ex ?_ ?_; (focus (go_simp; done)); constructor; constructor; (focus (intro w0 hS0; obtain ⟨hSc, hSf⟩ := bcell hS0; go_simp; rw [growUpon_enter]; with_reducible exact grow_of hS0 (KD.out _))); (focus (intro K hK; go_simp; refine hK _ ?_; clear hK K))) | (refine wpG_skip ?_ ?_; (focus (go_simp; done)); intro K hK; go_simp; refine hK _ ?_; clear hK K))
  refine wpG_nil ?_
  intro w0 hSw0
  go_wp2
  go_ret
  exact ⟨rfl, by repeat (first | with_reducible assumption | with_reducible exact bw_refl _ | with_reducible refine bw_alloc ?_ _ | with_reducible refine bw_drew ?_ | with_reducible refine bw_drewN _ ?_ | refine bw_set ?_ (by simp; try omega) _ | refine bw_call (by with_reducible assumption) ?_)⟩

end Go.Proofs.Ytkacggfadalbiaa
