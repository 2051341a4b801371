/- The walk of FrameActs. -/
import Derived.Test.YtkacggfadalbiaaAw
import Derived.Test.YtkacggfadalbiaaRh
namespace Go.Proofs.Ytkacggfadalbiaa
open Go.RowKit

theorem clip_bd3 (n m : Int) (h : 0 ≤ m) : -m ≤ clipI n (-m) m ∧ clipI n (-m) m ≤ m := by unfold clipI; omega

set_option maxRecDepth 100000 in
set_option maxHeartbeats 4000000 in
theorem acts_walk (Fq Fx Fy Gq Gx Gy Px Py Ph : Int) (w : World) :
    Calls Try.prog 6 #[.agg #[.int .i64 Fq, .int .i64 Fx, .int .i64 Fy], .agg #[.int .i64 Gq, .int .i64 Gx, .int .i64 Gy], .agg #[.int .i64 Px, .int .i64 Py, .int .i64 Ph]] w fun e w' => e = .returned (.bool true) ∧ Below w.heap.size w w' := by
  go_enter Try.func6, Try.ntmps6
  go_wp2_with fail
  refine (awake_any _).mono ?_
  rintro e w1 ⟨rfl, hb1⟩
  have a0 : Bk w1 (w.heap.size) 23 #[.int .i64 Fq, .int .i64 Fx, .int .i64 Fy] := Bk.call (by repeat (first | with_reducible assumption | with_reducible refine Bk.drew ?_ | with_reducible refine Bk.drewN ?_ _ | with_reducible exact Bk.new _ _ _ | with_reducible exact Bk.new1 _ _ _ _ | with_reducible exact Bk.new2 _ _ _ _ _ | with_reducible exact Bk.new3 _ _ _ _ _ _ | with_reducible refine Bk.alloc ?_ _ | with_reducible exact Bk.set3 (by repeat (first | with_reducible assumption | ((with_reducible refine Bk.far' ?_ ?_); (focus (first | (simp; done) | (simp; omega)))) | with_reducible refine Bk.drew ?_ | with_reducible refine Bk.alloc ?_ _)) _ _ _ | with_reducible exact Bk.set2 (by repeat (first | with_reducible assumption | ((with_reducible refine Bk.far' ?_ ?_); (focus (first | (simp; done) | (simp; omega)))) | with_reducible refine Bk.drew ?_ | with_reducible refine Bk.alloc ?_ _)) _ _ | ((with_reducible refine Bk.far' ?_ ?_); (focus (first | (simp; done) | (simp; omega)))))) hb1
  have a1 : Bk w1 (w.heap.size + 1) 23 #[.int .i64 Gq, .int .i64 Gx, .int .i64 Gy] := Bk.call (by repeat (first | with_reducible assumption | with_reducible refine Bk.drew ?_ | with_reducible refine Bk.drewN ?_ _ | with_reducible exact Bk.new _ _ _ | with_reducible exact Bk.new1 _ _ _ _ | with_reducible exact Bk.new2 _ _ _ _ _ | with_reducible exact Bk.new3 _ _ _ _ _ _ | with_reducible refine Bk.alloc ?_ _ | with_reducible exact Bk.set3 (by repeat (first | with_reducible assumption | ((with_reducible refine Bk.far' ?_ ?_); (focus (first | (simp; done) | (simp; omega)))) | with_reducible refine Bk.drew ?_ | with_reducible refine Bk.alloc ?_ _)) _ _ _ | with_reducible exact Bk.set2 (by repeat (first | with_reducible assumption | ((with_reducible refine Bk.far' ?_ ?_); (focus (first | (simp; done) | (simp; omega)))) | with_reducible refine Bk.drew ?_ | with_reducible refine Bk.alloc ?_ _)) _ _ | ((with_reducible refine Bk.far' ?_ ?_); (focus (first | (simp; done) | (simp; omega)))))) hb1
  have a2 : Bk w1 (w.heap.size + 1 + 1) 42 #[.int .i64 Px, .int .i64 Py, .int .i64 Ph] := Bk.call (by repeat (first | with_reducible assumption | with_reducible refine Bk.drew ?_ | with_reducible refine Bk.drewN ?_ _ | with_reducible exact Bk.new _ _ _ | with_reducible exact Bk.new1 _ _ _ _ | with_reducible exact Bk.new2 _ _ _ _ _ | with_reducible exact Bk.new3 _ _ _ _ _ _ | with_reducible refine Bk.alloc ?_ _ | with_reducible exact Bk.set3 (by repeat (first | with_reducible assumption | ((with_reducible refine Bk.far' ?_ ?_); (focus (first | (simp; done) | (simp; omega)))) | with_reducible refine Bk.drew ?_ | with_reducible refine Bk.alloc ?_ _)) _ _ _ | with_reducible exact Bk.set2 (by repeat (first | with_reducible assumption | ((with_reducible refine Bk.far' ?_ ?_); (focus (first | (simp; done) | (simp; omega)))) | with_reducible refine Bk.drew ?_ | with_reducible refine Bk.alloc ?_ _)) _ _ | ((with_reducible refine Bk.far' ?_ ?_); (focus (first | (simp; done) | (simp; omega)))))) hb1
  have hbw1 : Below w.heap.size w w1 := by repeat (first | with_reducible assumption | with_reducible exact bw_refl _ | with_reducible refine bw_alloc ?_ _ | with_reducible refine bw_drew ?_ | with_reducible refine bw_drewN _ ?_ | refine bw_set ?_ (by simp; try omega) _ | refine bw_call (by with_reducible assumption) ?_)
  clear hb1
  have a0_0 : w1.cell? ⟨w.heap.size, 0, none⟩ = some (.int .i64 Fq) := a0.cell 0
  have a0_1 : w1.cell? ⟨w.heap.size, 1, none⟩ = some (.int .i64 Fx) := a0.cell 1
  have a0_2 : w1.cell? ⟨w.heap.size, 2, none⟩ = some (.int .i64 Fy) := a0.cell 2
  have a0_f := a0.frozen
  have a0_l := a0.lt
  have a1_0 : w1.cell? ⟨w.heap.size + 1, 0, none⟩ = some (.int .i64 Gq) := a1.cell 0
  have a1_1 : w1.cell? ⟨w.heap.size + 1, 1, none⟩ = some (.int .i64 Gx) := a1.cell 1
  have a1_2 : w1.cell? ⟨w.heap.size + 1, 2, none⟩ = some (.int .i64 Gy) := a1.cell 2
  have a1_f := a1.frozen
  have a1_l := a1.lt
  have a2_0 : w1.cell? ⟨w.heap.size + 1 + 1, 0, none⟩ = some (.int .i64 Px) := a2.cell 0
  have a2_1 : w1.cell? ⟨w.heap.size + 1 + 1, 1, none⟩ = some (.int .i64 Py) := a2.cell 1
  have a2_2 : w1.cell? ⟨w.heap.size + 1 + 1, 2, none⟩ = some (.int .i64 Ph) := a2.cell 2
  have a2_f := a2.frozen
  have a2_l := a2.lt
  go_wp2_with fail
  refine region_grow (fun w0 => Below w1.heap.size w1 w0) 6 (by kernel_rfl) (by kernel_rfl) (by repeat (first | with_reducible assumption | with_reducible exact bw_refl _ | with_reducible refine bw_alloc ?_ _ | with_reducible refine bw_drew ?_ | with_reducible refine bw_drewN _ ?_ | refine bw_set ?_ (by simp; try omega) _ | refine bw_call (by with_reducible assumption) ?_)) ?_
  simp only [List.take_succ_cons, List.take_zero, List.drop_succ_cons, List.drop_zero]
  iterate 6 (first | (refine wpG_ex ?_ ?_; (focus (go_simp; done)); constructor; constructor; (focus (intro w0 hS0; obtain ⟨hSc, hSf⟩ := bcell hS0; go_simp; exact ⟨rfl, hS0⟩)); (focus (intro K hK; go_simp; refine hK _ ?_; clear hK K))) | (refine wpG_ex ?_ ?_; (focus (go_simp; done)); constructor; constructor; (focus (intro w0 hS0; obtain ⟨hSc, hSf⟩ := bcell hS0; go_simp; exact grow_of hS0 (nearf_any _ _ _ _ _ (by omega) (by omega)))); (focus (intro K hK; go_simp; refine hK _ ?_; clear hK K))) | (refine wpG_ex ?_ ?_; (focus (go_simp; done)); constructor; constructor; (focus (intro w0 hS0; obtain ⟨hSc, hSf⟩ := bcell hS0; go_simp; exact grow_of hS0 (place_any _ _ _ _ _ (by omega) (by omega)))); (focus (intro K hK; go_simp; refine hK _ ?_; clear hK K))) | (refine wpG_skip ?_ ?_; (focus (go_simp; done)); intro K hK; go_simp; refine hK _ ?_; clear hK K))
  refine wpG_nil ?_
  intro w2 hSw2
  have fq1 : 0 ≤ Fq % 4 := by omega
  have fq2 : Fq % 4 < 4 := by omega
  generalize Fq % 4 = fq at *
  obtain ⟨fx1, fx2⟩ := clip_bd3 Fx 1000 (by omega)
  generalize clipI Fx (-1000) 1000 = fx at *
  obtain ⟨fy1, fy2⟩ := clip_bd3 Fy 1000 (by omega)
  generalize clipI Fy (-1000) 1000 = fy at *
  have gq1 : 0 ≤ Gq % 4 := by omega
  have gq2 : Gq % 4 < 4 := by omega
  generalize Gq % 4 = gq at *
  obtain ⟨gx1, gx2⟩ := clip_bd3 Gx 1000 (by omega)
  generalize clipI Gx (-1000) 1000 = gx at *
  obtain ⟨gy1, gy2⟩ := clip_bd3 Gy 1000 (by omega)
  generalize clipI Gy (-1000) 1000 = gy at *
  have ph1 : 0 ≤ Ph % 256 := by omega
  have ph2 : Ph % 256 < 256 := by omega
  generalize Ph % 256 = ph at *
  obtain ⟨px1, px2⟩ := clip_bd3 Px 65536 (by omega)
  generalize clipI Px (-65536) 65536 = px at *
  obtain ⟨py1, py2⟩ := clip_bd3 Py 65536 (by omega)
  generalize clipI Py (-65536) 65536 = py at *
  have hbw2 : Below w.heap.size w w2 := by repeat (first | with_reducible assumption | with_reducible exact bw_refl _ | with_reducible refine bw_alloc ?_ _ | with_reducible refine bw_drew ?_ | with_reducible refine bw_drewN _ ?_ | refine bw_set ?_ (by simp; try omega) _ | refine bw_call (by with_reducible assumption) ?_)
  replace a0 := a0.call hSw2
  replace a1 := a1.call hSw2
  replace a2 := a2.call hSw2
  clear hSw2 hbw1 a0_0 a0_1 a0_2 a0_f a0_l a1_0 a1_1 a1_2 a1_f a1_l a2_0 a2_1 a2_2 a2_f a2_l
  have a0_0 : w2.cell? ⟨w.heap.size, 0, none⟩ = some (.int .i64 Fq) := a0.cell 0
  have a0_1 : w2.cell? ⟨w.heap.size, 1, none⟩ = some (.int .i64 Fx) := a0.cell 1
  have a0_2 : w2.cell? ⟨w.heap.size, 2, none⟩ = some (.int .i64 Fy) := a0.cell 2
  have a0_f := a0.frozen
  have a0_l := a0.lt
  have a1_0 : w2.cell? ⟨w.heap.size + 1, 0, none⟩ = some (.int .i64 Gq) := a1.cell 0
  have a1_1 : w2.cell? ⟨w.heap.size + 1, 1, none⟩ = some (.int .i64 Gx) := a1.cell 1
  have a1_2 : w2.cell? ⟨w.heap.size + 1, 2, none⟩ = some (.int .i64 Gy) := a1.cell 2
  have a1_f := a1.frozen
  have a1_l := a1.lt
  have a2_0 : w2.cell? ⟨w.heap.size + 1 + 1, 0, none⟩ = some (.int .i64 Px) := a2.cell 0
  have a2_1 : w2.cell? ⟨w.heap.size + 1 + 1, 1, none⟩ = some (.int .i64 Py) := a2.cell 1
  have a2_2 : w2.cell? ⟨w.heap.size + 1 + 1, 2, none⟩ = some (.int .i64 Ph) := a2.cell 2
  have a2_f := a2.frozen
  have a2_l := a2.lt
  go_wp2_with fail
  refine (Compose_ok 1000 1000 _ _ _ _ _ _ _ (by omega) (by omega) (by omega) (by omega) (by omega) (by omega) (by omega) (by omega) (by omega)).mono ?_
  rintro e w3 ⟨rq, rx, ry, rfl, Hr, ⟨rq1, rq2, rx1, rx2, ry1, ry2⟩, hb3⟩
  have f0b : Bk w3 (w.heap.size) 23 #[.int .i64 fq, .int .i64 fx, .int .i64 fy] := Bk.call (by repeat (first | with_reducible assumption | with_reducible refine Bk.drew ?_ | with_reducible refine Bk.drewN ?_ _ | with_reducible exact Bk.new _ _ _ | with_reducible exact Bk.new1 _ _ _ _ | with_reducible exact Bk.new2 _ _ _ _ _ | with_reducible exact Bk.new3 _ _ _ _ _ _ | with_reducible refine Bk.alloc ?_ _ | with_reducible exact Bk.set3 (by repeat (first | with_reducible assumption | ((with_reducible refine Bk.far' ?_ ?_); (focus (first | (simp; done) | (simp; omega)))) | with_reducible refine Bk.drew ?_ | with_reducible refine Bk.alloc ?_ _)) _ _ _ | with_reducible exact Bk.set2 (by repeat (first | with_reducible assumption | ((with_reducible refine Bk.far' ?_ ?_); (focus (first | (simp; done) | (simp; omega)))) | with_reducible refine Bk.drew ?_ | with_reducible refine Bk.alloc ?_ _)) _ _ | ((with_reducible refine Bk.far' ?_ ?_); (focus (first | (simp; done) | (simp; omega)))))) hb3
  have g0b : Bk w3 (w.heap.size + 1) 23 #[.int .i64 gq, .int .i64 gx, .int .i64 gy] := Bk.call (by repeat (first | with_reducible assumption | with_reducible refine Bk.drew ?_ | with_reducible refine Bk.drewN ?_ _ | with_reducible exact Bk.new _ _ _ | with_reducible exact Bk.new1 _ _ _ _ | with_reducible exact Bk.new2 _ _ _ _ _ | with_reducible exact Bk.new3 _ _ _ _ _ _ | with_reducible refine Bk.alloc ?_ _ | with_reducible exact Bk.set3 (by repeat (first | with_reducible assumption | ((with_reducible refine Bk.far' ?_ ?_); (focus (first | (simp; done) | (simp; omega)))) | with_reducible refine Bk.drew ?_ | with_reducible refine Bk.alloc ?_ _)) _ _ _ | with_reducible exact Bk.set2 (by repeat (first | with_reducible assumption | ((with_reducible refine Bk.far' ?_ ?_); (focus (first | (simp; done) | (simp; omega)))) | with_reducible refine Bk.drew ?_ | with_reducible refine Bk.alloc ?_ _)) _ _ | ((with_reducible refine Bk.far' ?_ ?_); (focus (first | (simp; done) | (simp; omega)))))) hb3
  have p0b : Bk w3 (w.heap.size + 1 + 1) 42 #[.int .i64 px, .int .i64 py, .int .i64 ph] := Bk.call (by repeat (first | with_reducible assumption | with_reducible refine Bk.drew ?_ | with_reducible refine Bk.drewN ?_ _ | with_reducible exact Bk.new _ _ _ | with_reducible exact Bk.new1 _ _ _ _ | with_reducible exact Bk.new2 _ _ _ _ _ | with_reducible exact Bk.new3 _ _ _ _ _ _ | with_reducible refine Bk.alloc ?_ _ | with_reducible exact Bk.set3 (by repeat (first | with_reducible assumption | ((with_reducible refine Bk.far' ?_ ?_); (focus (first | (simp; done) | (simp; omega)))) | with_reducible refine Bk.drew ?_ | with_reducible refine Bk.alloc ?_ _)) _ _ _ | with_reducible exact Bk.set2 (by repeat (first | with_reducible assumption | ((with_reducible refine Bk.far' ?_ ?_); (focus (first | (simp; done) | (simp; omega)))) | with_reducible refine Bk.drew ?_ | with_reducible refine Bk.alloc ?_ _)) _ _ | ((with_reducible refine Bk.far' ?_ ?_); (focus (first | (simp; done) | (simp; omega)))))) hb3
  have hbw3 : Below w.heap.size w w3 := by repeat (first | with_reducible assumption | with_reducible exact bw_refl _ | with_reducible refine bw_alloc ?_ _ | with_reducible refine bw_drew ?_ | with_reducible refine bw_drewN _ ?_ | refine bw_set ?_ (by simp; try omega) _ | refine bw_call (by with_reducible assumption) ?_)
  clear a0 a0_0 a0_1 a0_2 a0_f a0_l a1 a1_0 a1_1 a1_2 a1_f a1_l a2 a2_0 a2_1 a2_2 a2_f a2_l hbw2 hb3
  have f0b_0 : w3.cell? ⟨w.heap.size, 0, none⟩ = some (.int .i64 fq) := f0b.cell 0
  have f0b_1 : w3.cell? ⟨w.heap.size, 1, none⟩ = some (.int .i64 fx) := f0b.cell 1
  have f0b_2 : w3.cell? ⟨w.heap.size, 2, none⟩ = some (.int .i64 fy) := f0b.cell 2
  have f0b_f := f0b.frozen
  have f0b_l := f0b.lt
  have g0b_0 : w3.cell? ⟨w.heap.size + 1, 0, none⟩ = some (.int .i64 gq) := g0b.cell 0
  have g0b_1 : w3.cell? ⟨w.heap.size + 1, 1, none⟩ = some (.int .i64 gx) := g0b.cell 1
  have g0b_2 : w3.cell? ⟨w.heap.size + 1, 2, none⟩ = some (.int .i64 gy) := g0b.cell 2
  have g0b_f := g0b.frozen
  have g0b_l := g0b.lt
  have p0b_0 : w3.cell? ⟨w.heap.size + 1 + 1, 0, none⟩ = some (.int .i64 px) := p0b.cell 0
  have p0b_1 : w3.cell? ⟨w.heap.size + 1 + 1, 1, none⟩ = some (.int .i64 py) := p0b.cell 1
  have p0b_2 : w3.cell? ⟨w.heap.size + 1 + 1, 2, none⟩ = some (.int .i64 ph) := p0b.cell 2
  have p0b_f := p0b.frozen
  have p0b_l := p0b.lt
  go_wp2_with fail
  refine (Pose_ok2 2000 65536 _ _ _ _ _ _ _ (by omega) (by omega) (by omega) (by omega) (by omega) (by omega) (by omega) (by omega) (by omega) (by omega) (by omega) (by omega)).mono ?_
  rintro e w4 ⟨ax, ay, ah, rfl, Ha, ⟨ah1, ah2, ax1, ax2, ay1, ay2⟩, hb4⟩
  have f1b : Bk w4 (w.heap.size) 23 #[.int .i64 fq, .int .i64 fx, .int .i64 fy] := Bk.call (by repeat (first | with_reducible assumption | with_reducible refine Bk.drew ?_ | with_reducible refine Bk.drewN ?_ _ | with_reducible exact Bk.new _ _ _ | with_reducible exact Bk.new1 _ _ _ _ | with_reducible exact Bk.new2 _ _ _ _ _ | with_reducible exact Bk.new3 _ _ _ _ _ _ | with_reducible refine Bk.alloc ?_ _ | with_reducible exact Bk.set3 (by repeat (first | with_reducible assumption | ((with_reducible refine Bk.far' ?_ ?_); (focus (first | (simp; done) | (simp; omega)))) | with_reducible refine Bk.drew ?_ | with_reducible refine Bk.alloc ?_ _)) _ _ _ | with_reducible exact Bk.set2 (by repeat (first | with_reducible assumption | ((with_reducible refine Bk.far' ?_ ?_); (focus (first | (simp; done) | (simp; omega)))) | with_reducible refine Bk.drew ?_ | with_reducible refine Bk.alloc ?_ _)) _ _ | ((with_reducible refine Bk.far' ?_ ?_); (focus (first | (simp; done) | (simp; omega)))))) hb4
  have g1b : Bk w4 (w.heap.size + 1) 23 #[.int .i64 gq, .int .i64 gx, .int .i64 gy] := Bk.call (by repeat (first | with_reducible assumption | with_reducible refine Bk.drew ?_ | with_reducible refine Bk.drewN ?_ _ | with_reducible exact Bk.new _ _ _ | with_reducible exact Bk.new1 _ _ _ _ | with_reducible exact Bk.new2 _ _ _ _ _ | with_reducible exact Bk.new3 _ _ _ _ _ _ | with_reducible refine Bk.alloc ?_ _ | with_reducible exact Bk.set3 (by repeat (first | with_reducible assumption | ((with_reducible refine Bk.far' ?_ ?_); (focus (first | (simp; done) | (simp; omega)))) | with_reducible refine Bk.drew ?_ | with_reducible refine Bk.alloc ?_ _)) _ _ _ | with_reducible exact Bk.set2 (by repeat (first | with_reducible assumption | ((with_reducible refine Bk.far' ?_ ?_); (focus (first | (simp; done) | (simp; omega)))) | with_reducible refine Bk.drew ?_ | with_reducible refine Bk.alloc ?_ _)) _ _ | ((with_reducible refine Bk.far' ?_ ?_); (focus (first | (simp; done) | (simp; omega)))))) hb4
  have p1b : Bk w4 (w.heap.size + 1 + 1) 42 #[.int .i64 px, .int .i64 py, .int .i64 ph] := Bk.call (by repeat (first | with_reducible assumption | with_reducible refine Bk.drew ?_ | with_reducible refine Bk.drewN ?_ _ | with_reducible exact Bk.new _ _ _ | with_reducible exact Bk.new1 _ _ _ _ | with_reducible exact Bk.new2 _ _ _ _ _ | with_reducible exact Bk.new3 _ _ _ _ _ _ | with_reducible refine Bk.alloc ?_ _ | with_reducible exact Bk.set3 (by repeat (first | with_reducible assumption | ((with_reducible refine Bk.far' ?_ ?_); (focus (first | (simp; done) | (simp; omega)))) | with_reducible refine Bk.drew ?_ | with_reducible refine Bk.alloc ?_ _)) _ _ _ | with_reducible exact Bk.set2 (by repeat (first | with_reducible assumption | ((with_reducible refine Bk.far' ?_ ?_); (focus (first | (simp; done) | (simp; omega)))) | with_reducible refine Bk.drew ?_ | with_reducible refine Bk.alloc ?_ _)) _ _ | ((with_reducible refine Bk.far' ?_ ?_); (focus (first | (simp; done) | (simp; omega)))))) hb4
  have hbw4 : Below w.heap.size w w4 := by repeat (first | with_reducible assumption | with_reducible exact bw_refl _ | with_reducible refine bw_alloc ?_ _ | with_reducible refine bw_drew ?_ | with_reducible refine bw_drewN _ ?_ | refine bw_set ?_ (by simp; try omega) _ | refine bw_call (by with_reducible assumption) ?_)
  clear f0b f0b_0 f0b_1 f0b_2 f0b_f f0b_l g0b g0b_0 g0b_1 g0b_2 g0b_f g0b_l p0b p0b_0 p0b_1 p0b_2 p0b_f p0b_l hbw3 hb4
  have f1b_0 : w4.cell? ⟨w.heap.size, 0, none⟩ = some (.int .i64 fq) := f1b.cell 0
  have f1b_1 : w4.cell? ⟨w.heap.size, 1, none⟩ = some (.int .i64 fx) := f1b.cell 1
  have f1b_2 : w4.cell? ⟨w.heap.size, 2, none⟩ = some (.int .i64 fy) := f1b.cell 2
  have f1b_f := f1b.frozen
  have f1b_l := f1b.lt
  have g1b_0 : w4.cell? ⟨w.heap.size + 1, 0, none⟩ = some (.int .i64 gq) := g1b.cell 0
  have g1b_1 : w4.cell? ⟨w.heap.size + 1, 1, none⟩ = some (.int .i64 gx) := g1b.cell 1
  have g1b_2 : w4.cell? ⟨w.heap.size + 1, 2, none⟩ = some (.int .i64 gy) := g1b.cell 2
  have g1b_f := g1b.frozen
  have g1b_l := g1b.lt
  have p1b_0 : w4.cell? ⟨w.heap.size + 1 + 1, 0, none⟩ = some (.int .i64 px) := p1b.cell 0
  have p1b_1 : w4.cell? ⟨w.heap.size + 1 + 1, 1, none⟩ = some (.int .i64 py) := p1b.cell 1
  have p1b_2 : w4.cell? ⟨w.heap.size + 1 + 1, 2, none⟩ = some (.int .i64 ph) := p1b.cell 2
  have p1b_f := p1b.frozen
  have p1b_l := p1b.lt
  go_wp2_with fail
  refine (Pose_ok2 1000 65536 _ _ _ _ _ _ _ (by omega) (by omega) (by omega) (by omega) (by omega) (by omega) (by omega) (by omega) (by omega) (by omega) (by omega) (by omega)).mono ?_
  rintro e w5 ⟨bx, bY, bh, rfl, Hb, ⟨bh1, bh2, bx1, bx2, bY1, bY2⟩, hb5⟩
  have f2b : Bk w5 (w.heap.size) 23 #[.int .i64 fq, .int .i64 fx, .int .i64 fy] := Bk.call (by repeat (first | with_reducible assumption | with_reducible refine Bk.drew ?_ | with_reducible refine Bk.drewN ?_ _ | with_reducible exact Bk.new _ _ _ | with_reducible exact Bk.new1 _ _ _ _ | with_reducible exact Bk.new2 _ _ _ _ _ | with_reducible exact Bk.new3 _ _ _ _ _ _ | with_reducible refine Bk.alloc ?_ _ | with_reducible exact Bk.set3 (by repeat (first | with_reducible assumption | ((with_reducible refine Bk.far' ?_ ?_); (focus (first | (simp; done) | (simp; omega)))) | with_reducible refine Bk.drew ?_ | with_reducible refine Bk.alloc ?_ _)) _ _ _ | with_reducible exact Bk.set2 (by repeat (first | with_reducible assumption | ((with_reducible refine Bk.far' ?_ ?_); (focus (first | (simp; done) | (simp; omega)))) | with_reducible refine Bk.drew ?_ | with_reducible refine Bk.alloc ?_ _)) _ _ | ((with_reducible refine Bk.far' ?_ ?_); (focus (first | (simp; done) | (simp; omega)))))) hb5
  have a2b : Bk w5 (w4.heap.size) 42 #[.int .i64 ax, .int .i64 ay, .int .i64 ah] := Bk.call (by repeat (first | with_reducible assumption | with_reducible refine Bk.drew ?_ | with_reducible refine Bk.drewN ?_ _ | with_reducible exact Bk.new _ _ _ | with_reducible exact Bk.new1 _ _ _ _ | with_reducible exact Bk.new2 _ _ _ _ _ | with_reducible exact Bk.new3 _ _ _ _ _ _ | with_reducible refine Bk.alloc ?_ _ | with_reducible exact Bk.set3 (by repeat (first | with_reducible assumption | ((with_reducible refine Bk.far' ?_ ?_); (focus (first | (simp; done) | (simp; omega)))) | with_reducible refine Bk.drew ?_ | with_reducible refine Bk.alloc ?_ _)) _ _ _ | with_reducible exact Bk.set2 (by repeat (first | with_reducible assumption | ((with_reducible refine Bk.far' ?_ ?_); (focus (first | (simp; done) | (simp; omega)))) | with_reducible refine Bk.drew ?_ | with_reducible refine Bk.alloc ?_ _)) _ _ | ((with_reducible refine Bk.far' ?_ ?_); (focus (first | (simp; done) | (simp; omega)))))) hb5
  have hbw5 : Below w.heap.size w w5 := by repeat (first | with_reducible assumption | with_reducible exact bw_refl _ | with_reducible refine bw_alloc ?_ _ | with_reducible refine bw_drew ?_ | with_reducible refine bw_drewN _ ?_ | refine bw_set ?_ (by simp; try omega) _ | refine bw_call (by with_reducible assumption) ?_)
  clear f1b f1b_0 f1b_1 f1b_2 f1b_f f1b_l g1b g1b_0 g1b_1 g1b_2 g1b_f g1b_l p1b p1b_0 p1b_1 p1b_2 p1b_f p1b_l hbw4 hb5
  have f2b_0 : w5.cell? ⟨w.heap.size, 0, none⟩ = some (.int .i64 fq) := f2b.cell 0
  have f2b_1 : w5.cell? ⟨w.heap.size, 1, none⟩ = some (.int .i64 fx) := f2b.cell 1
  have f2b_2 : w5.cell? ⟨w.heap.size, 2, none⟩ = some (.int .i64 fy) := f2b.cell 2
  have f2b_f := f2b.frozen
  have f2b_l := f2b.lt
  have a2b_0 : w5.cell? ⟨w4.heap.size, 0, none⟩ = some (.int .i64 ax) := a2b.cell 0
  have a2b_1 : w5.cell? ⟨w4.heap.size, 1, none⟩ = some (.int .i64 ay) := a2b.cell 1
  have a2b_2 : w5.cell? ⟨w4.heap.size, 2, none⟩ = some (.int .i64 ah) := a2b.cell 2
  have a2b_f := a2b.frozen
  have a2b_l := a2b.lt
  go_wp2_with fail
  refine (Pose_ok2 1000 129536 _ _ _ _ _ _ _ (by omega) (by omega) (by omega) (by omega) (by omega) (by omega) (by omega) (by omega) (by omega) (by omega) (by omega) (by omega)).mono ?_
  rintro e w6 ⟨cx, cy, ch, rfl, Hc, ⟨ch1, ch2, cx1, cx2, cy1, cy2⟩, hb6⟩
  have f3b : Bk w6 (w.heap.size) 23 #[.int .i64 fq, .int .i64 fx, .int .i64 fy] := Bk.call (by repeat (first | with_reducible assumption | with_reducible refine Bk.drew ?_ | with_reducible refine Bk.drewN ?_ _ | with_reducible exact Bk.new _ _ _ | with_reducible exact Bk.new1 _ _ _ _ | with_reducible exact Bk.new2 _ _ _ _ _ | with_reducible exact Bk.new3 _ _ _ _ _ _ | with_reducible refine Bk.alloc ?_ _ | with_reducible exact Bk.set3 (by repeat (first | with_reducible assumption | ((with_reducible refine Bk.far' ?_ ?_); (focus (first | (simp; done) | (simp; omega)))) | with_reducible refine Bk.drew ?_ | with_reducible refine Bk.alloc ?_ _)) _ _ _ | with_reducible exact Bk.set2 (by repeat (first | with_reducible assumption | ((with_reducible refine Bk.far' ?_ ?_); (focus (first | (simp; done) | (simp; omega)))) | with_reducible refine Bk.drew ?_ | with_reducible refine Bk.alloc ?_ _)) _ _ | ((with_reducible refine Bk.far' ?_ ?_); (focus (first | (simp; done) | (simp; omega)))))) hb6
  have a3b : Bk w6 (w4.heap.size) 42 #[.int .i64 ax, .int .i64 ay, .int .i64 ah] := Bk.call (by repeat (first | with_reducible assumption | with_reducible refine Bk.drew ?_ | with_reducible refine Bk.drewN ?_ _ | with_reducible exact Bk.new _ _ _ | with_reducible exact Bk.new1 _ _ _ _ | with_reducible exact Bk.new2 _ _ _ _ _ | with_reducible exact Bk.new3 _ _ _ _ _ _ | with_reducible refine Bk.alloc ?_ _ | with_reducible exact Bk.set3 (by repeat (first | with_reducible assumption | ((with_reducible refine Bk.far' ?_ ?_); (focus (first | (simp; done) | (simp; omega)))) | with_reducible refine Bk.drew ?_ | with_reducible refine Bk.alloc ?_ _)) _ _ _ | with_reducible exact Bk.set2 (by repeat (first | with_reducible assumption | ((with_reducible refine Bk.far' ?_ ?_); (focus (first | (simp; done) | (simp; omega)))) | with_reducible refine Bk.drew ?_ | with_reducible refine Bk.alloc ?_ _)) _ _ | ((with_reducible refine Bk.far' ?_ ?_); (focus (first | (simp; done) | (simp; omega)))))) hb6
  have b3b : Bk w6 (w5.heap.size) 42 #[.int .i64 bx, .int .i64 bY, .int .i64 bh] := Bk.call (by repeat (first | with_reducible assumption | with_reducible refine Bk.drew ?_ | with_reducible refine Bk.drewN ?_ _ | with_reducible exact Bk.new _ _ _ | with_reducible exact Bk.new1 _ _ _ _ | with_reducible exact Bk.new2 _ _ _ _ _ | with_reducible exact Bk.new3 _ _ _ _ _ _ | with_reducible refine Bk.alloc ?_ _ | with_reducible exact Bk.set3 (by repeat (first | with_reducible assumption | ((with_reducible refine Bk.far' ?_ ?_); (focus (first | (simp; done) | (simp; omega)))) | with_reducible refine Bk.drew ?_ | with_reducible refine Bk.alloc ?_ _)) _ _ _ | with_reducible exact Bk.set2 (by repeat (first | with_reducible assumption | ((with_reducible refine Bk.far' ?_ ?_); (focus (first | (simp; done) | (simp; omega)))) | with_reducible refine Bk.drew ?_ | with_reducible refine Bk.alloc ?_ _)) _ _ | ((with_reducible refine Bk.far' ?_ ?_); (focus (first | (simp; done) | (simp; omega)))))) hb6
  have hbw6 : Below w.heap.size w w6 := by repeat (first | with_reducible assumption | with_reducible exact bw_refl _ | with_reducible refine bw_alloc ?_ _ | with_reducible refine bw_drew ?_ | with_reducible refine bw_drewN _ ?_ | refine bw_set ?_ (by simp; try omega) _ | refine bw_call (by with_reducible assumption) ?_)
  clear f2b f2b_0 f2b_1 f2b_2 f2b_f f2b_l a2b a2b_0 a2b_1 a2b_2 a2b_f a2b_l hbw5 hb6
  have f3b_0 : w6.cell? ⟨w.heap.size, 0, none⟩ = some (.int .i64 fq) := f3b.cell 0
  have f3b_1 : w6.cell? ⟨w.heap.size, 1, none⟩ = some (.int .i64 fx) := f3b.cell 1
  have f3b_2 : w6.cell? ⟨w.heap.size, 2, none⟩ = some (.int .i64 fy) := f3b.cell 2
  have f3b_f := f3b.frozen
  have f3b_l := f3b.lt
  have a3b_0 : w6.cell? ⟨w4.heap.size, 0, none⟩ = some (.int .i64 ax) := a3b.cell 0
  have a3b_1 : w6.cell? ⟨w4.heap.size, 1, none⟩ = some (.int .i64 ay) := a3b.cell 1
  have a3b_2 : w6.cell? ⟨w4.heap.size, 2, none⟩ = some (.int .i64 ah) := a3b.cell 2
  have a3b_f := a3b.frozen
  have a3b_l := a3b.lt
  have b3b_0 : w6.cell? ⟨w5.heap.size, 0, none⟩ = some (.int .i64 bx) := b3b.cell 0
  have b3b_1 : w6.cell? ⟨w5.heap.size, 1, none⟩ = some (.int .i64 bY) := b3b.cell 1
  have b3b_2 : w6.cell? ⟨w5.heap.size, 2, none⟩ = some (.int .i64 bh) := b3b.cell 2
  have b3b_f := b3b.frozen
  have b3b_l := b3b.lt
  go_wp2_with fail
  refine (Inverse_ok 1000 _ _ _ _ (by omega) (by omega) (by omega) (by omega) (by omega)).mono ?_
  rintro e w7 ⟨iq, ix, iy, rfl, Hi, ⟨iq1, iq2, ix1, ix2, iy1, iy2⟩, hb7⟩
  have a4b : Bk w7 (w4.heap.size) 42 #[.int .i64 ax, .int .i64 ay, .int .i64 ah] := Bk.call (by repeat (first | with_reducible assumption | with_reducible refine Bk.drew ?_ | with_reducible refine Bk.drewN ?_ _ | with_reducible exact Bk.new _ _ _ | with_reducible exact Bk.new1 _ _ _ _ | with_reducible exact Bk.new2 _ _ _ _ _ | with_reducible exact Bk.new3 _ _ _ _ _ _ | with_reducible refine Bk.alloc ?_ _ | with_reducible exact Bk.set3 (by repeat (first | with_reducible assumption | ((with_reducible refine Bk.far' ?_ ?_); (focus (first | (simp; done) | (simp; omega)))) | with_reducible refine Bk.drew ?_ | with_reducible refine Bk.alloc ?_ _)) _ _ _ | with_reducible exact Bk.set2 (by repeat (first | with_reducible assumption | ((with_reducible refine Bk.far' ?_ ?_); (focus (first | (simp; done) | (simp; omega)))) | with_reducible refine Bk.drew ?_ | with_reducible refine Bk.alloc ?_ _)) _ _ | ((with_reducible refine Bk.far' ?_ ?_); (focus (first | (simp; done) | (simp; omega)))))) hb7
  have b4b : Bk w7 (w5.heap.size) 42 #[.int .i64 bx, .int .i64 bY, .int .i64 bh] := Bk.call (by repeat (first | with_reducible assumption | with_reducible refine Bk.drew ?_ | with_reducible refine Bk.drewN ?_ _ | with_reducible exact Bk.new _ _ _ | with_reducible exact Bk.new1 _ _ _ _ | with_reducible exact Bk.new2 _ _ _ _ _ | with_reducible exact Bk.new3 _ _ _ _ _ _ | with_reducible refine Bk.alloc ?_ _ | with_reducible exact Bk.set3 (by repeat (first | with_reducible assumption | ((with_reducible refine Bk.far' ?_ ?_); (focus (first | (simp; done) | (simp; omega)))) | with_reducible refine Bk.drew ?_ | with_reducible refine Bk.alloc ?_ _)) _ _ _ | with_reducible exact Bk.set2 (by repeat (first | with_reducible assumption | ((with_reducible refine Bk.far' ?_ ?_); (focus (first | (simp; done) | (simp; omega)))) | with_reducible refine Bk.drew ?_ | with_reducible refine Bk.alloc ?_ _)) _ _ | ((with_reducible refine Bk.far' ?_ ?_); (focus (first | (simp; done) | (simp; omega)))))) hb7
  have c4b : Bk w7 (w6.heap.size) 42 #[.int .i64 cx, .int .i64 cy, .int .i64 ch] := Bk.call (by repeat (first | with_reducible assumption | with_reducible refine Bk.drew ?_ | with_reducible refine Bk.drewN ?_ _ | with_reducible exact Bk.new _ _ _ | with_reducible exact Bk.new1 _ _ _ _ | with_reducible exact Bk.new2 _ _ _ _ _ | with_reducible exact Bk.new3 _ _ _ _ _ _ | with_reducible refine Bk.alloc ?_ _ | with_reducible exact Bk.set3 (by repeat (first | with_reducible assumption | ((with_reducible refine Bk.far' ?_ ?_); (focus (first | (simp; done) | (simp; omega)))) | with_reducible refine Bk.drew ?_ | with_reducible refine Bk.alloc ?_ _)) _ _ _ | with_reducible exact Bk.set2 (by repeat (first | with_reducible assumption | ((with_reducible refine Bk.far' ?_ ?_); (focus (first | (simp; done) | (simp; omega)))) | with_reducible refine Bk.drew ?_ | with_reducible refine Bk.alloc ?_ _)) _ _ | ((with_reducible refine Bk.far' ?_ ?_); (focus (first | (simp; done) | (simp; omega)))))) hb7
  have hbw7 : Below w.heap.size w w7 := by repeat (first | with_reducible assumption | with_reducible exact bw_refl _ | with_reducible refine bw_alloc ?_ _ | with_reducible refine bw_drew ?_ | with_reducible refine bw_drewN _ ?_ | refine bw_set ?_ (by simp; try omega) _ | refine bw_call (by with_reducible assumption) ?_)
  clear f3b f3b_0 f3b_1 f3b_2 f3b_f f3b_l a3b a3b_0 a3b_1 a3b_2 a3b_f a3b_l b3b b3b_0 b3b_1 b3b_2 b3b_f b3b_l hbw6 hb7
  have a4b_0 : w7.cell? ⟨w4.heap.size, 0, none⟩ = some (.int .i64 ax) := a4b.cell 0
  have a4b_1 : w7.cell? ⟨w4.heap.size, 1, none⟩ = some (.int .i64 ay) := a4b.cell 1
  have a4b_2 : w7.cell? ⟨w4.heap.size, 2, none⟩ = some (.int .i64 ah) := a4b.cell 2
  have a4b_f := a4b.frozen
  have a4b_l := a4b.lt
  have b4b_0 : w7.cell? ⟨w5.heap.size, 0, none⟩ = some (.int .i64 bx) := b4b.cell 0
  have b4b_1 : w7.cell? ⟨w5.heap.size, 1, none⟩ = some (.int .i64 bY) := b4b.cell 1
  have b4b_2 : w7.cell? ⟨w5.heap.size, 2, none⟩ = some (.int .i64 bh) := b4b.cell 2
  have b4b_f := b4b.frozen
  have b4b_l := b4b.lt
  have c4b_0 : w7.cell? ⟨w6.heap.size, 0, none⟩ = some (.int .i64 cx) := c4b.cell 0
  have c4b_1 : w7.cell? ⟨w6.heap.size, 1, none⟩ = some (.int .i64 cy) := c4b.cell 1
  have c4b_2 : w7.cell? ⟨w6.heap.size, 2, none⟩ = some (.int .i64 ch) := c4b.cell 2
  have c4b_f := c4b.frozen
  have c4b_l := c4b.lt
  go_wp2_with fail
  refine (Pose_ok2 1000 193536 _ _ _ _ _ _ _ (by omega) (by omega) (by omega) (by omega) (by omega) (by omega) (by omega) (by omega) (by omega) (by omega) (by omega) (by omega)).mono ?_
  rintro e w8 ⟨dx, dy, dh, rfl, Hd, ⟨dh1, dh2, dx1, dx2, dy1, dy2⟩, hb8⟩
  have a5b : Bk w8 (w4.heap.size) 42 #[.int .i64 ax, .int .i64 ay, .int .i64 ah] := Bk.call (by repeat (first | with_reducible assumption | with_reducible refine Bk.drew ?_ | with_reducible refine Bk.drewN ?_ _ | with_reducible exact Bk.new _ _ _ | with_reducible exact Bk.new1 _ _ _ _ | with_reducible exact Bk.new2 _ _ _ _ _ | with_reducible exact Bk.new3 _ _ _ _ _ _ | with_reducible refine Bk.alloc ?_ _ | with_reducible exact Bk.set3 (by repeat (first | with_reducible assumption | ((with_reducible refine Bk.far' ?_ ?_); (focus (first | (simp; done) | (simp; omega)))) | with_reducible refine Bk.drew ?_ | with_reducible refine Bk.alloc ?_ _)) _ _ _ | with_reducible exact Bk.set2 (by repeat (first | with_reducible assumption | ((with_reducible refine Bk.far' ?_ ?_); (focus (first | (simp; done) | (simp; omega)))) | with_reducible refine Bk.drew ?_ | with_reducible refine Bk.alloc ?_ _)) _ _ | ((with_reducible refine Bk.far' ?_ ?_); (focus (first | (simp; done) | (simp; omega)))))) hb8
  have b5b : Bk w8 (w5.heap.size) 42 #[.int .i64 bx, .int .i64 bY, .int .i64 bh] := Bk.call (by repeat (first | with_reducible assumption | with_reducible refine Bk.drew ?_ | with_reducible refine Bk.drewN ?_ _ | with_reducible exact Bk.new _ _ _ | with_reducible exact Bk.new1 _ _ _ _ | with_reducible exact Bk.new2 _ _ _ _ _ | with_reducible exact Bk.new3 _ _ _ _ _ _ | with_reducible refine Bk.alloc ?_ _ | with_reducible exact Bk.set3 (by repeat (first | with_reducible assumption | ((with_reducible refine Bk.far' ?_ ?_); (focus (first | (simp; done) | (simp; omega)))) | with_reducible refine Bk.drew ?_ | with_reducible refine Bk.alloc ?_ _)) _ _ _ | with_reducible exact Bk.set2 (by repeat (first | with_reducible assumption | ((with_reducible refine Bk.far' ?_ ?_); (focus (first | (simp; done) | (simp; omega)))) | with_reducible refine Bk.drew ?_ | with_reducible refine Bk.alloc ?_ _)) _ _ | ((with_reducible refine Bk.far' ?_ ?_); (focus (first | (simp; done) | (simp; omega)))))) hb8
  have c5b : Bk w8 (w6.heap.size) 42 #[.int .i64 cx, .int .i64 cy, .int .i64 ch] := Bk.call (by repeat (first | with_reducible assumption | with_reducible refine Bk.drew ?_ | with_reducible refine Bk.drewN ?_ _ | with_reducible exact Bk.new _ _ _ | with_reducible exact Bk.new1 _ _ _ _ | with_reducible exact Bk.new2 _ _ _ _ _ | with_reducible exact Bk.new3 _ _ _ _ _ _ | with_reducible refine Bk.alloc ?_ _ | with_reducible exact Bk.set3 (by repeat (first | with_reducible assumption | ((with_reducible refine Bk.far' ?_ ?_); (focus (first | (simp; done) | (simp; omega)))) | with_reducible refine Bk.drew ?_ | with_reducible refine Bk.alloc ?_ _)) _ _ _ | with_reducible exact Bk.set2 (by repeat (first | with_reducible assumption | ((with_reducible refine Bk.far' ?_ ?_); (focus (first | (simp; done) | (simp; omega)))) | with_reducible refine Bk.drew ?_ | with_reducible refine Bk.alloc ?_ _)) _ _ | ((with_reducible refine Bk.far' ?_ ?_); (focus (first | (simp; done) | (simp; omega)))))) hb8
  have hbw8 : Below w.heap.size w w8 := by repeat (first | with_reducible assumption | with_reducible exact bw_refl _ | with_reducible refine bw_alloc ?_ _ | with_reducible refine bw_drew ?_ | with_reducible refine bw_drewN _ ?_ | refine bw_set ?_ (by simp; try omega) _ | refine bw_call (by with_reducible assumption) ?_)
  clear a4b a4b_0 a4b_1 a4b_2 a4b_f a4b_l b4b b4b_0 b4b_1 b4b_2 b4b_f b4b_l c4b c4b_0 c4b_1 c4b_2 c4b_f c4b_l hbw7 hb8
  have a5b_0 : w8.cell? ⟨w4.heap.size, 0, none⟩ = some (.int .i64 ax) := a5b.cell 0
  have a5b_1 : w8.cell? ⟨w4.heap.size, 1, none⟩ = some (.int .i64 ay) := a5b.cell 1
  have a5b_2 : w8.cell? ⟨w4.heap.size, 2, none⟩ = some (.int .i64 ah) := a5b.cell 2
  have a5b_f := a5b.frozen
  have a5b_l := a5b.lt
  have b5b_0 : w8.cell? ⟨w5.heap.size, 0, none⟩ = some (.int .i64 bx) := b5b.cell 0
  have b5b_1 : w8.cell? ⟨w5.heap.size, 1, none⟩ = some (.int .i64 bY) := b5b.cell 1
  have b5b_2 : w8.cell? ⟨w5.heap.size, 2, none⟩ = some (.int .i64 bh) := b5b.cell 2
  have b5b_f := b5b.frozen
  have b5b_l := b5b.lt
  have c5b_0 : w8.cell? ⟨w6.heap.size, 0, none⟩ = some (.int .i64 cx) := c5b.cell 0
  have c5b_1 : w8.cell? ⟨w6.heap.size, 1, none⟩ = some (.int .i64 cy) := c5b.cell 1
  have c5b_2 : w8.cell? ⟨w6.heap.size, 2, none⟩ = some (.int .i64 ch) := c5b.cell 2
  have c5b_f := c5b.frozen
  have c5b_l := c5b.lt
  have E1 : (ax, ay, ah) = (cx, cy, ch) := by rw [Ha.out, Hc.out, Hr.out, Hb.out]; exact poseF_cmp _ _ _ ⟨fq1, fq2⟩ ⟨gq1, gq2⟩
  have E2 : (dx, dy, dh) = (bx, bY, bh) := by rw [Hd.out, Hi.out, Hc.out]; exact poseF_inv _ _ ⟨fq1, fq2⟩ bh1 bh2
  clear Ha Hb Hc Hd Hi Hr
  simp only [Prod.mk.injEq] at E1 E2
  obtain ⟨rfl, rfl, rfl⟩ := E1
  obtain ⟨rfl, rfl, rfl⟩ := E2
  go_wp2_with fail
  go_ret
  exact ⟨rfl, by repeat (first | with_reducible assumption | with_reducible exact bw_refl _ | with_reducible refine bw_alloc ?_ _ | with_reducible refine bw_drew ?_ | with_reducible refine bw_drewN _ ?_ | refine bw_set ?_ (by simp; try omega) _ | refine bw_call (by with_reducible assumption) ?_)⟩

end Go.Proofs.Ytkacggfadalbiaa
