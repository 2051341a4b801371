/- The walk of FrameGroup. -/
import Derived.Test.YtkacggfadalbiaaAw
import Derived.Test.YtkacggfadalbiaaRg
namespace Go.Proofs.Ytkacggfadalbiaa
open Go.RowKit

theorem clip_bd2 (n m : Int) (h : 0 ≤ m) : -m ≤ clipI n (-m) m ∧ clipI n (-m) m ≤ m := by unfold clipI; omega

set_option maxRecDepth 100000 in
set_option maxHeartbeats 4000000 in
theorem group_walk (Fq Fx Fy Gq Gx Gy Hq Hx Hy : Int) (w : World) :
    Calls Try.prog 4 #[.agg #[.int .i64 Fq, .int .i64 Fx, .int .i64 Fy], .agg #[.int .i64 Gq, .int .i64 Gx, .int .i64 Gy], .agg #[.int .i64 Hq, .int .i64 Hx, .int .i64 Hy]] w fun e w' => e = .returned (.bool true) ∧ Below w.heap.size w w' := by
  go_enter Try.func4, Try.ntmps4
  go_wp2_with fail
  refine (awake_any _).mono ?_
  rintro e w1 ⟨rfl, hb1⟩
  have a0 : Bk w1 (w.heap.size) 23 #[.int .i64 Fq, .int .i64 Fx, .int .i64 Fy] := Bk.call (by repeat (first | with_reducible assumption | with_reducible refine Bk.drew ?_ | with_reducible refine Bk.drewN ?_ _ | with_reducible exact Bk.new _ _ _ | with_reducible exact Bk.new1 _ _ _ _ | with_reducible exact Bk.new2 _ _ _ _ _ | with_reducible exact Bk.new3 _ _ _ _ _ _ | with_reducible refine Bk.alloc ?_ _ | with_reducible exact Bk.set3 (by repeat (first | with_reducible assumption | ((with_reducible refine Bk.far' ?_ ?_); (focus (first | (simp; done) | (simp; omega)))) | with_reducible refine Bk.drew ?_ | with_reducible refine Bk.alloc ?_ _)) _ _ _ | with_reducible exact Bk.set2 (by repeat (first | with_reducible assumption | ((with_reducible refine Bk.far' ?_ ?_); (focus (first | (simp; done) | (simp; omega)))) | with_reducible refine Bk.drew ?_ | with_reducible refine Bk.alloc ?_ _)) _ _ | ((with_reducible refine Bk.far' ?_ ?_); (focus (first | (simp; done) | (simp; omega)))))) hb1
  have a1 : Bk w1 (w.heap.size + 1) 23 #[.int .i64 Gq, .int .i64 Gx, .int .i64 Gy] := Bk.call (by repeat (first | with_reducible assumption | with_reducible refine Bk.drew ?_ | with_reducible refine Bk.drewN ?_ _ | with_reducible exact Bk.new _ _ _ | with_reducible exact Bk.new1 _ _ _ _ | with_reducible exact Bk.new2 _ _ _ _ _ | with_reducible exact Bk.new3 _ _ _ _ _ _ | with_reducible refine Bk.alloc ?_ _ | with_reducible exact Bk.set3 (by repeat (first | with_reducible assumption | ((with_reducible refine Bk.far' ?_ ?_); (focus (first | (simp; done) | (simp; omega)))) | with_reducible refine Bk.drew ?_ | with_reducible refine Bk.alloc ?_ _)) _ _ _ | with_reducible exact Bk.set2 (by repeat (first | with_reducible assumption | ((with_reducible refine Bk.far' ?_ ?_); (focus (first | (simp; done) | (simp; omega)))) | with_reducible refine Bk.drew ?_ | with_reducible refine Bk.alloc ?_ _)) _ _ | ((with_reducible refine Bk.far' ?_ ?_); (focus (first | (simp; done) | (simp; omega)))))) hb1
  have a2 : Bk w1 (w.heap.size + 1 + 1) 23 #[.int .i64 Hq, .int .i64 Hx, .int .i64 Hy] := Bk.call (by repeat (first | with_reducible assumption | with_reducible refine Bk.drew ?_ | with_reducible refine Bk.drewN ?_ _ | with_reducible exact Bk.new _ _ _ | with_reducible exact Bk.new1 _ _ _ _ | with_reducible exact Bk.new2 _ _ _ _ _ | with_reducible exact Bk.new3 _ _ _ _ _ _ | with_reducible refine Bk.alloc ?_ _ | with_reducible exact Bk.set3 (by repeat (first | with_reducible assumption | ((with_reducible refine Bk.far' ?_ ?_); (focus (first | (simp; done) | (simp; omega)))) | with_reducible refine Bk.drew ?_ | with_reducible refine Bk.alloc ?_ _)) _ _ _ | with_reducible exact Bk.set2 (by repeat (first | with_reducible assumption | ((with_reducible refine Bk.far' ?_ ?_); (focus (first | (simp; done) | (simp; omega)))) | with_reducible refine Bk.drew ?_ | with_reducible refine Bk.alloc ?_ _)) _ _ | ((with_reducible refine Bk.far' ?_ ?_); (focus (first | (simp; done) | (simp; omega)))))) hb1
  have hbw1 : Below w.heap.size w w1 := by repeat (first | with_reducible assumption | with_reducible exact bw_refl _ | with_reducible refine bw_alloc ?_ _ | with_reducible refine bw_drew ?_ | with_reducible refine bw_drewN _ ?_ | refine bw_set ?_ (by simp; try omega) _ | refine bw_call (by with_reducible assumption) ?_)
  clear hb1
  have a0_0 : w1.cell? ⟨w.heap.size, 0, none⟩ = some (.int .i64 Fq) := a0.cell 0
  have a0_1 : w1.cell? ⟨w.heap.size, 1, none⟩ = some (.int .i64 Fx) := a0.cell 1
  have a0_2 : w1.cell? ⟨w.heap.size, 2, none⟩ = some (.int .i64 Fy) := a0.cell 2
  have a0_f := a0.frozen
  have a0_l := a0.lt
  have a1_0 : w1.cell? ⟨w.heap.size + 1, 0, none⟩ = some (.int .i64 Gq) := a1.cell 0
  have a1_1 : w1.cell? ⟨w.heap.size + 1, 1, none⟩ = some (.int .i64 Gx) := a1.cell 1
  have a1_2 : w1.cell? ⟨w.heap.size + 1, 2, none⟩ = some (.int .i64 Gy) := a1.cell 2
  have a1_f := a1.frozen
  have a1_l := a1.lt
  have a2_0 : w1.cell? ⟨w.heap.size + 1 + 1, 0, none⟩ = some (.int .i64 Hq) := a2.cell 0
  have a2_1 : w1.cell? ⟨w.heap.size + 1 + 1, 1, none⟩ = some (.int .i64 Hx) := a2.cell 1
  have a2_2 : w1.cell? ⟨w.heap.size + 1 + 1, 2, none⟩ = some (.int .i64 Hy) := a2.cell 2
  have a2_f := a2.frozen
  have a2_l := a2.lt
  go_wp2_with fail
  refine region_grow (fun w0 => Below w1.heap.size w1 w0) 6 (by kernel_rfl) (by kernel_rfl) (by repeat (first | with_reducible assumption | with_reducible exact bw_refl _ | with_reducible refine bw_alloc ?_ _ | with_reducible refine bw_drew ?_ | with_reducible refine bw_drewN _ ?_ | refine bw_set ?_ (by simp; try omega) _ | refine bw_call (by with_reducible assumption) ?_)) ?_
  simp only [List.take_succ_cons, List.take_zero, List.drop_succ_cons, List.drop_zero]
  iterate 6 (first | (refine wpG_ex ?_ ?_; (focus (go_simp; done)); constructor; constructor; (focus (intro w0 hS0; obtain ⟨hSc, hSf⟩ := bcell hS0; go_simp; exact ⟨rfl, hS0⟩)); (focus (intro K hK; go_simp; refine hK _ ?_; clear hK K))) | (refine wpG_ex ?_ ?_; (focus (go_simp; done)); constructor; constructor; (focus (intro w0 hS0; obtain ⟨hSc, hSf⟩ := bcell hS0; go_simp; exact grow_of hS0 (nearf_any _ _ _ _ _ (by omega) (by omega)))); (focus (intro K hK; go_simp; refine hK _ ?_; clear hK K))) | (refine wpG_skip ?_ ?_; (focus (go_simp; done)); intro K hK; go_simp; refine hK _ ?_; clear hK K))
  refine wpG_nil ?_
  intro w2 hSw2
  have fq1 : 0 ≤ Fq % 4 := by omega
  have fq2 : Fq % 4 < 4 := by omega
  generalize Fq % 4 = fq at *
  obtain ⟨fx1, fx2⟩ := clip_bd2 Fx 2000 (by omega)
  generalize clipI Fx (-2000) 2000 = fx at *
  obtain ⟨fy1, fy2⟩ := clip_bd2 Fy 2000 (by omega)
  generalize clipI Fy (-2000) 2000 = fy at *
  have gq1 : 0 ≤ Gq % 4 := by omega
  have gq2 : Gq % 4 < 4 := by omega
  generalize Gq % 4 = gq at *
  obtain ⟨gx1, gx2⟩ := clip_bd2 Gx 2000 (by omega)
  generalize clipI Gx (-2000) 2000 = gx at *
  obtain ⟨gy1, gy2⟩ := clip_bd2 Gy 2000 (by omega)
  generalize clipI Gy (-2000) 2000 = gy at *
  have hq1 : 0 ≤ Hq % 4 := by omega
  have hq2 : Hq % 4 < 4 := by omega
  generalize Hq % 4 = hq at *
  obtain ⟨hx1, hx2⟩ := clip_bd2 Hx 2000 (by omega)
  generalize clipI Hx (-2000) 2000 = hx at *
  obtain ⟨hy1, hy2⟩ := clip_bd2 Hy 2000 (by omega)
  generalize clipI Hy (-2000) 2000 = hy at *
  have hbw2 : Below w.heap.size w w2 := by repeat (first | with_reducible assumption | with_reducible exact bw_refl _ | with_reducible refine bw_alloc ?_ _ | with_reducible refine bw_drew ?_ | with_reducible refine bw_drewN _ ?_ | refine bw_set ?_ (by simp; try omega) _ | refine bw_call (by with_reducible assumption) ?_)
  replace a0 := a0.call hSw2
  replace a1 := a1.call hSw2
  replace a2 := a2.call hSw2
  clear hSw2 hbw1 a0_0 a0_1 a0_2 a0_f a0_l a1_0 a1_1 a1_2 a1_f a1_l a2_0 a2_1 a2_2 a2_f a2_l
  have a0_0 : w2.cell? ⟨w.heap.size, 0, none⟩ = some (.int .i64 Fq) := a0.cell 0
  have a0_1 : w2.cell? ⟨w.heap.size, 1, none⟩ = some (.int .i64 Fx) := a0.cell 1
  have a0_2 : w2.cell? ⟨w.heap.size, 2, none⟩ = some (.int .i64 Fy) := a0.cell 2
  have a0_f := a0.frozen
  have a0_l := a0.lt
  have a1_0 : w2.cell? ⟨w.heap.size + 1, 0, none⟩ = some (.int .i64 Gq) := a1.cell 0
  have a1_1 : w2.cell? ⟨w.heap.size + 1, 1, none⟩ = some (.int .i64 Gx) := a1.cell 1
  have a1_2 : w2.cell? ⟨w.heap.size + 1, 2, none⟩ = some (.int .i64 Gy) := a1.cell 2
  have a1_f := a1.frozen
  have a1_l := a1.lt
  have a2_0 : w2.cell? ⟨w.heap.size + 1 + 1, 0, none⟩ = some (.int .i64 Hq) := a2.cell 0
  have a2_1 : w2.cell? ⟨w.heap.size + 1 + 1, 1, none⟩ = some (.int .i64 Hx) := a2.cell 1
  have a2_2 : w2.cell? ⟨w.heap.size + 1 + 1, 2, none⟩ = some (.int .i64 Hy) := a2.cell 2
  have a2_f := a2.frozen
  have a2_l := a2.lt
  go_wp2_with fail
  refine (Compose_ok 2000 2000 _ _ _ _ _ _ _ (by omega) (by omega) (by omega) (by omega) (by omega) (by omega) (by omega) (by omega) (by omega)).mono ?_
  rintro e w3 ⟨pq, px, py, rfl, Hp, ⟨pq1, pq2, px1, px2, py1, py2⟩, hb3⟩
  have f0b : Bk w3 (w.heap.size) 23 #[.int .i64 fq, .int .i64 fx, .int .i64 fy] := Bk.call (by repeat (first | with_reducible assumption | with_reducible refine Bk.drew ?_ | with_reducible refine Bk.drewN ?_ _ | with_reducible exact Bk.new _ _ _ | with_reducible exact Bk.new1 _ _ _ _ | with_reducible exact Bk.new2 _ _ _ _ _ | with_reducible exact Bk.new3 _ _ _ _ _ _ | with_reducible refine Bk.alloc ?_ _ | with_reducible exact Bk.set3 (by repeat (first | with_reducible assumption | ((with_reducible refine Bk.far' ?_ ?_); (focus (first | (simp; done) | (simp; omega)))) | with_reducible refine Bk.drew ?_ | with_reducible refine Bk.alloc ?_ _)) _ _ _ | with_reducible exact Bk.set2 (by repeat (first | with_reducible assumption | ((with_reducible refine Bk.far' ?_ ?_); (focus (first | (simp; done) | (simp; omega)))) | with_reducible refine Bk.drew ?_ | with_reducible refine Bk.alloc ?_ _)) _ _ | ((with_reducible refine Bk.far' ?_ ?_); (focus (first | (simp; done) | (simp; omega)))))) hb3
  have g0b : Bk w3 (w.heap.size + 1) 23 #[.int .i64 gq, .int .i64 gx, .int .i64 gy] := Bk.call (by repeat (first | with_reducible assumption | with_reducible refine Bk.drew ?_ | with_reducible refine Bk.drewN ?_ _ | with_reducible exact Bk.new _ _ _ | with_reducible exact Bk.new1 _ _ _ _ | with_reducible exact Bk.new2 _ _ _ _ _ | with_reducible exact Bk.new3 _ _ _ _ _ _ | with_reducible refine Bk.alloc ?_ _ | with_reducible exact Bk.set3 (by repeat (first | with_reducible assumption | ((with_reducible refine Bk.far' ?_ ?_); (focus (first | (simp; done) | (simp; omega)))) | with_reducible refine Bk.drew ?_ | with_reducible refine Bk.alloc ?_ _)) _ _ _ | with_reducible exact Bk.set2 (by repeat (first | with_reducible assumption | ((with_reducible refine Bk.far' ?_ ?_); (focus (first | (simp; done) | (simp; omega)))) | with_reducible refine Bk.drew ?_ | with_reducible refine Bk.alloc ?_ _)) _ _ | ((with_reducible refine Bk.far' ?_ ?_); (focus (first | (simp; done) | (simp; omega)))))) hb3
  have h0b : Bk w3 (w.heap.size + 1 + 1) 23 #[.int .i64 hq, .int .i64 hx, .int .i64 hy] := Bk.call (by repeat (first | with_reducible assumption | with_reducible refine Bk.drew ?_ | with_reducible refine Bk.drewN ?_ _ | with_reducible exact Bk.new _ _ _ | with_reducible exact Bk.new1 _ _ _ _ | with_reducible exact Bk.new2 _ _ _ _ _ | with_reducible exact Bk.new3 _ _ _ _ _ _ | with_reducible refine Bk.alloc ?_ _ | with_reducible exact Bk.set3 (by repeat (first | with_reducible assumption | ((with_reducible refine Bk.far' ?_ ?_); (focus (first | (simp; done) | (simp; omega)))) | with_reducible refine Bk.drew ?_ | with_reducible refine Bk.alloc ?_ _)) _ _ _ | with_reducible exact Bk.set2 (by repeat (first | with_reducible assumption | ((with_reducible refine Bk.far' ?_ ?_); (focus (first | (simp; done) | (simp; omega)))) | with_reducible refine Bk.drew ?_ | with_reducible refine Bk.alloc ?_ _)) _ _ | ((with_reducible refine Bk.far' ?_ ?_); (focus (first | (simp; done) | (simp; omega)))))) hb3
  have hbw3 : Below w.heap.size w w3 := by repeat (first | with_reducible assumption | with_reducible exact bw_refl _ | with_reducible refine bw_alloc ?_ _ | with_reducible refine bw_drew ?_ | with_reducible refine bw_drewN _ ?_ | refine bw_set ?_ (by simp; try omega) _ | refine bw_call (by with_reducible assumption) ?_)
  clear a0 a0_0 a0_1 a0_2 a0_f a0_l a1 a1_0 a1_1 a1_2 a1_f a1_l a2 a2_0 a2_1 a2_2 a2_f a2_l hbw2 hb3
  have f0b_0 : w3.cell? ⟨w.heap.size, 0, none⟩ = some (.int .i64 fq) := f0b.cell 0
  have f0b_1 : w3.cell? ⟨w.heap.size, 1, none⟩ = some (.int .i64 fx) := f0b.cell 1
  have f0b_2 : w3.cell? ⟨w.heap.size, 2, none⟩ = some (.int .i64 fy) := f0b.cell 2
  have f0b_f := f0b.frozen
  have f0b_l := f0b.lt
  have g0b_0 : w3.cell? ⟨w.heap.size + 1, 0, none⟩ = some (.int .i64 gq) := g0b.cell 0
  have g0b_1 : w3.cell? ⟨w.heap.size + 1, 1, none⟩ = some (.int .i64 gx) := g0b.cell 1
  have g0b_2 : w3.cell? ⟨w.heap.size + 1, 2, none⟩ = some (.int .i64 gy) := g0b.cell 2
  have g0b_f := g0b.frozen
  have g0b_l := g0b.lt
  have h0b_0 : w3.cell? ⟨w.heap.size + 1 + 1, 0, none⟩ = some (.int .i64 hq) := h0b.cell 0
  have h0b_1 : w3.cell? ⟨w.heap.size + 1 + 1, 1, none⟩ = some (.int .i64 hx) := h0b.cell 1
  have h0b_2 : w3.cell? ⟨w.heap.size + 1 + 1, 2, none⟩ = some (.int .i64 hy) := h0b.cell 2
  have h0b_f := h0b.frozen
  have h0b_l := h0b.lt
  go_wp2_with fail
  refine (Compose_ok 2000 2000 _ _ _ _ _ _ _ (by omega) (by omega) (by omega) (by omega) (by omega) (by omega) (by omega) (by omega) (by omega)).mono ?_
  rintro e w4 ⟨rq, rx, ry, rfl, Hr, ⟨rq1, rq2, rx1, rx2, ry1, ry2⟩, hb4⟩
  have f1b : Bk w4 (w.heap.size) 23 #[.int .i64 fq, .int .i64 fx, .int .i64 fy] := Bk.call (by repeat (first | with_reducible assumption | with_reducible refine Bk.drew ?_ | with_reducible refine Bk.drewN ?_ _ | with_reducible exact Bk.new _ _ _ | with_reducible exact Bk.new1 _ _ _ _ | with_reducible exact Bk.new2 _ _ _ _ _ | with_reducible exact Bk.new3 _ _ _ _ _ _ | with_reducible refine Bk.alloc ?_ _ | with_reducible exact Bk.set3 (by repeat (first | with_reducible assumption | ((with_reducible refine Bk.far' ?_ ?_); (focus (first | (simp; done) | (simp; omega)))) | with_reducible refine Bk.drew ?_ | with_reducible refine Bk.alloc ?_ _)) _ _ _ | with_reducible exact Bk.set2 (by repeat (first | with_reducible assumption | ((with_reducible refine Bk.far' ?_ ?_); (focus (first | (simp; done) | (simp; omega)))) | with_reducible refine Bk.drew ?_ | with_reducible refine Bk.alloc ?_ _)) _ _ | ((with_reducible refine Bk.far' ?_ ?_); (focus (first | (simp; done) | (simp; omega)))))) hb4
  have h1b : Bk w4 (w.heap.size + 1 + 1) 23 #[.int .i64 hq, .int .i64 hx, .int .i64 hy] := Bk.call (by repeat (first | with_reducible assumption | with_reducible refine Bk.drew ?_ | with_reducible refine Bk.drewN ?_ _ | with_reducible exact Bk.new _ _ _ | with_reducible exact Bk.new1 _ _ _ _ | with_reducible exact Bk.new2 _ _ _ _ _ | with_reducible exact Bk.new3 _ _ _ _ _ _ | with_reducible refine Bk.alloc ?_ _ | with_reducible exact Bk.set3 (by repeat (first | with_reducible assumption | ((with_reducible refine Bk.far' ?_ ?_); (focus (first | (simp; done) | (simp; omega)))) | with_reducible refine Bk.drew ?_ | with_reducible refine Bk.alloc ?_ _)) _ _ _ | with_reducible exact Bk.set2 (by repeat (first | with_reducible assumption | ((with_reducible refine Bk.far' ?_ ?_); (focus (first | (simp; done) | (simp; omega)))) | with_reducible refine Bk.drew ?_ | with_reducible refine Bk.alloc ?_ _)) _ _ | ((with_reducible refine Bk.far' ?_ ?_); (focus (first | (simp; done) | (simp; omega)))))) hb4
  have p1b : Bk w4 (w3.heap.size) 23 #[.int .i64 pq, .int .i64 px, .int .i64 py] := Bk.call (by repeat (first | with_reducible assumption | with_reducible refine Bk.drew ?_ | with_reducible refine Bk.drewN ?_ _ | with_reducible exact Bk.new _ _ _ | with_reducible exact Bk.new1 _ _ _ _ | with_reducible exact Bk.new2 _ _ _ _ _ | with_reducible exact Bk.new3 _ _ _ _ _ _ | with_reducible refine Bk.alloc ?_ _ | with_reducible exact Bk.set3 (by repeat (first | with_reducible assumption | ((with_reducible refine Bk.far' ?_ ?_); (focus (first | (simp; done) | (simp; omega)))) | with_reducible refine Bk.drew ?_ | with_reducible refine Bk.alloc ?_ _)) _ _ _ | with_reducible exact Bk.set2 (by repeat (first | with_reducible assumption | ((with_reducible refine Bk.far' ?_ ?_); (focus (first | (simp; done) | (simp; omega)))) | with_reducible refine Bk.drew ?_ | with_reducible refine Bk.alloc ?_ _)) _ _ | ((with_reducible refine Bk.far' ?_ ?_); (focus (first | (simp; done) | (simp; omega)))))) hb4
  have hbw4 : Below w.heap.size w w4 := by repeat (first | with_reducible assumption | with_reducible exact bw_refl _ | with_reducible refine bw_alloc ?_ _ | with_reducible refine bw_drew ?_ | with_reducible refine bw_drewN _ ?_ | refine bw_set ?_ (by simp; try omega) _ | refine bw_call (by with_reducible assumption) ?_)
  clear f0b f0b_0 f0b_1 f0b_2 f0b_f f0b_l g0b g0b_0 g0b_1 g0b_2 g0b_f g0b_l h0b h0b_0 h0b_1 h0b_2 h0b_f h0b_l hbw3 hb4
  have f1b_0 : w4.cell? ⟨w.heap.size, 0, none⟩ = some (.int .i64 fq) := f1b.cell 0
  have f1b_1 : w4.cell? ⟨w.heap.size, 1, none⟩ = some (.int .i64 fx) := f1b.cell 1
  have f1b_2 : w4.cell? ⟨w.heap.size, 2, none⟩ = some (.int .i64 fy) := f1b.cell 2
  have f1b_f := f1b.frozen
  have f1b_l := f1b.lt
  have h1b_0 : w4.cell? ⟨w.heap.size + 1 + 1, 0, none⟩ = some (.int .i64 hq) := h1b.cell 0
  have h1b_1 : w4.cell? ⟨w.heap.size + 1 + 1, 1, none⟩ = some (.int .i64 hx) := h1b.cell 1
  have h1b_2 : w4.cell? ⟨w.heap.size + 1 + 1, 2, none⟩ = some (.int .i64 hy) := h1b.cell 2
  have h1b_f := h1b.frozen
  have h1b_l := h1b.lt
  have p1b_0 : w4.cell? ⟨w3.heap.size, 0, none⟩ = some (.int .i64 pq) := p1b.cell 0
  have p1b_1 : w4.cell? ⟨w3.heap.size, 1, none⟩ = some (.int .i64 px) := p1b.cell 1
  have p1b_2 : w4.cell? ⟨w3.heap.size, 2, none⟩ = some (.int .i64 py) := p1b.cell 2
  have p1b_f := p1b.frozen
  have p1b_l := p1b.lt
  go_wp2_with fail
  refine (Compose_ok 4000 2000 _ _ _ _ _ _ _ (by omega) (by omega) (by omega) (by omega) (by omega) (by omega) (by omega) (by omega) (by omega)).mono ?_
  rintro e w5 ⟨aq, ax, ay, rfl, Ha, ⟨aq1, aq2, ax1, ax2, ay1, ay2⟩, hb5⟩
  have f2b : Bk w5 (w.heap.size) 23 #[.int .i64 fq, .int .i64 fx, .int .i64 fy] := Bk.call (by repeat (first | with_reducible assumption | with_reducible refine Bk.drew ?_ | with_reducible refine Bk.drewN ?_ _ | with_reducible exact Bk.new _ _ _ | with_reducible exact Bk.new1 _ _ _ _ | with_reducible exact Bk.new2 _ _ _ _ _ | with_reducible exact Bk.new3 _ _ _ _ _ _ | with_reducible refine Bk.alloc ?_ _ | with_reducible exact Bk.set3 (by repeat (first | with_reducible assumption | ((with_reducible refine Bk.far' ?_ ?_); (focus (first | (simp; done) | (simp; omega)))) | with_reducible refine Bk.drew ?_ | with_reducible refine Bk.alloc ?_ _)) _ _ _ | with_reducible exact Bk.set2 (by repeat (first | with_reducible assumption | ((with_reducible refine Bk.far' ?_ ?_); (focus (first | (simp; done) | (simp; omega)))) | with_reducible refine Bk.drew ?_ | with_reducible refine Bk.alloc ?_ _)) _ _ | ((with_reducible refine Bk.far' ?_ ?_); (focus (first | (simp; done) | (simp; omega)))))) hb5
  have r2b : Bk w5 (w4.heap.size) 23 #[.int .i64 rq, .int .i64 rx, .int .i64 ry] := Bk.call (by repeat (first | with_reducible assumption | with_reducible refine Bk.drew ?_ | with_reducible refine Bk.drewN ?_ _ | with_reducible exact Bk.new _ _ _ | with_reducible exact Bk.new1 _ _ _ _ | with_reducible exact Bk.new2 _ _ _ _ _ | with_reducible exact Bk.new3 _ _ _ _ _ _ | with_reducible refine Bk.alloc ?_ _ | with_reducible exact Bk.set3 (by repeat (first | with_reducible assumption | ((with_reducible refine Bk.far' ?_ ?_); (focus (first | (simp; done) | (simp; omega)))) | with_reducible refine Bk.drew ?_ | with_reducible refine Bk.alloc ?_ _)) _ _ _ | with_reducible exact Bk.set2 (by repeat (first | with_reducible assumption | ((with_reducible refine Bk.far' ?_ ?_); (focus (first | (simp; done) | (simp; omega)))) | with_reducible refine Bk.drew ?_ | with_reducible refine Bk.alloc ?_ _)) _ _ | ((with_reducible refine Bk.far' ?_ ?_); (focus (first | (simp; done) | (simp; omega)))))) hb5
  have hbw5 : Below w.heap.size w w5 := by repeat (first | with_reducible assumption | with_reducible exact bw_refl _ | with_reducible refine bw_alloc ?_ _ | with_reducible refine bw_drew ?_ | with_reducible refine bw_drewN _ ?_ | refine bw_set ?_ (by simp; try omega) _ | refine bw_call (by with_reducible assumption) ?_)
  clear f1b f1b_0 f1b_1 f1b_2 f1b_f f1b_l h1b h1b_0 h1b_1 h1b_2 h1b_f h1b_l p1b p1b_0 p1b_1 p1b_2 p1b_f p1b_l hbw4 hb5
  have f2b_0 : w5.cell? ⟨w.heap.size, 0, none⟩ = some (.int .i64 fq) := f2b.cell 0
  have f2b_1 : w5.cell? ⟨w.heap.size, 1, none⟩ = some (.int .i64 fx) := f2b.cell 1
  have f2b_2 : w5.cell? ⟨w.heap.size, 2, none⟩ = some (.int .i64 fy) := f2b.cell 2
  have f2b_f := f2b.frozen
  have f2b_l := f2b.lt
  have r2b_0 : w5.cell? ⟨w4.heap.size, 0, none⟩ = some (.int .i64 rq) := r2b.cell 0
  have r2b_1 : w5.cell? ⟨w4.heap.size, 1, none⟩ = some (.int .i64 rx) := r2b.cell 1
  have r2b_2 : w5.cell? ⟨w4.heap.size, 2, none⟩ = some (.int .i64 ry) := r2b.cell 2
  have r2b_f := r2b.frozen
  have r2b_l := r2b.lt
  go_wp2_with fail
  refine (Compose_ok 2000 4000 _ _ _ _ _ _ _ (by omega) (by omega) (by omega) (by omega) (by omega) (by omega) (by omega) (by omega) (by omega)).mono ?_
  rintro e w6 ⟨mq, mx, my, rfl, Hm, ⟨mq1, mq2, mx1, mx2, my1, my2⟩, hb6⟩
  have f3b : Bk w6 (w.heap.size) 23 #[.int .i64 fq, .int .i64 fx, .int .i64 fy] := Bk.call (by repeat (first | with_reducible assumption | with_reducible refine Bk.drew ?_ | with_reducible refine Bk.drewN ?_ _ | with_reducible exact Bk.new _ _ _ | with_reducible exact Bk.new1 _ _ _ _ | with_reducible exact Bk.new2 _ _ _ _ _ | with_reducible exact Bk.new3 _ _ _ _ _ _ | with_reducible refine Bk.alloc ?_ _ | with_reducible exact Bk.set3 (by repeat (first | with_reducible assumption | ((with_reducible refine Bk.far' ?_ ?_); (focus (first | (simp; done) | (simp; omega)))) | with_reducible refine Bk.drew ?_ | with_reducible refine Bk.alloc ?_ _)) _ _ _ | with_reducible exact Bk.set2 (by repeat (first | with_reducible assumption | ((with_reducible refine Bk.far' ?_ ?_); (focus (first | (simp; done) | (simp; omega)))) | with_reducible refine Bk.drew ?_ | with_reducible refine Bk.alloc ?_ _)) _ _ | ((with_reducible refine Bk.far' ?_ ?_); (focus (first | (simp; done) | (simp; omega)))))) hb6
  have a3b : Bk w6 (w5.heap.size) 23 #[.int .i64 aq, .int .i64 ax, .int .i64 ay] := Bk.call (by repeat (first | with_reducible assumption | with_reducible refine Bk.drew ?_ | with_reducible refine Bk.drewN ?_ _ | with_reducible exact Bk.new _ _ _ | with_reducible exact Bk.new1 _ _ _ _ | with_reducible exact Bk.new2 _ _ _ _ _ | with_reducible exact Bk.new3 _ _ _ _ _ _ | with_reducible refine Bk.alloc ?_ _ | with_reducible exact Bk.set3 (by repeat (first | with_reducible assumption | ((with_reducible refine Bk.far' ?_ ?_); (focus (first | (simp; done) | (simp; omega)))) | with_reducible refine Bk.drew ?_ | with_reducible refine Bk.alloc ?_ _)) _ _ _ | with_reducible exact Bk.set2 (by repeat (first | with_reducible assumption | ((with_reducible refine Bk.far' ?_ ?_); (focus (first | (simp; done) | (simp; omega)))) | with_reducible refine Bk.drew ?_ | with_reducible refine Bk.alloc ?_ _)) _ _ | ((with_reducible refine Bk.far' ?_ ?_); (focus (first | (simp; done) | (simp; omega)))))) hb6
  have hbw6 : Below w.heap.size w w6 := by repeat (first | with_reducible assumption | with_reducible exact bw_refl _ | with_reducible refine bw_alloc ?_ _ | with_reducible refine bw_drew ?_ | with_reducible refine bw_drewN _ ?_ | refine bw_set ?_ (by simp; try omega) _ | refine bw_call (by with_reducible assumption) ?_)
  clear f2b f2b_0 f2b_1 f2b_2 f2b_f f2b_l r2b r2b_0 r2b_1 r2b_2 r2b_f r2b_l hbw5 hb6
  have f3b_0 : w6.cell? ⟨w.heap.size, 0, none⟩ = some (.int .i64 fq) := f3b.cell 0
  have f3b_1 : w6.cell? ⟨w.heap.size, 1, none⟩ = some (.int .i64 fx) := f3b.cell 1
  have f3b_2 : w6.cell? ⟨w.heap.size, 2, none⟩ = some (.int .i64 fy) := f3b.cell 2
  have f3b_f := f3b.frozen
  have f3b_l := f3b.lt
  have a3b_0 : w6.cell? ⟨w5.heap.size, 0, none⟩ = some (.int .i64 aq) := a3b.cell 0
  have a3b_1 : w6.cell? ⟨w5.heap.size, 1, none⟩ = some (.int .i64 ax) := a3b.cell 1
  have a3b_2 : w6.cell? ⟨w5.heap.size, 2, none⟩ = some (.int .i64 ay) := a3b.cell 2
  have a3b_f := a3b.frozen
  have a3b_l := a3b.lt
  go_wp2_with fail
  refine (Compose_ok 2000 0 _ _ _ _ _ _ _ (by omega) (by omega) (by omega) (by omega) (by omega) (by omega) (by omega) (by omega) (by omega)).mono ?_
  rintro e w7 ⟨cq, cx, cy, rfl, Hc, ⟨cq1, cq2, cx1, cx2, cy1, cy2⟩, hb7⟩
  have f4b : Bk w7 (w.heap.size) 23 #[.int .i64 fq, .int .i64 fx, .int .i64 fy] := Bk.call (by repeat (first | with_reducible assumption | with_reducible refine Bk.drew ?_ | with_reducible refine Bk.drewN ?_ _ | with_reducible exact Bk.new _ _ _ | with_reducible exact Bk.new1 _ _ _ _ | with_reducible exact Bk.new2 _ _ _ _ _ | with_reducible exact Bk.new3 _ _ _ _ _ _ | with_reducible refine Bk.alloc ?_ _ | with_reducible exact Bk.set3 (by repeat (first | with_reducible assumption | ((with_reducible refine Bk.far' ?_ ?_); (focus (first | (simp; done) | (simp; omega)))) | with_reducible refine Bk.drew ?_ | with_reducible refine Bk.alloc ?_ _)) _ _ _ | with_reducible exact Bk.set2 (by repeat (first | with_reducible assumption | ((with_reducible refine Bk.far' ?_ ?_); (focus (first | (simp; done) | (simp; omega)))) | with_reducible refine Bk.drew ?_ | with_reducible refine Bk.alloc ?_ _)) _ _ | ((with_reducible refine Bk.far' ?_ ?_); (focus (first | (simp; done) | (simp; omega)))))) hb7
  have a4b : Bk w7 (w5.heap.size) 23 #[.int .i64 aq, .int .i64 ax, .int .i64 ay] := Bk.call (by repeat (first | with_reducible assumption | with_reducible refine Bk.drew ?_ | with_reducible refine Bk.drewN ?_ _ | with_reducible exact Bk.new _ _ _ | with_reducible exact Bk.new1 _ _ _ _ | with_reducible exact Bk.new2 _ _ _ _ _ | with_reducible exact Bk.new3 _ _ _ _ _ _ | with_reducible refine Bk.alloc ?_ _ | with_reducible exact Bk.set3 (by repeat (first | with_reducible assumption | ((with_reducible refine Bk.far' ?_ ?_); (focus (first | (simp; done) | (simp; omega)))) | with_reducible refine Bk.drew ?_ | with_reducible refine Bk.alloc ?_ _)) _ _ _ | with_reducible exact Bk.set2 (by repeat (first | with_reducible assumption | ((with_reducible refine Bk.far' ?_ ?_); (focus (first | (simp; done) | (simp; omega)))) | with_reducible refine Bk.drew ?_ | with_reducible refine Bk.alloc ?_ _)) _ _ | ((with_reducible refine Bk.far' ?_ ?_); (focus (first | (simp; done) | (simp; omega)))))) hb7
  have m4b : Bk w7 (w6.heap.size) 23 #[.int .i64 mq, .int .i64 mx, .int .i64 my] := Bk.call (by repeat (first | with_reducible assumption | with_reducible refine Bk.drew ?_ | with_reducible refine Bk.drewN ?_ _ | with_reducible exact Bk.new _ _ _ | with_reducible exact Bk.new1 _ _ _ _ | with_reducible exact Bk.new2 _ _ _ _ _ | with_reducible exact Bk.new3 _ _ _ _ _ _ | with_reducible refine Bk.alloc ?_ _ | with_reducible exact Bk.set3 (by repeat (first | with_reducible assumption | ((with_reducible refine Bk.far' ?_ ?_); (focus (first | (simp; done) | (simp; omega)))) | with_reducible refine Bk.drew ?_ | with_reducible refine Bk.alloc ?_ _)) _ _ _ | with_reducible exact Bk.set2 (by repeat (first | with_reducible assumption | ((with_reducible refine Bk.far' ?_ ?_); (focus (first | (simp; done) | (simp; omega)))) | with_reducible refine Bk.drew ?_ | with_reducible refine Bk.alloc ?_ _)) _ _ | ((with_reducible refine Bk.far' ?_ ?_); (focus (first | (simp; done) | (simp; omega)))))) hb7
  have hbw7 : Below w.heap.size w w7 := by repeat (first | with_reducible assumption | with_reducible exact bw_refl _ | with_reducible refine bw_alloc ?_ _ | with_reducible refine bw_drew ?_ | with_reducible refine bw_drewN _ ?_ | refine bw_set ?_ (by simp; try omega) _ | refine bw_call (by with_reducible assumption) ?_)
  clear f3b f3b_0 f3b_1 f3b_2 f3b_f f3b_l a3b a3b_0 a3b_1 a3b_2 a3b_f a3b_l hbw6 hb7
  have f4b_0 : w7.cell? ⟨w.heap.size, 0, none⟩ = some (.int .i64 fq) := f4b.cell 0
  have f4b_1 : w7.cell? ⟨w.heap.size, 1, none⟩ = some (.int .i64 fx) := f4b.cell 1
  have f4b_2 : w7.cell? ⟨w.heap.size, 2, none⟩ = some (.int .i64 fy) := f4b.cell 2
  have f4b_f := f4b.frozen
  have f4b_l := f4b.lt
  have a4b_0 : w7.cell? ⟨w5.heap.size, 0, none⟩ = some (.int .i64 aq) := a4b.cell 0
  have a4b_1 : w7.cell? ⟨w5.heap.size, 1, none⟩ = some (.int .i64 ax) := a4b.cell 1
  have a4b_2 : w7.cell? ⟨w5.heap.size, 2, none⟩ = some (.int .i64 ay) := a4b.cell 2
  have a4b_f := a4b.frozen
  have a4b_l := a4b.lt
  have m4b_0 : w7.cell? ⟨w6.heap.size, 0, none⟩ = some (.int .i64 mq) := m4b.cell 0
  have m4b_1 : w7.cell? ⟨w6.heap.size, 1, none⟩ = some (.int .i64 mx) := m4b.cell 1
  have m4b_2 : w7.cell? ⟨w6.heap.size, 2, none⟩ = some (.int .i64 my) := m4b.cell 2
  have m4b_f := m4b.frozen
  have m4b_l := m4b.lt
  go_wp2_with fail
  refine (Compose_ok 0 2000 _ _ _ _ _ _ _ (by omega) (by omega) (by omega) (by omega) (by omega) (by omega) (by omega) (by omega) (by omega)).mono ?_
  rintro e w8 ⟨dq, dx, dy, rfl, Hd, ⟨dq1, dq2, dx1, dx2, dy1, dy2⟩, hb8⟩
  have f5b : Bk w8 (w.heap.size) 23 #[.int .i64 fq, .int .i64 fx, .int .i64 fy] := Bk.call (by repeat (first | with_reducible assumption | with_reducible refine Bk.drew ?_ | with_reducible refine Bk.drewN ?_ _ | with_reducible exact Bk.new _ _ _ | with_reducible exact Bk.new1 _ _ _ _ | with_reducible exact Bk.new2 _ _ _ _ _ | with_reducible exact Bk.new3 _ _ _ _ _ _ | with_reducible refine Bk.alloc ?_ _ | with_reducible exact Bk.set3 (by repeat (first | with_reducible assumption | ((with_reducible refine Bk.far' ?_ ?_); (focus (first | (simp; done) | (simp; omega)))) | with_reducible refine Bk.drew ?_ | with_reducible refine Bk.alloc ?_ _)) _ _ _ | with_reducible exact Bk.set2 (by repeat (first | with_reducible assumption | ((with_reducible refine Bk.far' ?_ ?_); (focus (first | (simp; done) | (simp; omega)))) | with_reducible refine Bk.drew ?_ | with_reducible refine Bk.alloc ?_ _)) _ _ | ((with_reducible refine Bk.far' ?_ ?_); (focus (first | (simp; done) | (simp; omega)))))) hb8
  have a5b : Bk w8 (w5.heap.size) 23 #[.int .i64 aq, .int .i64 ax, .int .i64 ay] := Bk.call (by repeat (first | with_reducible assumption | with_reducible refine Bk.drew ?_ | with_reducible refine Bk.drewN ?_ _ | with_reducible exact Bk.new _ _ _ | with_reducible exact Bk.new1 _ _ _ _ | with_reducible exact Bk.new2 _ _ _ _ _ | with_reducible exact Bk.new3 _ _ _ _ _ _ | with_reducible refine Bk.alloc ?_ _ | with_reducible exact Bk.set3 (by repeat (first | with_reducible assumption | ((with_reducible refine Bk.far' ?_ ?_); (focus (first | (simp; done) | (simp; omega)))) | with_reducible refine Bk.drew ?_ | with_reducible refine Bk.alloc ?_ _)) _ _ _ | with_reducible exact Bk.set2 (by repeat (first | with_reducible assumption | ((with_reducible refine Bk.far' ?_ ?_); (focus (first | (simp; done) | (simp; omega)))) | with_reducible refine Bk.drew ?_ | with_reducible refine Bk.alloc ?_ _)) _ _ | ((with_reducible refine Bk.far' ?_ ?_); (focus (first | (simp; done) | (simp; omega)))))) hb8
  have m5b : Bk w8 (w6.heap.size) 23 #[.int .i64 mq, .int .i64 mx, .int .i64 my] := Bk.call (by repeat (first | with_reducible assumption | with_reducible refine Bk.drew ?_ | with_reducible refine Bk.drewN ?_ _ | with_reducible exact Bk.new _ _ _ | with_reducible exact Bk.new1 _ _ _ _ | with_reducible exact Bk.new2 _ _ _ _ _ | with_reducible exact Bk.new3 _ _ _ _ _ _ | with_reducible refine Bk.alloc ?_ _ | with_reducible exact Bk.set3 (by repeat (first | with_reducible assumption | ((with_reducible refine Bk.far' ?_ ?_); (focus (first | (simp; done) | (simp; omega)))) | with_reducible refine Bk.drew ?_ | with_reducible refine Bk.alloc ?_ _)) _ _ _ | with_reducible exact Bk.set2 (by repeat (first | with_reducible assumption | ((with_reducible refine Bk.far' ?_ ?_); (focus (first | (simp; done) | (simp; omega)))) | with_reducible refine Bk.drew ?_ | with_reducible refine Bk.alloc ?_ _)) _ _ | ((with_reducible refine Bk.far' ?_ ?_); (focus (first | (simp; done) | (simp; omega)))))) hb8
  have c5b : Bk w8 (w7.heap.size) 23 #[.int .i64 cq, .int .i64 cx, .int .i64 cy] := Bk.call (by repeat (first | with_reducible assumption | with_reducible refine Bk.drew ?_ | with_reducible refine Bk.drewN ?_ _ | with_reducible exact Bk.new _ _ _ | with_reducible exact Bk.new1 _ _ _ _ | with_reducible exact Bk.new2 _ _ _ _ _ | with_reducible exact Bk.new3 _ _ _ _ _ _ | with_reducible refine Bk.alloc ?_ _ | with_reducible exact Bk.set3 (by repeat (first | with_reducible assumption | ((with_reducible refine Bk.far' ?_ ?_); (focus (first | (simp; done) | (simp; omega)))) | with_reducible refine Bk.drew ?_ | with_reducible refine Bk.alloc ?_ _)) _ _ _ | with_reducible exact Bk.set2 (by repeat (first | with_reducible assumption | ((with_reducible refine Bk.far' ?_ ?_); (focus (first | (simp; done) | (simp; omega)))) | with_reducible refine Bk.drew ?_ | with_reducible refine Bk.alloc ?_ _)) _ _ | ((with_reducible refine Bk.far' ?_ ?_); (focus (first | (simp; done) | (simp; omega)))))) hb8
  have hbw8 : Below w.heap.size w w8 := by repeat (first | with_reducible assumption | with_reducible exact bw_refl _ | with_reducible refine bw_alloc ?_ _ | with_reducible refine bw_drew ?_ | with_reducible refine bw_drewN _ ?_ | refine bw_set ?_ (by simp; try omega) _ | refine bw_call (by with_reducible assumption) ?_)
  clear f4b f4b_0 f4b_1 f4b_2 f4b_f f4b_l a4b a4b_0 a4b_1 a4b_2 a4b_f a4b_l m4b m4b_0 m4b_1 m4b_2 m4b_f m4b_l hbw7 hb8
  have f5b_0 : w8.cell? ⟨w.heap.size, 0, none⟩ = some (.int .i64 fq) := f5b.cell 0
  have f5b_1 : w8.cell? ⟨w.heap.size, 1, none⟩ = some (.int .i64 fx) := f5b.cell 1
  have f5b_2 : w8.cell? ⟨w.heap.size, 2, none⟩ = some (.int .i64 fy) := f5b.cell 2
  have f5b_f := f5b.frozen
  have f5b_l := f5b.lt
  have a5b_0 : w8.cell? ⟨w5.heap.size, 0, none⟩ = some (.int .i64 aq) := a5b.cell 0
  have a5b_1 : w8.cell? ⟨w5.heap.size, 1, none⟩ = some (.int .i64 ax) := a5b.cell 1
  have a5b_2 : w8.cell? ⟨w5.heap.size, 2, none⟩ = some (.int .i64 ay) := a5b.cell 2
  have a5b_f := a5b.frozen
  have a5b_l := a5b.lt
  have m5b_0 : w8.cell? ⟨w6.heap.size, 0, none⟩ = some (.int .i64 mq) := m5b.cell 0
  have m5b_1 : w8.cell? ⟨w6.heap.size, 1, none⟩ = some (.int .i64 mx) := m5b.cell 1
  have m5b_2 : w8.cell? ⟨w6.heap.size, 2, none⟩ = some (.int .i64 my) := m5b.cell 2
  have m5b_f := m5b.frozen
  have m5b_l := m5b.lt
  have c5b_0 : w8.cell? ⟨w7.heap.size, 0, none⟩ = some (.int .i64 cq) := c5b.cell 0
  have c5b_1 : w8.cell? ⟨w7.heap.size, 1, none⟩ = some (.int .i64 cx) := c5b.cell 1
  have c5b_2 : w8.cell? ⟨w7.heap.size, 2, none⟩ = some (.int .i64 cy) := c5b.cell 2
  have c5b_f := c5b.frozen
  have c5b_l := c5b.lt
  go_wp2_with fail
  refine (Inverse_ok 2000 _ _ _ _ (by omega) (by omega) (by omega) (by omega) (by omega)).mono ?_
  rintro e w9 ⟨iq, ix, iy, rfl, Hi, ⟨iq1, iq2, ix1, ix2, iy1, iy2⟩, hb9⟩
  have f6b : Bk w9 (w.heap.size) 23 #[.int .i64 fq, .int .i64 fx, .int .i64 fy] := Bk.call (by repeat (first | with_reducible assumption | with_reducible refine Bk.drew ?_ | with_reducible refine Bk.drewN ?_ _ | with_reducible exact Bk.new _ _ _ | with_reducible exact Bk.new1 _ _ _ _ | with_reducible exact Bk.new2 _ _ _ _ _ | with_reducible exact Bk.new3 _ _ _ _ _ _ | with_reducible refine Bk.alloc ?_ _ | with_reducible exact Bk.set3 (by repeat (first | with_reducible assumption | ((with_reducible refine Bk.far' ?_ ?_); (focus (first | (simp; done) | (simp; omega)))) | with_reducible refine Bk.drew ?_ | with_reducible refine Bk.alloc ?_ _)) _ _ _ | with_reducible exact Bk.set2 (by repeat (first | with_reducible assumption | ((with_reducible refine Bk.far' ?_ ?_); (focus (first | (simp; done) | (simp; omega)))) | with_reducible refine Bk.drew ?_ | with_reducible refine Bk.alloc ?_ _)) _ _ | ((with_reducible refine Bk.far' ?_ ?_); (focus (first | (simp; done) | (simp; omega)))))) hb9
  have a6b : Bk w9 (w5.heap.size) 23 #[.int .i64 aq, .int .i64 ax, .int .i64 ay] := Bk.call (by repeat (first | with_reducible assumption | with_reducible refine Bk.drew ?_ | with_reducible refine Bk.drewN ?_ _ | with_reducible exact Bk.new _ _ _ | with_reducible exact Bk.new1 _ _ _ _ | with_reducible exact Bk.new2 _ _ _ _ _ | with_reducible exact Bk.new3 _ _ _ _ _ _ | with_reducible refine Bk.alloc ?_ _ | with_reducible exact Bk.set3 (by repeat (first | with_reducible assumption | ((with_reducible refine Bk.far' ?_ ?_); (focus (first | (simp; done) | (simp; omega)))) | with_reducible refine Bk.drew ?_ | with_reducible refine Bk.alloc ?_ _)) _ _ _ | with_reducible exact Bk.set2 (by repeat (first | with_reducible assumption | ((with_reducible refine Bk.far' ?_ ?_); (focus (first | (simp; done) | (simp; omega)))) | with_reducible refine Bk.drew ?_ | with_reducible refine Bk.alloc ?_ _)) _ _ | ((with_reducible refine Bk.far' ?_ ?_); (focus (first | (simp; done) | (simp; omega)))))) hb9
  have m6b : Bk w9 (w6.heap.size) 23 #[.int .i64 mq, .int .i64 mx, .int .i64 my] := Bk.call (by repeat (first | with_reducible assumption | with_reducible refine Bk.drew ?_ | with_reducible refine Bk.drewN ?_ _ | with_reducible exact Bk.new _ _ _ | with_reducible exact Bk.new1 _ _ _ _ | with_reducible exact Bk.new2 _ _ _ _ _ | with_reducible exact Bk.new3 _ _ _ _ _ _ | with_reducible refine Bk.alloc ?_ _ | with_reducible exact Bk.set3 (by repeat (first | with_reducible assumption | ((with_reducible refine Bk.far' ?_ ?_); (focus (first | (simp; done) | (simp; omega)))) | with_reducible refine Bk.drew ?_ | with_reducible refine Bk.alloc ?_ _)) _ _ _ | with_reducible exact Bk.set2 (by repeat (first | with_reducible assumption | ((with_reducible refine Bk.far' ?_ ?_); (focus (first | (simp; done) | (simp; omega)))) | with_reducible refine Bk.drew ?_ | with_reducible refine Bk.alloc ?_ _)) _ _ | ((with_reducible refine Bk.far' ?_ ?_); (focus (first | (simp; done) | (simp; omega)))))) hb9
  have c6b : Bk w9 (w7.heap.size) 23 #[.int .i64 cq, .int .i64 cx, .int .i64 cy] := Bk.call (by repeat (first | with_reducible assumption | with_reducible refine Bk.drew ?_ | with_reducible refine Bk.drewN ?_ _ | with_reducible exact Bk.new _ _ _ | with_reducible exact Bk.new1 _ _ _ _ | with_reducible exact Bk.new2 _ _ _ _ _ | with_reducible exact Bk.new3 _ _ _ _ _ _ | with_reducible refine Bk.alloc ?_ _ | with_reducible exact Bk.set3 (by repeat (first | with_reducible assumption | ((with_reducible refine Bk.far' ?_ ?_); (focus (first | (simp; done) | (simp; omega)))) | with_reducible refine Bk.drew ?_ | with_reducible refine Bk.alloc ?_ _)) _ _ _ | with_reducible exact Bk.set2 (by repeat (first | with_reducible assumption | ((with_reducible refine Bk.far' ?_ ?_); (focus (first | (simp; done) | (simp; omega)))) | with_reducible refine Bk.drew ?_ | with_reducible refine Bk.alloc ?_ _)) _ _ | ((with_reducible refine Bk.far' ?_ ?_); (focus (first | (simp; done) | (simp; omega)))))) hb9
  have d6b : Bk w9 (w8.heap.size) 23 #[.int .i64 dq, .int .i64 dx, .int .i64 dy] := Bk.call (by repeat (first | with_reducible assumption | with_reducible refine Bk.drew ?_ | with_reducible refine Bk.drewN ?_ _ | with_reducible exact Bk.new _ _ _ | with_reducible exact Bk.new1 _ _ _ _ | with_reducible exact Bk.new2 _ _ _ _ _ | with_reducible exact Bk.new3 _ _ _ _ _ _ | with_reducible refine Bk.alloc ?_ _ | with_reducible exact Bk.set3 (by repeat (first | with_reducible assumption | ((with_reducible refine Bk.far' ?_ ?_); (focus (first | (simp; done) | (simp; omega)))) | with_reducible refine Bk.drew ?_ | with_reducible refine Bk.alloc ?_ _)) _ _ _ | with_reducible exact Bk.set2 (by repeat (first | with_reducible assumption | ((with_reducible refine Bk.far' ?_ ?_); (focus (first | (simp; done) | (simp; omega)))) | with_reducible refine Bk.drew ?_ | with_reducible refine Bk.alloc ?_ _)) _ _ | ((with_reducible refine Bk.far' ?_ ?_); (focus (first | (simp; done) | (simp; omega)))))) hb9
  have hbw9 : Below w.heap.size w w9 := by repeat (first | with_reducible assumption | with_reducible exact bw_refl _ | with_reducible refine bw_alloc ?_ _ | with_reducible refine bw_drew ?_ | with_reducible refine bw_drewN _ ?_ | refine bw_set ?_ (by simp; try omega) _ | refine bw_call (by with_reducible assumption) ?_)
  clear f5b f5b_0 f5b_1 f5b_2 f5b_f f5b_l a5b a5b_0 a5b_1 a5b_2 a5b_f a5b_l m5b m5b_0 m5b_1 m5b_2 m5b_f m5b_l c5b c5b_0 c5b_1 c5b_2 c5b_f c5b_l hbw8 hb9
  have f6b_0 : w9.cell? ⟨w.heap.size, 0, none⟩ = some (.int .i64 fq) := f6b.cell 0
  have f6b_1 : w9.cell? ⟨w.heap.size, 1, none⟩ = some (.int .i64 fx) := f6b.cell 1
  have f6b_2 : w9.cell? ⟨w.heap.size, 2, none⟩ = some (.int .i64 fy) := f6b.cell 2
  have f6b_f := f6b.frozen
  have f6b_l := f6b.lt
  have a6b_0 : w9.cell? ⟨w5.heap.size, 0, none⟩ = some (.int .i64 aq) := a6b.cell 0
  have a6b_1 : w9.cell? ⟨w5.heap.size, 1, none⟩ = some (.int .i64 ax) := a6b.cell 1
  have a6b_2 : w9.cell? ⟨w5.heap.size, 2, none⟩ = some (.int .i64 ay) := a6b.cell 2
  have a6b_f := a6b.frozen
  have a6b_l := a6b.lt
  have m6b_0 : w9.cell? ⟨w6.heap.size, 0, none⟩ = some (.int .i64 mq) := m6b.cell 0
  have m6b_1 : w9.cell? ⟨w6.heap.size, 1, none⟩ = some (.int .i64 mx) := m6b.cell 1
  have m6b_2 : w9.cell? ⟨w6.heap.size, 2, none⟩ = some (.int .i64 my) := m6b.cell 2
  have m6b_f := m6b.frozen
  have m6b_l := m6b.lt
  have c6b_0 : w9.cell? ⟨w7.heap.size, 0, none⟩ = some (.int .i64 cq) := c6b.cell 0
  have c6b_1 : w9.cell? ⟨w7.heap.size, 1, none⟩ = some (.int .i64 cx) := c6b.cell 1
  have c6b_2 : w9.cell? ⟨w7.heap.size, 2, none⟩ = some (.int .i64 cy) := c6b.cell 2
  have c6b_f := c6b.frozen
  have c6b_l := c6b.lt
  have d6b_0 : w9.cell? ⟨w8.heap.size, 0, none⟩ = some (.int .i64 dq) := d6b.cell 0
  have d6b_1 : w9.cell? ⟨w8.heap.size, 1, none⟩ = some (.int .i64 dx) := d6b.cell 1
  have d6b_2 : w9.cell? ⟨w8.heap.size, 2, none⟩ = some (.int .i64 dy) := d6b.cell 2
  have d6b_f := d6b.frozen
  have d6b_l := d6b.lt
  go_wp2_with fail
  refine (Compose_ok 2000 2000 _ _ _ _ _ _ _ (by omega) (by omega) (by omega) (by omega) (by omega) (by omega) (by omega) (by omega) (by omega)).mono ?_
  rintro e w10 ⟨jq, jx, jy, rfl, Hj, ⟨jq1, jq2, jx1, jx2, jy1, jy2⟩, hb10⟩
  have f7b : Bk w10 (w.heap.size) 23 #[.int .i64 fq, .int .i64 fx, .int .i64 fy] := Bk.call (by repeat (first | with_reducible assumption | with_reducible refine Bk.drew ?_ | with_reducible refine Bk.drewN ?_ _ | with_reducible exact Bk.new _ _ _ | with_reducible exact Bk.new1 _ _ _ _ | with_reducible exact Bk.new2 _ _ _ _ _ | with_reducible exact Bk.new3 _ _ _ _ _ _ | with_reducible refine Bk.alloc ?_ _ | with_reducible exact Bk.set3 (by repeat (first | with_reducible assumption | ((with_reducible refine Bk.far' ?_ ?_); (focus (first | (simp; done) | (simp; omega)))) | with_reducible refine Bk.drew ?_ | with_reducible refine Bk.alloc ?_ _)) _ _ _ | with_reducible exact Bk.set2 (by repeat (first | with_reducible assumption | ((with_reducible refine Bk.far' ?_ ?_); (focus (first | (simp; done) | (simp; omega)))) | with_reducible refine Bk.drew ?_ | with_reducible refine Bk.alloc ?_ _)) _ _ | ((with_reducible refine Bk.far' ?_ ?_); (focus (first | (simp; done) | (simp; omega)))))) hb10
  have a7b : Bk w10 (w5.heap.size) 23 #[.int .i64 aq, .int .i64 ax, .int .i64 ay] := Bk.call (by repeat (first | with_reducible assumption | with_reducible refine Bk.drew ?_ | with_reducible refine Bk.drewN ?_ _ | with_reducible exact Bk.new _ _ _ | with_reducible exact Bk.new1 _ _ _ _ | with_reducible exact Bk.new2 _ _ _ _ _ | with_reducible exact Bk.new3 _ _ _ _ _ _ | with_reducible refine Bk.alloc ?_ _ | with_reducible exact Bk.set3 (by repeat (first | with_reducible assumption | ((with_reducible refine Bk.far' ?_ ?_); (focus (first | (simp; done) | (simp; omega)))) | with_reducible refine Bk.drew ?_ | with_reducible refine Bk.alloc ?_ _)) _ _ _ | with_reducible exact Bk.set2 (by repeat (first | with_reducible assumption | ((with_reducible refine Bk.far' ?_ ?_); (focus (first | (simp; done) | (simp; omega)))) | with_reducible refine Bk.drew ?_ | with_reducible refine Bk.alloc ?_ _)) _ _ | ((with_reducible refine Bk.far' ?_ ?_); (focus (first | (simp; done) | (simp; omega)))))) hb10
  have m7b : Bk w10 (w6.heap.size) 23 #[.int .i64 mq, .int .i64 mx, .int .i64 my] := Bk.call (by repeat (first | with_reducible assumption | with_reducible refine Bk.drew ?_ | with_reducible refine Bk.drewN ?_ _ | with_reducible exact Bk.new _ _ _ | with_reducible exact Bk.new1 _ _ _ _ | with_reducible exact Bk.new2 _ _ _ _ _ | with_reducible exact Bk.new3 _ _ _ _ _ _ | with_reducible refine Bk.alloc ?_ _ | with_reducible exact Bk.set3 (by repeat (first | with_reducible assumption | ((with_reducible refine Bk.far' ?_ ?_); (focus (first | (simp; done) | (simp; omega)))) | with_reducible refine Bk.drew ?_ | with_reducible refine Bk.alloc ?_ _)) _ _ _ | with_reducible exact Bk.set2 (by repeat (first | with_reducible assumption | ((with_reducible refine Bk.far' ?_ ?_); (focus (first | (simp; done) | (simp; omega)))) | with_reducible refine Bk.drew ?_ | with_reducible refine Bk.alloc ?_ _)) _ _ | ((with_reducible refine Bk.far' ?_ ?_); (focus (first | (simp; done) | (simp; omega)))))) hb10
  have c7b : Bk w10 (w7.heap.size) 23 #[.int .i64 cq, .int .i64 cx, .int .i64 cy] := Bk.call (by repeat (first | with_reducible assumption | with_reducible refine Bk.drew ?_ | with_reducible refine Bk.drewN ?_ _ | with_reducible exact Bk.new _ _ _ | with_reducible exact Bk.new1 _ _ _ _ | with_reducible exact Bk.new2 _ _ _ _ _ | with_reducible exact Bk.new3 _ _ _ _ _ _ | with_reducible refine Bk.alloc ?_ _ | with_reducible exact Bk.set3 (by repeat (first | with_reducible assumption | ((with_reducible refine Bk.far' ?_ ?_); (focus (first | (simp; done) | (simp; omega)))) | with_reducible refine Bk.drew ?_ | with_reducible refine Bk.alloc ?_ _)) _ _ _ | with_reducible exact Bk.set2 (by repeat (first | with_reducible assumption | ((with_reducible refine Bk.far' ?_ ?_); (focus (first | (simp; done) | (simp; omega)))) | with_reducible refine Bk.drew ?_ | with_reducible refine Bk.alloc ?_ _)) _ _ | ((with_reducible refine Bk.far' ?_ ?_); (focus (first | (simp; done) | (simp; omega)))))) hb10
  have d7b : Bk w10 (w8.heap.size) 23 #[.int .i64 dq, .int .i64 dx, .int .i64 dy] := Bk.call (by repeat (first | with_reducible assumption | with_reducible refine Bk.drew ?_ | with_reducible refine Bk.drewN ?_ _ | with_reducible exact Bk.new _ _ _ | with_reducible exact Bk.new1 _ _ _ _ | with_reducible exact Bk.new2 _ _ _ _ _ | with_reducible exact Bk.new3 _ _ _ _ _ _ | with_reducible refine Bk.alloc ?_ _ | with_reducible exact Bk.set3 (by repeat (first | with_reducible assumption | ((with_reducible refine Bk.far' ?_ ?_); (focus (first | (simp; done) | (simp; omega)))) | with_reducible refine Bk.drew ?_ | with_reducible refine Bk.alloc ?_ _)) _ _ _ | with_reducible exact Bk.set2 (by repeat (first | with_reducible assumption | ((with_reducible refine Bk.far' ?_ ?_); (focus (first | (simp; done) | (simp; omega)))) | with_reducible refine Bk.drew ?_ | with_reducible refine Bk.alloc ?_ _)) _ _ | ((with_reducible refine Bk.far' ?_ ?_); (focus (first | (simp; done) | (simp; omega)))))) hb10
  have i7b : Bk w10 (w9.heap.size) 23 #[.int .i64 iq, .int .i64 ix, .int .i64 iy] := Bk.call (by repeat (first | with_reducible assumption | with_reducible refine Bk.drew ?_ | with_reducible refine Bk.drewN ?_ _ | with_reducible exact Bk.new _ _ _ | with_reducible exact Bk.new1 _ _ _ _ | with_reducible exact Bk.new2 _ _ _ _ _ | with_reducible exact Bk.new3 _ _ _ _ _ _ | with_reducible refine Bk.alloc ?_ _ | with_reducible exact Bk.set3 (by repeat (first | with_reducible assumption | ((with_reducible refine Bk.far' ?_ ?_); (focus (first | (simp; done) | (simp; omega)))) | with_reducible refine Bk.drew ?_ | with_reducible refine Bk.alloc ?_ _)) _ _ _ | with_reducible exact Bk.set2 (by repeat (first | with_reducible assumption | ((with_reducible refine Bk.far' ?_ ?_); (focus (first | (simp; done) | (simp; omega)))) | with_reducible refine Bk.drew ?_ | with_reducible refine Bk.alloc ?_ _)) _ _ | ((with_reducible refine Bk.far' ?_ ?_); (focus (first | (simp; done) | (simp; omega)))))) hb10
  have hbw10 : Below w.heap.size w w10 := by repeat (first | with_reducible assumption | with_reducible exact bw_refl _ | with_reducible refine bw_alloc ?_ _ | with_reducible refine bw_drew ?_ | with_reducible refine bw_drewN _ ?_ | refine bw_set ?_ (by simp; try omega) _ | refine bw_call (by with_reducible assumption) ?_)
  clear f6b f6b_0 f6b_1 f6b_2 f6b_f f6b_l a6b a6b_0 a6b_1 a6b_2 a6b_f a6b_l m6b m6b_0 m6b_1 m6b_2 m6b_f m6b_l c6b c6b_0 c6b_1 c6b_2 c6b_f c6b_l d6b d6b_0 d6b_1 d6b_2 d6b_f d6b_l hbw9 hb10
  have f7b_0 : w10.cell? ⟨w.heap.size, 0, none⟩ = some (.int .i64 fq) := f7b.cell 0
  have f7b_1 : w10.cell? ⟨w.heap.size, 1, none⟩ = some (.int .i64 fx) := f7b.cell 1
  have f7b_2 : w10.cell? ⟨w.heap.size, 2, none⟩ = some (.int .i64 fy) := f7b.cell 2
  have f7b_f := f7b.frozen
  have f7b_l := f7b.lt
  have a7b_0 : w10.cell? ⟨w5.heap.size, 0, none⟩ = some (.int .i64 aq) := a7b.cell 0
  have a7b_1 : w10.cell? ⟨w5.heap.size, 1, none⟩ = some (.int .i64 ax) := a7b.cell 1
  have a7b_2 : w10.cell? ⟨w5.heap.size, 2, none⟩ = some (.int .i64 ay) := a7b.cell 2
  have a7b_f := a7b.frozen
  have a7b_l := a7b.lt
  have m7b_0 : w10.cell? ⟨w6.heap.size, 0, none⟩ = some (.int .i64 mq) := m7b.cell 0
  have m7b_1 : w10.cell? ⟨w6.heap.size, 1, none⟩ = some (.int .i64 mx) := m7b.cell 1
  have m7b_2 : w10.cell? ⟨w6.heap.size, 2, none⟩ = some (.int .i64 my) := m7b.cell 2
  have m7b_f := m7b.frozen
  have m7b_l := m7b.lt
  have c7b_0 : w10.cell? ⟨w7.heap.size, 0, none⟩ = some (.int .i64 cq) := c7b.cell 0
  have c7b_1 : w10.cell? ⟨w7.heap.size, 1, none⟩ = some (.int .i64 cx) := c7b.cell 1
  have c7b_2 : w10.cell? ⟨w7.heap.size, 2, none⟩ = some (.int .i64 cy) := c7b.cell 2
  have c7b_f := c7b.frozen
  have c7b_l := c7b.lt
  have d7b_0 : w10.cell? ⟨w8.heap.size, 0, none⟩ = some (.int .i64 dq) := d7b.cell 0
  have d7b_1 : w10.cell? ⟨w8.heap.size, 1, none⟩ = some (.int .i64 dx) := d7b.cell 1
  have d7b_2 : w10.cell? ⟨w8.heap.size, 2, none⟩ = some (.int .i64 dy) := d7b.cell 2
  have d7b_f := d7b.frozen
  have d7b_l := d7b.lt
  have i7b_0 : w10.cell? ⟨w9.heap.size, 0, none⟩ = some (.int .i64 iq) := i7b.cell 0
  have i7b_1 : w10.cell? ⟨w9.heap.size, 1, none⟩ = some (.int .i64 ix) := i7b.cell 1
  have i7b_2 : w10.cell? ⟨w9.heap.size, 2, none⟩ = some (.int .i64 iy) := i7b.cell 2
  have i7b_f := i7b.frozen
  have i7b_l := i7b.lt
  go_wp2_with fail
  refine (Compose_ok 2000 2000 _ _ _ _ _ _ _ (by omega) (by omega) (by omega) (by omega) (by omega) (by omega) (by omega) (by omega) (by omega)).mono ?_
  rintro e w11 ⟨kq, kx, ky, rfl, Hk, ⟨kq1, kq2, kx1, kx2, ky1, ky2⟩, hb11⟩
  have f8b : Bk w11 (w.heap.size) 23 #[.int .i64 fq, .int .i64 fx, .int .i64 fy] := Bk.call (by repeat (first | with_reducible assumption | with_reducible refine Bk.drew ?_ | with_reducible refine Bk.drewN ?_ _ | with_reducible exact Bk.new _ _ _ | with_reducible exact Bk.new1 _ _ _ _ | with_reducible exact Bk.new2 _ _ _ _ _ | with_reducible exact Bk.new3 _ _ _ _ _ _ | with_reducible refine Bk.alloc ?_ _ | with_reducible exact Bk.set3 (by repeat (first | with_reducible assumption | ((with_reducible refine Bk.far' ?_ ?_); (focus (first | (simp; done) | (simp; omega)))) | with_reducible refine Bk.drew ?_ | with_reducible refine Bk.alloc ?_ _)) _ _ _ | with_reducible exact Bk.set2 (by repeat (first | with_reducible assumption | ((with_reducible refine Bk.far' ?_ ?_); (focus (first | (simp; done) | (simp; omega)))) | with_reducible refine Bk.drew ?_ | with_reducible refine Bk.alloc ?_ _)) _ _ | ((with_reducible refine Bk.far' ?_ ?_); (focus (first | (simp; done) | (simp; omega)))))) hb11
  have a8b : Bk w11 (w5.heap.size) 23 #[.int .i64 aq, .int .i64 ax, .int .i64 ay] := Bk.call (by repeat (first | with_reducible assumption | with_reducible refine Bk.drew ?_ | with_reducible refine Bk.drewN ?_ _ | with_reducible exact Bk.new _ _ _ | with_reducible exact Bk.new1 _ _ _ _ | with_reducible exact Bk.new2 _ _ _ _ _ | with_reducible exact Bk.new3 _ _ _ _ _ _ | with_reducible refine Bk.alloc ?_ _ | with_reducible exact Bk.set3 (by repeat (first | with_reducible assumption | ((with_reducible refine Bk.far' ?_ ?_); (focus (first | (simp; done) | (simp; omega)))) | with_reducible refine Bk.drew ?_ | with_reducible refine Bk.alloc ?_ _)) _ _ _ | with_reducible exact Bk.set2 (by repeat (first | with_reducible assumption | ((with_reducible refine Bk.far' ?_ ?_); (focus (first | (simp; done) | (simp; omega)))) | with_reducible refine Bk.drew ?_ | with_reducible refine Bk.alloc ?_ _)) _ _ | ((with_reducible refine Bk.far' ?_ ?_); (focus (first | (simp; done) | (simp; omega)))))) hb11
  have m8b : Bk w11 (w6.heap.size) 23 #[.int .i64 mq, .int .i64 mx, .int .i64 my] := Bk.call (by repeat (first | with_reducible assumption | with_reducible refine Bk.drew ?_ | with_reducible refine Bk.drewN ?_ _ | with_reducible exact Bk.new _ _ _ | with_reducible exact Bk.new1 _ _ _ _ | with_reducible exact Bk.new2 _ _ _ _ _ | with_reducible exact Bk.new3 _ _ _ _ _ _ | with_reducible refine Bk.alloc ?_ _ | with_reducible exact Bk.set3 (by repeat (first | with_reducible assumption | ((with_reducible refine Bk.far' ?_ ?_); (focus (first | (simp; done) | (simp; omega)))) | with_reducible refine Bk.drew ?_ | with_reducible refine Bk.alloc ?_ _)) _ _ _ | with_reducible exact Bk.set2 (by repeat (first | with_reducible assumption | ((with_reducible refine Bk.far' ?_ ?_); (focus (first | (simp; done) | (simp; omega)))) | with_reducible refine Bk.drew ?_ | with_reducible refine Bk.alloc ?_ _)) _ _ | ((with_reducible refine Bk.far' ?_ ?_); (focus (first | (simp; done) | (simp; omega)))))) hb11
  have c8b : Bk w11 (w7.heap.size) 23 #[.int .i64 cq, .int .i64 cx, .int .i64 cy] := Bk.call (by repeat (first | with_reducible assumption | with_reducible refine Bk.drew ?_ | with_reducible refine Bk.drewN ?_ _ | with_reducible exact Bk.new _ _ _ | with_reducible exact Bk.new1 _ _ _ _ | with_reducible exact Bk.new2 _ _ _ _ _ | with_reducible exact Bk.new3 _ _ _ _ _ _ | with_reducible refine Bk.alloc ?_ _ | with_reducible exact Bk.set3 (by repeat (first | with_reducible assumption | ((with_reducible refine Bk.far' ?_ ?_); (focus (first | (simp; done) | (simp; omega)))) | with_reducible refine Bk.drew ?_ | with_reducible refine Bk.alloc ?_ _)) _ _ _ | with_reducible exact Bk.set2 (by repeat (first | with_reducible assumption | ((with_reducible refine Bk.far' ?_ ?_); (focus (first | (simp; done) | (simp; omega)))) | with_reducible refine Bk.drew ?_ | with_reducible refine Bk.alloc ?_ _)) _ _ | ((with_reducible refine Bk.far' ?_ ?_); (focus (first | (simp; done) | (simp; omega)))))) hb11
  have d8b : Bk w11 (w8.heap.size) 23 #[.int .i64 dq, .int .i64 dx, .int .i64 dy] := Bk.call (by repeat (first | with_reducible assumption | with_reducible refine Bk.drew ?_ | with_reducible refine Bk.drewN ?_ _ | with_reducible exact Bk.new _ _ _ | with_reducible exact Bk.new1 _ _ _ _ | with_reducible exact Bk.new2 _ _ _ _ _ | with_reducible exact Bk.new3 _ _ _ _ _ _ | with_reducible refine Bk.alloc ?_ _ | with_reducible exact Bk.set3 (by repeat (first | with_reducible assumption | ((with_reducible refine Bk.far' ?_ ?_); (focus (first | (simp; done) | (simp; omega)))) | with_reducible refine Bk.drew ?_ | with_reducible refine Bk.alloc ?_ _)) _ _ _ | with_reducible exact Bk.set2 (by repeat (first | with_reducible assumption | ((with_reducible refine Bk.far' ?_ ?_); (focus (first | (simp; done) | (simp; omega)))) | with_reducible refine Bk.drew ?_ | with_reducible refine Bk.alloc ?_ _)) _ _ | ((with_reducible refine Bk.far' ?_ ?_); (focus (first | (simp; done) | (simp; omega)))))) hb11
  have j8b : Bk w11 (w10.heap.size) 23 #[.int .i64 jq, .int .i64 jx, .int .i64 jy] := Bk.call (by repeat (first | with_reducible assumption | with_reducible refine Bk.drew ?_ | with_reducible refine Bk.drewN ?_ _ | with_reducible exact Bk.new _ _ _ | with_reducible exact Bk.new1 _ _ _ _ | with_reducible exact Bk.new2 _ _ _ _ _ | with_reducible exact Bk.new3 _ _ _ _ _ _ | with_reducible refine Bk.alloc ?_ _ | with_reducible exact Bk.set3 (by repeat (first | with_reducible assumption | ((with_reducible refine Bk.far' ?_ ?_); (focus (first | (simp; done) | (simp; omega)))) | with_reducible refine Bk.drew ?_ | with_reducible refine Bk.alloc ?_ _)) _ _ _ | with_reducible exact Bk.set2 (by repeat (first | with_reducible assumption | ((with_reducible refine Bk.far' ?_ ?_); (focus (first | (simp; done) | (simp; omega)))) | with_reducible refine Bk.drew ?_ | with_reducible refine Bk.alloc ?_ _)) _ _ | ((with_reducible refine Bk.far' ?_ ?_); (focus (first | (simp; done) | (simp; omega)))))) hb11
  have hbw11 : Below w.heap.size w w11 := by repeat (first | with_reducible assumption | with_reducible exact bw_refl _ | with_reducible refine bw_alloc ?_ _ | with_reducible refine bw_drew ?_ | with_reducible refine bw_drewN _ ?_ | refine bw_set ?_ (by simp; try omega) _ | refine bw_call (by with_reducible assumption) ?_)
  clear f7b f7b_0 f7b_1 f7b_2 f7b_f f7b_l a7b a7b_0 a7b_1 a7b_2 a7b_f a7b_l m7b m7b_0 m7b_1 m7b_2 m7b_f m7b_l c7b c7b_0 c7b_1 c7b_2 c7b_f c7b_l d7b d7b_0 d7b_1 d7b_2 d7b_f d7b_l i7b i7b_0 i7b_1 i7b_2 i7b_f i7b_l hbw10 hb11
  have f8b_0 : w11.cell? ⟨w.heap.size, 0, none⟩ = some (.int .i64 fq) := f8b.cell 0
  have f8b_1 : w11.cell? ⟨w.heap.size, 1, none⟩ = some (.int .i64 fx) := f8b.cell 1
  have f8b_2 : w11.cell? ⟨w.heap.size, 2, none⟩ = some (.int .i64 fy) := f8b.cell 2
  have f8b_f := f8b.frozen
  have f8b_l := f8b.lt
  have a8b_0 : w11.cell? ⟨w5.heap.size, 0, none⟩ = some (.int .i64 aq) := a8b.cell 0
  have a8b_1 : w11.cell? ⟨w5.heap.size, 1, none⟩ = some (.int .i64 ax) := a8b.cell 1
  have a8b_2 : w11.cell? ⟨w5.heap.size, 2, none⟩ = some (.int .i64 ay) := a8b.cell 2
  have a8b_f := a8b.frozen
  have a8b_l := a8b.lt
  have m8b_0 : w11.cell? ⟨w6.heap.size, 0, none⟩ = some (.int .i64 mq) := m8b.cell 0
  have m8b_1 : w11.cell? ⟨w6.heap.size, 1, none⟩ = some (.int .i64 mx) := m8b.cell 1
  have m8b_2 : w11.cell? ⟨w6.heap.size, 2, none⟩ = some (.int .i64 my) := m8b.cell 2
  have m8b_f := m8b.frozen
  have m8b_l := m8b.lt
  have c8b_0 : w11.cell? ⟨w7.heap.size, 0, none⟩ = some (.int .i64 cq) := c8b.cell 0
  have c8b_1 : w11.cell? ⟨w7.heap.size, 1, none⟩ = some (.int .i64 cx) := c8b.cell 1
  have c8b_2 : w11.cell? ⟨w7.heap.size, 2, none⟩ = some (.int .i64 cy) := c8b.cell 2
  have c8b_f := c8b.frozen
  have c8b_l := c8b.lt
  have d8b_0 : w11.cell? ⟨w8.heap.size, 0, none⟩ = some (.int .i64 dq) := d8b.cell 0
  have d8b_1 : w11.cell? ⟨w8.heap.size, 1, none⟩ = some (.int .i64 dx) := d8b.cell 1
  have d8b_2 : w11.cell? ⟨w8.heap.size, 2, none⟩ = some (.int .i64 dy) := d8b.cell 2
  have d8b_f := d8b.frozen
  have d8b_l := d8b.lt
  have j8b_0 : w11.cell? ⟨w10.heap.size, 0, none⟩ = some (.int .i64 jq) := j8b.cell 0
  have j8b_1 : w11.cell? ⟨w10.heap.size, 1, none⟩ = some (.int .i64 jx) := j8b.cell 1
  have j8b_2 : w11.cell? ⟨w10.heap.size, 2, none⟩ = some (.int .i64 jy) := j8b.cell 2
  have j8b_f := j8b.frozen
  have j8b_l := j8b.lt
  have E1 : (aq, ax, ay) = (mq, mx, my) := by rw [Ha.out, Hm.out, Hp.out, Hr.out]; exact cmpF_assoc _ _ _ ⟨fq1, fq2⟩ ⟨gq1, gq2⟩
  have E2 : (cq, cx, cy) = (fq, fx, fy) := by rw [Hc.out]; exact cmpF_zero _ ⟨fq1, fq2⟩
  have E3 : (dq, dx, dy) = (fq, fx, fy) := by rw [Hd.out]; exact zero_cmpF _ ⟨fq1, fq2⟩
  have E4 : (jq, jx, jy) = (0, 0, 0) := by rw [Hj.out, Hi.out]; exact cmpF_inv _ ⟨fq1, fq2⟩
  have E5 : (kq, kx, ky) = (0, 0, 0) := by rw [Hk.out, Hi.out]; exact inv_cmpF _ ⟨fq1, fq2⟩
  clear Ha Hm Hc Hd Hj Hk Hi Hp Hr
  simp only [Prod.mk.injEq] at E1 E2 E3 E4 E5
  obtain ⟨rfl, rfl, rfl⟩ := E1
  obtain ⟨rfl, rfl, rfl⟩ := E2
  obtain ⟨rfl, rfl, rfl⟩ := E3
  obtain ⟨rfl, rfl, rfl⟩ := E4
  obtain ⟨rfl, rfl, rfl⟩ := E5
  go_wp2_with fail
  go_ret
  exact ⟨rfl, by repeat (first | with_reducible assumption | with_reducible exact bw_refl _ | with_reducible refine bw_alloc ?_ _ | with_reducible refine bw_drew ?_ | with_reducible refine bw_drewN _ ?_ | refine bw_set ?_ (by simp; try omega) _ | refine bw_call (by with_reducible assumption) ?_)⟩

end Go.Proofs.Ytkacggfadalbiaa

