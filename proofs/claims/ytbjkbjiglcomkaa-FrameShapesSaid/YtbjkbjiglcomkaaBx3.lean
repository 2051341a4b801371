/- Contract of frame.Box. -/
import Derived.Test.YtbjkbjiglcomkaaBx2
import Derived.Test.YtbjkbjiglcomkaaFr5
set_option linter.all false
namespace Go.Proofs.Ytbjkbjiglcomkaa
open Go.RowKit

def BoxV (fq fx fy x0 y0 x1 y1 fr ct : Int) : Value :=
  if szB fx 8192 && szB fy 8192 && bxB x0 y0 x1 y1 fr ct then
    if szB (tX (fq % 4) x0 y0 + 64 * fx) 1048576 && szB (tY (fq % 4) x0 y0 + 64 * fy) 1048576 && (szB (tX (fq % 4) x1 y1 + 64 * fx) 1048576 && szB (tY (fq % 4) x1 y1 + 64 * fy) 1048576) then
      .tuple #[.agg #[.int .i64 (min (tX (fq % 4) x0 y0 + 64 * fx) (tX (fq % 4) x1 y1 + 64 * fx)), .int .i64 (min (tY (fq % 4) x0 y0 + 64 * fy) (tY (fq % 4) x1 y1 + 64 * fy)), .int .i64 (max (tX (fq % 4) x0 y0 + 64 * fx) (tX (fq % 4) x1 y1 + 64 * fx)), .int .i64 (max (tY (fq % 4) x0 y0 + 64 * fy) (tY (fq % 4) x1 y1 + 64 * fy)), .int .i64 (if ct = 256 then 0 else ((fr + 64 * (fq % 4)) % 256)), .int .i64 ct], .int .i64 0]
    else .tuple #[.agg #[.int .i64 0, .int .i64 0, .int .i64 0, .int .i64 0, .int .i64 0, .int .i64 0], .int .i64 2]
  else .tuple #[.agg #[.int .i64 0, .int .i64 0, .int .i64 0, .int .i64 0, .int .i64 0, .int .i64 0], .int .i64 1]

theorem max_if (a b : Int) : (if a < b then b else a) = max a b := by omega

set_option maxRecDepth 100000 in
set_option maxHeartbeats 4000000 in
theorem Box_any (fq fx fy x0 y0 x1 y1 fr ct : Int) (w : World) :
    Calls Try.prog 16 #[.agg #[.int .i64 fq, .int .i64 fx, .int .i64 fy], .agg #[.int .i64 x0, .int .i64 y0, .int .i64 x1, .int .i64 y1, .int .i64 fr, .int .i64 ct]] w fun e w' => e = .returned (BoxV fq fx fy x0 y0 x1 y1 fr ct) ∧ Below w.heap.size w w' := by
  cases hf : (szB fx 8192 && szB fy 8192)
  · have HS := Lib.hid (show BoxV fq fx fy x0 y0 x1 y1 fr ct = .tuple #[.agg #[.int .i64 0, .int .i64 0, .int .i64 0, .int .i64 0, .int .i64 0, .int .i64 0], .int .i64 1] by simp [BoxV, hf])
    go_enter Try.func16, Try.ntmps16
    go_wp2_with (go_at_call 57; refine (valid_any _ _ _ _).mono ?_; rintro e w1 ⟨rfl, rfl⟩)
    refine bodyPost_ret (v := .tuple #[.agg #[.int .i64 0, .int .i64 0, .int .i64 0, .int .i64 0, .int .i64 0, .int .i64 0], .int .i64 1]) (by simp [results, Try.results16, go_sem]) rfl ⟨by rw [HS.out], ?_⟩
    repeat (first | with_reducible assumption | with_reducible exact bw_refl _ | with_reducible refine bw_alloc ?_ _ | with_reducible refine bw_drew ?_ | with_reducible refine bw_drewN _ ?_ | refine bw_set ?_ (by simp; try omega) _ | refine bw_call (by with_reducible assumption) ?_)
  · cases hb : bxB x0 y0 x1 y1 fr ct
    · have HS := Lib.hid (show BoxV fq fx fy x0 y0 x1 y1 fr ct = .tuple #[.agg #[.int .i64 0, .int .i64 0, .int .i64 0, .int .i64 0, .int .i64 0, .int .i64 0], .int .i64 1] by simp [BoxV, hb])
      go_enter Try.func16, Try.ntmps16
      go_wp2_with (go_at_call 57; refine (valid_any _ _ _ _).mono ?_; rintro e w1 ⟨rfl, rfl⟩)
      refine (bxValid_any _ _ _ _ _ _ _).mono ?_
      rintro e w1 ⟨rfl, hb1⟩
      have a0 : Bk w1 (w.heap.size) 23 #[.int .i64 fq, .int .i64 fx, .int .i64 fy] := Bk.call (by repeat (first | with_reducible assumption | with_reducible refine Bk.drew ?_ | with_reducible refine Bk.drewN ?_ _ | with_reducible exact Bk.new _ _ _ | with_reducible exact Bk.new1 _ _ _ _ | with_reducible exact Bk.new2 _ _ _ _ _ | with_reducible exact Bk.new3 _ _ _ _ _ _ | with_reducible refine Bk.alloc ?_ _ | with_reducible exact Bk.set6 (by repeat (first | with_reducible assumption | ((with_reducible refine Bk.far' ?_ ?_); (focus (first | (simp; done) | (simp; omega)))) | with_reducible refine Bk.drew ?_ | with_reducible refine Bk.alloc ?_ _)) _ _ _ _ _ _ | with_reducible exact Bk.set3 (by repeat (first | with_reducible assumption | ((with_reducible refine Bk.far' ?_ ?_); (focus (first | (simp; done) | (simp; omega)))) | with_reducible refine Bk.drew ?_ | with_reducible refine Bk.alloc ?_ _)) _ _ _ | with_reducible exact Bk.set2 (by repeat (first | with_reducible assumption | ((with_reducible refine Bk.far' ?_ ?_); (focus (first | (simp; done) | (simp; omega)))) | with_reducible refine Bk.drew ?_ | with_reducible refine Bk.alloc ?_ _)) _ _ | ((with_reducible refine Bk.far' ?_ ?_); (focus (first | (simp; done) | (simp; omega)))))) hb1
      have a1 : Bk w1 (w.heap.size + 1) 25 #[.int .i64 x0, .int .i64 y0, .int .i64 x1, .int .i64 y1, .int .i64 fr, .int .i64 ct] := Bk.call (by repeat (first | with_reducible assumption | with_reducible refine Bk.drew ?_ | with_reducible refine Bk.drewN ?_ _ | with_reducible exact Bk.new _ _ _ | with_reducible exact Bk.new1 _ _ _ _ | with_reducible exact Bk.new2 _ _ _ _ _ | with_reducible exact Bk.new3 _ _ _ _ _ _ | with_reducible refine Bk.alloc ?_ _ | with_reducible exact Bk.set6 (by repeat (first | with_reducible assumption | ((with_reducible refine Bk.far' ?_ ?_); (focus (first | (simp; done) | (simp; omega)))) | with_reducible refine Bk.drew ?_ | with_reducible refine Bk.alloc ?_ _)) _ _ _ _ _ _ | with_reducible exact Bk.set3 (by repeat (first | with_reducible assumption | ((with_reducible refine Bk.far' ?_ ?_); (focus (first | (simp; done) | (simp; omega)))) | with_reducible refine Bk.drew ?_ | with_reducible refine Bk.alloc ?_ _)) _ _ _ | with_reducible exact Bk.set2 (by repeat (first | with_reducible assumption | ((with_reducible refine Bk.far' ?_ ?_); (focus (first | (simp; done) | (simp; omega)))) | with_reducible refine Bk.drew ?_ | with_reducible refine Bk.alloc ?_ _)) _ _ | ((with_reducible refine Bk.far' ?_ ?_); (focus (first | (simp; done) | (simp; omega)))))) hb1
      have a2 : Bk w1 (w.heap.size + 1 + 1) 25 #[.int .i64 0, .int .i64 0, .int .i64 0, .int .i64 0, .int .i64 0, .int .i64 0] := Bk.call (by repeat (first | with_reducible assumption | with_reducible refine Bk.drew ?_ | with_reducible refine Bk.drewN ?_ _ | with_reducible exact Bk.new _ _ _ | with_reducible exact Bk.new1 _ _ _ _ | with_reducible exact Bk.new2 _ _ _ _ _ | with_reducible exact Bk.new3 _ _ _ _ _ _ | with_reducible refine Bk.alloc ?_ _ | with_reducible exact Bk.set6 (by repeat (first | with_reducible assumption | ((with_reducible refine Bk.far' ?_ ?_); (focus (first | (simp; done) | (simp; omega)))) | with_reducible refine Bk.drew ?_ | with_reducible refine Bk.alloc ?_ _)) _ _ _ _ _ _ | with_reducible exact Bk.set3 (by repeat (first | with_reducible assumption | ((with_reducible refine Bk.far' ?_ ?_); (focus (first | (simp; done) | (simp; omega)))) | with_reducible refine Bk.drew ?_ | with_reducible refine Bk.alloc ?_ _)) _ _ _ | with_reducible exact Bk.set2 (by repeat (first | with_reducible assumption | ((with_reducible refine Bk.far' ?_ ?_); (focus (first | (simp; done) | (simp; omega)))) | with_reducible refine Bk.drew ?_ | with_reducible refine Bk.alloc ?_ _)) _ _ | ((with_reducible refine Bk.far' ?_ ?_); (focus (first | (simp; done) | (simp; omega)))))) hb1
      have hbw1 : Below w.heap.size w w1 := by repeat (first | with_reducible assumption | with_reducible exact bw_refl _ | with_reducible refine bw_alloc ?_ _ | with_reducible refine bw_drew ?_ | with_reducible refine bw_drewN _ ?_ | refine bw_set ?_ (by simp; try omega) _ | refine bw_call (by with_reducible assumption) ?_)
      clear hb1
      have a0_0 : w1.cell? ⟨w.heap.size, 0, none⟩ = some (.int .i64 fq) := a0.cell 0
      have a0_1 : w1.cell? ⟨w.heap.size, 1, none⟩ = some (.int .i64 fx) := a0.cell 1
      have a0_2 : w1.cell? ⟨w.heap.size, 2, none⟩ = some (.int .i64 fy) := a0.cell 2
      have a0_f := a0.frozen
      have a0_l := a0.lt
      have a1_0 : w1.cell? ⟨w.heap.size + 1, 0, none⟩ = some (.int .i64 x0) := a1.cell 0
      have a1_1 : w1.cell? ⟨w.heap.size + 1, 1, none⟩ = some (.int .i64 y0) := a1.cell 1
      have a1_2 : w1.cell? ⟨w.heap.size + 1, 2, none⟩ = some (.int .i64 x1) := a1.cell 2
      have a1_3 : w1.cell? ⟨w.heap.size + 1, 3, none⟩ = some (.int .i64 y1) := a1.cell 3
      have a1_4 : w1.cell? ⟨w.heap.size + 1, 4, none⟩ = some (.int .i64 fr) := a1.cell 4
      have a1_5 : w1.cell? ⟨w.heap.size + 1, 5, none⟩ = some (.int .i64 ct) := a1.cell 5
      have a1_f := a1.frozen
      have a1_l := a1.lt
      have a2_0 : w1.cell? ⟨w.heap.size + 1 + 1, 0, none⟩ = some (.int .i64 0) := a2.cell 0
      have a2_1 : w1.cell? ⟨w.heap.size + 1 + 1, 1, none⟩ = some (.int .i64 0) := a2.cell 1
      have a2_2 : w1.cell? ⟨w.heap.size + 1 + 1, 2, none⟩ = some (.int .i64 0) := a2.cell 2
      have a2_3 : w1.cell? ⟨w.heap.size + 1 + 1, 3, none⟩ = some (.int .i64 0) := a2.cell 3
      have a2_4 : w1.cell? ⟨w.heap.size + 1 + 1, 4, none⟩ = some (.int .i64 0) := a2.cell 4
      have a2_5 : w1.cell? ⟨w.heap.size + 1 + 1, 5, none⟩ = some (.int .i64 0) := a2.cell 5
      have a2_f := a2.frozen
      have a2_l := a2.lt
      go_wp2_with fail
      refine bodyPost_ret (v := .tuple #[.agg #[.int .i64 0, .int .i64 0, .int .i64 0, .int .i64 0, .int .i64 0, .int .i64 0], .int .i64 1]) (by simp [results, Try.results16, go_sem, a2_0, a2_1, a2_2, a2_3, a2_4, a2_5]) rfl ⟨by rw [HS.out], ?_⟩
      repeat (first | with_reducible assumption | with_reducible exact bw_refl _ | with_reducible refine bw_alloc ?_ _ | with_reducible refine bw_drew ?_ | with_reducible refine bw_drewN _ ?_ | refine bw_set ?_ (by simp; try omega) _ | refine bw_call (by with_reducible assumption) ?_)
    · obtain ⟨f1, f2, f3, f4⟩ := szB2_of hf
      obtain ⟨k1, k2, k3, k4, k5, k6, k7⟩ := bxB_of hb
      obtain ⟨k8, k9, k10, k11⟩ := arcB_of k7
      have hmn := min_if
      have hmx := max_if
      cases hn0 : (szB (tX (fq % 4) x0 y0 + 64 * fx) 1048576 && szB (tY (fq % 4) x0 y0 + 64 * fy) 1048576)
      · have HS := Lib.hid (show BoxV fq fx fy x0 y0 x1 y1 fr ct = .tuple #[.agg #[.int .i64 0, .int .i64 0, .int .i64 0, .int .i64 0, .int .i64 0, .int .i64 0], .int .i64 2] by simp [BoxV, hf, hb, hn0])
        go_enter Try.func16, Try.ntmps16
        go_wp2_with (go_at_call 57; refine (valid_any _ _ _ _).mono ?_; rintro e w1 ⟨rfl, rfl⟩)
        refine (bxValid_any _ _ _ _ _ _ _).mono ?_
        rintro e w1 ⟨rfl, hb1⟩
        have a0 : Bk w1 (w.heap.size) 23 #[.int .i64 fq, .int .i64 fx, .int .i64 fy] := Bk.call (by repeat (first | with_reducible assumption | with_reducible refine Bk.drew ?_ | with_reducible refine Bk.drewN ?_ _ | with_reducible exact Bk.new _ _ _ | with_reducible exact Bk.new1 _ _ _ _ | with_reducible exact Bk.new2 _ _ _ _ _ | with_reducible exact Bk.new3 _ _ _ _ _ _ | with_reducible refine Bk.alloc ?_ _ | with_reducible exact Bk.set6 (by repeat (first | with_reducible assumption | ((with_reducible refine Bk.far' ?_ ?_); (focus (first | (simp; done) | (simp; omega)))) | with_reducible refine Bk.drew ?_ | with_reducible refine Bk.alloc ?_ _)) _ _ _ _ _ _ | with_reducible exact Bk.set3 (by repeat (first | with_reducible assumption | ((with_reducible refine Bk.far' ?_ ?_); (focus (first | (simp; done) | (simp; omega)))) | with_reducible refine Bk.drew ?_ | with_reducible refine Bk.alloc ?_ _)) _ _ _ | with_reducible exact Bk.set2 (by repeat (first | with_reducible assumption | ((with_reducible refine Bk.far' ?_ ?_); (focus (first | (simp; done) | (simp; omega)))) | with_reducible refine Bk.drew ?_ | with_reducible refine Bk.alloc ?_ _)) _ _ | ((with_reducible refine Bk.far' ?_ ?_); (focus (first | (simp; done) | (simp; omega)))))) hb1
        have a1 : Bk w1 (w.heap.size + 1) 25 #[.int .i64 x0, .int .i64 y0, .int .i64 x1, .int .i64 y1, .int .i64 fr, .int .i64 ct] := Bk.call (by repeat (first | with_reducible assumption | with_reducible refine Bk.drew ?_ | with_reducible refine Bk.drewN ?_ _ | with_reducible exact Bk.new _ _ _ | with_reducible exact Bk.new1 _ _ _ _ | with_reducible exact Bk.new2 _ _ _ _ _ | with_reducible exact Bk.new3 _ _ _ _ _ _ | with_reducible refine Bk.alloc ?_ _ | with_reducible exact Bk.set6 (by repeat (first | with_reducible assumption | ((with_reducible refine Bk.far' ?_ ?_); (focus (first | (simp; done) | (simp; omega)))) | with_reducible refine Bk.drew ?_ | with_reducible refine Bk.alloc ?_ _)) _ _ _ _ _ _ | with_reducible exact Bk.set3 (by repeat (first | with_reducible assumption | ((with_reducible refine Bk.far' ?_ ?_); (focus (first | (simp; done) | (simp; omega)))) | with_reducible refine Bk.drew ?_ | with_reducible refine Bk.alloc ?_ _)) _ _ _ | with_reducible exact Bk.set2 (by repeat (first | with_reducible assumption | ((with_reducible refine Bk.far' ?_ ?_); (focus (first | (simp; done) | (simp; omega)))) | with_reducible refine Bk.drew ?_ | with_reducible refine Bk.alloc ?_ _)) _ _ | ((with_reducible refine Bk.far' ?_ ?_); (focus (first | (simp; done) | (simp; omega)))))) hb1
        have a2 : Bk w1 (w.heap.size + 1 + 1) 25 #[.int .i64 0, .int .i64 0, .int .i64 0, .int .i64 0, .int .i64 0, .int .i64 0] := Bk.call (by repeat (first | with_reducible assumption | with_reducible refine Bk.drew ?_ | with_reducible refine Bk.drewN ?_ _ | with_reducible exact Bk.new _ _ _ | with_reducible exact Bk.new1 _ _ _ _ | with_reducible exact Bk.new2 _ _ _ _ _ | with_reducible exact Bk.new3 _ _ _ _ _ _ | with_reducible refine Bk.alloc ?_ _ | with_reducible exact Bk.set6 (by repeat (first | with_reducible assumption | ((with_reducible refine Bk.far' ?_ ?_); (focus (first | (simp; done) | (simp; omega)))) | with_reducible refine Bk.drew ?_ | with_reducible refine Bk.alloc ?_ _)) _ _ _ _ _ _ | with_reducible exact Bk.set3 (by repeat (first | with_reducible assumption | ((with_reducible refine Bk.far' ?_ ?_); (focus (first | (simp; done) | (simp; omega)))) | with_reducible refine Bk.drew ?_ | with_reducible refine Bk.alloc ?_ _)) _ _ _ | with_reducible exact Bk.set2 (by repeat (first | with_reducible assumption | ((with_reducible refine Bk.far' ?_ ?_); (focus (first | (simp; done) | (simp; omega)))) | with_reducible refine Bk.drew ?_ | with_reducible refine Bk.alloc ?_ _)) _ _ | ((with_reducible refine Bk.far' ?_ ?_); (focus (first | (simp; done) | (simp; omega)))))) hb1
        have hbw1 : Below w.heap.size w w1 := by repeat (first | with_reducible assumption | with_reducible exact bw_refl _ | with_reducible refine bw_alloc ?_ _ | with_reducible refine bw_drew ?_ | with_reducible refine bw_drewN _ ?_ | refine bw_set ?_ (by simp; try omega) _ | refine bw_call (by with_reducible assumption) ?_)
        clear hb1
        have a0_0 : w1.cell? ⟨w.heap.size, 0, none⟩ = some (.int .i64 fq) := a0.cell 0
        have a0_1 : w1.cell? ⟨w.heap.size, 1, none⟩ = some (.int .i64 fx) := a0.cell 1
        have a0_2 : w1.cell? ⟨w.heap.size, 2, none⟩ = some (.int .i64 fy) := a0.cell 2
        have a0_f := a0.frozen
        have a0_l := a0.lt
        have a1_0 : w1.cell? ⟨w.heap.size + 1, 0, none⟩ = some (.int .i64 x0) := a1.cell 0
        have a1_1 : w1.cell? ⟨w.heap.size + 1, 1, none⟩ = some (.int .i64 y0) := a1.cell 1
        have a1_2 : w1.cell? ⟨w.heap.size + 1, 2, none⟩ = some (.int .i64 x1) := a1.cell 2
        have a1_3 : w1.cell? ⟨w.heap.size + 1, 3, none⟩ = some (.int .i64 y1) := a1.cell 3
        have a1_4 : w1.cell? ⟨w.heap.size + 1, 4, none⟩ = some (.int .i64 fr) := a1.cell 4
        have a1_5 : w1.cell? ⟨w.heap.size + 1, 5, none⟩ = some (.int .i64 ct) := a1.cell 5
        have a1_f := a1.frozen
        have a1_l := a1.lt
        have a2_0 : w1.cell? ⟨w.heap.size + 1 + 1, 0, none⟩ = some (.int .i64 0) := a2.cell 0
        have a2_1 : w1.cell? ⟨w.heap.size + 1 + 1, 1, none⟩ = some (.int .i64 0) := a2.cell 1
        have a2_2 : w1.cell? ⟨w.heap.size + 1 + 1, 2, none⟩ = some (.int .i64 0) := a2.cell 2
        have a2_3 : w1.cell? ⟨w.heap.size + 1 + 1, 3, none⟩ = some (.int .i64 0) := a2.cell 3
        have a2_4 : w1.cell? ⟨w.heap.size + 1 + 1, 4, none⟩ = some (.int .i64 0) := a2.cell 4
        have a2_5 : w1.cell? ⟨w.heap.size + 1 + 1, 5, none⟩ = some (.int .i64 0) := a2.cell 5
        have a2_f := a2.frozen
        have a2_l := a2.lt
        go_wp2_with (first | (go_at_call 59; refine (mapped_any _ _ _ _ _ _ (by omega) (by omega) (by omega) (by omega) (by omega) (by omega) (by omega) (by omega)).mono ?_; rintro e w2 ⟨rfl, n, rfl⟩) | (go_at_call 60; refine (nearp_any _ _ _).mono ?_; rintro e w2 ⟨rfl, rfl⟩) | (go_at_call 61; refine (heading_any _ _ _ _ _ k8 k9).mono ?_; rintro e w2 ⟨rfl, rfl⟩))
        refine bodyPost_ret (v := .tuple #[.agg #[.int .i64 0, .int .i64 0, .int .i64 0, .int .i64 0, .int .i64 0, .int .i64 0], .int .i64 2]) (by simp [results, Try.results16, go_sem, World.cell?_alloc_past, a2_0, a2_1, a2_2, a2_3, a2_4, a2_5, a1_l, a2_l]) rfl ⟨by rw [HS.out], ?_⟩
        repeat (first | with_reducible assumption | with_reducible exact bw_refl _ | with_reducible refine bw_alloc ?_ _ | with_reducible refine bw_drew ?_ | with_reducible refine bw_drewN _ ?_ | refine bw_set ?_ (by simp; try omega) _ | refine bw_call (by with_reducible assumption) ?_)
      · cases hn1 : (szB (tX (fq % 4) x1 y1 + 64 * fx) 1048576 && szB (tY (fq % 4) x1 y1 + 64 * fy) 1048576)
        · have HS := Lib.hid (show BoxV fq fx fy x0 y0 x1 y1 fr ct = .tuple #[.agg #[.int .i64 0, .int .i64 0, .int .i64 0, .int .i64 0, .int .i64 0, .int .i64 0], .int .i64 2] by simp [BoxV, hf, hb, hn0, hn1])
          go_enter Try.func16, Try.ntmps16
          go_wp2_with (go_at_call 57; refine (valid_any _ _ _ _).mono ?_; rintro e w1 ⟨rfl, rfl⟩)
          refine (bxValid_any _ _ _ _ _ _ _).mono ?_
          rintro e w1 ⟨rfl, hb1⟩
          have a0 : Bk w1 (w.heap.size) 23 #[.int .i64 fq, .int .i64 fx, .int .i64 fy] := Bk.call (by repeat (first | with_reducible assumption | with_reducible refine Bk.drew ?_ | with_reducible refine Bk.drewN ?_ _ | with_reducible exact Bk.new _ _ _ | with_reducible exact Bk.new1 _ _ _ _ | with_reducible exact Bk.new2 _ _ _ _ _ | with_reducible exact Bk.new3 _ _ _ _ _ _ | with_reducible refine Bk.alloc ?_ _ | with_reducible exact Bk.set6 (by repeat (first | with_reducible assumption | ((with_reducible refine Bk.far' ?_ ?_); (focus (first | (simp; done) | (simp; omega)))) | with_reducible refine Bk.drew ?_ | with_reducible refine Bk.alloc ?_ _)) _ _ _ _ _ _ | with_reducible exact Bk.set3 (by repeat (first | with_reducible assumption | ((with_reducible refine Bk.far' ?_ ?_); (focus (first | (simp; done) | (simp; omega)))) | with_reducible refine Bk.drew ?_ | with_reducible refine Bk.alloc ?_ _)) _ _ _ | with_reducible exact Bk.set2 (by repeat (first | with_reducible assumption | ((with_reducible refine Bk.far' ?_ ?_); (focus (first | (simp; done) | (simp; omega)))) | with_reducible refine Bk.drew ?_ | with_reducible refine Bk.alloc ?_ _)) _ _ | ((with_reducible refine Bk.far' ?_ ?_); (focus (first | (simp; done) | (simp; omega)))))) hb1
          have a1 : Bk w1 (w.heap.size + 1) 25 #[.int .i64 x0, .int .i64 y0, .int .i64 x1, .int .i64 y1, .int .i64 fr, .int .i64 ct] := Bk.call (by repeat (first | with_reducible assumption | with_reducible refine Bk.drew ?_ | with_reducible refine Bk.drewN ?_ _ | with_reducible exact Bk.new _ _ _ | with_reducible exact Bk.new1 _ _ _ _ | with_reducible exact Bk.new2 _ _ _ _ _ | with_reducible exact Bk.new3 _ _ _ _ _ _ | with_reducible refine Bk.alloc ?_ _ | with_reducible exact Bk.set6 (by repeat (first | with_reducible assumption | ((with_reducible refine Bk.far' ?_ ?_); (focus (first | (simp; done) | (simp; omega)))) | with_reducible refine Bk.drew ?_ | with_reducible refine Bk.alloc ?_ _)) _ _ _ _ _ _ | with_reducible exact Bk.set3 (by repeat (first | with_reducible assumption | ((with_reducible refine Bk.far' ?_ ?_); (focus (first | (simp; done) | (simp; omega)))) | with_reducible refine Bk.drew ?_ | with_reducible refine Bk.alloc ?_ _)) _ _ _ | with_reducible exact Bk.set2 (by repeat (first | with_reducible assumption | ((with_reducible refine Bk.far' ?_ ?_); (focus (first | (simp; done) | (simp; omega)))) | with_reducible refine Bk.drew ?_ | with_reducible refine Bk.alloc ?_ _)) _ _ | ((with_reducible refine Bk.far' ?_ ?_); (focus (first | (simp; done) | (simp; omega)))))) hb1
          have a2 : Bk w1 (w.heap.size + 1 + 1) 25 #[.int .i64 0, .int .i64 0, .int .i64 0, .int .i64 0, .int .i64 0, .int .i64 0] := Bk.call (by repeat (first | with_reducible assumption | with_reducible refine Bk.drew ?_ | with_reducible refine Bk.drewN ?_ _ | with_reducible exact Bk.new _ _ _ | with_reducible exact Bk.new1 _ _ _ _ | with_reducible exact Bk.new2 _ _ _ _ _ | with_reducible exact Bk.new3 _ _ _ _ _ _ | with_reducible refine Bk.alloc ?_ _ | with_reducible exact Bk.set6 (by repeat (first | with_reducible assumption | ((with_reducible refine Bk.far' ?_ ?_); (focus (first | (simp; done) | (simp; omega)))) | with_reducible refine Bk.drew ?_ | with_reducible refine Bk.alloc ?_ _)) _ _ _ _ _ _ | with_reducible exact Bk.set3 (by repeat (first | with_reducible assumption | ((with_reducible refine Bk.far' ?_ ?_); (focus (first | (simp; done) | (simp; omega)))) | with_reducible refine Bk.drew ?_ | with_reducible refine Bk.alloc ?_ _)) _ _ _ | with_reducible exact Bk.set2 (by repeat (first | with_reducible assumption | ((with_reducible refine Bk.far' ?_ ?_); (focus (first | (simp; done) | (simp; omega)))) | with_reducible refine Bk.drew ?_ | with_reducible refine Bk.alloc ?_ _)) _ _ | ((with_reducible refine Bk.far' ?_ ?_); (focus (first | (simp; done) | (simp; omega)))))) hb1
          have hbw1 : Below w.heap.size w w1 := by repeat (first | with_reducible assumption | with_reducible exact bw_refl _ | with_reducible refine bw_alloc ?_ _ | with_reducible refine bw_drew ?_ | with_reducible refine bw_drewN _ ?_ | refine bw_set ?_ (by simp; try omega) _ | refine bw_call (by with_reducible assumption) ?_)
          clear hb1
          have a0_0 : w1.cell? ⟨w.heap.size, 0, none⟩ = some (.int .i64 fq) := a0.cell 0
          have a0_1 : w1.cell? ⟨w.heap.size, 1, none⟩ = some (.int .i64 fx) := a0.cell 1
          have a0_2 : w1.cell? ⟨w.heap.size, 2, none⟩ = some (.int .i64 fy) := a0.cell 2
          have a0_f := a0.frozen
          have a0_l := a0.lt
          have a1_0 : w1.cell? ⟨w.heap.size + 1, 0, none⟩ = some (.int .i64 x0) := a1.cell 0
          have a1_1 : w1.cell? ⟨w.heap.size + 1, 1, none⟩ = some (.int .i64 y0) := a1.cell 1
          have a1_2 : w1.cell? ⟨w.heap.size + 1, 2, none⟩ = some (.int .i64 x1) := a1.cell 2
          have a1_3 : w1.cell? ⟨w.heap.size + 1, 3, none⟩ = some (.int .i64 y1) := a1.cell 3
          have a1_4 : w1.cell? ⟨w.heap.size + 1, 4, none⟩ = some (.int .i64 fr) := a1.cell 4
          have a1_5 : w1.cell? ⟨w.heap.size + 1, 5, none⟩ = some (.int .i64 ct) := a1.cell 5
          have a1_f := a1.frozen
          have a1_l := a1.lt
          have a2_0 : w1.cell? ⟨w.heap.size + 1 + 1, 0, none⟩ = some (.int .i64 0) := a2.cell 0
          have a2_1 : w1.cell? ⟨w.heap.size + 1 + 1, 1, none⟩ = some (.int .i64 0) := a2.cell 1
          have a2_2 : w1.cell? ⟨w.heap.size + 1 + 1, 2, none⟩ = some (.int .i64 0) := a2.cell 2
          have a2_3 : w1.cell? ⟨w.heap.size + 1 + 1, 3, none⟩ = some (.int .i64 0) := a2.cell 3
          have a2_4 : w1.cell? ⟨w.heap.size + 1 + 1, 4, none⟩ = some (.int .i64 0) := a2.cell 4
          have a2_5 : w1.cell? ⟨w.heap.size + 1 + 1, 5, none⟩ = some (.int .i64 0) := a2.cell 5
          have a2_f := a2.frozen
          have a2_l := a2.lt
          go_wp2_with (first | (go_at_call 59; refine (mapped_any _ _ _ _ _ _ (by omega) (by omega) (by omega) (by omega) (by omega) (by omega) (by omega) (by omega)).mono ?_; rintro e w2 ⟨rfl, n, rfl⟩) | (go_at_call 60; refine (nearp_any _ _ _).mono ?_; rintro e w2 ⟨rfl, rfl⟩) | (go_at_call 61; refine (heading_any _ _ _ _ _ k8 k9).mono ?_; rintro e w2 ⟨rfl, rfl⟩))
          refine bodyPost_ret (v := .tuple #[.agg #[.int .i64 0, .int .i64 0, .int .i64 0, .int .i64 0, .int .i64 0, .int .i64 0], .int .i64 2]) (by simp [results, Try.results16, go_sem, World.cell?_alloc_past, a2_0, a2_1, a2_2, a2_3, a2_4, a2_5, a1_l, a2_l]) rfl ⟨by rw [HS.out], ?_⟩
          repeat (first | with_reducible assumption | with_reducible exact bw_refl _ | with_reducible refine bw_alloc ?_ _ | with_reducible refine bw_drew ?_ | with_reducible refine bw_drewN _ ?_ | refine bw_set ?_ (by simp; try omega) _ | refine bw_call (by with_reducible assumption) ?_)
        · cases hc : (ct == 256)
          · have HS := Lib.hid (show BoxV fq fx fy x0 y0 x1 y1 fr ct = .tuple #[.agg #[.int .i64 (min (tX (fq % 4) x0 y0 + 64 * fx) (tX (fq % 4) x1 y1 + 64 * fx)), .int .i64 (min (tY (fq % 4) x0 y0 + 64 * fy) (tY (fq % 4) x1 y1 + 64 * fy)), .int .i64 (max (tX (fq % 4) x0 y0 + 64 * fx) (tX (fq % 4) x1 y1 + 64 * fx)), .int .i64 (max (tY (fq % 4) x0 y0 + 64 * fy) (tY (fq % 4) x1 y1 + 64 * fy)), .int .i64 ((fr + 64 * (fq % 4)) % 256), .int .i64 ct], .int .i64 0] by simp at hc; simp [BoxV, hf, hb, hn0, hn1, hc])
            go_enter Try.func16, Try.ntmps16
            go_wp2_with (go_at_call 57; refine (valid_any _ _ _ _).mono ?_; rintro e w1 ⟨rfl, rfl⟩)
            refine (bxValid_any _ _ _ _ _ _ _).mono ?_
            rintro e w1 ⟨rfl, hb1⟩
            have a0 : Bk w1 (w.heap.size) 23 #[.int .i64 fq, .int .i64 fx, .int .i64 fy] := Bk.call (by repeat (first | with_reducible assumption | with_reducible refine Bk.drew ?_ | with_reducible refine Bk.drewN ?_ _ | with_reducible exact Bk.new _ _ _ | with_reducible exact Bk.new1 _ _ _ _ | with_reducible exact Bk.new2 _ _ _ _ _ | with_reducible exact Bk.new3 _ _ _ _ _ _ | with_reducible refine Bk.alloc ?_ _ | with_reducible exact Bk.set6 (by repeat (first | with_reducible assumption | ((with_reducible refine Bk.far' ?_ ?_); (focus (first | (simp; done) | (simp; omega)))) | with_reducible refine Bk.drew ?_ | with_reducible refine Bk.alloc ?_ _)) _ _ _ _ _ _ | with_reducible exact Bk.set3 (by repeat (first | with_reducible assumption | ((with_reducible refine Bk.far' ?_ ?_); (focus (first | (simp; done) | (simp; omega)))) | with_reducible refine Bk.drew ?_ | with_reducible refine Bk.alloc ?_ _)) _ _ _ | with_reducible exact Bk.set2 (by repeat (first | with_reducible assumption | ((with_reducible refine Bk.far' ?_ ?_); (focus (first | (simp; done) | (simp; omega)))) | with_reducible refine Bk.drew ?_ | with_reducible refine Bk.alloc ?_ _)) _ _ | ((with_reducible refine Bk.far' ?_ ?_); (focus (first | (simp; done) | (simp; omega)))))) hb1
            have a1 : Bk w1 (w.heap.size + 1) 25 #[.int .i64 x0, .int .i64 y0, .int .i64 x1, .int .i64 y1, .int .i64 fr, .int .i64 ct] := Bk.call (by repeat (first | with_reducible assumption | with_reducible refine Bk.drew ?_ | with_reducible refine Bk.drewN ?_ _ | with_reducible exact Bk.new _ _ _ | with_reducible exact Bk.new1 _ _ _ _ | with_reducible exact Bk.new2 _ _ _ _ _ | with_reducible exact Bk.new3 _ _ _ _ _ _ | with_reducible refine Bk.alloc ?_ _ | with_reducible exact Bk.set6 (by repeat (first | with_reducible assumption | ((with_reducible refine Bk.far' ?_ ?_); (focus (first | (simp; done) | (simp; omega)))) | with_reducible refine Bk.drew ?_ | with_reducible refine Bk.alloc ?_ _)) _ _ _ _ _ _ | with_reducible exact Bk.set3 (by repeat (first | with_reducible assumption | ((with_reducible refine Bk.far' ?_ ?_); (focus (first | (simp; done) | (simp; omega)))) | with_reducible refine Bk.drew ?_ | with_reducible refine Bk.alloc ?_ _)) _ _ _ | with_reducible exact Bk.set2 (by repeat (first | with_reducible assumption | ((with_reducible refine Bk.far' ?_ ?_); (focus (first | (simp; done) | (simp; omega)))) | with_reducible refine Bk.drew ?_ | with_reducible refine Bk.alloc ?_ _)) _ _ | ((with_reducible refine Bk.far' ?_ ?_); (focus (first | (simp; done) | (simp; omega)))))) hb1
            have a2 : Bk w1 (w.heap.size + 1 + 1) 25 #[.int .i64 0, .int .i64 0, .int .i64 0, .int .i64 0, .int .i64 0, .int .i64 0] := Bk.call (by repeat (first | with_reducible assumption | with_reducible refine Bk.drew ?_ | with_reducible refine Bk.drewN ?_ _ | with_reducible exact Bk.new _ _ _ | with_reducible exact Bk.new1 _ _ _ _ | with_reducible exact Bk.new2 _ _ _ _ _ | with_reducible exact Bk.new3 _ _ _ _ _ _ | with_reducible refine Bk.alloc ?_ _ | with_reducible exact Bk.set6 (by repeat (first | with_reducible assumption | ((with_reducible refine Bk.far' ?_ ?_); (focus (first | (simp; done) | (simp; omega)))) | with_reducible refine Bk.drew ?_ | with_reducible refine Bk.alloc ?_ _)) _ _ _ _ _ _ | with_reducible exact Bk.set3 (by repeat (first | with_reducible assumption | ((with_reducible refine Bk.far' ?_ ?_); (focus (first | (simp; done) | (simp; omega)))) | with_reducible refine Bk.drew ?_ | with_reducible refine Bk.alloc ?_ _)) _ _ _ | with_reducible exact Bk.set2 (by repeat (first | with_reducible assumption | ((with_reducible refine Bk.far' ?_ ?_); (focus (first | (simp; done) | (simp; omega)))) | with_reducible refine Bk.drew ?_ | with_reducible refine Bk.alloc ?_ _)) _ _ | ((with_reducible refine Bk.far' ?_ ?_); (focus (first | (simp; done) | (simp; omega)))))) hb1
            have hbw1 : Below w.heap.size w w1 := by repeat (first | with_reducible assumption | with_reducible exact bw_refl _ | with_reducible refine bw_alloc ?_ _ | with_reducible refine bw_drew ?_ | with_reducible refine bw_drewN _ ?_ | refine bw_set ?_ (by simp; try omega) _ | refine bw_call (by with_reducible assumption) ?_)
            clear hb1
            have a0_0 : w1.cell? ⟨w.heap.size, 0, none⟩ = some (.int .i64 fq) := a0.cell 0
            have a0_1 : w1.cell? ⟨w.heap.size, 1, none⟩ = some (.int .i64 fx) := a0.cell 1
            have a0_2 : w1.cell? ⟨w.heap.size, 2, none⟩ = some (.int .i64 fy) := a0.cell 2
            have a0_f := a0.frozen
            have a0_l := a0.lt
            have a1_0 : w1.cell? ⟨w.heap.size + 1, 0, none⟩ = some (.int .i64 x0) := a1.cell 0
            have a1_1 : w1.cell? ⟨w.heap.size + 1, 1, none⟩ = some (.int .i64 y0) := a1.cell 1
            have a1_2 : w1.cell? ⟨w.heap.size + 1, 2, none⟩ = some (.int .i64 x1) := a1.cell 2
            have a1_3 : w1.cell? ⟨w.heap.size + 1, 3, none⟩ = some (.int .i64 y1) := a1.cell 3
            have a1_4 : w1.cell? ⟨w.heap.size + 1, 4, none⟩ = some (.int .i64 fr) := a1.cell 4
            have a1_5 : w1.cell? ⟨w.heap.size + 1, 5, none⟩ = some (.int .i64 ct) := a1.cell 5
            have a1_f := a1.frozen
            have a1_l := a1.lt
            have a2_0 : w1.cell? ⟨w.heap.size + 1 + 1, 0, none⟩ = some (.int .i64 0) := a2.cell 0
            have a2_1 : w1.cell? ⟨w.heap.size + 1 + 1, 1, none⟩ = some (.int .i64 0) := a2.cell 1
            have a2_2 : w1.cell? ⟨w.heap.size + 1 + 1, 2, none⟩ = some (.int .i64 0) := a2.cell 2
            have a2_3 : w1.cell? ⟨w.heap.size + 1 + 1, 3, none⟩ = some (.int .i64 0) := a2.cell 3
            have a2_4 : w1.cell? ⟨w.heap.size + 1 + 1, 4, none⟩ = some (.int .i64 0) := a2.cell 4
            have a2_5 : w1.cell? ⟨w.heap.size + 1 + 1, 5, none⟩ = some (.int .i64 0) := a2.cell 5
            have a2_f := a2.frozen
            have a2_l := a2.lt
            go_wp2_with fail
            refine (mapped_any _ _ _ _ _ _ (by omega) (by omega) (by omega) (by omega) (by omega) (by omega) (by omega) (by omega)).mono ?_
            rintro e w2 ⟨rfl, n, rfl⟩
            generalize (tX (fq % 4) x0 y0 + 64 * fx) = X0 at *
            generalize (tY (fq % 4) x0 y0 + 64 * fy) = Y0 at *
            go_wp2_with fail
            refine (mapped_any _ _ _ _ _ _ (by omega) (by omega) (by omega) (by omega) (by omega) (by omega) (by omega) (by omega)).mono ?_
            rintro e w2 ⟨rfl, n2, rfl⟩
            generalize (tX (fq % 4) x1 y1 + 64 * fx) = X1 at *
            generalize (tY (fq % 4) x1 y1 + 64 * fy) = Y1 at *
            go_wp2_with (first | (go_at_call 59; refine (mapped_any _ _ _ _ _ _ (by omega) (by omega) (by omega) (by omega) (by omega) (by omega) (by omega) (by omega)).mono ?_; rintro e w2 ⟨rfl, n, rfl⟩) | (go_at_call 60; refine (nearp_any _ _ _).mono ?_; rintro e w2 ⟨rfl, rfl⟩) | (go_at_call 61; refine (heading_any _ _ _ _ _ k8 k9).mono ?_; rintro e w2 ⟨rfl, rfl⟩))
            refine bodyPost_ret (v := .tuple #[.agg #[.int .i64 (min X0 X1), .int .i64 (min Y0 Y1), .int .i64 (max X0 X1), .int .i64 (max Y0 Y1), .int .i64 ((fr + 64 * (fq % 4)) % 256), .int .i64 ct], .int .i64 0]) (by simp [results, Try.results16, go_sem, World.cell?_alloc_past, a2_0, a2_1, a2_2, a2_3, a2_4, a2_5, a0_l, a1_l, a2_l]) rfl ⟨by rw [HS.out], ?_⟩
            repeat (first | with_reducible assumption | with_reducible exact bw_refl _ | with_reducible refine bw_alloc ?_ _ | with_reducible refine bw_drew ?_ | with_reducible refine bw_drewN _ ?_ | refine bw_set ?_ (by simp; try omega) _ | refine bw_call (by with_reducible assumption) ?_)
          · have HS := Lib.hid (show BoxV fq fx fy x0 y0 x1 y1 fr ct = .tuple #[.agg #[.int .i64 (min (tX (fq % 4) x0 y0 + 64 * fx) (tX (fq % 4) x1 y1 + 64 * fx)), .int .i64 (min (tY (fq % 4) x0 y0 + 64 * fy) (tY (fq % 4) x1 y1 + 64 * fy)), .int .i64 (max (tX (fq % 4) x0 y0 + 64 * fx) (tX (fq % 4) x1 y1 + 64 * fx)), .int .i64 (max (tY (fq % 4) x0 y0 + 64 * fy) (tY (fq % 4) x1 y1 + 64 * fy)), .int .i64 0, .int .i64 ct], .int .i64 0] by simp only [BoxV, hf, hb, hn0, hn1, Bool.and_self, if_true]; rw [if_pos (show ct = 256 by simpa using hc)])
            go_enter Try.func16, Try.ntmps16
            go_wp2_with (go_at_call 57; refine (valid_any _ _ _ _).mono ?_; rintro e w1 ⟨rfl, rfl⟩)
            refine (bxValid_any _ _ _ _ _ _ _).mono ?_
            rintro e w1 ⟨rfl, hb1⟩
            have a0 : Bk w1 (w.heap.size) 23 #[.int .i64 fq, .int .i64 fx, .int .i64 fy] := Bk.call (by repeat (first | with_reducible assumption | with_reducible refine Bk.drew ?_ | with_reducible refine Bk.drewN ?_ _ | with_reducible exact Bk.new _ _ _ | with_reducible exact Bk.new1 _ _ _ _ | with_reducible exact Bk.new2 _ _ _ _ _ | with_reducible exact Bk.new3 _ _ _ _ _ _ | with_reducible refine Bk.alloc ?_ _ | with_reducible exact Bk.set6 (by repeat (first | with_reducible assumption | ((with_reducible refine Bk.far' ?_ ?_); (focus (first | (simp; done) | (simp; omega)))) | with_reducible refine Bk.drew ?_ | with_reducible refine Bk.alloc ?_ _)) _ _ _ _ _ _ | with_reducible exact Bk.set3 (by repeat (first | with_reducible assumption | ((with_reducible refine Bk.far' ?_ ?_); (focus (first | (simp; done) | (simp; omega)))) | with_reducible refine Bk.drew ?_ | with_reducible refine Bk.alloc ?_ _)) _ _ _ | with_reducible exact Bk.set2 (by repeat (first | with_reducible assumption | ((with_reducible refine Bk.far' ?_ ?_); (focus (first | (simp; done) | (simp; omega)))) | with_reducible refine Bk.drew ?_ | with_reducible refine Bk.alloc ?_ _)) _ _ | ((with_reducible refine Bk.far' ?_ ?_); (focus (first | (simp; done) | (simp; omega)))))) hb1
            have a1 : Bk w1 (w.heap.size + 1) 25 #[.int .i64 x0, .int .i64 y0, .int .i64 x1, .int .i64 y1, .int .i64 fr, .int .i64 ct] := Bk.call (by repeat (first | with_reducible assumption | with_reducible refine Bk.drew ?_ | with_reducible refine Bk.drewN ?_ _ | with_reducible exact Bk.new _ _ _ | with_reducible exact Bk.new1 _ _ _ _ | with_reducible exact Bk.new2 _ _ _ _ _ | with_reducible exact Bk.new3 _ _ _ _ _ _ | with_reducible refine Bk.alloc ?_ _ | with_reducible exact Bk.set6 (by repeat (first | with_reducible assumption | ((with_reducible refine Bk.far' ?_ ?_); (focus (first | (simp; done) | (simp; omega)))) | with_reducible refine Bk.drew ?_ | with_reducible refine Bk.alloc ?_ _)) _ _ _ _ _ _ | with_reducible exact Bk.set3 (by repeat (first | with_reducible assumption | ((with_reducible refine Bk.far' ?_ ?_); (focus (first | (simp; done) | (simp; omega)))) | with_reducible refine Bk.drew ?_ | with_reducible refine Bk.alloc ?_ _)) _ _ _ | with_reducible exact Bk.set2 (by repeat (first | with_reducible assumption | ((with_reducible refine Bk.far' ?_ ?_); (focus (first | (simp; done) | (simp; omega)))) | with_reducible refine Bk.drew ?_ | with_reducible refine Bk.alloc ?_ _)) _ _ | ((with_reducible refine Bk.far' ?_ ?_); (focus (first | (simp; done) | (simp; omega)))))) hb1
            have a2 : Bk w1 (w.heap.size + 1 + 1) 25 #[.int .i64 0, .int .i64 0, .int .i64 0, .int .i64 0, .int .i64 0, .int .i64 0] := Bk.call (by repeat (first | with_reducible assumption | with_reducible refine Bk.drew ?_ | with_reducible refine Bk.drewN ?_ _ | with_reducible exact Bk.new _ _ _ | with_reducible exact Bk.new1 _ _ _ _ | with_reducible exact Bk.new2 _ _ _ _ _ | with_reducible exact Bk.new3 _ _ _ _ _ _ | with_reducible refine Bk.alloc ?_ _ | with_reducible exact Bk.set6 (by repeat (first | with_reducible assumption | ((with_reducible refine Bk.far' ?_ ?_); (focus (first | (simp; done) | (simp; omega)))) | with_reducible refine Bk.drew ?_ | with_reducible refine Bk.alloc ?_ _)) _ _ _ _ _ _ | with_reducible exact Bk.set3 (by repeat (first | with_reducible assumption | ((with_reducible refine Bk.far' ?_ ?_); (focus (first | (simp; done) | (simp; omega)))) | with_reducible refine Bk.drew ?_ | with_reducible refine Bk.alloc ?_ _)) _ _ _ | with_reducible exact Bk.set2 (by repeat (first | with_reducible assumption | ((with_reducible refine Bk.far' ?_ ?_); (focus (first | (simp; done) | (simp; omega)))) | with_reducible refine Bk.drew ?_ | with_reducible refine Bk.alloc ?_ _)) _ _ | ((with_reducible refine Bk.far' ?_ ?_); (focus (first | (simp; done) | (simp; omega)))))) hb1
            have hbw1 : Below w.heap.size w w1 := by repeat (first | with_reducible assumption | with_reducible exact bw_refl _ | with_reducible refine bw_alloc ?_ _ | with_reducible refine bw_drew ?_ | with_reducible refine bw_drewN _ ?_ | refine bw_set ?_ (by simp; try omega) _ | refine bw_call (by with_reducible assumption) ?_)
            clear hb1
            have a0_0 : w1.cell? ⟨w.heap.size, 0, none⟩ = some (.int .i64 fq) := a0.cell 0
            have a0_1 : w1.cell? ⟨w.heap.size, 1, none⟩ = some (.int .i64 fx) := a0.cell 1
            have a0_2 : w1.cell? ⟨w.heap.size, 2, none⟩ = some (.int .i64 fy) := a0.cell 2
            have a0_f := a0.frozen
            have a0_l := a0.lt
            have a1_0 : w1.cell? ⟨w.heap.size + 1, 0, none⟩ = some (.int .i64 x0) := a1.cell 0
            have a1_1 : w1.cell? ⟨w.heap.size + 1, 1, none⟩ = some (.int .i64 y0) := a1.cell 1
            have a1_2 : w1.cell? ⟨w.heap.size + 1, 2, none⟩ = some (.int .i64 x1) := a1.cell 2
            have a1_3 : w1.cell? ⟨w.heap.size + 1, 3, none⟩ = some (.int .i64 y1) := a1.cell 3
            have a1_4 : w1.cell? ⟨w.heap.size + 1, 4, none⟩ = some (.int .i64 fr) := a1.cell 4
            have a1_5 : w1.cell? ⟨w.heap.size + 1, 5, none⟩ = some (.int .i64 ct) := a1.cell 5
            have a1_f := a1.frozen
            have a1_l := a1.lt
            have a2_0 : w1.cell? ⟨w.heap.size + 1 + 1, 0, none⟩ = some (.int .i64 0) := a2.cell 0
            have a2_1 : w1.cell? ⟨w.heap.size + 1 + 1, 1, none⟩ = some (.int .i64 0) := a2.cell 1
            have a2_2 : w1.cell? ⟨w.heap.size + 1 + 1, 2, none⟩ = some (.int .i64 0) := a2.cell 2
            have a2_3 : w1.cell? ⟨w.heap.size + 1 + 1, 3, none⟩ = some (.int .i64 0) := a2.cell 3
            have a2_4 : w1.cell? ⟨w.heap.size + 1 + 1, 4, none⟩ = some (.int .i64 0) := a2.cell 4
            have a2_5 : w1.cell? ⟨w.heap.size + 1 + 1, 5, none⟩ = some (.int .i64 0) := a2.cell 5
            have a2_f := a2.frozen
            have a2_l := a2.lt
            go_wp2_with fail
            refine (mapped_any _ _ _ _ _ _ (by omega) (by omega) (by omega) (by omega) (by omega) (by omega) (by omega) (by omega)).mono ?_
            rintro e w2 ⟨rfl, n, rfl⟩
            generalize (tX (fq % 4) x0 y0 + 64 * fx) = X0 at *
            generalize (tY (fq % 4) x0 y0 + 64 * fy) = Y0 at *
            go_wp2_with fail
            refine (mapped_any _ _ _ _ _ _ (by omega) (by omega) (by omega) (by omega) (by omega) (by omega) (by omega) (by omega)).mono ?_
            rintro e w2 ⟨rfl, n2, rfl⟩
            generalize (tX (fq % 4) x1 y1 + 64 * fx) = X1 at *
            generalize (tY (fq % 4) x1 y1 + 64 * fy) = Y1 at *
            go_wp2_with (first | (go_at_call 59; refine (mapped_any _ _ _ _ _ _ (by omega) (by omega) (by omega) (by omega) (by omega) (by omega) (by omega) (by omega)).mono ?_; rintro e w2 ⟨rfl, n, rfl⟩) | (go_at_call 60; refine (nearp_any _ _ _).mono ?_; rintro e w2 ⟨rfl, rfl⟩) | (go_at_call 61; refine (heading_any _ _ _ _ _ k8 k9).mono ?_; rintro e w2 ⟨rfl, rfl⟩))
            refine bodyPost_ret (v := .tuple #[.agg #[.int .i64 (min X0 X1), .int .i64 (min Y0 Y1), .int .i64 (max X0 X1), .int .i64 (max Y0 Y1), .int .i64 0, .int .i64 ct], .int .i64 0]) (by simp [results, Try.results16, go_sem, World.cell?_alloc_past, a2_0, a2_1, a2_2, a2_3, a2_4, a2_5, a0_l, a1_l, a2_l]) rfl ⟨by rw [HS.out], ?_⟩
            repeat (first | with_reducible assumption | with_reducible exact bw_refl _ | with_reducible refine bw_alloc ?_ _ | with_reducible refine bw_drew ?_ | with_reducible refine bw_drewN _ ?_ | refine bw_set ?_ (by simp; try omega) _ | refine bw_call (by with_reducible assumption) ?_)

end Go.Proofs.Ytbjkbjiglcomkaa
