/- The walk of FrameSquares, and its plain law. -/
import Derived.Test.YtkacggfadalbiaaAw
import Derived.Test.YtkacggfadalbiaaGr
namespace Go.Proofs.Ytkacggfadalbiaa
open Go.RowKit

def inB (px py cx cy : Int) : Bool := decide (cx * 64 ≤ px ∧ px ≤ cx * 64 + 64 ∧ cy * 64 ≤ py ∧ py ≤ cy * 64 + 64)

set_option maxHeartbeats 400000 in
theorem square_any (x y : Int) (w : World) (h1 : -1000000 ≤ x) (h2 : x ≤ 1000000) (h3 : -1000000 ≤ y) (h4 : y ≤ 1000000) :
    Calls Try.prog 47 #[.agg #[.int .i64 x, .int .i64 y]] w fun e w' => e = .returned (.agg #[.int .i64 (x * 64), .int .i64 (y * 64), .int .i64 (x * 64 + 64), .int .i64 (y * 64 + 64)]) ∧
      (w.alloc (.cells #[.int .i64 x, .int .i64 y] 25)).alloc (.cells #[.int .i64 (x * 64), .int .i64 (y * 64), .int .i64 (x * 64 + 64), .int .i64 (y * 64 + 64)] 87) = w' := by
  go_enter Try.func47, Try.ntmps47
  go_wp2
  exact bodyPost_ret (v := .agg #[.int .i64 (x * 64), .int .i64 (y * 64), .int .i64 (x * 64 + 64), .int .i64 (y * 64 + 64)]) (by simp [results, Try.results47, go_sem]) rfl ⟨rfl, rfl⟩

set_option maxHeartbeats 1000000 in
theorem in_any (px py cx cy : Int) (w : World) (h1 : -1000000 ≤ cx) (h2 : cx ≤ 1000000) (h3 : -1000000 ≤ cy) (h4 : cy ≤ 1000000) :
    Calls Try.prog 17 #[.agg #[.int .i64 px, .int .i64 py], .agg #[.int .i64 cx, .int .i64 cy]] w fun e w' => e = .returned (.bool (inB px py cx cy)) ∧
      ((((w.alloc (.cells #[.int .i64 px, .int .i64 py] 26)).alloc (.cells #[.int .i64 cx, .int .i64 cy] 25)).alloc (.cells #[.int .i64 cx, .int .i64 cy] 25)).alloc
        (.cells #[.int .i64 (cx * 64), .int .i64 (cy * 64), .int .i64 (cx * 64 + 64), .int .i64 (cy * 64 + 64)] 87)).alloc (.cells #[.int .i64 (cx * 64), .int .i64 (cy * 64), .int .i64 (cx * 64 + 64), .int .i64 (cy * 64 + 64)] 87) = w' := by
  by_cases a1 : cx * 64 ≤ px
  · by_cases a2 : px ≤ cx * 64 + 64
    · by_cases a3 : cy * 64 ≤ py
      · by_cases a4 : py ≤ cy * 64 + 64
        all_goals
          have HS := Lib.hid (show inB px py cx cy = decide (py ≤ cy * 64 + 64) by simp [inB, a1, a2, a3])
          go_enter Try.func17, Try.ntmps17
          go_wp2_with (go_at_call 47; refine (square_any _ _ _ h1 h2 h3 h4).mono ?_; rintro e w' ⟨rfl, rfl⟩)
          go_ret
          exact ⟨by simp [HS.out, a4], rfl⟩
      · have HS := Lib.hid (show inB px py cx cy = false by simp [inB, a3])
        go_enter Try.func17, Try.ntmps17
        go_wp2_with (go_at_call 47; refine (square_any _ _ _ h1 h2 h3 h4).mono ?_; rintro e w' ⟨rfl, rfl⟩)
        go_ret
        exact ⟨by simp [HS.out], rfl⟩
    · have HS := Lib.hid (show inB px py cx cy = false by simp [inB, a2])
      go_enter Try.func17, Try.ntmps17
      go_wp2_with (go_at_call 47; refine (square_any _ _ _ h1 h2 h3 h4).mono ?_; rintro e w' ⟨rfl, rfl⟩)
      go_ret
      exact ⟨by simp [HS.out], rfl⟩
  · have HS := Lib.hid (show inB px py cx cy = false by simp [inB, a1])
    go_enter Try.func17, Try.ntmps17
    go_wp2_with (go_at_call 47; refine (square_any _ _ _ h1 h2 h3 h4).mono ?_; rintro e w' ⟨rfl, rfl⟩)
    go_ret
    exact ⟨by simp [HS.out], rfl⟩

theorem in_turn (q fx fy px py cx cy : Int) (h0 : 0 ≤ q) (h1 : q < 4) : inB (tX q px py + 64 * fx) (tY q px py + 64 * fy) (min (tX q cx cy) (tX q (cx + 1) (cy + 1)) + fx) (min (tY q cx cy) (tY q (cx + 1) (cy + 1)) + fy) = inB px py cx cy := by
  unfold inB
  congr 1
  apply propext
  rcases (by omega : q = 0 ∨ q = 1 ∨ q = 2 ∨ q = 3) with rfl | rfl | rfl | rfl <;> simp [tX, tY] <;> omega

theorem clip_bd (n m : Int) (h : 0 ≤ m) : -m ≤ clipI n (-m) m ∧ clipI n (-m) m ≤ m := by unfold clipI; omega

set_option maxRecDepth 100000 in
set_option maxHeartbeats 1000000 in
theorem squares_walk (fq fx fy cx cy px py : Int) (w : World) :
    Calls Try.prog 3 #[.agg #[.int .i64 fq, .int .i64 fx, .int .i64 fy], .agg #[.int .i64 cx, .int .i64 cy], .agg #[.int .i64 px, .int .i64 py]] w fun e w' => e = .returned (.bool true) ∧ Below w.heap.size w w' := by
  go_enter Try.func3, Try.ntmps3
  go_wp2_with fail
  refine (awake_any _).mono ?_
  rintro e w1 ⟨rfl, hb1⟩
  have b0 := (Bk.new w 23 #[.int .i64 fq, .int .i64 fx, .int .i64 fy]).alloc (.cells #[.int .i64 cx, .int .i64 cy] 25) |>.alloc (.cells #[.int .i64 px, .int .i64 py] 26)
  have b1 := (Bk.new1 w (.cells #[.int .i64 fq, .int .i64 fx, .int .i64 fy] 23) 25 #[.int .i64 cx, .int .i64 cy]).alloc (.cells #[.int .i64 px, .int .i64 py] 26)
  have b2 := Bk.new2 w (.cells #[.int .i64 fq, .int .i64 fx, .int .i64 fy] 23) (.cells #[.int .i64 cx, .int .i64 cy] 25) 26 #[.int .i64 px, .int .i64 py]
  replace b0 := b0.call hb1
  replace b1 := b1.call hb1
  replace b2 := b2.call hb1
  have hbw1 : Below w.heap.size w w1 := by repeat (first | with_reducible assumption | with_reducible exact bw_refl _ | with_reducible refine bw_alloc ?_ _ | with_reducible refine bw_drew ?_ | with_reducible refine bw_drewN _ ?_ | refine bw_set ?_ (by simp; try omega) _ | refine bw_call (by with_reducible assumption) ?_)
  clear hb1
  have b0_0 : w1.cell? ⟨w.heap.size, 0, none⟩ = some (.int .i64 fq) := b0.cell 0
  have b0_1 : w1.cell? ⟨w.heap.size, 1, none⟩ = some (.int .i64 fx) := b0.cell 1
  have b0_2 : w1.cell? ⟨w.heap.size, 2, none⟩ = some (.int .i64 fy) := b0.cell 2
  have b0_f := b0.frozen
  have b0_l := b0.lt
  have b1_0 : w1.cell? ⟨w.heap.size + 1, 0, none⟩ = some (.int .i64 cx) := b1.cell 0
  have b1_1 : w1.cell? ⟨w.heap.size + 1, 1, none⟩ = some (.int .i64 cy) := b1.cell 1
  have b1_f := b1.frozen
  have b1_l := b1.lt
  have b2_0 : w1.cell? ⟨w.heap.size + 1 + 1, 0, none⟩ = some (.int .i64 px) := b2.cell 0
  have b2_1 : w1.cell? ⟨w.heap.size + 1 + 1, 1, none⟩ = some (.int .i64 py) := b2.cell 1
  have b2_f := b2.frozen
  have b2_l := b2.lt
  go_wp2_with fail
  refine (nearf_any _ _ _ _ _ (by omega) (by omega)).mono ?_
  rintro e w2 ⟨rfl, hb2⟩
  clear b0_0 b0_1 b0_2 b0_f b0_l b1_0 b1_1 b1_f b1_l b2_0 b2_1 b2_f b2_l
  replace b0 := b0.call hb2
  replace b1 := b1.call hb2
  replace b2 := b2.call hb2
  have b0_0 : w2.cell? ⟨w.heap.size, 0, none⟩ = some (.int .i64 fq) := b0.cell 0
  have b0_1 : w2.cell? ⟨w.heap.size, 1, none⟩ = some (.int .i64 fx) := b0.cell 1
  have b0_2 : w2.cell? ⟨w.heap.size, 2, none⟩ = some (.int .i64 fy) := b0.cell 2
  have b0_f := b0.frozen
  have b0_l := b0.lt
  have b1_0 : w2.cell? ⟨w.heap.size + 1, 0, none⟩ = some (.int .i64 cx) := b1.cell 0
  have b1_1 : w2.cell? ⟨w.heap.size + 1, 1, none⟩ = some (.int .i64 cy) := b1.cell 1
  have b1_f := b1.frozen
  have b1_l := b1.lt
  have b2_0 : w2.cell? ⟨w.heap.size + 1 + 1, 0, none⟩ = some (.int .i64 px) := b2.cell 0
  have b2_1 : w2.cell? ⟨w.heap.size + 1 + 1, 1, none⟩ = some (.int .i64 py) := b2.cell 1
  have b2_f := b2.frozen
  have b2_l := b2.lt
  have hbw2 : Below w.heap.size w w2 := by repeat (first | with_reducible assumption | with_reducible exact bw_refl _ | with_reducible refine bw_alloc ?_ _ | with_reducible refine bw_drew ?_ | with_reducible refine bw_drewN _ ?_ | refine bw_set ?_ (by simp; try omega) _ | refine bw_call (by with_reducible assumption) ?_)
  clear hb2 hbw1
  obtain ⟨m1, m2⟩ := clip_bd fx 1000 (by omega)
  obtain ⟨m3, m4⟩ := clip_bd fy 1000 (by omega)
  generalize clipI fx (-1000) 1000 = fx' at *
  generalize clipI fy (-1000) 1000 = fy' at *
  go_wp2_with fail
  refine abs_world (fun W3 => Below w.heap.size w W3 ∧ Bk W3 (w.heap.size) 23 #[.int .i64 (fq % 4), .int .i64 fx', .int .i64 fy'] ∧ Bk W3 (w.heap.size + 1) 25 #[.int .i64 cx, .int .i64 cy] ∧ Bk W3 (w.heap.size + 1 + 1) 26 #[.int .i64 px, .int .i64 py]) ⟨by repeat (first | with_reducible assumption | with_reducible exact bw_refl _ | with_reducible refine bw_alloc ?_ _ | with_reducible refine bw_drew ?_ | with_reducible refine bw_drewN _ ?_ | refine bw_set ?_ (by simp; try omega) _ | refine bw_call (by with_reducible assumption) ?_), by repeat (first | with_reducible assumption | with_reducible refine Bk.drew ?_ | with_reducible refine Bk.drewN ?_ _ | with_reducible exact Bk.new _ _ _ | with_reducible exact Bk.new1 _ _ _ _ | with_reducible exact Bk.new2 _ _ _ _ _ | with_reducible exact Bk.new3 _ _ _ _ _ _ | with_reducible refine Bk.alloc ?_ _ | with_reducible exact Bk.set3 (by assumption) _ _ _ | with_reducible exact Bk.set2 (by assumption) _ _ | ((with_reducible refine Bk.far' ?_ ?_); focus (first | (simp; done) | (simp; omega)))), by repeat (first | with_reducible assumption | with_reducible refine Bk.drew ?_ | with_reducible refine Bk.drewN ?_ _ | with_reducible exact Bk.new _ _ _ | with_reducible exact Bk.new1 _ _ _ _ | with_reducible exact Bk.new2 _ _ _ _ _ | with_reducible exact Bk.new3 _ _ _ _ _ _ | with_reducible refine Bk.alloc ?_ _ | with_reducible exact Bk.set3 (by assumption) _ _ _ | with_reducible exact Bk.set2 (by assumption) _ _ | ((with_reducible refine Bk.far' ?_ ?_); focus (first | (simp; done) | (simp; omega)))), by repeat (first | with_reducible assumption | with_reducible refine Bk.drew ?_ | with_reducible refine Bk.drewN ?_ _ | with_reducible exact Bk.new _ _ _ | with_reducible exact Bk.new1 _ _ _ _ | with_reducible exact Bk.new2 _ _ _ _ _ | with_reducible exact Bk.new3 _ _ _ _ _ _ | with_reducible refine Bk.alloc ?_ _ | with_reducible exact Bk.set3 (by assumption) _ _ _ | with_reducible exact Bk.set2 (by assumption) _ _ | ((with_reducible refine Bk.far' ?_ ?_); focus (first | (simp; done) | (simp; omega))))⟩ ?_
  clear b0 b0_0 b0_1 b0_2 b0_f b0_l b1 b1_0 b1_1 b1_f b1_l b2 b2_0 b2_1 b2_f b2_l
  rintro W3 ⟨hbW3, b0, b1, b2⟩
  have b0_0 : W3.cell? ⟨w.heap.size, 0, none⟩ = some (.int .i64 (fq % 4)) := b0.cell 0
  have b0_1 : W3.cell? ⟨w.heap.size, 1, none⟩ = some (.int .i64 fx') := b0.cell 1
  have b0_2 : W3.cell? ⟨w.heap.size, 2, none⟩ = some (.int .i64 fy') := b0.cell 2
  have b0_f := b0.frozen
  have b0_l := b0.lt
  have b1_0 : W3.cell? ⟨w.heap.size + 1, 0, none⟩ = some (.int .i64 cx) := b1.cell 0
  have b1_1 : W3.cell? ⟨w.heap.size + 1, 1, none⟩ = some (.int .i64 cy) := b1.cell 1
  have b1_f := b1.frozen
  have b1_l := b1.lt
  have b2_0 : W3.cell? ⟨w.heap.size + 1 + 1, 0, none⟩ = some (.int .i64 px) := b2.cell 0
  have b2_1 : W3.cell? ⟨w.heap.size + 1 + 1, 1, none⟩ = some (.int .i64 py) := b2.cell 1
  have b2_f := b2.frozen
  have b2_l := b2.lt
  clear hbw2
  refine still_tail 7 (by kernel_rfl) (by kernel_rfl) ?_
  simp only [List.take_succ_cons, List.take_zero, List.drop_succ_cons, List.drop_zero]
  iterate 7 (first | still_step | still_call (still_of (clip_any _ _ _ _)))
  refine wpStill_nil ?_
  obtain ⟨m5, m6⟩ := clip_bd cx 1000 (by omega)
  obtain ⟨m7, m8⟩ := clip_bd cy 1000 (by omega)
  obtain ⟨n1, n2⟩ := clip_bd px 200 (by omega)
  obtain ⟨n3, n4⟩ := clip_bd py 200 (by omega)
  generalize clipI cx (-1000) 1000 = cx' at *
  generalize clipI cy (-1000) 1000 = cy' at *
  go_wp2_with fail
  refine abs_world (fun W4 => Below w.heap.size w W4 ∧ Bk W4 (w.heap.size) 23 #[.int .i64 (fq % 4), .int .i64 fx', .int .i64 fy'] ∧ Bk W4 (w.heap.size + 1) 25 #[.int .i64 cx', .int .i64 cy'] ∧ Bk W4 (w.heap.size + 1 + 1) 26 #[.int .i64 px, .int .i64 py]) ⟨by repeat (first | with_reducible assumption | with_reducible exact bw_refl _ | with_reducible refine bw_alloc ?_ _ | with_reducible refine bw_drew ?_ | with_reducible refine bw_drewN _ ?_ | refine bw_set ?_ (by simp; try omega) _ | refine bw_call (by with_reducible assumption) ?_), by repeat (first | with_reducible assumption | with_reducible refine Bk.drew ?_ | with_reducible refine Bk.drewN ?_ _ | with_reducible exact Bk.new _ _ _ | with_reducible exact Bk.new1 _ _ _ _ | with_reducible exact Bk.new2 _ _ _ _ _ | with_reducible exact Bk.new3 _ _ _ _ _ _ | with_reducible refine Bk.alloc ?_ _ | with_reducible exact Bk.set3 (by assumption) _ _ _ | with_reducible exact Bk.set2 (by assumption) _ _ | ((with_reducible refine Bk.far' ?_ ?_); focus (first | (simp; done) | (simp; omega)))), by repeat (first | with_reducible assumption | with_reducible refine Bk.drew ?_ | with_reducible refine Bk.drewN ?_ _ | with_reducible exact Bk.new _ _ _ | with_reducible exact Bk.new1 _ _ _ _ | with_reducible exact Bk.new2 _ _ _ _ _ | with_reducible exact Bk.new3 _ _ _ _ _ _ | with_reducible refine Bk.alloc ?_ _ | with_reducible exact Bk.set3 (by assumption) _ _ _ | with_reducible exact Bk.set2 (by assumption) _ _ | ((with_reducible refine Bk.far' ?_ ?_); focus (first | (simp; done) | (simp; omega)))), by repeat (first | with_reducible assumption | with_reducible refine Bk.drew ?_ | with_reducible refine Bk.drewN ?_ _ | with_reducible exact Bk.new _ _ _ | with_reducible exact Bk.new1 _ _ _ _ | with_reducible exact Bk.new2 _ _ _ _ _ | with_reducible exact Bk.new3 _ _ _ _ _ _ | with_reducible refine Bk.alloc ?_ _ | with_reducible exact Bk.set3 (by assumption) _ _ _ | with_reducible exact Bk.set2 (by assumption) _ _ | ((with_reducible refine Bk.far' ?_ ?_); focus (first | (simp; done) | (simp; omega))))⟩ ?_
  clear b0 b0_0 b0_1 b0_2 b0_f b0_l b1 b1_0 b1_1 b1_f b1_l b2 b2_0 b2_1 b2_f b2_l
  rintro W4 ⟨hbW4, b0, b1, b2⟩
  have b0_0 : W4.cell? ⟨w.heap.size, 0, none⟩ = some (.int .i64 (fq % 4)) := b0.cell 0
  have b0_1 : W4.cell? ⟨w.heap.size, 1, none⟩ = some (.int .i64 fx') := b0.cell 1
  have b0_2 : W4.cell? ⟨w.heap.size, 2, none⟩ = some (.int .i64 fy') := b0.cell 2
  have b0_f := b0.frozen
  have b0_l := b0.lt
  have b1_0 : W4.cell? ⟨w.heap.size + 1, 0, none⟩ = some (.int .i64 cx') := b1.cell 0
  have b1_1 : W4.cell? ⟨w.heap.size + 1, 1, none⟩ = some (.int .i64 cy') := b1.cell 1
  have b1_f := b1.frozen
  have b1_l := b1.lt
  have b2_0 : W4.cell? ⟨w.heap.size + 1 + 1, 0, none⟩ = some (.int .i64 px) := b2.cell 0
  have b2_1 : W4.cell? ⟨w.heap.size + 1 + 1, 1, none⟩ = some (.int .i64 py) := b2.cell 1
  have b2_f := b2.frozen
  have b2_l := b2.lt
  clear hbW3
  have e1 : IntKind.i64.wrap (cx' * 64) = cx' * 64 := IntWalk.i64_in _ (by omega)
  have e2 : IntKind.i64.wrap (cy' * 64) = cy' * 64 := IntWalk.i64_in _ (by omega)
  have e3 : IntKind.i64.wrap (cx' * 64 + clipI px (-200) 200) = cx' * 64 + clipI px (-200) 200 := IntWalk.i64_in _ (by omega)
  have e4 : IntKind.i64.wrap (cy' * 64 + clipI py (-200) 200) = cy' * 64 + clipI py (-200) 200 := IntWalk.i64_in _ (by omega)
  refine still_tail 15 (by kernel_rfl) (by kernel_rfl) ?_
  simp only [List.take_succ_cons, List.take_zero, List.drop_succ_cons, List.drop_zero]
  iterate 15 (first | still_step | still_call (still_of (clip_any _ _ _ _)))
  refine wpStill_nil ?_
  clear e1 e2 e3 e4
  generalize clipI px (-200) 200 = px' at *
  generalize clipI py (-200) 200 = py' at *
  go_wp2_with fail
  refine (Cell_any _ _ _ _ _ _).mono ?_
  rintro e w5 ⟨rfl, hb5⟩
  have c0 : Bk w5 (w.heap.size) 23 #[.int .i64 (fq % 4), .int .i64 fx', .int .i64 fy'] := Bk.call (by repeat (first | with_reducible assumption | with_reducible refine Bk.drew ?_ | with_reducible refine Bk.drewN ?_ _ | with_reducible exact Bk.new _ _ _ | with_reducible exact Bk.new1 _ _ _ _ | with_reducible exact Bk.new2 _ _ _ _ _ | with_reducible exact Bk.new3 _ _ _ _ _ _ | with_reducible refine Bk.alloc ?_ _ | with_reducible exact Bk.set3 (by assumption) _ _ _ | with_reducible exact Bk.set2 (by assumption) _ _ | ((with_reducible refine Bk.far' ?_ ?_); focus (first | (simp; done) | (simp; omega))))) hb5
  have c1 : Bk w5 (w.heap.size + 1) 25 #[.int .i64 cx', .int .i64 cy'] := Bk.call (by repeat (first | with_reducible assumption | with_reducible refine Bk.drew ?_ | with_reducible refine Bk.drewN ?_ _ | with_reducible exact Bk.new _ _ _ | with_reducible exact Bk.new1 _ _ _ _ | with_reducible exact Bk.new2 _ _ _ _ _ | with_reducible exact Bk.new3 _ _ _ _ _ _ | with_reducible refine Bk.alloc ?_ _ | with_reducible exact Bk.set3 (by assumption) _ _ _ | with_reducible exact Bk.set2 (by assumption) _ _ | ((with_reducible refine Bk.far' ?_ ?_); focus (first | (simp; done) | (simp; omega))))) hb5
  have c2 : Bk w5 (w.heap.size + 1 + 1) 26 #[.int .i64 (cx' * 64 + px'), .int .i64 (cy' * 64 + py')] := Bk.call (by repeat (first | with_reducible assumption | with_reducible refine Bk.drew ?_ | with_reducible refine Bk.drewN ?_ _ | with_reducible exact Bk.new _ _ _ | with_reducible exact Bk.new1 _ _ _ _ | with_reducible exact Bk.new2 _ _ _ _ _ | with_reducible exact Bk.new3 _ _ _ _ _ _ | with_reducible refine Bk.alloc ?_ _ | with_reducible exact Bk.set3 (by assumption) _ _ _ | with_reducible exact Bk.set2 (by assumption) _ _ | ((with_reducible refine Bk.far' ?_ ?_); focus (first | (simp; done) | (simp; omega))))) hb5
  have hbw5 : Below w.heap.size w w5 := by repeat (first | with_reducible assumption | with_reducible exact bw_refl _ | with_reducible refine bw_alloc ?_ _ | with_reducible refine bw_drew ?_ | with_reducible refine bw_drewN _ ?_ | refine bw_set ?_ (by simp; try omega) _ | refine bw_call (by with_reducible assumption) ?_)
  clear b0 b0_0 b0_1 b0_2 b0_f b0_l b1 b1_0 b1_1 b1_f b1_l b2 b2_0 b2_1 b2_f b2_l  hb5
  have c0_0 : w5.cell? ⟨w.heap.size, 0, none⟩ = some (.int .i64 (fq % 4)) := c0.cell 0
  have c0_1 : w5.cell? ⟨w.heap.size, 1, none⟩ = some (.int .i64 fx') := c0.cell 1
  have c0_2 : w5.cell? ⟨w.heap.size, 2, none⟩ = some (.int .i64 fy') := c0.cell 2
  have c0_f := c0.frozen
  have c0_l := c0.lt
  have c1_0 : w5.cell? ⟨w.heap.size + 1, 0, none⟩ = some (.int .i64 cx') := c1.cell 0
  have c1_1 : w5.cell? ⟨w.heap.size + 1, 1, none⟩ = some (.int .i64 cy') := c1.cell 1
  have c1_f := c1.frozen
  have c1_l := c1.lt
  have c2_0 : w5.cell? ⟨w.heap.size + 1 + 1, 0, none⟩ = some (.int .i64 (cx' * 64 + px')) := c2.cell 0
  have c2_1 : w5.cell? ⟨w.heap.size + 1 + 1, 1, none⟩ = some (.int .i64 (cy' * 64 + py')) := c2.cell 1
  have c2_f := c2.frozen
  have c2_l := c2.lt
  clear hbW4
  have HI := Lib.hid (in_turn (fq % 4) fx' fy' (cx' * 64 + px') (cy' * 64 + py') cx' cy' (by omega) (by omega))
  obtain ⟨t1, t2⟩ := tX_bd (fq % 4) cx' cy' 2000 (by omega) (by omega) (by omega) (by omega)
  obtain ⟨t3, t4⟩ := tY_bd (fq % 4) cx' cy' 2000 (by omega) (by omega) (by omega) (by omega)
  obtain ⟨t5, t6⟩ := tX_bd (fq % 4) (cx' + 1) (cy' + 1) 2000 (by omega) (by omega) (by omega) (by omega)
  obtain ⟨t7, t8⟩ := tY_bd (fq % 4) (cx' + 1) (cy' + 1) 2000 (by omega) (by omega) (by omega) (by omega)
  obtain ⟨u1, u2⟩ := tX_bd (fq % 4) (cx' * 64 + px') (cy' * 64 + py') 100000 (by omega) (by omega) (by omega) (by omega)
  obtain ⟨u3, u4⟩ := tY_bd (fq % 4) (cx' * 64 + px') (cy' * 64 + py') 100000 (by omega) (by omega) (by omega) (by omega)
  have HC : ClV (fq % 4) fx' fy' cx' cy' = .tuple #[.agg #[.int .i64 (min (tX (fq % 4) cx' cy') (tX (fq % 4) (cx' + 1) (cy' + 1)) + fx'), .int .i64 (min (tY (fq % 4) cx' cy') (tY (fq % 4) (cx' + 1) (cy' + 1)) + fy')], .int .i64 0] := by
    have h1 : szB fx' 8192 = true := by simp [szB]; omega
    have h2 : szB fy' 8192 = true := by simp [szB]; omega
    have h3 : szB cx' 16384 = true := by simp [szB]; omega
    have h4 : szB cy' 16384 = true := by simp [szB]; omega
    have h5 : szB (min (tX (fq % 4) cx' cy') (tX (fq % 4) (cx' + 1) (cy' + 1)) + fx') 16384 = true := by simp [szB]; omega
    have h6 : szB (min (tY (fq % 4) cx' cy') (tY (fq % 4) (cx' + 1) (cy' + 1)) + fy') 16384 = true := by simp [szB]; omega
    simp [ClV, clX, clY, h1, h2, h3, h4, h5, h6]
  have HP : PtV (fq % 4) fx' fy' (cx' * 64 + px') (cy' * 64 + py') = .tuple #[.agg #[.int .i64 (tX (fq % 4) (cx' * 64 + px') (cy' * 64 + py') + 64 * fx'), .int .i64 (tY (fq % 4) (cx' * 64 + px') (cy' * 64 + py') + 64 * fy')], .int .i64 0] := by
    have h1 : szB fx' 8192 = true := by simp [szB]; omega
    have h2 : szB fy' 8192 = true := by simp [szB]; omega
    have h3 : szB (cx' * 64 + px') 1048576 = true := by simp [szB]; omega
    have h4 : szB (cy' * 64 + py') 1048576 = true := by simp [szB]; omega
    have h5 : szB (tX (fq % 4) (cx' * 64 + px') (cy' * 64 + py') + 64 * fx') 1048576 = true := by simp [szB]; omega
    have h6 : szB (tY (fq % 4) (cx' * 64 + px') (cy' * 64 + py') + 64 * fy') 1048576 = true := by simp [szB]; omega
    simp [PtV, h1, h2, h3, h4, h5, h6]
  rw [HC]
  have dx1 : -10000 ≤ (min (tX (fq % 4) cx' cy') (tX (fq % 4) (cx' + 1) (cy' + 1)) + fx') := by omega
  have dx2 : (min (tX (fq % 4) cx' cy') (tX (fq % 4) (cx' + 1) (cy' + 1)) + fx') ≤ 10000 := by omega
  have dy1 : -10000 ≤ (min (tY (fq % 4) cx' cy') (tY (fq % 4) (cx' + 1) (cy' + 1)) + fy') := by omega
  have dy2 : (min (tY (fq % 4) cx' cy') (tY (fq % 4) (cx' + 1) (cy' + 1)) + fy') ≤ 10000 := by omega
  generalize (min (tX (fq % 4) cx' cy') (tX (fq % 4) (cx' + 1) (cy' + 1)) + fx') = dx at *
  generalize (min (tY (fq % 4) cx' cy') (tY (fq % 4) (cx' + 1) (cy' + 1)) + fy') = dy at *
  have HP' := Lib.hid HP
  clear HC HP
  go_wp2_with fail
  refine (Point_any _ _ _ _ _ _).mono ?_
  rintro e w6 ⟨rfl, hb6⟩
  have d0 : Bk w6 (w.heap.size) 23 #[.int .i64 (fq % 4), .int .i64 fx', .int .i64 fy'] := Bk.call (by repeat (first | with_reducible assumption | with_reducible refine Bk.drew ?_ | with_reducible refine Bk.drewN ?_ _ | with_reducible exact Bk.new _ _ _ | with_reducible exact Bk.new1 _ _ _ _ | with_reducible exact Bk.new2 _ _ _ _ _ | with_reducible exact Bk.new3 _ _ _ _ _ _ | with_reducible refine Bk.alloc ?_ _ | with_reducible exact Bk.set3 (by assumption) _ _ _ | with_reducible exact Bk.set2 (by assumption) _ _ | ((with_reducible refine Bk.far' ?_ ?_); focus (first | (simp; done) | (simp; omega))))) hb6
  have d1 : Bk w6 (w.heap.size + 1) 25 #[.int .i64 cx', .int .i64 cy'] := Bk.call (by repeat (first | with_reducible assumption | with_reducible refine Bk.drew ?_ | with_reducible refine Bk.drewN ?_ _ | with_reducible exact Bk.new _ _ _ | with_reducible exact Bk.new1 _ _ _ _ | with_reducible exact Bk.new2 _ _ _ _ _ | with_reducible exact Bk.new3 _ _ _ _ _ _ | with_reducible refine Bk.alloc ?_ _ | with_reducible exact Bk.set3 (by assumption) _ _ _ | with_reducible exact Bk.set2 (by assumption) _ _ | ((with_reducible refine Bk.far' ?_ ?_); focus (first | (simp; done) | (simp; omega))))) hb6
  have d2 : Bk w6 (w.heap.size + 1 + 1) 26 #[.int .i64 (cx' * 64 + px'), .int .i64 (cy' * 64 + py')] := Bk.call (by repeat (first | with_reducible assumption | with_reducible refine Bk.drew ?_ | with_reducible refine Bk.drewN ?_ _ | with_reducible exact Bk.new _ _ _ | with_reducible exact Bk.new1 _ _ _ _ | with_reducible exact Bk.new2 _ _ _ _ _ | with_reducible exact Bk.new3 _ _ _ _ _ _ | with_reducible refine Bk.alloc ?_ _ | with_reducible exact Bk.set3 (by assumption) _ _ _ | with_reducible exact Bk.set2 (by assumption) _ _ | ((with_reducible refine Bk.far' ?_ ?_); focus (first | (simp; done) | (simp; omega))))) hb6
  have d3 : Bk w6 (w5.heap.size) 25 #[.int .i64 dx, .int .i64 dy] := Bk.call (by repeat (first | with_reducible assumption | with_reducible refine Bk.drew ?_ | with_reducible refine Bk.drewN ?_ _ | with_reducible exact Bk.new _ _ _ | with_reducible exact Bk.new1 _ _ _ _ | with_reducible exact Bk.new2 _ _ _ _ _ | with_reducible exact Bk.new3 _ _ _ _ _ _ | with_reducible refine Bk.alloc ?_ _ | with_reducible exact Bk.set3 (by assumption) _ _ _ | with_reducible exact Bk.set2 (by assumption) _ _ | ((with_reducible refine Bk.far' ?_ ?_); focus (first | (simp; done) | (simp; omega))))) hb6
  have hbw6 : Below w.heap.size w w6 := by repeat (first | with_reducible assumption | with_reducible exact bw_refl _ | with_reducible refine bw_alloc ?_ _ | with_reducible refine bw_drew ?_ | with_reducible refine bw_drewN _ ?_ | refine bw_set ?_ (by simp; try omega) _ | refine bw_call (by with_reducible assumption) ?_)
  clear c0 c0_0 c0_1 c0_2 c0_f c0_l c1 c1_0 c1_1 c1_f c1_l c2 c2_0 c2_1 c2_f c2_l  hb6
  have d0_0 : w6.cell? ⟨w.heap.size, 0, none⟩ = some (.int .i64 (fq % 4)) := d0.cell 0
  have d0_1 : w6.cell? ⟨w.heap.size, 1, none⟩ = some (.int .i64 fx') := d0.cell 1
  have d0_2 : w6.cell? ⟨w.heap.size, 2, none⟩ = some (.int .i64 fy') := d0.cell 2
  have d0_f := d0.frozen
  have d0_l := d0.lt
  have d1_0 : w6.cell? ⟨w.heap.size + 1, 0, none⟩ = some (.int .i64 cx') := d1.cell 0
  have d1_1 : w6.cell? ⟨w.heap.size + 1, 1, none⟩ = some (.int .i64 cy') := d1.cell 1
  have d1_f := d1.frozen
  have d1_l := d1.lt
  have d2_0 : w6.cell? ⟨w.heap.size + 1 + 1, 0, none⟩ = some (.int .i64 (cx' * 64 + px')) := d2.cell 0
  have d2_1 : w6.cell? ⟨w.heap.size + 1 + 1, 1, none⟩ = some (.int .i64 (cy' * 64 + py')) := d2.cell 1
  have d2_f := d2.frozen
  have d2_l := d2.lt
  have d3_0 : w6.cell? ⟨w5.heap.size, 0, none⟩ = some (.int .i64 dx) := d3.cell 0
  have d3_1 : w6.cell? ⟨w5.heap.size, 1, none⟩ = some (.int .i64 dy) := d3.cell 1
  have d3_f := d3.frozen
  have d3_l := d3.lt
  clear hbw5
  rw [HP'.out]
  generalize tX (fq % 4) (cx' * 64 + px') (cy' * 64 + py') + 64 * fx' = qx at *
  generalize tY (fq % 4) (cx' * 64 + px') (cy' * 64 + py') + 64 * fy' = qy at *
  go_wp2_with fail
  refine abs_world (fun W7 => Below w.heap.size w W7 ∧ Bk W7 (w.heap.size) 23 #[.int .i64 (fq % 4), .int .i64 fx', .int .i64 fy'] ∧ Bk W7 (w.heap.size + 1) 25 #[.int .i64 cx', .int .i64 cy'] ∧ Bk W7 (w.heap.size + 1 + 1) 26 #[.int .i64 (cx' * 64 + px'), .int .i64 (cy' * 64 + py')] ∧ Bk W7 (w5.heap.size) 25 #[.int .i64 dx, .int .i64 dy] ∧ Bk W7 (w6.heap.size) 26 #[.int .i64 qx, .int .i64 qy]) ⟨by repeat (first | with_reducible assumption | with_reducible exact bw_refl _ | with_reducible refine bw_alloc ?_ _ | with_reducible refine bw_drew ?_ | with_reducible refine bw_drewN _ ?_ | refine bw_set ?_ (by simp; try omega) _ | refine bw_call (by with_reducible assumption) ?_), by repeat (first | with_reducible assumption | with_reducible refine Bk.drew ?_ | with_reducible refine Bk.drewN ?_ _ | with_reducible exact Bk.new _ _ _ | with_reducible exact Bk.new1 _ _ _ _ | with_reducible exact Bk.new2 _ _ _ _ _ | with_reducible exact Bk.new3 _ _ _ _ _ _ | with_reducible refine Bk.alloc ?_ _ | with_reducible exact Bk.set3 (by assumption) _ _ _ | with_reducible exact Bk.set2 (by assumption) _ _ | ((with_reducible refine Bk.far' ?_ ?_); focus (first | (simp; done) | (simp; omega)))), by repeat (first | with_reducible assumption | with_reducible refine Bk.drew ?_ | with_reducible refine Bk.drewN ?_ _ | with_reducible exact Bk.new _ _ _ | with_reducible exact Bk.new1 _ _ _ _ | with_reducible exact Bk.new2 _ _ _ _ _ | with_reducible exact Bk.new3 _ _ _ _ _ _ | with_reducible refine Bk.alloc ?_ _ | with_reducible exact Bk.set3 (by assumption) _ _ _ | with_reducible exact Bk.set2 (by assumption) _ _ | ((with_reducible refine Bk.far' ?_ ?_); focus (first | (simp; done) | (simp; omega)))), by repeat (first | with_reducible assumption | with_reducible refine Bk.drew ?_ | with_reducible refine Bk.drewN ?_ _ | with_reducible exact Bk.new _ _ _ | with_reducible exact Bk.new1 _ _ _ _ | with_reducible exact Bk.new2 _ _ _ _ _ | with_reducible exact Bk.new3 _ _ _ _ _ _ | with_reducible refine Bk.alloc ?_ _ | with_reducible exact Bk.set3 (by assumption) _ _ _ | with_reducible exact Bk.set2 (by assumption) _ _ | ((with_reducible refine Bk.far' ?_ ?_); focus (first | (simp; done) | (simp; omega)))), by repeat (first | with_reducible assumption | with_reducible refine Bk.drew ?_ | with_reducible refine Bk.drewN ?_ _ | with_reducible exact Bk.new _ _ _ | with_reducible exact Bk.new1 _ _ _ _ | with_reducible exact Bk.new2 _ _ _ _ _ | with_reducible exact Bk.new3 _ _ _ _ _ _ | with_reducible refine Bk.alloc ?_ _ | with_reducible exact Bk.set3 (by assumption) _ _ _ | with_reducible exact Bk.set2 (by assumption) _ _ | ((with_reducible refine Bk.far' ?_ ?_); focus (first | (simp; done) | (simp; omega)))), by repeat (first | with_reducible assumption | with_reducible refine Bk.drew ?_ | with_reducible refine Bk.drewN ?_ _ | with_reducible exact Bk.new _ _ _ | with_reducible exact Bk.new1 _ _ _ _ | with_reducible exact Bk.new2 _ _ _ _ _ | with_reducible exact Bk.new3 _ _ _ _ _ _ | with_reducible refine Bk.alloc ?_ _ | with_reducible exact Bk.set3 (by assumption) _ _ _ | with_reducible exact Bk.set2 (by assumption) _ _ | ((with_reducible refine Bk.far' ?_ ?_); focus (first | (simp; done) | (simp; omega))))⟩ ?_
  clear d0 d0_0 d0_1 d0_2 d0_f d0_l d1 d1_0 d1_1 d1_f d1_l d2 d2_0 d2_1 d2_f d2_l d3 d3_0 d3_1 d3_f d3_l
  rintro W7 ⟨hbW7, e0, e1, e2, e3, e4⟩
  have e0_0 : W7.cell? ⟨w.heap.size, 0, none⟩ = some (.int .i64 (fq % 4)) := e0.cell 0
  have e0_1 : W7.cell? ⟨w.heap.size, 1, none⟩ = some (.int .i64 fx') := e0.cell 1
  have e0_2 : W7.cell? ⟨w.heap.size, 2, none⟩ = some (.int .i64 fy') := e0.cell 2
  have e0_f := e0.frozen
  have e0_l := e0.lt
  have e1_0 : W7.cell? ⟨w.heap.size + 1, 0, none⟩ = some (.int .i64 cx') := e1.cell 0
  have e1_1 : W7.cell? ⟨w.heap.size + 1, 1, none⟩ = some (.int .i64 cy') := e1.cell 1
  have e1_f := e1.frozen
  have e1_l := e1.lt
  have e2_0 : W7.cell? ⟨w.heap.size + 1 + 1, 0, none⟩ = some (.int .i64 (cx' * 64 + px')) := e2.cell 0
  have e2_1 : W7.cell? ⟨w.heap.size + 1 + 1, 1, none⟩ = some (.int .i64 (cy' * 64 + py')) := e2.cell 1
  have e2_f := e2.frozen
  have e2_l := e2.lt
  have e3_0 : W7.cell? ⟨w5.heap.size, 0, none⟩ = some (.int .i64 dx) := e3.cell 0
  have e3_1 : W7.cell? ⟨w5.heap.size, 1, none⟩ = some (.int .i64 dy) := e3.cell 1
  have e3_f := e3.frozen
  have e3_l := e3.lt
  have e4_0 : W7.cell? ⟨w6.heap.size, 0, none⟩ = some (.int .i64 qx) := e4.cell 0
  have e4_1 : W7.cell? ⟨w6.heap.size, 1, none⟩ = some (.int .i64 qy) := e4.cell 1
  have e4_f := e4.frozen
  have e4_l := e4.lt
  clear hbw6
  refine region_grow (fun w0 => Below W7.heap.size W7 w0) 15 (by kernel_rfl) (by kernel_rfl) (by repeat (first | with_reducible assumption | with_reducible exact bw_refl _ | with_reducible refine bw_alloc ?_ _ | with_reducible refine bw_drew ?_ | with_reducible refine bw_drewN _ ?_ | refine bw_set ?_ (by simp; try omega) _ | refine bw_call (by with_reducible assumption) ?_)) ?_
  simp only [List.take_succ_cons, List.take_zero, List.drop_succ_cons, List.drop_zero]
  iterate 15 (first | (refine wpG_ex ?_ ?_; (focus (go_simp; done)); constructor; constructor; (focus (intro w0 hS0; obtain ⟨hSc, hSf⟩ := bcell hS0; go_simp; exact ⟨rfl, hS0⟩)); (focus (intro K hK; go_simp; refine hK _ ?_; clear hK K))) | (refine wpG_ex ?_ ?_; (focus (go_simp; done)); constructor; constructor; (focus (intro w0 hS0; obtain ⟨hSc, hSf⟩ := bcell hS0; go_simp; exact grow_of hS0 ((in_any _ _ _ _ _ (by omega) (by omega) (by omega) (by omega)).mono fun _ _ h => ⟨h.1, by rw [← h.2]; repeat (first | with_reducible assumption | with_reducible exact bw_refl _ | with_reducible refine bw_alloc ?_ _ | with_reducible refine bw_drew ?_ | with_reducible refine bw_drewN _ ?_ | refine bw_set ?_ (by simp; try omega) _ | refine bw_call (by with_reducible assumption) ?_)⟩))); (focus (intro K hK; go_simp; refine hK _ ?_; clear hK K))) | (refine wpG_skip ?_ ?_; (focus (go_simp; done)); intro K hK; go_simp; refine hK _ ?_; clear hK K))
  refine wpG_nil ?_
  intro w8 hSw8
  go_wp2
  go_ret
  exact ⟨by simp [HI.out], by repeat (first | with_reducible assumption | with_reducible exact bw_refl _ | with_reducible refine bw_alloc ?_ _ | with_reducible refine bw_drew ?_ | with_reducible refine bw_drewN _ ?_ | refine bw_set ?_ (by simp; try omega) _ | refine bw_call (by with_reducible assumption) ?_)⟩

end Go.Proofs.Ytkacggfadalbiaa
