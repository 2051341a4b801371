/- Contracts of the reference of layer 33: Valid, turn, Compose, Inverse, Point, Pose; and base.Size, base.Point, base.Pose. -/
import Derived.Test.YtkacggfadalbiaaFr5
import Derived.Test.YtkacggfadalbiaaGr
set_option linter.all false
namespace Go.Proofs.Ytkacggfadalbiaa
open Go.RowKit

set_option maxHeartbeats 400000 in
theorem bsize_any (n m : Int) (w : World) (h1 : -1000000000000 ≤ m) (h2 : m ≤ 1000000000000) :
    Calls Try.prog 54 #[.int .i64 n, .int .i64 m] w fun e w' => e = .returned (.bool (szB n m)) ∧ w = w' := by
  by_cases h3 : -m ≤ n
  · by_cases h4 : n ≤ m
    · have HS := Lib.hid (show szB n m = true by simp [szB, h3, h4])
      go_enter Try.func54, Try.ntmps54
      go_wp2
      go_ret
      exact ⟨by simp [HS.out], rfl⟩
    · have HS := Lib.hid (show szB n m = false by simp [szB, h4])
      go_enter Try.func54, Try.ntmps54
      go_wp2
      go_ret
      exact ⟨by simp [HS.out], rfl⟩
  · have HS := Lib.hid (show szB n m = false by simp [szB, h3])
    go_enter Try.func54, Try.ntmps54
    go_wp2
    go_ret
    exact ⟨by simp [HS.out], rfl⟩

set_option maxHeartbeats 400000 in
theorem rvalid_any (q x y : Int) (w : World) :
    Calls Try.prog 26 #[.agg #[.int .i64 q, .int .i64 x, .int .i64 y]] w fun e w' => e = .returned (.bool (szB x 8192 && szB y 8192)) ∧ w.alloc (.cells #[.int .i64 q, .int .i64 x, .int .i64 y] 23) = w' := by
  cases h3 : szB x 8192
  all_goals
    go_enter Try.func26, Try.ntmps26
    go_wp2_with (go_at_call 54; refine (bsize_any _ _ _ (by omega) (by omega)).mono ?_; rintro e w' ⟨rfl, rfl⟩)
    go_ret
    exact ⟨by simp, rfl⟩

set_option maxHeartbeats 400000 in
theorem bpoint_any (x y : Int) (w : World) :
    Calls Try.prog 51 #[.agg #[.int .i64 x, .int .i64 y]] w fun e w' => e = .returned (.bool (szB x 1048576 && szB y 1048576)) ∧ w.alloc (.cells #[.int .i64 x, .int .i64 y] 26) = w' := by
  cases h3 : szB x 1048576
  all_goals
    go_enter Try.func51, Try.ntmps51
    go_wp2_with (go_at_call 54; refine (bsize_any _ _ _ (by omega) (by omega)).mono ?_; rintro e w' ⟨rfl, rfl⟩)
    go_ret
    exact ⟨by simp, rfl⟩

def psB (x y h : Int) : Bool := szB x 1048576 && szB y 1048576 && decide (0 ≤ h ∧ h < 256)
set_option maxHeartbeats 800000 in
theorem bpose_any (x y h : Int) (w : World) :
    Calls Try.prog 53 #[.agg #[.int .i64 x, .int .i64 y, .int .i64 h]] w fun e w' => e = .returned (.bool (psB x y h)) ∧ w.alloc (.cells #[.int .i64 x, .int .i64 y, .int .i64 h] 42) = w' := by
  cases h3 : szB x 1048576
  · have HS := Lib.hid (show psB x y h = false by simp [psB, h3])
    go_enter Try.func53, Try.ntmps53
    go_wp2_with (go_at_call 54; refine (bsize_any _ _ _ (by omega) (by omega)).mono ?_; rintro e w' ⟨rfl, rfl⟩)
    go_ret
    exact ⟨by simp [HS.out], rfl⟩
  · cases h4 : szB y 1048576
    · have HS := Lib.hid (show psB x y h = false by simp [psB, h4])
      go_enter Try.func53, Try.ntmps53
      go_wp2_with (go_at_call 54; refine (bsize_any _ _ _ (by omega) (by omega)).mono ?_; rintro e w' ⟨rfl, rfl⟩)
      go_ret
      exact ⟨by simp [HS.out], rfl⟩
    · by_cases h5 : 0 ≤ h
      · by_cases h6 : h < 256
        all_goals
          have HS := Lib.hid (show psB x y h = decide (h < 256) by simp [psB, h3, h4, h5])
          go_enter Try.func53, Try.ntmps53
          go_wp2_with (go_at_call 54; refine (bsize_any _ _ _ (by omega) (by omega)).mono ?_; rintro e w' ⟨rfl, rfl⟩)
          go_ret
          exact ⟨by simp [HS.out, h6], rfl⟩
      · have HS := Lib.hid (show psB x y h = false by simp [psB, h5])
        go_enter Try.func53, Try.ntmps53
        go_wp2_with (go_at_call 54; refine (bsize_any _ _ _ (by omega) (by omega)).mono ?_; rintro e w' ⟨rfl, rfl⟩)
        go_ret
        exact ⟨by simp [HS.out], rfl⟩

set_option maxHeartbeats 800000 in
theorem rturn_any (q x y : Int) (w : World) (h1 : -1000000000000 ≤ x) (h2 : x ≤ 1000000000000) (h3 : -1000000000000 ≤ y) (h4 : y ≤ 1000000000000) :
    Calls Try.prog 50 #[.int .i64 q, .int .i64 x, .int .i64 y] w fun e w' => e = .returned (.tuple #[.int .i64 (tX (q % 4) x y), .int .i64 (tY (q % 4) x y)]) ∧ w = w' := by
  have hm := Lib.hid (mod_any q 4 w (by omega) (by omega))
  have hq1 : 0 ≤ q % 4 := by omega
  have hq2 : q % 4 ≤ 3 := by omega
  generalize q % 4 = m at *
  rcases (by omega : m = 0 ∨ m = 1 ∨ m = 2 ∨ m = 3) with rfl | rfl | rfl | rfl
  all_goals
    go_enter Try.func50, Try.ntmps50
    go_wp2_with (go_at_call 36; refine hm.out.mono ?_; rintro e w' ⟨rfl, rfl⟩)
    go_ret2
    exact ⟨by simp [tX, tY], rfl⟩

set_option maxRecDepth 100000 in
set_option maxHeartbeats 1000000 in
theorem rCompose_any (fq fx fy gq gx gy : Int) (w : World) :
    Calls Try.prog 20 #[.agg #[.int .i64 fq, .int .i64 fx, .int .i64 fy], .agg #[.int .i64 gq, .int .i64 gx, .int .i64 gy]] w fun e w' => e = .returned (CmpV fq fx fy gq gx gy) ∧ Below w.heap.size w w' := by
  cases hf : (szB fx 8192 && szB fy 8192)
  · have HS := Lib.hid (show CmpV fq fx fy gq gx gy = .tuple #[.agg #[.int .i64 0, .int .i64 0, .int .i64 0], .int .i64 1] by simp [CmpV, hf])
    go_enter Try.func20, Try.ntmps20
    go_wp2_with (go_at_call 26; refine (rvalid_any _ _ _ _).mono ?_; rintro e w1 ⟨rfl, rfl⟩)
    refine bodyPost_ret (v := .tuple #[.agg #[.int .i64 0, .int .i64 0, .int .i64 0], .int .i64 1]) (by simp [results, Try.results20, go_sem]) rfl ⟨by rw [HS.out], ?_⟩
    repeat (first | with_reducible assumption | with_reducible exact bw_refl _ | with_reducible refine bw_alloc ?_ _ | with_reducible refine bw_drew ?_ | with_reducible refine bw_drewN _ ?_ | refine bw_set ?_ (by simp; try omega) _ | refine bw_call (by with_reducible assumption) ?_)
  · cases hg : (szB gx 8192 && szB gy 8192)
    · have HS := Lib.hid (show CmpV fq fx fy gq gx gy = .tuple #[.agg #[.int .i64 0, .int .i64 0, .int .i64 0], .int .i64 1] by simp [CmpV, hg])
      go_enter Try.func20, Try.ntmps20
      go_wp2_with (go_at_call 26; refine (rvalid_any _ _ _ _).mono ?_; rintro e w1 ⟨rfl, rfl⟩)
      refine bodyPost_ret (v := .tuple #[.agg #[.int .i64 0, .int .i64 0, .int .i64 0], .int .i64 1]) (by simp [results, Try.results20, go_sem]) rfl ⟨by rw [HS.out], ?_⟩
      repeat (first | with_reducible assumption | with_reducible exact bw_refl _ | with_reducible refine bw_alloc ?_ _ | with_reducible refine bw_drew ?_ | with_reducible refine bw_drewN _ ?_ | refine bw_set ?_ (by simp; try omega) _ | refine bw_call (by with_reducible assumption) ?_)
    · obtain ⟨f1, f2, f3, f4⟩ := szB2_of hf
      obtain ⟨g1, g2, g3, g4⟩ := szB2_of hg
      obtain ⟨b1, b2⟩ := tX_bd (fq % 4) gx gy 8192 g1 g2 g3 g4
      obtain ⟨b3, b4⟩ := tY_bd (fq % 4) gx gy 8192 g1 g2 g3 g4
      cases hh : (szB (tX (fq % 4) gx gy + fx) 8192 && szB (tY (fq % 4) gx gy + fy) 8192)
      · have HS := Lib.hid (show CmpV fq fx fy gq gx gy = .tuple #[.agg #[.int .i64 0, .int .i64 0, .int .i64 0], .int .i64 2] by simp [CmpV, hf, hg, hh])
        go_enter Try.func20, Try.ntmps20
        go_wp2_with (first | (go_at_call 26; refine (rvalid_any _ _ _ _).mono ?_; rintro e w1 ⟨rfl, rfl⟩) | (go_at_call 50; refine (rturn_any _ _ _ _ (by omega) (by omega) (by omega) (by omega)).mono ?_; rintro e w1 ⟨rfl, rfl⟩))
        have e1 : IntKind.i64.wrap (fq % 4 + gq % 4) = fq % 4 + gq % 4 := IntWalk.i64_in _ (by omega)
        have e2 : IntKind.i64.wrap (tX (fq % 4) gx gy + fx) = tX (fq % 4) gx gy + fx := IntWalk.i64_in _ (by omega)
        have e3 : IntKind.i64.wrap (tY (fq % 4) gx gy + fy) = tY (fq % 4) gx gy + fy := IntWalk.i64_in _ (by omega)
        go_region_held3 (fun w' => w'.cell? ⟨w.heap.size, 0, none⟩ = some (.int .i64 fq) ∧ w'.cell? ⟨w.heap.size, 1, none⟩ = some (.int .i64 fx) ∧ w'.cell? ⟨w.heap.size, 2, none⟩ = some (.int .i64 fy) ∧ w'.cell? ⟨w.heap.size + 1, 0, none⟩ = some (.int .i64 gq)) (simp [go_sem, World.cell?_alloc_past])
          (first
            | (go_at_call 36; refine (mod_any _ _ _ (by omega) (by omega)).mono ?_; rintro e w' ⟨rfl, rfl⟩))
        all_goals
          clear e1 e2 e3
          go_wp2_with (go_at_call 26; refine (rvalid_any _ _ _ _).mono ?_; rintro e w1 ⟨rfl, rfl⟩)
          refine bodyPost_ret (v := .tuple #[.agg #[.int .i64 0, .int .i64 0, .int .i64 0], .int .i64 2]) (by simp [results, Try.results20, go_sem]) rfl ⟨by rw [HS.out], ?_⟩
          repeat (first | with_reducible assumption | with_reducible exact bw_refl _ | with_reducible refine bw_alloc ?_ _ | with_reducible refine bw_drew ?_ | with_reducible refine bw_drewN _ ?_ | refine bw_set ?_ (by simp; try omega) _ | refine bw_call (by with_reducible assumption) ?_)
      · have HS := Lib.hid (show CmpV fq fx fy gq gx gy = .tuple #[.agg #[.int .i64 ((fq + gq) % 4), .int .i64 (tX (fq % 4) gx gy + fx), .int .i64 (tY (fq % 4) gx gy + fy)], .int .i64 0] by simp [CmpV, hf, hg, hh])
        go_enter Try.func20, Try.ntmps20
        go_wp2_with (first | (go_at_call 26; refine (rvalid_any _ _ _ _).mono ?_; rintro e w1 ⟨rfl, rfl⟩) | (go_at_call 50; refine (rturn_any _ _ _ _ (by omega) (by omega) (by omega) (by omega)).mono ?_; rintro e w1 ⟨rfl, rfl⟩))
        have e1 : IntKind.i64.wrap (fq % 4 + gq % 4) = fq % 4 + gq % 4 := IntWalk.i64_in _ (by omega)
        have e2 : IntKind.i64.wrap (tX (fq % 4) gx gy + fx) = tX (fq % 4) gx gy + fx := IntWalk.i64_in _ (by omega)
        have e3 : IntKind.i64.wrap (tY (fq % 4) gx gy + fy) = tY (fq % 4) gx gy + fy := IntWalk.i64_in _ (by omega)
        go_region_held3 (fun w' => w'.cell? ⟨w.heap.size, 0, none⟩ = some (.int .i64 fq) ∧ w'.cell? ⟨w.heap.size, 1, none⟩ = some (.int .i64 fx) ∧ w'.cell? ⟨w.heap.size, 2, none⟩ = some (.int .i64 fy) ∧ w'.cell? ⟨w.heap.size + 1, 0, none⟩ = some (.int .i64 gq)) (simp [go_sem, World.cell?_alloc_past])
          (first
            | (go_at_call 36; refine (mod_any _ _ _ (by omega) (by omega)).mono ?_; rintro e w' ⟨rfl, rfl⟩))
        all_goals
          clear e1 e2 e3
          go_wp2_with (go_at_call 26; refine (rvalid_any _ _ _ _).mono ?_; rintro e w1 ⟨rfl, rfl⟩)
          refine bodyPost_ret (v := .tuple #[.agg #[.int .i64 ((fq + gq) % 4), .int .i64 (tX (fq % 4) gx gy + fx), .int .i64 (tY (fq % 4) gx gy + fy)], .int .i64 0]) (by simp [results, Try.results20, go_sem]) rfl ⟨by rw [HS.out], ?_⟩
          repeat (first | with_reducible assumption | with_reducible exact bw_refl _ | with_reducible refine bw_alloc ?_ _ | with_reducible refine bw_drew ?_ | with_reducible refine bw_drewN _ ?_ | refine bw_set ?_ (by simp; try omega) _ | refine bw_call (by with_reducible assumption) ?_)

end Go.Proofs.Ytkacggfadalbiaa
