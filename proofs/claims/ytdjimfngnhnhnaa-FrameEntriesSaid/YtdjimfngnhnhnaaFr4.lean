/- Contracts of package frame: Point, Cell, heading, Pose. -/
import Derived.Test.YtdjimfngnhnhnaaFr3
set_option linter.all false
namespace Go.Proofs.Ytdjimfngnhnhnaa
open Go.RowKit

def PtV (fq fx fy x y : Int) : Value :=
  if szB fx 8192 && szB fy 8192 && (szB x 1048576 && szB y 1048576) then
    if szB (tX (fq % 4) x y + 64 * fx) 1048576 && szB (tY (fq % 4) x y + 64 * fy) 1048576 then .tuple #[.agg #[.int .i64 (tX (fq % 4) x y + 64 * fx), .int .i64 (tY (fq % 4) x y + 64 * fy)], .int .i64 0]
    else .tuple #[.agg #[.int .i64 0, .int .i64 0], .int .i64 2]
  else .tuple #[.agg #[.int .i64 0, .int .i64 0], .int .i64 1]

set_option maxHeartbeats 1000000 in
theorem Point_any (fq fx fy x y : Int) (w : World) :
    Calls Try.prog 51 #[.agg #[.int .i64 fq, .int .i64 fx, .int .i64 fy], .agg #[.int .i64 x, .int .i64 y]] w fun e w' => e = .returned (PtV fq fx fy x y) ∧ Below w.heap.size w w' := by
  cases hf : (szB fx 8192 && szB fy 8192)
  · have HS := Lib.hid (show PtV fq fx fy x y = .tuple #[.agg #[.int .i64 0, .int .i64 0], .int .i64 1] by simp [PtV, hf])
    go_enter Try.func51, Try.ntmps51
    go_wp2_with (go_at_call 56; refine (valid_any _ _ _ _).mono ?_; rintro e w1 ⟨rfl, rfl⟩)
    refine bodyPost_ret (v := .tuple #[.agg #[.int .i64 0, .int .i64 0], .int .i64 1]) (by simp [results, Try.results51, go_sem]) rfl ⟨by rw [HS.out], ?_⟩
    repeat (first | with_reducible assumption | with_reducible exact bw_refl _ | with_reducible refine bw_alloc ?_ _ | with_reducible refine bw_drew ?_ | with_reducible refine bw_drewN _ ?_ | refine bw_set ?_ (by simp; try omega) _ | refine bw_call (by with_reducible assumption) ?_)
  · cases hg : (szB x 1048576 && szB y 1048576)
    · have HS := Lib.hid (show PtV fq fx fy x y = .tuple #[.agg #[.int .i64 0, .int .i64 0], .int .i64 1] by simp [PtV, hg])
      go_enter Try.func51, Try.ntmps51
      go_wp2_with (first | (go_at_call 56; refine (valid_any _ _ _ _).mono ?_; rintro e w1 ⟨rfl, rfl⟩) | (go_at_call 90; refine (nearp_any _ _ _).mono ?_; rintro e w1 ⟨rfl, rfl⟩))
      refine bodyPost_ret (v := .tuple #[.agg #[.int .i64 0, .int .i64 0], .int .i64 1]) (by simp [results, Try.results51, go_sem]) rfl ⟨by rw [HS.out], ?_⟩
      repeat (first | with_reducible assumption | with_reducible exact bw_refl _ | with_reducible refine bw_alloc ?_ _ | with_reducible refine bw_drew ?_ | with_reducible refine bw_drewN _ ?_ | refine bw_set ?_ (by simp; try omega) _ | refine bw_call (by with_reducible assumption) ?_)
    · obtain ⟨f1, f2, f3, f4⟩ := szB2_of hf
      obtain ⟨g1, g2, g3, g4⟩ := szB2_of hg
      cases hh : (szB (tX (fq % 4) x y + 64 * fx) 1048576 && szB (tY (fq % 4) x y + 64 * fy) 1048576)
      · have HS := Lib.hid (show PtV fq fx fy x y = .tuple #[.agg #[.int .i64 0, .int .i64 0], .int .i64 2] by simp [PtV, hf, hg, hh])
        go_enter Try.func51, Try.ntmps51
        go_wp2_with (first | (go_at_call 56; refine (valid_any _ _ _ _).mono ?_; rintro e w1 ⟨rfl, rfl⟩) | (go_at_call 90; refine (nearp_any _ _ _).mono ?_; rintro e w1 ⟨rfl, rfl⟩) | (go_at_call 91; refine (mapped_any _ _ _ _ _ _ (by omega) (by omega) (by omega) (by omega) (by omega) (by omega) (by omega) (by omega)).mono ?_; rintro e w1 ⟨rfl, n, rfl⟩))
        refine bodyPost_ret (v := .tuple #[.agg #[.int .i64 0, .int .i64 0], .int .i64 2]) (by simp [results, Try.results51, go_sem]) rfl ⟨by rw [HS.out], ?_⟩
        repeat (first | with_reducible assumption | with_reducible exact bw_refl _ | with_reducible refine bw_alloc ?_ _ | with_reducible refine bw_drew ?_ | with_reducible refine bw_drewN _ ?_ | refine bw_set ?_ (by simp; try omega) _ | refine bw_call (by with_reducible assumption) ?_)
      · have HS := Lib.hid (show PtV fq fx fy x y = .tuple #[.agg #[.int .i64 (tX (fq % 4) x y + 64 * fx), .int .i64 (tY (fq % 4) x y + 64 * fy)], .int .i64 0] by simp [PtV, hf, hg, hh])
        go_enter Try.func51, Try.ntmps51
        go_wp2_with (first | (go_at_call 56; refine (valid_any _ _ _ _).mono ?_; rintro e w1 ⟨rfl, rfl⟩) | (go_at_call 90; refine (nearp_any _ _ _).mono ?_; rintro e w1 ⟨rfl, rfl⟩) | (go_at_call 91; refine (mapped_any _ _ _ _ _ _ (by omega) (by omega) (by omega) (by omega) (by omega) (by omega) (by omega) (by omega)).mono ?_; rintro e w1 ⟨rfl, n, rfl⟩))
        refine bodyPost_ret (v := .tuple #[.agg #[.int .i64 (tX (fq % 4) x y + 64 * fx), .int .i64 (tY (fq % 4) x y + 64 * fy)], .int .i64 0]) (by simp [results, Try.results51, go_sem]) rfl ⟨by rw [HS.out], ?_⟩
        repeat (first | with_reducible assumption | with_reducible exact bw_refl _ | with_reducible refine bw_alloc ?_ _ | with_reducible refine bw_drew ?_ | with_reducible refine bw_drewN _ ?_ | refine bw_set ?_ (by simp; try omega) _ | refine bw_call (by with_reducible assumption) ?_)

def clX (fq fx x y : Int) : Int := min (tX (fq % 4) x y) (tX (fq % 4) (x + 1) (y + 1)) + fx
def clY (fq fy x y : Int) : Int := min (tY (fq % 4) x y) (tY (fq % 4) (x + 1) (y + 1)) + fy
def ClV (fq fx fy x y : Int) : Value :=
  if szB fx 8192 && szB fy 8192 && (szB x 16384 && szB y 16384) then
    if szB (clX fq fx x y) 16384 && szB (clY fq fy x y) 16384 then .tuple #[.agg #[.int .i64 (clX fq fx x y), .int .i64 (clY fq fy x y)], .int .i64 0]
    else .tuple #[.agg #[.int .i64 0, .int .i64 0], .int .i64 2]
  else .tuple #[.agg #[.int .i64 0, .int .i64 0], .int .i64 1]

theorem min_if (a b : Int) : (if b < a then b else a) = min a b := by omega

set_option maxHeartbeats 1000000 in
theorem Cell_any (fq fx fy x y : Int) (w : World) :
    Calls Try.prog 20 #[.agg #[.int .i64 fq, .int .i64 fx, .int .i64 fy], .agg #[.int .i64 x, .int .i64 y]] w fun e w' => e = .returned (ClV fq fx fy x y) ∧ Below w.heap.size w w' := by
  cases hf : (szB fx 8192 && szB fy 8192)
  · have HS := Lib.hid (show ClV fq fx fy x y = .tuple #[.agg #[.int .i64 0, .int .i64 0], .int .i64 1] by simp [ClV, hf])
    go_enter Try.func20, Try.ntmps20
    go_wp2_with (go_at_call 56; refine (valid_any _ _ _ _).mono ?_; rintro e w1 ⟨rfl, rfl⟩)
    refine bodyPost_ret (v := .tuple #[.agg #[.int .i64 0, .int .i64 0], .int .i64 1]) (by simp [results, Try.results20, go_sem]) rfl ⟨by rw [HS.out], ?_⟩
    repeat (first | with_reducible assumption | with_reducible exact bw_refl _ | with_reducible refine bw_alloc ?_ _ | with_reducible refine bw_drew ?_ | with_reducible refine bw_drewN _ ?_ | refine bw_set ?_ (by simp; try omega) _ | refine bw_call (by with_reducible assumption) ?_)
  · cases hx : szB x 16384
    · have HS := Lib.hid (show ClV fq fx fy x y = .tuple #[.agg #[.int .i64 0, .int .i64 0], .int .i64 1] by simp [ClV, hx])
      go_enter Try.func20, Try.ntmps20
      go_wp2_with (first | (go_at_call 56; refine (valid_any _ _ _ _).mono ?_; rintro e w1 ⟨rfl, rfl⟩) | (go_at_call 64; refine (size_any _ _ _ (by omega) (by omega)).mono ?_; rintro e w1 ⟨rfl, rfl⟩))
      refine bodyPost_ret (v := .tuple #[.agg #[.int .i64 0, .int .i64 0], .int .i64 1]) (by simp [results, Try.results20, go_sem]) rfl ⟨by rw [HS.out], ?_⟩
      repeat (first | with_reducible assumption | with_reducible exact bw_refl _ | with_reducible refine bw_alloc ?_ _ | with_reducible refine bw_drew ?_ | with_reducible refine bw_drewN _ ?_ | refine bw_set ?_ (by simp; try omega) _ | refine bw_call (by with_reducible assumption) ?_)
    · cases hy : szB y 16384
      · have HS := Lib.hid (show ClV fq fx fy x y = .tuple #[.agg #[.int .i64 0, .int .i64 0], .int .i64 1] by simp [ClV, hy])
        go_enter Try.func20, Try.ntmps20
        go_wp2_with (first | (go_at_call 56; refine (valid_any _ _ _ _).mono ?_; rintro e w1 ⟨rfl, rfl⟩) | (go_at_call 64; refine (size_any _ _ _ (by omega) (by omega)).mono ?_; rintro e w1 ⟨rfl, rfl⟩))
        refine bodyPost_ret (v := .tuple #[.agg #[.int .i64 0, .int .i64 0], .int .i64 1]) (by simp [results, Try.results20, go_sem]) rfl ⟨by rw [HS.out], ?_⟩
        repeat (first | with_reducible assumption | with_reducible exact bw_refl _ | with_reducible refine bw_alloc ?_ _ | with_reducible refine bw_drew ?_ | with_reducible refine bw_drewN _ ?_ | refine bw_set ?_ (by simp; try omega) _ | refine bw_call (by with_reducible assumption) ?_)
      · obtain ⟨f1, f2, f3, f4⟩ := szB2_of hf
        obtain ⟨g1, g2⟩ := szB_of hx
        obtain ⟨g3, g4⟩ := szB_of hy
        obtain ⟨b1, b2⟩ := tX_bd (fq % 4) x y 20000 (by omega) (by omega) (by omega) (by omega)
        obtain ⟨b3, b4⟩ := tY_bd (fq % 4) x y 20000 (by omega) (by omega) (by omega) (by omega)
        obtain ⟨b5, b6⟩ := tX_bd (fq % 4) (x + 1) (y + 1) 20000 (by omega) (by omega) (by omega) (by omega)
        obtain ⟨b7, b8⟩ := tY_bd (fq % 4) (x + 1) (y + 1) 20000 (by omega) (by omega) (by omega) (by omega)
        have hm := min_if
        cases h1 : szB (min (tX (fq % 4) x y) (tX (fq % 4) (x + 1) (y + 1)) + fx) 16384
        · have HS := Lib.hid (show ClV fq fx fy x y = .tuple #[.agg #[.int .i64 0, .int .i64 0], .int .i64 2] by simp [ClV, clX, clY, hf, hx, hy, h1])
          go_enter Try.func20, Try.ntmps20
          go_wp2_with (first | (go_at_call 56; refine (valid_any _ _ _ _).mono ?_; rintro e w1 ⟨rfl, rfl⟩) | (go_at_call 64; refine (size_any _ _ _ (by omega) (by omega)).mono ?_; rintro e w1 ⟨rfl, rfl⟩) | (go_at_call 65; refine (turned_any _ _ _ _ (by omega) (by omega) (by omega) (by omega)).mono ?_; rintro e w1 ⟨rfl, rfl⟩))
          refine bodyPost_ret (v := .tuple #[.agg #[.int .i64 0, .int .i64 0], .int .i64 2]) (by simp [results, Try.results20, go_sem]) rfl ⟨by rw [HS.out], ?_⟩
          repeat (first | with_reducible assumption | with_reducible exact bw_refl _ | with_reducible refine bw_alloc ?_ _ | with_reducible refine bw_drew ?_ | with_reducible refine bw_drewN _ ?_ | refine bw_set ?_ (by simp; try omega) _ | refine bw_call (by with_reducible assumption) ?_)
        · cases h2 : szB (min (tY (fq % 4) x y) (tY (fq % 4) (x + 1) (y + 1)) + fy) 16384
          · have HS := Lib.hid (show ClV fq fx fy x y = .tuple #[.agg #[.int .i64 0, .int .i64 0], .int .i64 2] by simp [ClV, clX, clY, hf, hx, hy, h1, h2])
            go_enter Try.func20, Try.ntmps20
            go_wp2_with (first | (go_at_call 56; refine (valid_any _ _ _ _).mono ?_; rintro e w1 ⟨rfl, rfl⟩) | (go_at_call 64; refine (size_any _ _ _ (by omega) (by omega)).mono ?_; rintro e w1 ⟨rfl, rfl⟩) | (go_at_call 65; refine (turned_any _ _ _ _ (by omega) (by omega) (by omega) (by omega)).mono ?_; rintro e w1 ⟨rfl, rfl⟩))
            refine bodyPost_ret (v := .tuple #[.agg #[.int .i64 0, .int .i64 0], .int .i64 2]) (by simp [results, Try.results20, go_sem]) rfl ⟨by rw [HS.out], ?_⟩
            repeat (first | with_reducible assumption | with_reducible exact bw_refl _ | with_reducible refine bw_alloc ?_ _ | with_reducible refine bw_drew ?_ | with_reducible refine bw_drewN _ ?_ | refine bw_set ?_ (by simp; try omega) _ | refine bw_call (by with_reducible assumption) ?_)
          · have HS := Lib.hid (show ClV fq fx fy x y = .tuple #[.agg #[.int .i64 (min (tX (fq % 4) x y) (tX (fq % 4) (x + 1) (y + 1)) + fx), .int .i64 (min (tY (fq % 4) x y) (tY (fq % 4) (x + 1) (y + 1)) + fy)], .int .i64 0] by simp [ClV, clX, clY, hf, hx, hy, h1, h2])
            go_enter Try.func20, Try.ntmps20
            go_wp2_with (first | (go_at_call 56; refine (valid_any _ _ _ _).mono ?_; rintro e w1 ⟨rfl, rfl⟩) | (go_at_call 64; refine (size_any _ _ _ (by omega) (by omega)).mono ?_; rintro e w1 ⟨rfl, rfl⟩) | (go_at_call 65; refine (turned_any _ _ _ _ (by omega) (by omega) (by omega) (by omega)).mono ?_; rintro e w1 ⟨rfl, rfl⟩))
            refine bodyPost_ret (v := .tuple #[.agg #[.int .i64 (min (tX (fq % 4) x y) (tX (fq % 4) (x + 1) (y + 1)) + fx), .int .i64 (min (tY (fq % 4) x y) (tY (fq % 4) (x + 1) (y + 1)) + fy)], .int .i64 0]) (by simp [results, Try.results20, go_sem]) rfl ⟨by rw [HS.out], ?_⟩
            repeat (first | with_reducible assumption | with_reducible exact bw_refl _ | with_reducible refine bw_alloc ?_ _ | with_reducible refine bw_drew ?_ | with_reducible refine bw_drewN _ ?_ | refine bw_set ?_ (by simp; try omega) _ | refine bw_call (by with_reducible assumption) ?_)

set_option maxHeartbeats 400000 in
theorem heading_any (fq fx fy h : Int) (w : World) (h1 : 0 ≤ h) (h2 : h < 256) :
    Calls Try.prog 89 #[.agg #[.int .i64 fq, .int .i64 fx, .int .i64 fy], .int .i64 h] w fun e w' => e = .returned (.int .i64 ((h + 64 * (fq % 4)) % 256)) ∧ w.alloc (.cells #[.int .i64 fq, .int .i64 fx, .int .i64 fy] 23) = w' := by
  have ha := and3
  go_enter Try.func89, Try.ntmps89
  go_wp2
  go_ret
  exact ⟨by simp, rfl⟩

end Go.Proofs.Ytdjimfngnhnhnaa
