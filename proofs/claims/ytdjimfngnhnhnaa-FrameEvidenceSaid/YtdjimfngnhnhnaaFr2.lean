/- Contracts of package frame: compose, Compose, inverse, Inverse, mapped, near, Point, Cell, heading, Pose. -/
/- Contracts of package frame: inverse, Inverse, mapped, near, Point. -/
/- Contracts of package frame: Point, Cell, heading, Pose. -/
/- Contracts of package frame: Pose. -/
import Derived.Test.YtdjimfngnhnhnaaFr1
set_option linter.all false
namespace Go.Proofs.Ytdjimfngnhnhnaa
open Go.RowKit

set_option maxHeartbeats 400000 in
theorem compose_any (fq fx fy gq gx gy : Int) (w : World) (h1 : -1000000000 ≤ fx) (h2 : fx ≤ 1000000000) (h3 : -1000000000 ≤ fy) (h4 : fy ≤ 1000000000)
    (h5 : -1000000000 ≤ gx) (h6 : gx ≤ 1000000000) (h7 : -1000000000 ≤ gy) (h8 : gy ≤ 1000000000) :
    Calls Try.prog 118 #[.agg #[.int .i64 fq, .int .i64 fx, .int .i64 fy], .agg #[.int .i64 gq, .int .i64 gx, .int .i64 gy]] w fun e w' =>
      e = .returned (.agg #[.int .i64 ((fq + gq) % 4), .int .i64 (tX (fq % 4) gx gy + fx), .int .i64 (tY (fq % 4) gx gy + fy)]) ∧
      ((w.alloc (.cells #[.int .i64 fq, .int .i64 fx, .int .i64 fy] 23)).alloc (.cells #[.int .i64 gq, .int .i64 gx, .int .i64 gy] 23)).alloc
        (.cells #[.int .i64 ((fq + gq) % 4), .int .i64 (tX (fq % 4) gx gy + fx), .int .i64 (tY (fq % 4) gx gy + fy)] 23) = w' := by
  have ha := and3
  obtain ⟨b1, b2⟩ := tX_bd (fq % 4) gx gy 1000000000 h5 h6 h7 h8
  obtain ⟨b3, b4⟩ := tY_bd (fq % 4) gx gy 1000000000 h5 h6 h7 h8
  go_enter Try.func118, Try.ntmps118
  go_wp2_with (go_at_call 65; refine (turned_any _ _ _ _ (by omega) (by omega) (by omega) (by omega)).mono ?_; rintro e w' ⟨rfl, rfl⟩)
  exact bodyPost_ret (v := .agg #[.int .i64 ((fq + gq) % 4), .int .i64 (tX (fq % 4) gx gy + fx), .int .i64 (tY (fq % 4) gx gy + fy)]) (by simp [results, Try.results118, go_sem]) rfl
    ⟨rfl, rfl⟩


/-- Compose: what it returns. -/
def CmpV (fq fx fy gq gx gy : Int) : Value :=
  if szB fx 8192 && szB fy 8192 && (szB gx 8192 && szB gy 8192) then
    if szB (tX (fq % 4) gx gy + fx) 8192 && szB (tY (fq % 4) gx gy + fy) 8192 then
      .tuple #[.agg #[.int .i64 ((fq + gq) % 4), .int .i64 (tX (fq % 4) gx gy + fx), .int .i64 (tY (fq % 4) gx gy + fy)], .int .i64 0]
    else .tuple #[.agg #[.int .i64 0, .int .i64 0, .int .i64 0], .int .i64 2]
  else .tuple #[.agg #[.int .i64 0, .int .i64 0, .int .i64 0], .int .i64 1]

theorem szB_of {n m : Int} (h : szB n m = true) : -m ≤ n ∧ n ≤ m := by simpa [szB] using h
theorem szB2_of {n k m : Int} (h : (szB n m && szB k m) = true) : -m ≤ n ∧ n ≤ m ∧ -m ≤ k ∧ k ≤ m := by
  simp [szB] at h; omega

end Go.Proofs.Ytdjimfngnhnhnaa

namespace Go.Proofs.Ytdjimfngnhnhnaa
open Go.RowKit

theorem wneg4 (q : Int) : wrap64 (-q) % 4 = (-q) % 4 := by unfold wrap64; omega

set_option maxHeartbeats 400000 in
theorem inverse_any (fq fx fy : Int) (w : World) (h1 : -1000000000 ≤ fx) (h2 : fx ≤ 1000000000) (h3 : -1000000000 ≤ fy) (h4 : fy ≤ 1000000000) :
    Calls Try.prog 68 #[.agg #[.int .i64 fq, .int .i64 fx, .int .i64 fy]] w fun e w' =>
      e = .returned (.agg #[.int .i64 ((-fq) % 4), .int .i64 (tX ((-fq) % 4) (-fx) (-fy)), .int .i64 (tY ((-fq) % 4) (-fx) (-fy))]) ∧
      (w.alloc (.cells #[.int .i64 fq, .int .i64 fx, .int .i64 fy] 23)).alloc (.cells #[.int .i64 ((-fq) % 4), .int .i64 (tX ((-fq) % 4) (-fx) (-fy)), .int .i64 (tY ((-fq) % 4) (-fx) (-fy))] 23) = w' := by
  have ha := and3
  have hb := wneg4
  go_enter Try.func68, Try.ntmps68
  go_wp2_with (go_at_call 65; refine (turned_any _ _ _ _ (by omega) (by omega) (by omega) (by omega)).mono ?_; rintro e w' ⟨rfl, rfl⟩)
  exact bodyPost_ret (v := .agg #[.int .i64 ((-fq) % 4), .int .i64 (tX ((-fq) % 4) (-fx) (-fy)), .int .i64 (tY ((-fq) % 4) (-fx) (-fy))]) (by simp [results, Try.results68, go_sem]) rfl
    ⟨rfl, rfl⟩

def InvV (fq fx fy : Int) : Value :=
  if szB fx 8192 && szB fy 8192 then .tuple #[.agg #[.int .i64 ((-fq) % 4), .int .i64 (tX ((-fq) % 4) (-fx) (-fy)), .int .i64 (tY ((-fq) % 4) (-fx) (-fy))], .int .i64 0]
  else .tuple #[.agg #[.int .i64 0, .int .i64 0, .int .i64 0], .int .i64 1]

set_option maxHeartbeats 400000 in
theorem Inverse_any (fq fx fy : Int) (w : World) :
    Calls Try.prog 22 #[.agg #[.int .i64 fq, .int .i64 fx, .int .i64 fy]] w fun e w' => e = .returned (InvV fq fx fy) ∧ Below w.heap.size w w' := by
  cases hf : (szB fx 8192 && szB fy 8192)
  · have HS := Lib.hid (show InvV fq fx fy = .tuple #[.agg #[.int .i64 0, .int .i64 0, .int .i64 0], .int .i64 1] by simp [InvV, hf])
    go_enter Try.func22, Try.ntmps22
    go_wp2_with (go_at_call 56; refine (valid_any _ _ _ _).mono ?_; rintro e w1 ⟨rfl, rfl⟩)
    refine bodyPost_ret (v := .tuple #[.agg #[.int .i64 0, .int .i64 0, .int .i64 0], .int .i64 1]) (by simp [results, Try.results22, go_sem]) rfl ⟨by rw [HS.out], ?_⟩
    repeat (first | exact bw_refl _ | refine bw_alloc ?_ _)
  · have HS := Lib.hid (show InvV fq fx fy = .tuple #[.agg #[.int .i64 ((-fq) % 4), .int .i64 (tX ((-fq) % 4) (-fx) (-fy)), .int .i64 (tY ((-fq) % 4) (-fx) (-fy))], .int .i64 0] by simp [InvV, hf])
    obtain ⟨f1, f2, f3, f4⟩ := szB2_of hf
    go_enter Try.func22, Try.ntmps22
    go_wp2_with (first | (go_at_call 56; refine (valid_any _ _ _ _).mono ?_; rintro e w1 ⟨rfl, rfl⟩) | (go_at_call 68; refine (inverse_any _ _ _ _ (by omega) (by omega) (by omega) (by omega)).mono ?_; rintro e w1 ⟨rfl, rfl⟩))
    refine bodyPost_ret (v := .tuple #[.agg #[.int .i64 ((-fq) % 4), .int .i64 (tX ((-fq) % 4) (-fx) (-fy)), .int .i64 (tY ((-fq) % 4) (-fx) (-fy))], .int .i64 0]) (by simp [results, Try.results22, go_sem]) rfl ⟨by rw [HS.out], ?_⟩
    repeat (first | exact bw_refl _ | refine bw_alloc ?_ _)

set_option maxHeartbeats 400000 in
theorem nearp_any (x y : Int) (w : World) :
    Calls Try.prog 90 #[.int .i64 x, .int .i64 y] w fun e w' => e = .returned (.bool (szB x 1048576 && szB y 1048576)) ∧ w = w' := by
  cases h3 : szB x 1048576
  all_goals
    go_enter Try.func90, Try.ntmps90
    go_wp2_with (go_at_call 64; refine (size_any _ _ _ (by omega) (by omega)).mono ?_; rintro e w' ⟨rfl, rfl⟩)
    go_ret
    exact ⟨by simp, rfl⟩

set_option maxHeartbeats 400000 in
theorem mapped_any (fq fx fy x y : Int) (w : World) (h1 : -1000000000 ≤ fx) (h2 : fx ≤ 1000000000) (h3 : -1000000000 ≤ fy) (h4 : fy ≤ 1000000000)
    (h5 : -1000000000 ≤ x) (h6 : x ≤ 1000000000) (h7 : -1000000000 ≤ y) (h8 : y ≤ 1000000000) :
    Calls Try.prog 91 #[.agg #[.int .i64 fq, .int .i64 fx, .int .i64 fy], .int .i64 x, .int .i64 y] w fun e w' =>
      e = .returned (.tuple #[.int .i64 (tX (fq % 4) x y + 64 * fx), .int .i64 (tY (fq % 4) x y + 64 * fy)]) ∧ ∃ n, (w.alloc (.cells #[.int .i64 fq, .int .i64 fx, .int .i64 fy] 23)).drewN n = w' := by
  obtain ⟨b1, b2⟩ := tX_bd (fq % 4) x y 1000000000 h5 h6 h7 h8
  obtain ⟨b3, b4⟩ := tY_bd (fq % 4) x y 1000000000 h5 h6 h7 h8
  go_enter Try.func91, Try.ntmps91
  go_wp2_with (go_at_call 65; refine (turned_any _ _ _ _ (by omega) (by omega) (by omega) (by omega)).mono ?_; rintro e w' ⟨rfl, rfl⟩)
  have e1 : IntKind.i64.wrap (64 * fx) = 64 * fx := IntWalk.i64_in _ (by omega)
  have e2 : IntKind.i64.wrap (64 * fy) = 64 * fy := IntWalk.i64_in _ (by omega)
  have e3 : IntKind.i64.wrap (tX (fq % 4) x y + 64 * fx) = tX (fq % 4) x y + 64 * fx := IntWalk.i64_in _ (by omega)
  have e4 : IntKind.i64.wrap (tY (fq % 4) x y + 64 * fy) = tY (fq % 4) x y + 64 * fy := IntWalk.i64_in _ (by omega)
  go_quiet (fail)
  clear e1 e2 e3 e4
  go_wp2
  go_ret2
  exact ⟨rfl, _, rfl⟩

end Go.Proofs.Ytdjimfngnhnhnaa

namespace Go.Proofs.Ytdjimfngnhnhnaa
open Go.RowKit

def PtV (fq fx fy x y : Int) : Value :=
  if szB fx 8192 && szB fy 8192 && (szB x 1048576 && szB y 1048576) then
    if szB (tX (fq % 4) x y + 64 * fx) 1048576 && szB (tY (fq % 4) x y + 64 * fy) 1048576 then .tuple #[.agg #[.int .i64 (tX (fq % 4) x y + 64 * fx), .int .i64 (tY (fq % 4) x y + 64 * fy)], .int .i64 0]
    else .tuple #[.agg #[.int .i64 0, .int .i64 0], .int .i64 2]
  else .tuple #[.agg #[.int .i64 0, .int .i64 0], .int .i64 1]

set_option maxHeartbeats 1000000 in
theorem Point_any (fq fx fy x y : Int) (w : World) :
    Calls Try.prog 51 #[.agg #[.int .i64 fq, .int .i64 fx, .int .i64 fy], .agg #[.int .i64 x, .int .i64 y]] w fun e w' => e = .returned (PtV fq fx fy x y) ∧ Below w.heap.size w w' := by
  cases hf : (szB fx 8192 && szB fy 8192)
  · have HS := Lib.hid (show PtV fq fx fy x y = .tuple #[.agg #[.int .i64 0, .int .i64 0], .int .i64 1] by simp [PtV, hf])
    go_enter Try.func51, Try.ntmps51
    go_wp2_with (go_at_call 56; refine (valid_any _ _ _ _).mono ?_; rintro e w1 ⟨rfl, rfl⟩)
    refine bodyPost_ret (v := .tuple #[.agg #[.int .i64 0, .int .i64 0], .int .i64 1]) (by simp [results, Try.results51, go_sem]) rfl ⟨by rw [HS.out], ?_⟩
    repeat (first | with_reducible assumption | with_reducible exact bw_refl _ | with_reducible refine bw_alloc ?_ _ | with_reducible refine bw_drew ?_ | with_reducible refine bw_drewN _ ?_ | refine bw_set ?_ (by simp; try omega) _ | refine bw_call (by with_reducible assumption) ?_)
  · cases hg : (szB x 1048576 && szB y 1048576)
    · have HS := Lib.hid (show PtV fq fx fy x y = .tuple #[.agg #[.int .i64 0, .int .i64 0], .int .i64 1] by simp [PtV, hg])
      go_enter Try.func51, Try.ntmps51
      go_wp2_with (first | (go_at_call 56; refine (valid_any _ _ _ _).mono ?_; rintro e w1 ⟨rfl, rfl⟩) | (go_at_call 90; refine (nearp_any _ _ _).mono ?_; rintro e w1 ⟨rfl, rfl⟩))
      refine bodyPost_ret (v := .tuple #[.agg #[.int .i64 0, .int .i64 0], .int .i64 1]) (by simp [results, Try.results51, go_sem]) rfl ⟨by rw [HS.out], ?_⟩
      repeat (first | with_reducible assumption | with_reducible exact bw_refl _ | with_reducible refine bw_alloc ?_ _ | with_reducible refine bw_drew ?_ | with_reducible refine bw_drewN _ ?_ | refine bw_set ?_ (by simp; try omega) _ | refine bw_call (by with_reducible assumption) ?_)
    · obtain ⟨f1, f2, f3, f4⟩ := szB2_of hf
      obtain ⟨g1, g2, g3, g4⟩ := szB2_of hg
      cases hh : (szB (tX (fq % 4) x y + 64 * fx) 1048576 && szB (tY (fq % 4) x y + 64 * fy) 1048576)
      · have HS := Lib.hid (show PtV fq fx fy x y = .tuple #[.agg #[.int .i64 0, .int .i64 0], .int .i64 2] by simp [PtV, hf, hg, hh])
        go_enter Try.func51, Try.ntmps51
        go_wp2_with (first | (go_at_call 56; refine (valid_any _ _ _ _).mono ?_; rintro e w1 ⟨rfl, rfl⟩) | (go_at_call 90; refine (nearp_any _ _ _).mono ?_; rintro e w1 ⟨rfl, rfl⟩) | (go_at_call 91; refine (mapped_any _ _ _ _ _ _ (by omega) (by omega) (by omega) (by omega) (by omega) (by omega) (by omega) (by omega)).mono ?_; rintro e w1 ⟨rfl, n, rfl⟩))
        refine bodyPost_ret (v := .tuple #[.agg #[.int .i64 0, .int .i64 0], .int .i64 2]) (by simp [results, Try.results51, go_sem]) rfl ⟨by rw [HS.out], ?_⟩
        repeat (first | with_reducible assumption | with_reducible exact bw_refl _ | with_reducible refine bw_alloc ?_ _ | with_reducible refine bw_drew ?_ | with_reducible refine bw_drewN _ ?_ | refine bw_set ?_ (by simp; try omega) _ | refine bw_call (by with_reducible assumption) ?_)
      · have HS := Lib.hid (show PtV fq fx fy x y = .tuple #[.agg #[.int .i64 (tX (fq % 4) x y + 64 * fx), .int .i64 (tY (fq % 4) x y + 64 * fy)], .int .i64 0] by simp [PtV, hf, hg, hh])
        go_enter Try.func51, Try.ntmps51
        go_wp2_with (first | (go_at_call 56; refine (valid_any _ _ _ _).mono ?_; rintro e w1 ⟨rfl, rfl⟩) | (go_at_call 90; refine (nearp_any _ _ _).mono ?_; rintro e w1 ⟨rfl, rfl⟩) | (go_at_call 91; refine (mapped_any _ _ _ _ _ _ (by omega) (by omega) (by omega) (by omega) (by omega) (by omega) (by omega) (by omega)).mono ?_; rintro e w1 ⟨rfl, n, rfl⟩))
        refine bodyPost_ret (v := .tuple #[.agg #[.int .i64 (tX (fq % 4) x y + 64 * fx), .int .i64 (tY (fq % 4) x y + 64 * fy)], .int .i64 0]) (by simp [results, Try.results51, go_sem]) rfl ⟨by rw [HS.out], ?_⟩
        repeat (first | with_reducible assumption | with_reducible exact bw_refl _ | with_reducible refine bw_alloc ?_ _ | with_reducible refine bw_drew ?_ | with_reducible refine bw_drewN _ ?_ | refine bw_set ?_ (by simp; try omega) _ | refine bw_call (by with_reducible assumption) ?_)

def clX (fq fx x y : Int) : Int := min (tX (fq % 4) x y) (tX (fq % 4) (x + 1) (y + 1)) + fx
def clY (fq fy x y : Int) : Int := min (tY (fq % 4) x y) (tY (fq % 4) (x + 1) (y + 1)) + fy
def ClV (fq fx fy x y : Int) : Value :=
  if szB fx 8192 && szB fy 8192 && (szB x 16384 && szB y 16384) then
    if szB (clX fq fx x y) 16384 && szB (clY fq fy x y) 16384 then .tuple #[.agg #[.int .i64 (clX fq fx x y), .int .i64 (clY fq fy x y)], .int .i64 0]
    else .tuple #[.agg #[.int .i64 0, .int .i64 0], .int .i64 2]
  else .tuple #[.agg #[.int .i64 0, .int .i64 0], .int .i64 1]

theorem min_if (a b : Int) : (if b < a then b else a) = min a b := by omega

set_option maxHeartbeats 1000000 in
theorem Cell_any (fq fx fy x y : Int) (w : World) :
    Calls Try.prog 20 #[.agg #[.int .i64 fq, .int .i64 fx, .int .i64 fy], .agg #[.int .i64 x, .int .i64 y]] w fun e w' => e = .returned (ClV fq fx fy x y) ∧ Below w.heap.size w w' := by
  cases hf : (szB fx 8192 && szB fy 8192)
  · have HS := Lib.hid (show ClV fq fx fy x y = .tuple #[.agg #[.int .i64 0, .int .i64 0], .int .i64 1] by simp [ClV, hf])
    go_enter Try.func20, Try.ntmps20
    go_wp2_with (go_at_call 56; refine (valid_any _ _ _ _).mono ?_; rintro e w1 ⟨rfl, rfl⟩)
    refine bodyPost_ret (v := .tuple #[.agg #[.int .i64 0, .int .i64 0], .int .i64 1]) (by simp [results, Try.results20, go_sem]) rfl ⟨by rw [HS.out], ?_⟩
    repeat (first | with_reducible assumption | with_reducible exact bw_refl _ | with_reducible refine bw_alloc ?_ _ | with_reducible refine bw_drew ?_ | with_reducible refine bw_drewN _ ?_ | refine bw_set ?_ (by simp; try omega) _ | refine bw_call (by with_reducible assumption) ?_)
  · cases hx : szB x 16384
    · have HS := Lib.hid (show ClV fq fx fy x y = .tuple #[.agg #[.int .i64 0, .int .i64 0], .int .i64 1] by simp [ClV, hx])
      go_enter Try.func20, Try.ntmps20
      go_wp2_with (first | (go_at_call 56; refine (valid_any _ _ _ _).mono ?_; rintro e w1 ⟨rfl, rfl⟩) | (go_at_call 64; refine (size_any _ _ _ (by omega) (by omega)).mono ?_; rintro e w1 ⟨rfl, rfl⟩))
      refine bodyPost_ret (v := .tuple #[.agg #[.int .i64 0, .int .i64 0], .int .i64 1]) (by simp [results, Try.results20, go_sem]) rfl ⟨by rw [HS.out], ?_⟩
      repeat (first | with_reducible assumption | with_reducible exact bw_refl _ | with_reducible refine bw_alloc ?_ _ | with_reducible refine bw_drew ?_ | with_reducible refine bw_drewN _ ?_ | refine bw_set ?_ (by simp; try omega) _ | refine bw_call (by with_reducible assumption) ?_)
    · cases hy : szB y 16384
      · have HS := Lib.hid (show ClV fq fx fy x y = .tuple #[.agg #[.int .i64 0, .int .i64 0], .int .i64 1] by simp [ClV, hy])
        go_enter Try.func20, Try.ntmps20
        go_wp2_with (first | (go_at_call 56; refine (valid_any _ _ _ _).mono ?_; rintro e w1 ⟨rfl, rfl⟩) | (go_at_call 64; refine (size_any _ _ _ (by omega) (by omega)).mono ?_; rintro e w1 ⟨rfl, rfl⟩))
        refine bodyPost_ret (v := .tuple #[.agg #[.int .i64 0, .int .i64 0], .int .i64 1]) (by simp [results, Try.results20, go_sem]) rfl ⟨by rw [HS.out], ?_⟩
        repeat (first | with_reducible assumption | with_reducible exact bw_refl _ | with_reducible refine bw_alloc ?_ _ | with_reducible refine bw_drew ?_ | with_reducible refine bw_drewN _ ?_ | refine bw_set ?_ (by simp; try omega) _ | refine bw_call (by with_reducible assumption) ?_)
      · obtain ⟨f1, f2, f3, f4⟩ := szB2_of hf
        obtain ⟨g1, g2⟩ := szB_of hx
        obtain ⟨g3, g4⟩ := szB_of hy
        obtain ⟨b1, b2⟩ := tX_bd (fq % 4) x y 20000 (by omega) (by omega) (by omega) (by omega)
        obtain ⟨b3, b4⟩ := tY_bd (fq % 4) x y 20000 (by omega) (by omega) (by omega) (by omega)
        obtain ⟨b5, b6⟩ := tX_bd (fq % 4) (x + 1) (y + 1) 20000 (by omega) (by omega) (by omega) (by omega)
        obtain ⟨b7, b8⟩ := tY_bd (fq % 4) (x + 1) (y + 1) 20000 (by omega) (by omega) (by omega) (by omega)
        have hm := min_if
        cases h1 : szB (min (tX (fq % 4) x y) (tX (fq % 4) (x + 1) (y + 1)) + fx) 16384
        · have HS := Lib.hid (show ClV fq fx fy x y = .tuple #[.agg #[.int .i64 0, .int .i64 0], .int .i64 2] by simp [ClV, clX, clY, hf, hx, hy, h1])
          go_enter Try.func20, Try.ntmps20
          go_wp2_with (first | (go_at_call 56; refine (valid_any _ _ _ _).mono ?_; rintro e w1 ⟨rfl, rfl⟩) | (go_at_call 64; refine (size_any _ _ _ (by omega) (by omega)).mono ?_; rintro e w1 ⟨rfl, rfl⟩) | (go_at_call 65; refine (turned_any _ _ _ _ (by omega) (by omega) (by omega) (by omega)).mono ?_; rintro e w1 ⟨rfl, rfl⟩))
          refine bodyPost_ret (v := .tuple #[.agg #[.int .i64 0, .int .i64 0], .int .i64 2]) (by simp [results, Try.results20, go_sem]) rfl ⟨by rw [HS.out], ?_⟩
          repeat (first | with_reducible assumption | with_reducible exact bw_refl _ | with_reducible refine bw_alloc ?_ _ | with_reducible refine bw_drew ?_ | with_reducible refine bw_drewN _ ?_ | refine bw_set ?_ (by simp; try omega) _ | refine bw_call (by with_reducible assumption) ?_)
        · cases h2 : szB (min (tY (fq % 4) x y) (tY (fq % 4) (x + 1) (y + 1)) + fy) 16384
          · have HS := Lib.hid (show ClV fq fx fy x y = .tuple #[.agg #[.int .i64 0, .int .i64 0], .int .i64 2] by simp [ClV, clX, clY, hf, hx, hy, h1, h2])
            go_enter Try.func20, Try.ntmps20
            go_wp2_with (first | (go_at_call 56; refine (valid_any _ _ _ _).mono ?_; rintro e w1 ⟨rfl, rfl⟩) | (go_at_call 64; refine (size_any _ _ _ (by omega) (by omega)).mono ?_; rintro e w1 ⟨rfl, rfl⟩) | (go_at_call 65; refine (turned_any _ _ _ _ (by omega) (by omega) (by omega) (by omega)).mono ?_; rintro e w1 ⟨rfl, rfl⟩))
            refine bodyPost_ret (v := .tuple #[.agg #[.int .i64 0, .int .i64 0], .int .i64 2]) (by simp [results, Try.results20, go_sem]) rfl ⟨by rw [HS.out], ?_⟩
            repeat (first | with_reducible assumption | with_reducible exact bw_refl _ | with_reducible refine bw_alloc ?_ _ | with_reducible refine bw_drew ?_ | with_reducible refine bw_drewN _ ?_ | refine bw_set ?_ (by simp; try omega) _ | refine bw_call (by with_reducible assumption) ?_)
          · have HS := Lib.hid (show ClV fq fx fy x y = .tuple #[.agg #[.int .i64 (min (tX (fq % 4) x y) (tX (fq % 4) (x + 1) (y + 1)) + fx), .int .i64 (min (tY (fq % 4) x y) (tY (fq % 4) (x + 1) (y + 1)) + fy)], .int .i64 0] by simp [ClV, clX, clY, hf, hx, hy, h1, h2])
            go_enter Try.func20, Try.ntmps20
            go_wp2_with (first | (go_at_call 56; refine (valid_any _ _ _ _).mono ?_; rintro e w1 ⟨rfl, rfl⟩) | (go_at_call 64; refine (size_any _ _ _ (by omega) (by omega)).mono ?_; rintro e w1 ⟨rfl, rfl⟩) | (go_at_call 65; refine (turned_any _ _ _ _ (by omega) (by omega) (by omega) (by omega)).mono ?_; rintro e w1 ⟨rfl, rfl⟩))
            refine bodyPost_ret (v := .tuple #[.agg #[.int .i64 (min (tX (fq % 4) x y) (tX (fq % 4) (x + 1) (y + 1)) + fx), .int .i64 (min (tY (fq % 4) x y) (tY (fq % 4) (x + 1) (y + 1)) + fy)], .int .i64 0]) (by simp [results, Try.results20, go_sem]) rfl ⟨by rw [HS.out], ?_⟩
            repeat (first | with_reducible assumption | with_reducible exact bw_refl _ | with_reducible refine bw_alloc ?_ _ | with_reducible refine bw_drew ?_ | with_reducible refine bw_drewN _ ?_ | refine bw_set ?_ (by simp; try omega) _ | refine bw_call (by with_reducible assumption) ?_)

set_option maxHeartbeats 400000 in
theorem heading_any (fq fx fy h : Int) (w : World) (h1 : 0 ≤ h) (h2 : h < 256) :
    Calls Try.prog 89 #[.agg #[.int .i64 fq, .int .i64 fx, .int .i64 fy], .int .i64 h] w fun e w' => e = .returned (.int .i64 ((h + 64 * (fq % 4)) % 256)) ∧ w.alloc (.cells #[.int .i64 fq, .int .i64 fx, .int .i64 fy] 23) = w' := by
  have ha := and3
  go_enter Try.func89, Try.ntmps89
  go_wp2
  go_ret
  exact ⟨by simp, rfl⟩

end Go.Proofs.Ytdjimfngnhnhnaa

namespace Go.Proofs.Ytdjimfngnhnhnaa
open Go.RowKit

def PsV (fq fx fy x y h : Int) : Value :=
  if 0 ≤ h ∧ h < 256 then
    if szB fx 8192 && szB fy 8192 && (szB x 1048576 && szB y 1048576) then
      if szB (tX (fq % 4) x y + 64 * fx) 1048576 && szB (tY (fq % 4) x y + 64 * fy) 1048576 then
        .tuple #[.agg #[.int .i64 (tX (fq % 4) x y + 64 * fx), .int .i64 (tY (fq % 4) x y + 64 * fy), .int .i64 ((h + 64 * (fq % 4)) % 256)], .int .i64 0]
      else .tuple #[.agg #[.int .i64 0, .int .i64 0, .int .i64 0], .int .i64 2]
    else .tuple #[.agg #[.int .i64 0, .int .i64 0, .int .i64 0], .int .i64 1]
  else .tuple #[.agg #[.int .i64 0, .int .i64 0, .int .i64 0], .int .i64 1]

set_option maxHeartbeats 1000000 in
theorem Pose_bad (fq fx fy x y h : Int) (w : World) (hh : ¬ (0 ≤ h ∧ h < 256)) :
    Calls Try.prog 50 #[.agg #[.int .i64 fq, .int .i64 fx, .int .i64 fy], .agg #[.int .i64 x, .int .i64 y, .int .i64 h]] w fun e w' => e = .returned (PsV fq fx fy x y h) ∧ Below w.heap.size w w' := by
  have HS := Lib.hid (show PsV fq fx fy x y h = .tuple #[.agg #[.int .i64 0, .int .i64 0, .int .i64 0], .int .i64 1] by simp [PsV, hh])
  by_cases h1 : h < 0
  · clear hh
    go_enter Try.func50, Try.ntmps50
    go_wp2
    refine bodyPost_ret (v := .tuple #[.agg #[.int .i64 0, .int .i64 0, .int .i64 0], .int .i64 1]) (by simp [results, Try.results50, go_sem]) rfl ⟨by rw [HS.out], ?_⟩
    repeat (first | with_reducible assumption | with_reducible exact bw_refl _ | with_reducible refine bw_alloc ?_ _ | with_reducible refine bw_drew ?_ | with_reducible refine bw_drewN _ ?_ | refine bw_set ?_ (by simp; try omega) _ | refine bw_call (by with_reducible assumption) ?_)
  · have h2 : 256 ≤ h := by omega
    clear hh
    go_enter Try.func50, Try.ntmps50
    go_wp2
    refine bodyPost_ret (v := .tuple #[.agg #[.int .i64 0, .int .i64 0, .int .i64 0], .int .i64 1]) (by simp [results, Try.results50, go_sem]) rfl ⟨by rw [HS.out], ?_⟩
    repeat (first | with_reducible assumption | with_reducible exact bw_refl _ | with_reducible refine bw_alloc ?_ _ | with_reducible refine bw_drew ?_ | with_reducible refine bw_drewN _ ?_ | refine bw_set ?_ (by simp; try omega) _ | refine bw_call (by with_reducible assumption) ?_)

set_option maxHeartbeats 1000000 in
theorem Pose_err (fq fx fy x y h c : Int) (w : World) (h1 : 0 ≤ h) (h2 : h < 256) (hc : 1 ≤ c) (hp : PtV fq fx fy x y = .tuple #[.agg #[.int .i64 0, .int .i64 0], .int .i64 c]) :
    Calls Try.prog 50 #[.agg #[.int .i64 fq, .int .i64 fx, .int .i64 fy], .agg #[.int .i64 x, .int .i64 y, .int .i64 h]] w fun e w' => e = .returned (.tuple #[.agg #[.int .i64 0, .int .i64 0, .int .i64 0], .int .i64 c]) ∧ Below w.heap.size w w' := by
  have HP := Lib.hid hp
  clear hp
  go_enter Try.func50, Try.ntmps50
  go_wp2_with fail
  refine (Point_any _ _ _ _ _ _).mono ?_
  rintro e w1 ⟨rfl, hb⟩
  rw [HP.out]
  obtain ⟨hcc, hff⟩ := bcell hb
  have hs := hb.size
  simp at hs
  have s0 : w.heap.size < w1.heap.size := by omega
  have s1 : w.heap.size + 1 < w1.heap.size := by omega
  have s2 : w.heap.size + 1 + 1 < w1.heap.size := by omega
  go_wp2_with fail
  refine bodyPost_ret (v := .tuple #[.agg #[.int .i64 0, .int .i64 0, .int .i64 0], .int .i64 c]) (by simp [results, Try.results50, go_sem, hcc, s2]) rfl ⟨rfl, ?_⟩
  repeat (first | with_reducible assumption | with_reducible exact bw_refl _ | with_reducible refine bw_alloc ?_ _ | with_reducible refine bw_drew ?_ | with_reducible refine bw_drewN _ ?_ | refine bw_set ?_ (by simp; try omega) _ | refine bw_call (by with_reducible assumption) ?_)

set_option maxHeartbeats 1000000 in
theorem Pose_ok (fq fx fy x y h X Y : Int) (w : World) (h1 : 0 ≤ h) (h2 : h < 256) (hp : PtV fq fx fy x y = .tuple #[.agg #[.int .i64 X, .int .i64 Y], .int .i64 0]) :
    Calls Try.prog 50 #[.agg #[.int .i64 fq, .int .i64 fx, .int .i64 fy], .agg #[.int .i64 x, .int .i64 y, .int .i64 h]] w fun e w' => e = .returned (.tuple #[.agg #[.int .i64 X, .int .i64 Y, .int .i64 ((h + 64 * (fq % 4)) % 256)], .int .i64 0]) ∧ Below w.heap.size w w' := by
  have HP := Lib.hid hp
  clear hp
  go_enter Try.func50, Try.ntmps50
  go_wp2_with fail
  refine (Point_any _ _ _ _ _ _).mono ?_
  rintro e w1 ⟨rfl, hb⟩
  rw [HP.out]
  obtain ⟨hcc, hff⟩ := bcell hb
  have hs := hb.size
  simp at hs
  have s0 : w.heap.size < w1.heap.size := by omega
  have s1 : w.heap.size + 1 < w1.heap.size := by omega
  have s2 : w.heap.size + 1 + 1 < w1.heap.size := by omega
  go_wp2_with fail
  go_region_held3 (fun w' => w'.cell? ⟨w1.heap.size, 0, none⟩ = some (.int .i64 X) ∧ w'.cell? ⟨w1.heap.size, 1, none⟩ = some (.int .i64 Y) ∧ w'.cell? ⟨w.heap.size, 0, none⟩ = some (.int .i64 fq) ∧ w'.cell? ⟨w.heap.size, 1, none⟩ = some (.int .i64 fx) ∧ w'.cell? ⟨w.heap.size, 2, none⟩ = some (.int .i64 fy) ∧ w'.cell? ⟨w.heap.size + 1, 2, none⟩ = some (.int .i64 h)) (simp [go_sem, World.cell?_alloc_past, hcc, s0, s1])
    (first
      | (go_at_call 89; refine (heading_any _ _ _ _ _ h1 h2).mono ?_; rintro e w' ⟨rfl, rfl⟩))
  go_wp2
  refine bodyPost_ret (v := .tuple #[.agg #[.int .i64 X, .int .i64 Y, .int .i64 ((h + 64 * (fq % 4)) % 256)], .int .i64 0]) (by simp [results, Try.results50, go_sem, World.cell?_alloc_past, hcc, s1, s2]) rfl ⟨rfl, ?_⟩
  repeat (first | with_reducible assumption | with_reducible exact bw_refl _ | with_reducible refine bw_alloc ?_ _ | with_reducible refine bw_drew ?_ | with_reducible refine bw_drewN _ ?_ | refine bw_set ?_ (by simp; try omega) _ | refine bw_call (by with_reducible assumption) ?_)

theorem Pose_any (fq fx fy x y h : Int) (w : World) :
    Calls Try.prog 50 #[.agg #[.int .i64 fq, .int .i64 fx, .int .i64 fy], .agg #[.int .i64 x, .int .i64 y, .int .i64 h]] w fun e w' => e = .returned (PsV fq fx fy x y h) ∧ Below w.heap.size w w' := by
  by_cases hh : 0 ≤ h ∧ h < 256
  · cases h1 : (szB fx 8192 && szB fy 8192 && (szB x 1048576 && szB y 1048576))
    · have := Pose_err fq fx fy x y h 1 w hh.1 hh.2 (by omega) (by simp [PtV, h1])
      simpa [PsV, h1, hh] using this
    · cases h2 : (szB (tX (fq % 4) x y + 64 * fx) 1048576 && szB (tY (fq % 4) x y + 64 * fy) 1048576)
      · have := Pose_err fq fx fy x y h 2 w hh.1 hh.2 (by omega) (by simp [PtV, h1, h2])
        simpa [PsV, h1, h2, hh] using this
      · have := Pose_ok fq fx fy x y h _ _ w hh.1 hh.2 (show PtV fq fx fy x y = .tuple #[.agg #[.int .i64 (tX (fq % 4) x y + 64 * fx), .int .i64 (tY (fq % 4) x y + 64 * fy)], .int .i64 0] by simp [PtV, h1, h2])
        simpa [PsV, h1, h2, hh] using this
  · exact Pose_bad fq fx fy x y h w hh
end Go.Proofs.Ytdjimfngnhnhnaa
