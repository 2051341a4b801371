/- Contracts of package frame: Pose. -/
import Derived.Test.YtdjimfngnhnhnaaFr4
set_option linter.all false
namespace Go.Proofs.Ytdjimfngnhnhnaa
open Go.RowKit

def PsV (fq fx fy x y h : Int) : Value :=
  if 0 ≤ h ∧ h < 256 then
    if szB fx 8192 && szB fy 8192 && (szB x 1048576 && szB y 1048576) then
      if szB (tX (fq % 4) x y + 64 * fx) 1048576 && szB (tY (fq % 4) x y + 64 * fy) 1048576 then
        .tuple #[.agg #[.int .i64 (tX (fq % 4) x y + 64 * fx), .int .i64 (tY (fq % 4) x y + 64 * fy), .int .i64 ((h + 64 * (fq % 4)) % 256)], .int .i64 0]
      else .tuple #[.agg #[.int .i64 0, .int .i64 0, .int .i64 0], .int .i64 2]
    else .tuple #[.agg #[.int .i64 0, .int .i64 0, .int .i64 0], .int .i64 1]
  else .tuple #[.agg #[.int .i64 0, .int .i64 0, .int .i64 0], .int .i64 1]

set_option maxHeartbeats 1000000 in
theorem Pose_bad (fq fx fy x y h : Int) (w : World) (hh : ¬ (0 ≤ h ∧ h < 256)) :
    Calls Try.prog 50 #[.agg #[.int .i64 fq, .int .i64 fx, .int .i64 fy], .agg #[.int .i64 x, .int .i64 y, .int .i64 h]] w fun e w' => e = .returned (PsV fq fx fy x y h) ∧ Below w.heap.size w w' := by
  have HS := Lib.hid (show PsV fq fx fy x y h = .tuple #[.agg #[.int .i64 0, .int .i64 0, .int .i64 0], .int .i64 1] by simp [PsV, hh])
  by_cases h1 : h < 0
  · clear hh
    go_enter Try.func50, Try.ntmps50
    go_wp2
    refine bodyPost_ret (v := .tuple #[.agg #[.int .i64 0, .int .i64 0, .int .i64 0], .int .i64 1]) (by simp [results, Try.results50, go_sem]) rfl ⟨by rw [HS.out], ?_⟩
    repeat (first | with_reducible assumption | with_reducible exact bw_refl _ | with_reducible refine bw_alloc ?_ _ | with_reducible refine bw_drew ?_ | with_reducible refine bw_drewN _ ?_ | refine bw_set ?_ (by simp; try omega) _ | refine bw_call (by with_reducible assumption) ?_)
  · have h2 : 256 ≤ h := by omega
    clear hh
    go_enter Try.func50, Try.ntmps50
    go_wp2
    refine bodyPost_ret (v := .tuple #[.agg #[.int .i64 0, .int .i64 0, .int .i64 0], .int .i64 1]) (by simp [results, Try.results50, go_sem]) rfl ⟨by rw [HS.out], ?_⟩
    repeat (first | with_reducible assumption | with_reducible exact bw_refl _ | with_reducible refine bw_alloc ?_ _ | with_reducible refine bw_drew ?_ | with_reducible refine bw_drewN _ ?_ | refine bw_set ?_ (by simp; try omega) _ | refine bw_call (by with_reducible assumption) ?_)

set_option maxHeartbeats 1000000 in
theorem Pose_err (fq fx fy x y h c : Int) (w : World) (h1 : 0 ≤ h) (h2 : h < 256) (hc : 1 ≤ c) (hp : PtV fq fx fy x y = .tuple #[.agg #[.int .i64 0, .int .i64 0], .int .i64 c]) :
    Calls Try.prog 50 #[.agg #[.int .i64 fq, .int .i64 fx, .int .i64 fy], .agg #[.int .i64 x, .int .i64 y, .int .i64 h]] w fun e w' => e = .returned (.tuple #[.agg #[.int .i64 0, .int .i64 0, .int .i64 0], .int .i64 c]) ∧ Below w.heap.size w w' := by
  have HP := Lib.hid hp
  clear hp
  go_enter Try.func50, Try.ntmps50
  go_wp2_with fail
  refine (Point_any _ _ _ _ _ _).mono ?_
  rintro e w1 ⟨rfl, hb⟩
  rw [HP.out]
  obtain ⟨hcc, hff⟩ := bcell hb
  have hs := hb.size
  simp at hs
  have s0 : w.heap.size < w1.heap.size := by omega
  have s1 : w.heap.size + 1 < w1.heap.size := by omega
  have s2 : w.heap.size + 1 + 1 < w1.heap.size := by omega
  go_wp2_with fail
  refine bodyPost_ret (v := .tuple #[.agg #[.int .i64 0, .int .i64 0, .int .i64 0], .int .i64 c]) (by simp [results, Try.results50, go_sem, hcc, s2]) rfl ⟨rfl, ?_⟩
  repeat (first | with_reducible assumption | with_reducible exact bw_refl _ | with_reducible refine bw_alloc ?_ _ | with_reducible refine bw_drew ?_ | with_reducible refine bw_drewN _ ?_ | refine bw_set ?_ (by simp; try omega) _ | refine bw_call (by with_reducible assumption) ?_)

set_option maxHeartbeats 1000000 in
theorem Pose_ok (fq fx fy x y h X Y : Int) (w : World) (h1 : 0 ≤ h) (h2 : h < 256) (hp : PtV fq fx fy x y = .tuple #[.agg #[.int .i64 X, .int .i64 Y], .int .i64 0]) :
    Calls Try.prog 50 #[.agg #[.int .i64 fq, .int .i64 fx, .int .i64 fy], .agg #[.int .i64 x, .int .i64 y, .int .i64 h]] w fun e w' => e = .returned (.tuple #[.agg #[.int .i64 X, .int .i64 Y, .int .i64 ((h + 64 * (fq % 4)) % 256)], .int .i64 0]) ∧ Below w.heap.size w w' := by
  have HP := Lib.hid hp
  clear hp
  go_enter Try.func50, Try.ntmps50
  go_wp2_with fail
  refine (Point_any _ _ _ _ _ _).mono ?_
  rintro e w1 ⟨rfl, hb⟩
  rw [HP.out]
  obtain ⟨hcc, hff⟩ := bcell hb
  have hs := hb.size
  simp at hs
  have s0 : w.heap.size < w1.heap.size := by omega
  have s1 : w.heap.size + 1 < w1.heap.size := by omega
  have s2 : w.heap.size + 1 + 1 < w1.heap.size := by omega
  go_wp2_with fail
  go_region_held3 (fun w' => w'.cell? ⟨w1.heap.size, 0, none⟩ = some (.int .i64 X) ∧ w'.cell? ⟨w1.heap.size, 1, none⟩ = some (.int .i64 Y) ∧ w'.cell? ⟨w.heap.size, 0, none⟩ = some (.int .i64 fq) ∧ w'.cell? ⟨w.heap.size, 1, none⟩ = some (.int .i64 fx) ∧ w'.cell? ⟨w.heap.size, 2, none⟩ = some (.int .i64 fy) ∧ w'.cell? ⟨w.heap.size + 1, 2, none⟩ = some (.int .i64 h)) (simp [go_sem, World.cell?_alloc_past, hcc, s0, s1])
    (first
      | (go_at_call 89; refine (heading_any _ _ _ _ _ h1 h2).mono ?_; rintro e w' ⟨rfl, rfl⟩))
  go_wp2
  refine bodyPost_ret (v := .tuple #[.agg #[.int .i64 X, .int .i64 Y, .int .i64 ((h + 64 * (fq % 4)) % 256)], .int .i64 0]) (by simp [results, Try.results50, go_sem, World.cell?_alloc_past, hcc, s1, s2]) rfl ⟨rfl, ?_⟩
  repeat (first | with_reducible assumption | with_reducible exact bw_refl _ | with_reducible refine bw_alloc ?_ _ | with_reducible refine bw_drew ?_ | with_reducible refine bw_drewN _ ?_ | refine bw_set ?_ (by simp; try omega) _ | refine bw_call (by with_reducible assumption) ?_)

theorem Pose_any (fq fx fy x y h : Int) (w : World) :
    Calls Try.prog 50 #[.agg #[.int .i64 fq, .int .i64 fx, .int .i64 fy], .agg #[.int .i64 x, .int .i64 y, .int .i64 h]] w fun e w' => e = .returned (PsV fq fx fy x y h) ∧ Below w.heap.size w w' := by
  by_cases hh : 0 ≤ h ∧ h < 256
  · cases h1 : (szB fx 8192 && szB fy 8192 && (szB x 1048576 && szB y 1048576))
    · have := Pose_err fq fx fy x y h 1 w hh.1 hh.2 (by omega) (by simp [PtV, h1])
      simpa [PsV, h1, hh] using this
    · cases h2 : (szB (tX (fq % 4) x y + 64 * fx) 1048576 && szB (tY (fq % 4) x y + 64 * fy) 1048576)
      · have := Pose_err fq fx fy x y h 2 w hh.1 hh.2 (by omega) (by simp [PtV, h1, h2])
        simpa [PsV, h1, h2, hh] using this
      · have := Pose_ok fq fx fy x y h _ _ w hh.1 hh.2 (show PtV fq fx fy x y = .tuple #[.agg #[.int .i64 (tX (fq % 4) x y + 64 * fx), .int .i64 (tY (fq % 4) x y + 64 * fy)], .int .i64 0] by simp [PtV, h1, h2])
        simpa [PsV, h1, h2, hh] using this
  · exact Pose_bad fq fx fy x y h w hh
end Go.Proofs.Ytdjimfngnhnhnaa
