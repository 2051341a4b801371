/- Contracts of the reference of layer 33: Inverse, Point, Pose. -/
import Derived.Test.YtkacggfadalbiaaRr1
set_option linter.all false
namespace Go.Proofs.Ytkacggfadalbiaa
open Go.RowKit

theorem tX_neg (q x y : Int) : tX q (-x) (-y) = -(tX q x y) := by unfold tX; split <;> (try split) <;> (try split) <;> omega
theorem tY_neg (q x y : Int) : tY q (-x) (-y) = -(tY q x y) := by unfold tY; split <;> (try split) <;> (try split) <;> omega
theorem neg4 (q : Int) : -(q % 4) % 4 = -q % 4 := by omega

set_option maxHeartbeats 1000000 in
theorem rInverse_any (fq fx fy : Int) (w : World) :
    Calls Try.prog 21 #[.agg #[.int .i64 fq, .int .i64 fx, .int .i64 fy]] w fun e w' => e = .returned (InvV fq fx fy) ∧ Below w.heap.size w w' := by
  have hn := neg4
  cases hf : (szB fx 8192 && szB fy 8192)
  · have HS := Lib.hid (show InvV fq fx fy = .tuple #[.agg #[.int .i64 0, .int .i64 0, .int .i64 0], .int .i64 1] by simp [InvV, hf])
    go_enter Try.func21, Try.ntmps21
    go_wp2_with (go_at_call 26; refine (rvalid_any _ _ _ _).mono ?_; rintro e w1 ⟨rfl, rfl⟩)
    refine bodyPost_ret (v := .tuple #[.agg #[.int .i64 0, .int .i64 0, .int .i64 0], .int .i64 1]) (by simp [results, Try.results21, go_sem]) rfl ⟨by rw [HS.out], ?_⟩
    repeat (first | with_reducible assumption | with_reducible exact bw_refl _ | with_reducible refine bw_alloc ?_ _ | with_reducible refine bw_drew ?_ | with_reducible refine bw_drewN _ ?_ | refine bw_set ?_ (by simp; try omega) _ | refine bw_call (by with_reducible assumption) ?_)
  · have HS := Lib.hid (show InvV fq fx fy = .tuple #[.agg #[.int .i64 ((-fq) % 4), .int .i64 (-(tX ((-fq) % 4) fx fy)), .int .i64 (-(tY ((-fq) % 4) fx fy))], .int .i64 0] by simp [InvV, hf, tX_neg, tY_neg])
    obtain ⟨f1, f2, f3, f4⟩ := szB2_of hf
    obtain ⟨b1, b2⟩ := tX_bd (-fq % 4) fx fy 8192 f1 f2 f3 f4
    obtain ⟨b3, b4⟩ := tY_bd (-fq % 4) fx fy 8192 f1 f2 f3 f4
    go_enter Try.func21, Try.ntmps21
    go_wp2_with (first | (go_at_call 26; refine (rvalid_any _ _ _ _).mono ?_; rintro e w1 ⟨rfl, rfl⟩) | (go_at_call 36; refine (mod_any _ _ _ (by omega) (by omega)).mono ?_; rintro e w1 ⟨rfl, rfl⟩) | (go_at_call 50; refine (rturn_any _ _ _ _ (by omega) (by omega) (by omega) (by omega)).mono ?_; rintro e w1 ⟨rfl, rfl⟩))
    refine bodyPost_ret (v := .tuple #[.agg #[.int .i64 ((-fq) % 4), .int .i64 (-(tX ((-fq) % 4) fx fy)), .int .i64 (-(tY ((-fq) % 4) fx fy))], .int .i64 0]) (by simp [results, Try.results21, go_sem]) rfl ⟨by rw [HS.out], ?_⟩
    repeat (first | with_reducible assumption | with_reducible exact bw_refl _ | with_reducible refine bw_alloc ?_ _ | with_reducible refine bw_drew ?_ | with_reducible refine bw_drewN _ ?_ | refine bw_set ?_ (by simp; try omega) _ | refine bw_call (by with_reducible assumption) ?_)

set_option maxHeartbeats 1000000 in
theorem rPoint_any (fq fx fy x y : Int) (w : World) :
    Calls Try.prog 22 #[.agg #[.int .i64 fq, .int .i64 fx, .int .i64 fy], .agg #[.int .i64 x, .int .i64 y]] w fun e w' => e = .returned (PtV fq fx fy x y) ∧ Below w.heap.size w w' := by
  cases hf : (szB fx 8192 && szB fy 8192)
  · have HS := Lib.hid (show PtV fq fx fy x y = .tuple #[.agg #[.int .i64 0, .int .i64 0], .int .i64 1] by simp [PtV, hf])
    go_enter Try.func22, Try.ntmps22
    go_wp2_with (first | (go_at_call 26; refine (rvalid_any _ _ _ _).mono ?_; rintro e w1 ⟨rfl, rfl⟩) | (go_at_call 51; refine (bpoint_any _ _ _).mono ?_; rintro e w1 ⟨rfl, rfl⟩) | (go_at_call 50; refine (rturn_any _ _ _ _ (by omega) (by omega) (by omega) (by omega)).mono ?_; rintro e w1 ⟨rfl, rfl⟩))
    refine bodyPost_ret (v := .tuple #[.agg #[.int .i64 0, .int .i64 0], .int .i64 1]) (by simp [results, Try.results22, go_sem]) rfl ⟨by rw [HS.out], ?_⟩
    repeat (first | with_reducible assumption | with_reducible exact bw_refl _ | with_reducible refine bw_alloc ?_ _ | with_reducible refine bw_drew ?_ | with_reducible refine bw_drewN _ ?_ | refine bw_set ?_ (by simp; try omega) _ | refine bw_call (by with_reducible assumption) ?_)
  · cases hg : (szB x 1048576 && szB y 1048576)
    · have HS := Lib.hid (show PtV fq fx fy x y = .tuple #[.agg #[.int .i64 0, .int .i64 0], .int .i64 1] by simp [PtV, hg])
      go_enter Try.func22, Try.ntmps22
      go_wp2_with (first | (go_at_call 26; refine (rvalid_any _ _ _ _).mono ?_; rintro e w1 ⟨rfl, rfl⟩) | (go_at_call 51; refine (bpoint_any _ _ _).mono ?_; rintro e w1 ⟨rfl, rfl⟩) | (go_at_call 50; refine (rturn_any _ _ _ _ (by omega) (by omega) (by omega) (by omega)).mono ?_; rintro e w1 ⟨rfl, rfl⟩))
      refine bodyPost_ret (v := .tuple #[.agg #[.int .i64 0, .int .i64 0], .int .i64 1]) (by simp [results, Try.results22, go_sem]) rfl ⟨by rw [HS.out], ?_⟩
      repeat (first | with_reducible assumption | with_reducible exact bw_refl _ | with_reducible refine bw_alloc ?_ _ | with_reducible refine bw_drew ?_ | with_reducible refine bw_drewN _ ?_ | refine bw_set ?_ (by simp; try omega) _ | refine bw_call (by with_reducible assumption) ?_)
    · obtain ⟨f1, f2, f3, f4⟩ := szB2_of hf
      obtain ⟨g1, g2, g3, g4⟩ := szB2_of hg
      obtain ⟨b1, b2⟩ := tX_bd (fq % 4) x y 1048576 g1 g2 g3 g4
      obtain ⟨b3, b4⟩ := tY_bd (fq % 4) x y 1048576 g1 g2 g3 g4
      cases hh : (szB (tX (fq % 4) x y + 64 * fx) 1048576 && szB (tY (fq % 4) x y + 64 * fy) 1048576)
      · have HS := Lib.hid (show PtV fq fx fy x y = .tuple #[.agg #[.int .i64 0, .int .i64 0], .int .i64 2] by simp [PtV, hf, hg, hh])
        go_enter Try.func22, Try.ntmps22
        go_wp2_with (first | (go_at_call 26; refine (rvalid_any _ _ _ _).mono ?_; rintro e w1 ⟨rfl, rfl⟩) | (go_at_call 51; refine (bpoint_any _ _ _).mono ?_; rintro e w1 ⟨rfl, rfl⟩) | (go_at_call 50; refine (rturn_any _ _ _ _ (by omega) (by omega) (by omega) (by omega)).mono ?_; rintro e w1 ⟨rfl, rfl⟩))
        refine bodyPost_ret (v := .tuple #[.agg #[.int .i64 0, .int .i64 0], .int .i64 2]) (by simp [results, Try.results22, go_sem]) rfl ⟨by rw [HS.out], ?_⟩
        repeat (first | with_reducible assumption | with_reducible exact bw_refl _ | with_reducible refine bw_alloc ?_ _ | with_reducible refine bw_drew ?_ | with_reducible refine bw_drewN _ ?_ | refine bw_set ?_ (by simp; try omega) _ | refine bw_call (by with_reducible assumption) ?_)
      · have HS := Lib.hid (show PtV fq fx fy x y = .tuple #[.agg #[.int .i64 (tX (fq % 4) x y + 64 * fx), .int .i64 (tY (fq % 4) x y + 64 * fy)], .int .i64 0] by simp [PtV, hf, hg, hh])
        go_enter Try.func22, Try.ntmps22
        go_wp2_with (first | (go_at_call 26; refine (rvalid_any _ _ _ _).mono ?_; rintro e w1 ⟨rfl, rfl⟩) | (go_at_call 51; refine (bpoint_any _ _ _).mono ?_; rintro e w1 ⟨rfl, rfl⟩) | (go_at_call 50; refine (rturn_any _ _ _ _ (by omega) (by omega) (by omega) (by omega)).mono ?_; rintro e w1 ⟨rfl, rfl⟩))
        refine bodyPost_ret (v := .tuple #[.agg #[.int .i64 (tX (fq % 4) x y + 64 * fx), .int .i64 (tY (fq % 4) x y + 64 * fy)], .int .i64 0]) (by simp [results, Try.results22, go_sem]) rfl ⟨by rw [HS.out], ?_⟩
        repeat (first | with_reducible assumption | with_reducible exact bw_refl _ | with_reducible refine bw_alloc ?_ _ | with_reducible refine bw_drew ?_ | with_reducible refine bw_drewN _ ?_ | refine bw_set ?_ (by simp; try omega) _ | refine bw_call (by with_reducible assumption) ?_)

set_option maxHeartbeats 1000000 in
theorem rPose_bad (fq fx fy x y h : Int) (w : World) (hbad : (szB fx 8192 && szB fy 8192 && psB x y h) = false) :
    Calls Try.prog 24 #[.agg #[.int .i64 fq, .int .i64 fx, .int .i64 fy], .agg #[.int .i64 x, .int .i64 y, .int .i64 h]] w fun e w' => e = .returned (.tuple #[.agg #[.int .i64 0, .int .i64 0, .int .i64 0], .int .i64 1]) ∧ Below w.heap.size w w' := by
  cases hf : (szB fx 8192 && szB fy 8192)
  · clear hbad
    go_enter Try.func24, Try.ntmps24
    go_wp2_with (first | (go_at_call 26; refine (rvalid_any _ _ _ _).mono ?_; rintro e w1 ⟨rfl, rfl⟩) | (go_at_call 53; refine (bpose_any _ _ _ _).mono ?_; rintro e w1 ⟨rfl, rfl⟩))
    refine bodyPost_ret (v := .tuple #[.agg #[.int .i64 0, .int .i64 0, .int .i64 0], .int .i64 1]) (by simp [results, Try.results24, go_sem]) rfl ⟨rfl, ?_⟩
    repeat (first | with_reducible assumption | with_reducible exact bw_refl _ | with_reducible refine bw_alloc ?_ _ | with_reducible refine bw_drew ?_ | with_reducible refine bw_drewN _ ?_ | refine bw_set ?_ (by simp; try omega) _ | refine bw_call (by with_reducible assumption) ?_)
  · have hp : psB x y h = false := by rw [hf] at hbad; simpa using hbad
    clear hbad
    go_enter Try.func24, Try.ntmps24
    go_wp2_with (first | (go_at_call 26; refine (rvalid_any _ _ _ _).mono ?_; rintro e w1 ⟨rfl, rfl⟩) | (go_at_call 53; refine (bpose_any _ _ _ _).mono ?_; rintro e w1 ⟨rfl, rfl⟩))
    refine bodyPost_ret (v := .tuple #[.agg #[.int .i64 0, .int .i64 0, .int .i64 0], .int .i64 1]) (by simp [results, Try.results24, go_sem]) rfl ⟨rfl, ?_⟩
    repeat (first | with_reducible assumption | with_reducible exact bw_refl _ | with_reducible refine bw_alloc ?_ _ | with_reducible refine bw_drew ?_ | with_reducible refine bw_drewN _ ?_ | refine bw_set ?_ (by simp; try omega) _ | refine bw_call (by with_reducible assumption) ?_)

set_option maxHeartbeats 1000000 in
theorem rPose_err (fq fx fy x y h c : Int) (w : World) (hf : (szB fx 8192 && szB fy 8192) = true) (hps : psB x y h = true) (hc : 1 ≤ c) (hp : PtV fq fx fy x y = .tuple #[.agg #[.int .i64 0, .int .i64 0], .int .i64 c]) :
    Calls Try.prog 24 #[.agg #[.int .i64 fq, .int .i64 fx, .int .i64 fy], .agg #[.int .i64 x, .int .i64 y, .int .i64 h]] w fun e w' => e = .returned (.tuple #[.agg #[.int .i64 0, .int .i64 0, .int .i64 0], .int .i64 c]) ∧ Below w.heap.size w w' := by
  have HP := Lib.hid hp
  clear hp
  go_enter Try.func24, Try.ntmps24
  go_wp2_with (first | (go_at_call 26; refine (rvalid_any _ _ _ _).mono ?_; rintro e w1 ⟨rfl, rfl⟩) | (go_at_call 53; refine (bpose_any _ _ _ _).mono ?_; rintro e w1 ⟨rfl, rfl⟩))
  refine (rPoint_any _ _ _ _ _ _).mono ?_
  rintro e w1 ⟨rfl, hb⟩
  rw [HP.out]
  obtain ⟨hcc, hff⟩ := bcell hb
  have hs := hb.size
  simp at hs
  have s0 : w.heap.size < w1.heap.size := by omega
  have s1 : w.heap.size + 1 < w1.heap.size := by omega
  have s2 : w.heap.size + 1 + 1 < w1.heap.size := by omega
  go_wp2_with fail
  refine bodyPost_ret (v := .tuple #[.agg #[.int .i64 0, .int .i64 0, .int .i64 0], .int .i64 c]) (by simp [results, Try.results24, go_sem, hcc, s2]) rfl ⟨rfl, ?_⟩
  repeat (first | with_reducible assumption | with_reducible exact bw_refl _ | with_reducible refine bw_alloc ?_ _ | with_reducible refine bw_drew ?_ | with_reducible refine bw_drewN _ ?_ | refine bw_set ?_ (by simp; try omega) _ | refine bw_call (by with_reducible assumption) ?_)

set_option maxRecDepth 100000 in
set_option maxHeartbeats 1000000 in
theorem rPose_ok (fq fx fy x y h X Y : Int) (w : World) (hf : (szB fx 8192 && szB fy 8192) = true) (hps : psB x y h = true) (h1 : 0 ≤ h) (h2 : h < 256) (hp : PtV fq fx fy x y = .tuple #[.agg #[.int .i64 X, .int .i64 Y], .int .i64 0]) :
    Calls Try.prog 24 #[.agg #[.int .i64 fq, .int .i64 fx, .int .i64 fy], .agg #[.int .i64 x, .int .i64 y, .int .i64 h]] w fun e w' => e = .returned (.tuple #[.agg #[.int .i64 X, .int .i64 Y, .int .i64 ((h + 64 * (fq % 4)) % 256)], .int .i64 0]) ∧ Below w.heap.size w w' := by
  have HP := Lib.hid hp
  clear hp
  go_enter Try.func24, Try.ntmps24
  go_wp2_with (first | (go_at_call 26; refine (rvalid_any _ _ _ _).mono ?_; rintro e w1 ⟨rfl, rfl⟩) | (go_at_call 53; refine (bpose_any _ _ _ _).mono ?_; rintro e w1 ⟨rfl, rfl⟩))
  refine (rPoint_any _ _ _ _ _ _).mono ?_
  rintro e w1 ⟨rfl, hb⟩
  rw [HP.out]
  have hbw1 : Below w.heap.size w w1 := by repeat (first | with_reducible assumption | with_reducible exact bw_refl _ | with_reducible refine bw_alloc ?_ _ | with_reducible refine bw_drew ?_ | with_reducible refine bw_drewN _ ?_ | refine bw_set ?_ (by simp; try omega) _ | refine bw_call (by with_reducible assumption) ?_)
  have a0 : Bk w1 w.heap.size 23 #[.int .i64 fq, .int .i64 fx, .int .i64 fy] := Bk.call (by repeat (first | with_reducible assumption | with_reducible refine Bk.drew ?_ | with_reducible refine Bk.drewN ?_ _ | with_reducible exact Bk.new _ _ _ | with_reducible exact Bk.new1 _ _ _ _ | with_reducible exact Bk.new2 _ _ _ _ _ | with_reducible exact Bk.new3 _ _ _ _ _ _ | with_reducible refine Bk.alloc ?_ _ | with_reducible exact Bk.set6 (by repeat (first | with_reducible assumption | ((with_reducible refine Bk.far' ?_ ?_); (focus (first | (simp; done) | (simp; omega)))) | with_reducible refine Bk.drew ?_ | with_reducible refine Bk.alloc ?_ _)) _ _ _ _ _ _ | with_reducible exact Bk.set3 (by repeat (first | with_reducible assumption | ((with_reducible refine Bk.far' ?_ ?_); (focus (first | (simp; done) | (simp; omega)))) | with_reducible refine Bk.drew ?_ | with_reducible refine Bk.alloc ?_ _)) _ _ _ | with_reducible exact Bk.set2 (by repeat (first | with_reducible assumption | ((with_reducible refine Bk.far' ?_ ?_); (focus (first | (simp; done) | (simp; omega)))) | with_reducible refine Bk.drew ?_ | with_reducible refine Bk.alloc ?_ _)) _ _ | ((with_reducible refine Bk.far' ?_ ?_); (focus (first | (simp; done) | (simp; omega)))))) hb
  have a1 : Bk w1 (w.heap.size + 1) 42 #[.int .i64 x, .int .i64 y, .int .i64 h] := Bk.call (by repeat (first | with_reducible assumption | with_reducible refine Bk.drew ?_ | with_reducible refine Bk.drewN ?_ _ | with_reducible exact Bk.new _ _ _ | with_reducible exact Bk.new1 _ _ _ _ | with_reducible exact Bk.new2 _ _ _ _ _ | with_reducible exact Bk.new3 _ _ _ _ _ _ | with_reducible refine Bk.alloc ?_ _ | with_reducible exact Bk.set6 (by repeat (first | with_reducible assumption | ((with_reducible refine Bk.far' ?_ ?_); (focus (first | (simp; done) | (simp; omega)))) | with_reducible refine Bk.drew ?_ | with_reducible refine Bk.alloc ?_ _)) _ _ _ _ _ _ | with_reducible exact Bk.set3 (by repeat (first | with_reducible assumption | ((with_reducible refine Bk.far' ?_ ?_); (focus (first | (simp; done) | (simp; omega)))) | with_reducible refine Bk.drew ?_ | with_reducible refine Bk.alloc ?_ _)) _ _ _ | with_reducible exact Bk.set2 (by repeat (first | with_reducible assumption | ((with_reducible refine Bk.far' ?_ ?_); (focus (first | (simp; done) | (simp; omega)))) | with_reducible refine Bk.drew ?_ | with_reducible refine Bk.alloc ?_ _)) _ _ | ((with_reducible refine Bk.far' ?_ ?_); (focus (first | (simp; done) | (simp; omega)))))) hb
  have a2 : Bk w1 (w.heap.size + 1 + 1) 42 #[.int .i64 0, .int .i64 0, .int .i64 0] := Bk.call (by repeat (first | with_reducible assumption | with_reducible refine Bk.drew ?_ | with_reducible refine Bk.drewN ?_ _ | with_reducible exact Bk.new _ _ _ | with_reducible exact Bk.new1 _ _ _ _ | with_reducible exact Bk.new2 _ _ _ _ _ | with_reducible exact Bk.new3 _ _ _ _ _ _ | with_reducible refine Bk.alloc ?_ _ | with_reducible exact Bk.set6 (by repeat (first | with_reducible assumption | ((with_reducible refine Bk.far' ?_ ?_); (focus (first | (simp; done) | (simp; omega)))) | with_reducible refine Bk.drew ?_ | with_reducible refine Bk.alloc ?_ _)) _ _ _ _ _ _ | with_reducible exact Bk.set3 (by repeat (first | with_reducible assumption | ((with_reducible refine Bk.far' ?_ ?_); (focus (first | (simp; done) | (simp; omega)))) | with_reducible refine Bk.drew ?_ | with_reducible refine Bk.alloc ?_ _)) _ _ _ | with_reducible exact Bk.set2 (by repeat (first | with_reducible assumption | ((with_reducible refine Bk.far' ?_ ?_); (focus (first | (simp; done) | (simp; omega)))) | with_reducible refine Bk.drew ?_ | with_reducible refine Bk.alloc ?_ _)) _ _ | ((with_reducible refine Bk.far' ?_ ?_); (focus (first | (simp; done) | (simp; omega)))))) hb
  clear hb
  have a0_0 : w1.cell? ⟨w.heap.size, 0, none⟩ = some (.int .i64 fq) := a0.cell 0
  have a0_1 : w1.cell? ⟨w.heap.size, 1, none⟩ = some (.int .i64 fx) := a0.cell 1
  have a0_2 : w1.cell? ⟨w.heap.size, 2, none⟩ = some (.int .i64 fy) := a0.cell 2
  have a0_f := a0.frozen
  have a0_l := a0.lt
  have a1_0 : w1.cell? ⟨w.heap.size + 1, 0, none⟩ = some (.int .i64 x) := a1.cell 0
  have a1_1 : w1.cell? ⟨w.heap.size + 1, 1, none⟩ = some (.int .i64 y) := a1.cell 1
  have a1_2 : w1.cell? ⟨w.heap.size + 1, 2, none⟩ = some (.int .i64 h) := a1.cell 2
  have a1_f := a1.frozen
  have a1_l := a1.lt
  have a2_0 : w1.cell? ⟨w.heap.size + 1 + 1, 0, none⟩ = some (.int .i64 0) := a2.cell 0
  have a2_1 : w1.cell? ⟨w.heap.size + 1 + 1, 1, none⟩ = some (.int .i64 0) := a2.cell 1
  have a2_2 : w1.cell? ⟨w.heap.size + 1 + 1, 2, none⟩ = some (.int .i64 0) := a2.cell 2
  have a2_f := a2.frozen
  have a2_l := a2.lt
  go_wp2_with fail
  refine abs_world (fun W2 => Below w.heap.size w W2 ∧ Bk W2 (w.heap.size) 23 #[.int .i64 fq, .int .i64 fx, .int .i64 fy] ∧ Bk W2 (w.heap.size + 1) 42 #[.int .i64 x, .int .i64 y, .int .i64 h] ∧ Bk W2 (w.heap.size + 1 + 1) 42 #[.int .i64 0, .int .i64 0, .int .i64 0] ∧ Bk W2 (w1.heap.size) 26 #[.int .i64 X, .int .i64 Y]) ⟨by repeat (first | with_reducible assumption | with_reducible exact bw_refl _ | with_reducible refine bw_alloc ?_ _ | with_reducible refine bw_drew ?_ | with_reducible refine bw_drewN _ ?_ | refine bw_set ?_ (by simp; try omega) _ | refine bw_call (by with_reducible assumption) ?_), by repeat (first | with_reducible assumption | with_reducible refine Bk.drew ?_ | with_reducible refine Bk.drewN ?_ _ | with_reducible exact Bk.new _ _ _ | with_reducible exact Bk.new1 _ _ _ _ | with_reducible exact Bk.new2 _ _ _ _ _ | with_reducible exact Bk.new3 _ _ _ _ _ _ | with_reducible refine Bk.alloc ?_ _ | with_reducible exact Bk.set6 (by repeat (first | with_reducible assumption | ((with_reducible refine Bk.far' ?_ ?_); (focus (first | (simp; done) | (simp; omega)))) | with_reducible refine Bk.drew ?_ | with_reducible refine Bk.alloc ?_ _)) _ _ _ _ _ _ | with_reducible exact Bk.set3 (by repeat (first | with_reducible assumption | ((with_reducible refine Bk.far' ?_ ?_); (focus (first | (simp; done) | (simp; omega)))) | with_reducible refine Bk.drew ?_ | with_reducible refine Bk.alloc ?_ _)) _ _ _ | with_reducible exact Bk.set2 (by repeat (first | with_reducible assumption | ((with_reducible refine Bk.far' ?_ ?_); (focus (first | (simp; done) | (simp; omega)))) | with_reducible refine Bk.drew ?_ | with_reducible refine Bk.alloc ?_ _)) _ _ | ((with_reducible refine Bk.far' ?_ ?_); (focus (first | (simp; done) | (simp; omega))))), by repeat (first | with_reducible assumption | with_reducible refine Bk.drew ?_ | with_reducible refine Bk.drewN ?_ _ | with_reducible exact Bk.new _ _ _ | with_reducible exact Bk.new1 _ _ _ _ | with_reducible exact Bk.new2 _ _ _ _ _ | with_reducible exact Bk.new3 _ _ _ _ _ _ | with_reducible refine Bk.alloc ?_ _ | with_reducible exact Bk.set6 (by repeat (first | with_reducible assumption | ((with_reducible refine Bk.far' ?_ ?_); (focus (first | (simp; done) | (simp; omega)))) | with_reducible refine Bk.drew ?_ | with_reducible refine Bk.alloc ?_ _)) _ _ _ _ _ _ | with_reducible exact Bk.set3 (by repeat (first | with_reducible assumption | ((with_reducible refine Bk.far' ?_ ?_); (focus (first | (simp; done) | (simp; omega)))) | with_reducible refine Bk.drew ?_ | with_reducible refine Bk.alloc ?_ _)) _ _ _ | with_reducible exact Bk.set2 (by repeat (first | with_reducible assumption | ((with_reducible refine Bk.far' ?_ ?_); (focus (first | (simp; done) | (simp; omega)))) | with_reducible refine Bk.drew ?_ | with_reducible refine Bk.alloc ?_ _)) _ _ | ((with_reducible refine Bk.far' ?_ ?_); (focus (first | (simp; done) | (simp; omega))))), by repeat (first | with_reducible assumption | with_reducible refine Bk.drew ?_ | with_reducible refine Bk.drewN ?_ _ | with_reducible exact Bk.new _ _ _ | with_reducible exact Bk.new1 _ _ _ _ | with_reducible exact Bk.new2 _ _ _ _ _ | with_reducible exact Bk.new3 _ _ _ _ _ _ | with_reducible refine Bk.alloc ?_ _ | with_reducible exact Bk.set6 (by repeat (first | with_reducible assumption | ((with_reducible refine Bk.far' ?_ ?_); (focus (first | (simp; done) | (simp; omega)))) | with_reducible refine Bk.drew ?_ | with_reducible refine Bk.alloc ?_ _)) _ _ _ _ _ _ | with_reducible exact Bk.set3 (by repeat (first | with_reducible assumption | ((with_reducible refine Bk.far' ?_ ?_); (focus (first | (simp; done) | (simp; omega)))) | with_reducible refine Bk.drew ?_ | with_reducible refine Bk.alloc ?_ _)) _ _ _ | with_reducible exact Bk.set2 (by repeat (first | with_reducible assumption | ((with_reducible refine Bk.far' ?_ ?_); (focus (first | (simp; done) | (simp; omega)))) | with_reducible refine Bk.drew ?_ | with_reducible refine Bk.alloc ?_ _)) _ _ | ((with_reducible refine Bk.far' ?_ ?_); (focus (first | (simp; done) | (simp; omega))))), by repeat (first | with_reducible assumption | with_reducible refine Bk.drew ?_ | with_reducible refine Bk.drewN ?_ _ | with_reducible exact Bk.new _ _ _ | with_reducible exact Bk.new1 _ _ _ _ | with_reducible exact Bk.new2 _ _ _ _ _ | with_reducible exact Bk.new3 _ _ _ _ _ _ | with_reducible refine Bk.alloc ?_ _ | with_reducible exact Bk.set6 (by repeat (first | with_reducible assumption | ((with_reducible refine Bk.far' ?_ ?_); (focus (first | (simp; done) | (simp; omega)))) | with_reducible refine Bk.drew ?_ | with_reducible refine Bk.alloc ?_ _)) _ _ _ _ _ _ | with_reducible exact Bk.set3 (by repeat (first | with_reducible assumption | ((with_reducible refine Bk.far' ?_ ?_); (focus (first | (simp; done) | (simp; omega)))) | with_reducible refine Bk.drew ?_ | with_reducible refine Bk.alloc ?_ _)) _ _ _ | with_reducible exact Bk.set2 (by repeat (first | with_reducible assumption | ((with_reducible refine Bk.far' ?_ ?_); (focus (first | (simp; done) | (simp; omega)))) | with_reducible refine Bk.drew ?_ | with_reducible refine Bk.alloc ?_ _)) _ _ | ((with_reducible refine Bk.far' ?_ ?_); (focus (first | (simp; done) | (simp; omega)))))⟩ ?_
  clear a0 a0_0 a0_1 a0_2 a0_f a0_l a1 a1_0 a1_1 a1_2 a1_f a1_l a2 a2_0 a2_1 a2_2 a2_f a2_l
  rintro W2 ⟨hbW2, b0, b1, b2, b3⟩
  have b0_0 : W2.cell? ⟨w.heap.size, 0, none⟩ = some (.int .i64 fq) := b0.cell 0
  have b0_1 : W2.cell? ⟨w.heap.size, 1, none⟩ = some (.int .i64 fx) := b0.cell 1
  have b0_2 : W2.cell? ⟨w.heap.size, 2, none⟩ = some (.int .i64 fy) := b0.cell 2
  have b0_f := b0.frozen
  have b0_l := b0.lt
  have b1_0 : W2.cell? ⟨w.heap.size + 1, 0, none⟩ = some (.int .i64 x) := b1.cell 0
  have b1_1 : W2.cell? ⟨w.heap.size + 1, 1, none⟩ = some (.int .i64 y) := b1.cell 1
  have b1_2 : W2.cell? ⟨w.heap.size + 1, 2, none⟩ = some (.int .i64 h) := b1.cell 2
  have b1_f := b1.frozen
  have b1_l := b1.lt
  have b2_0 : W2.cell? ⟨w.heap.size + 1 + 1, 0, none⟩ = some (.int .i64 0) := b2.cell 0
  have b2_1 : W2.cell? ⟨w.heap.size + 1 + 1, 1, none⟩ = some (.int .i64 0) := b2.cell 1
  have b2_2 : W2.cell? ⟨w.heap.size + 1 + 1, 2, none⟩ = some (.int .i64 0) := b2.cell 2
  have b2_f := b2.frozen
  have b2_l := b2.lt
  have b3_0 : W2.cell? ⟨w1.heap.size, 0, none⟩ = some (.int .i64 X) := b3.cell 0
  have b3_1 : W2.cell? ⟨w1.heap.size, 1, none⟩ = some (.int .i64 Y) := b3.cell 1
  have b3_f := b3.frozen
  have b3_l := b3.lt
  clear hbw1
  have e1 : IntKind.i64.wrap (64 * (fq % 4)) = 64 * (fq % 4) := IntWalk.i64_in _ (by omega)
  have e2 : IntKind.i64.wrap (h + 64 * (fq % 4)) = h + 64 * (fq % 4) := IntWalk.i64_in _ (by omega)
  have e3 : (h + 64 * (fq % 4)).tmod 256 = (h + 64 * (fq % 4)) % 256 := Int.tmod_eq_emod_of_nonneg (by omega)
  have e4 : IntKind.i64.wrap ((h + 64 * (fq % 4)) % 256) = (h + 64 * (fq % 4)) % 256 := IntWalk.i64_in _ (by omega)
  refine still_tail 13 (by kernel_rfl) (by kernel_rfl) ?_
  simp only [List.take_succ_cons, List.take_zero, List.drop_succ_cons, List.drop_zero]
  iterate 13 (first | still_step | still_call (still_of (mod_any _ _ _ (by omega) (by omega))))
  refine wpStill_nil ?_
  clear e1 e2 e3 e4
  go_wp2
  refine bodyPost_ret (v := .tuple #[.agg #[.int .i64 X, .int .i64 Y, .int .i64 ((h + 64 * (fq % 4)) % 256)], .int .i64 0]) (by simp [results, Try.results24, go_sem, b2_0, b2_1, b2_2]) rfl ⟨rfl, ?_⟩
  repeat (first | with_reducible assumption | with_reducible exact bw_refl _ | with_reducible refine bw_alloc ?_ _ | with_reducible refine bw_drew ?_ | with_reducible refine bw_drewN _ ?_ | refine bw_set ?_ (by simp; try omega) _ | refine bw_call (by with_reducible assumption) ?_)

theorem rPose_any (fq fx fy x y h : Int) (w : World) :
    Calls Try.prog 24 #[.agg #[.int .i64 fq, .int .i64 fx, .int .i64 fy], .agg #[.int .i64 x, .int .i64 y, .int .i64 h]] w fun e w' => e = .returned (PsV fq fx fy x y h) ∧ Below w.heap.size w w' := by
  cases hf : (szB fx 8192 && szB fy 8192)
  · have := rPose_bad fq fx fy x y h w (by simp [hf])
    simpa [PsV, hf] using this
  · cases hg : (szB x 1048576 && szB y 1048576)
    · have := rPose_bad fq fx fy x y h w (by simp [psB, hg])
      simpa [PsV, hg] using this
    · by_cases hh : 0 ≤ h ∧ h < 256
      · have hps : psB x y h = true := by simp [psB, hg, hh]
        cases h2 : (szB (tX (fq % 4) x y + 64 * fx) 1048576 && szB (tY (fq % 4) x y + 64 * fy) 1048576)
        · have := rPose_err fq fx fy x y h 2 w hf hps (by omega) (by simp [PtV, hf, hg, h2])
          simpa [PsV, hf, hg, h2, hh] using this
        · have := rPose_ok fq fx fy x y h _ _ w hf hps hh.1 hh.2 (show PtV fq fx fy x y = .tuple #[.agg #[.int .i64 (tX (fq % 4) x y + 64 * fx), .int .i64 (tY (fq % 4) x y + 64 * fy)], .int .i64 0] by simp [PtV, hf, hg, h2])
          simpa [PsV, hf, hg, h2, hh] using this
      · have := rPose_bad fq fx fy x y h w (by simp [psB, hh])
        simpa [PsV, hh] using this

end Go.Proofs.Ytkacggfadalbiaa
