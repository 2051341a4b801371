/- The walk of FrameTurns. -/
import Derived.Test.YtkacggfadalbiaaAw
import Derived.Test.YtkacggfadalbiaaRh
import Derived.Test.YtkacggfadalbiaaHd1
namespace Go.Proofs.Ytkacggfadalbiaa
open Go.RowKit

theorem clip_bd4 (n m : Int) (h : 0 ≤ m) : -m ≤ clipI n (-m) m ∧ clipI n (-m) m ≤ m := by unfold clipI; omega
theorem tXY_next (a b : Nat) (h : b = (a + 1) % 4) (ha : a < 4) (X Y : Int) : tX b X Y = -(tY a X Y) ∧ tY b X Y = tX a X Y := by
  rcases (by omega : a = 0 ∨ a = 1 ∨ a = 2 ∨ a = 3) with rfl | rfl | rfl | rfl <;> simp at h <;> subst h <;> simp [tX, tY]

set_option maxRecDepth 100000 in
set_option maxHeartbeats 2000000 in
theorem turns_walk (Fq Fx Fy h : Int) (w : World) :
    Calls Try.prog 10 #[.agg #[.int .i64 Fq, .int .i64 Fx, .int .i64 Fy], .int .i64 h] w fun e w' => e = .returned (.bool true) ∧ Below w.heap.size w w' := by
  obtain ⟨q, hq⟩ : ∃ q : Nat, (q : Int) = h % 256 / 64 := ⟨(h % 256 / 64).toNat, by omega⟩
  obtain ⟨k, hk⟩ : ∃ k : Nat, (k : Int) = h % 64 := ⟨(h % 64).toNat, by omega⟩
  have hq4 : q < 4 := by omega
  have hk4 : k < 64 := by omega
  have hhh : h % 256 = 64 * q + k := by omega
  have hfq : ∃ f : Nat, (f : Int) = Fq % 4 := ⟨(Fq % 4).toNat, by omega⟩
  obtain ⟨f, hf⟩ := hfq
  have hf4 : f < 4 := by omega
  clear hq hk
  have HM := Lib.hid (fun W => mod_any h 256 W (by omega) (by omega))
  have HN := Lib.hid (fun W => nearf_any Fq Fx Fy 100 W (by omega) (by omega))
  rw [← hf] at HN
  rw [hhh] at HM
  clear hf hhh
  go_enter Try.func10, Try.ntmps10
  go_wp2_with fail
  refine (awake_any _).mono ?_
  rintro e w1 ⟨rfl, hb1⟩
  have a0 : Bk w1 (w.heap.size) 23 #[.int .i64 Fq, .int .i64 Fx, .int .i64 Fy] := Bk.call (by repeat (first | with_reducible assumption | with_reducible refine Bk.drew ?_ | with_reducible refine Bk.drewN ?_ _ | with_reducible exact Bk.new _ _ _ | with_reducible exact Bk.new1 _ _ _ _ | with_reducible exact Bk.new2 _ _ _ _ _ | with_reducible exact Bk.new3 _ _ _ _ _ _ | with_reducible refine Bk.alloc ?_ _ | with_reducible exact Bk.set3 (by repeat (first | with_reducible assumption | ((with_reducible refine Bk.far' ?_ ?_); (focus (first | (simp; done) | (simp; omega)))) | with_reducible refine Bk.drew ?_ | with_reducible refine Bk.alloc ?_ _)) _ _ _ | with_reducible exact Bk.set2 (by repeat (first | with_reducible assumption | ((with_reducible refine Bk.far' ?_ ?_); (focus (first | (simp; done) | (simp; omega)))) | with_reducible refine Bk.drew ?_ | with_reducible refine Bk.alloc ?_ _)) _ _ | ((with_reducible refine Bk.far' ?_ ?_); (focus (first | (simp; done) | (simp; omega)))))) hb1
  have hbw1 : Below w.heap.size w w1 := by repeat (first | with_reducible assumption | with_reducible exact bw_refl _ | with_reducible refine bw_alloc ?_ _ | with_reducible refine bw_drew ?_ | with_reducible refine bw_drewN _ ?_ | refine bw_set ?_ (by simp; try omega) _ | refine bw_call (by with_reducible assumption) ?_)
  clear hb1
  have a0_0 : w1.cell? ⟨w.heap.size, 0, none⟩ = some (.int .i64 Fq) := a0.cell 0
  have a0_1 : w1.cell? ⟨w.heap.size, 1, none⟩ = some (.int .i64 Fx) := a0.cell 1
  have a0_2 : w1.cell? ⟨w.heap.size, 2, none⟩ = some (.int .i64 Fy) := a0.cell 2
  have a0_f := a0.frozen
  have a0_l := a0.lt
  go_wp2_with fail
  refine (HN.out _).mono ?_
  rintro e w2 ⟨rfl, hb2⟩
  have b0 : Bk w2 (w.heap.size) 23 #[.int .i64 Fq, .int .i64 Fx, .int .i64 Fy] := Bk.call (by repeat (first | with_reducible assumption | with_reducible refine Bk.drew ?_ | with_reducible refine Bk.drewN ?_ _ | with_reducible exact Bk.new _ _ _ | with_reducible exact Bk.new1 _ _ _ _ | with_reducible exact Bk.new2 _ _ _ _ _ | with_reducible exact Bk.new3 _ _ _ _ _ _ | with_reducible refine Bk.alloc ?_ _ | with_reducible exact Bk.set3 (by repeat (first | with_reducible assumption | ((with_reducible refine Bk.far' ?_ ?_); (focus (first | (simp; done) | (simp; omega)))) | with_reducible refine Bk.drew ?_ | with_reducible refine Bk.alloc ?_ _)) _ _ _ | with_reducible exact Bk.set2 (by repeat (first | with_reducible assumption | ((with_reducible refine Bk.far' ?_ ?_); (focus (first | (simp; done) | (simp; omega)))) | with_reducible refine Bk.drew ?_ | with_reducible refine Bk.alloc ?_ _)) _ _ | ((with_reducible refine Bk.far' ?_ ?_); (focus (first | (simp; done) | (simp; omega)))))) hb2
  have hbw2 : Below w.heap.size w w2 := by repeat (first | with_reducible assumption | with_reducible exact bw_refl _ | with_reducible refine bw_alloc ?_ _ | with_reducible refine bw_drew ?_ | with_reducible refine bw_drewN _ ?_ | refine bw_set ?_ (by simp; try omega) _ | refine bw_call (by with_reducible assumption) ?_)
  clear a0 a0_0 a0_1 a0_2 a0_f a0_l hbw1 hb2
  have b0_0 : w2.cell? ⟨w.heap.size, 0, none⟩ = some (.int .i64 Fq) := b0.cell 0
  have b0_1 : w2.cell? ⟨w.heap.size, 1, none⟩ = some (.int .i64 Fx) := b0.cell 1
  have b0_2 : w2.cell? ⟨w.heap.size, 2, none⟩ = some (.int .i64 Fy) := b0.cell 2
  have b0_f := b0.frozen
  have b0_l := b0.lt
  obtain ⟨m1, m2⟩ := clip_bd4 Fx 100 (by omega)
  obtain ⟨m3, m4⟩ := clip_bd4 Fy 100 (by omega)
  generalize clipI Fx (-100) 100 = fx at *
  generalize clipI Fy (-100) 100 = fy at *
  go_wp2_with fail
  refine (HM.out _).mono ?_
  rintro e W2 ⟨rfl, rfl⟩
  clear HN HM
  go_wp2_with fail
  refine (Pose_ok2 100 0 _ _ _ _ _ _ _ (by omega) (by omega) (by omega) (by omega) (by omega) (by omega) (by omega) (by omega) (by omega) (by omega) (by omega) (by omega)).mono ?_
  rintro e w3 ⟨px, py, ph, rfl, HP, ⟨p1, p2, p3, p4, p5, p6⟩, hb3⟩
  have c0 : Bk w3 (w.heap.size) 23 #[.int .i64 (f : Int), .int .i64 fx, .int .i64 fy] := Bk.call (by repeat (first | with_reducible assumption | with_reducible refine Bk.drew ?_ | with_reducible refine Bk.drewN ?_ _ | with_reducible exact Bk.new _ _ _ | with_reducible exact Bk.new1 _ _ _ _ | with_reducible exact Bk.new2 _ _ _ _ _ | with_reducible exact Bk.new3 _ _ _ _ _ _ | with_reducible refine Bk.alloc ?_ _ | with_reducible exact Bk.set3 (by repeat (first | with_reducible assumption | ((with_reducible refine Bk.far' ?_ ?_); (focus (first | (simp; done) | (simp; omega)))) | with_reducible refine Bk.drew ?_ | with_reducible refine Bk.alloc ?_ _)) _ _ _ | with_reducible exact Bk.set2 (by repeat (first | with_reducible assumption | ((with_reducible refine Bk.far' ?_ ?_); (focus (first | (simp; done) | (simp; omega)))) | with_reducible refine Bk.drew ?_ | with_reducible refine Bk.alloc ?_ _)) _ _ | ((with_reducible refine Bk.far' ?_ ?_); (focus (first | (simp; done) | (simp; omega)))))) hb3
  have hbw3 : Below w.heap.size w w3 := by repeat (first | with_reducible assumption | with_reducible exact bw_refl _ | with_reducible refine bw_alloc ?_ _ | with_reducible refine bw_drew ?_ | with_reducible refine bw_drewN _ ?_ | refine bw_set ?_ (by simp; try omega) _ | refine bw_call (by with_reducible assumption) ?_)
  clear b0 b0_0 b0_1 b0_2 b0_f b0_l hbw2 hb3
  have c0_0 : w3.cell? ⟨w.heap.size, 0, none⟩ = some (.int .i64 (f : Int)) := c0.cell 0
  have c0_1 : w3.cell? ⟨w.heap.size, 1, none⟩ = some (.int .i64 fx) := c0.cell 1
  have c0_2 : w3.cell? ⟨w.heap.size, 2, none⟩ = some (.int .i64 fy) := c0.cell 2
  have c0_f := c0.frozen
  have c0_l := c0.lt
  go_wp2_with fail
  refine (Dir_at q k _ hq4 hk4 _ (by omega)).mono ?_
  rintro e w4 ⟨rfl, hb4⟩
  have d0 : Bk w4 (w.heap.size) 23 #[.int .i64 (f : Int), .int .i64 fx, .int .i64 fy] := Bk.call (by repeat (first | with_reducible assumption | with_reducible refine Bk.drew ?_ | with_reducible refine Bk.drewN ?_ _ | with_reducible exact Bk.new _ _ _ | with_reducible exact Bk.new1 _ _ _ _ | with_reducible exact Bk.new2 _ _ _ _ _ | with_reducible exact Bk.new3 _ _ _ _ _ _ | with_reducible refine Bk.alloc ?_ _ | with_reducible exact Bk.set3 (by repeat (first | with_reducible assumption | ((with_reducible refine Bk.far' ?_ ?_); (focus (first | (simp; done) | (simp; omega)))) | with_reducible refine Bk.drew ?_ | with_reducible refine Bk.alloc ?_ _)) _ _ _ | with_reducible exact Bk.set2 (by repeat (first | with_reducible assumption | ((with_reducible refine Bk.far' ?_ ?_); (focus (first | (simp; done) | (simp; omega)))) | with_reducible refine Bk.drew ?_ | with_reducible refine Bk.alloc ?_ _)) _ _ | ((with_reducible refine Bk.far' ?_ ?_); (focus (first | (simp; done) | (simp; omega)))))) hb4
  have d1 : Bk w4 (w3.heap.size) 42 #[.int .i64 px, .int .i64 py, .int .i64 ph] := Bk.call (by repeat (first | with_reducible assumption | with_reducible refine Bk.drew ?_ | with_reducible refine Bk.drewN ?_ _ | with_reducible exact Bk.new _ _ _ | with_reducible exact Bk.new1 _ _ _ _ | with_reducible exact Bk.new2 _ _ _ _ _ | with_reducible exact Bk.new3 _ _ _ _ _ _ | with_reducible refine Bk.alloc ?_ _ | with_reducible exact Bk.set3 (by repeat (first | with_reducible assumption | ((with_reducible refine Bk.far' ?_ ?_); (focus (first | (simp; done) | (simp; omega)))) | with_reducible refine Bk.drew ?_ | with_reducible refine Bk.alloc ?_ _)) _ _ _ | with_reducible exact Bk.set2 (by repeat (first | with_reducible assumption | ((with_reducible refine Bk.far' ?_ ?_); (focus (first | (simp; done) | (simp; omega)))) | with_reducible refine Bk.drew ?_ | with_reducible refine Bk.alloc ?_ _)) _ _ | ((with_reducible refine Bk.far' ?_ ?_); (focus (first | (simp; done) | (simp; omega)))))) hb4
  have hbw4 : Below w.heap.size w w4 := by repeat (first | with_reducible assumption | with_reducible exact bw_refl _ | with_reducible refine bw_alloc ?_ _ | with_reducible refine bw_drew ?_ | with_reducible refine bw_drewN _ ?_ | refine bw_set ?_ (by simp; try omega) _ | refine bw_call (by with_reducible assumption) ?_)
  clear c0 c0_0 c0_1 c0_2 c0_f c0_l hbw3 hb4
  have d0_0 : w4.cell? ⟨w.heap.size, 0, none⟩ = some (.int .i64 (f : Int)) := d0.cell 0
  have d0_1 : w4.cell? ⟨w.heap.size, 1, none⟩ = some (.int .i64 fx) := d0.cell 1
  have d0_2 : w4.cell? ⟨w.heap.size, 2, none⟩ = some (.int .i64 fy) := d0.cell 2
  have d0_f := d0.frozen
  have d0_l := d0.lt
  have d1_0 : w4.cell? ⟨w3.heap.size, 0, none⟩ = some (.int .i64 px) := d1.cell 0
  have d1_1 : w4.cell? ⟨w3.heap.size, 1, none⟩ = some (.int .i64 py) := d1.cell 1
  have d1_2 : w4.cell? ⟨w3.heap.size, 2, none⟩ = some (.int .i64 ph) := d1.cell 2
  have d1_f := d1.frozen
  have d1_l := d1.lt
  have HH := Lib.hid (show ph % 256 = 64 * (((q + f) % 4 : Nat) : Int) + k by
    have h1 : ph = (64 * (q : Int) + k + 64 * ((f : Int) % 4)) % 256 := by have := HP.out; simp only [poseF, Prod.mk.injEq] at this; exact this.2.2
    omega)
  have HD := Lib.hid (fun W => Dir_at ((q + f) % 4) k W (by omega) hk4 ph HH.out)
  have hxy := qu_le k hk4
  have hdp := quD_pos k
  obtain ⟨x1, x2⟩ := hxy
  generalize quX k = X at *
  generalize quY k = Y at *
  generalize quD k = D at *
  go_wp2_with fail
  go_loopg [8] f (fun m ix wr => ∃ i r : Nat, i ≤ f ∧ m = f - i ∧ r = (q + i) % 4 ∧ ix = .int .i64 i ∧ wr = w4.alloc (.cells #[.int .i64 (tX r X Y), .int .i64 (tY r X Y), .int .i64 (D : Nat)] 72))
  case atStart => exact ⟨0, q, by omega, by omega, by omega, rfl, rfl⟩
  case round =>
    obtain ⟨i, r, hi, hm, hr, rfl, rfl⟩ := hrel
    have hr4 : r < 4 := by omega
    have HR := Lib.hid hr
    clear hr
    obtain ⟨u1, u2⟩ := tX_bd r X Y 10000 (by omega) (by omega) (by omega) (by omega)
    obtain ⟨u3, u4⟩ := tY_bd r X Y 10000 (by omega) (by omega) (by omega) (by omega)
    by_cases hlt : i < f
    · have HS := Lib.hid (tXY_next r ((q + (i + 1)) % 4) (by have := HR.out; omega) hr4 X Y)
      go_wp2
      go_roundg (f - (i + 1))
      case measure => omega
      case rel => exact ⟨i + 1, (q + (i + 1)) % 4, by omega, rfl, rfl, by simp, by rw [HS.out.1, HS.out.2]⟩
    · obtain rfl : i = f := by omega
      obtain rfl : r = (q + i) % 4 := HR.out
      generalize (q + i) % 4 = r at *
      go_wp2_with fail
      refine abs_world (fun W => Below w.heap.size w W ∧ Bk W (w3.heap.size) 42 #[.int .i64 px, .int .i64 py, .int .i64 ph] ∧ Bk W (w4.heap.size) 72 #[.int .i64 (tX r X Y), .int .i64 (tY r X Y), .int .i64 (D : Nat)]) ⟨by repeat (first | with_reducible assumption | with_reducible exact bw_refl _ | with_reducible refine bw_alloc ?_ _ | with_reducible refine bw_drew ?_ | with_reducible refine bw_drewN _ ?_ | refine bw_set ?_ (by simp; try omega) _ | refine bw_call (by with_reducible assumption) ?_), by repeat (first | with_reducible assumption | with_reducible refine Bk.drew ?_ | with_reducible refine Bk.drewN ?_ _ | with_reducible exact Bk.new _ _ _ | with_reducible exact Bk.new1 _ _ _ _ | with_reducible exact Bk.new2 _ _ _ _ _ | with_reducible exact Bk.new3 _ _ _ _ _ _ | with_reducible refine Bk.alloc ?_ _ | with_reducible exact Bk.set3 (by repeat (first | with_reducible assumption | ((with_reducible refine Bk.far' ?_ ?_); (focus (first | (simp; done) | (simp; omega)))) | with_reducible refine Bk.drew ?_ | with_reducible refine Bk.alloc ?_ _)) _ _ _ | with_reducible exact Bk.set2 (by repeat (first | with_reducible assumption | ((with_reducible refine Bk.far' ?_ ?_); (focus (first | (simp; done) | (simp; omega)))) | with_reducible refine Bk.drew ?_ | with_reducible refine Bk.alloc ?_ _)) _ _ | ((with_reducible refine Bk.far' ?_ ?_); (focus (first | (simp; done) | (simp; omega))))), by repeat (first | with_reducible assumption | with_reducible refine Bk.drew ?_ | with_reducible refine Bk.drewN ?_ _ | with_reducible exact Bk.new _ _ _ | with_reducible exact Bk.new1 _ _ _ _ | with_reducible exact Bk.new2 _ _ _ _ _ | with_reducible exact Bk.new3 _ _ _ _ _ _ | with_reducible refine Bk.alloc ?_ _ | with_reducible exact Bk.set3 (by repeat (first | with_reducible assumption | ((with_reducible refine Bk.far' ?_ ?_); (focus (first | (simp; done) | (simp; omega)))) | with_reducible refine Bk.drew ?_ | with_reducible refine Bk.alloc ?_ _)) _ _ _ | with_reducible exact Bk.set2 (by repeat (first | with_reducible assumption | ((with_reducible refine Bk.far' ?_ ?_); (focus (first | (simp; done) | (simp; omega)))) | with_reducible refine Bk.drew ?_ | with_reducible refine Bk.alloc ?_ _)) _ _ | ((with_reducible refine Bk.far' ?_ ?_); (focus (first | (simp; done) | (simp; omega)))))⟩ ?_
      clear d0 d0_0 d0_1 d0_2 d0_f d0_l d1 d1_0 d1_1 d1_2 d1_f d1_l
      rintro W ⟨hbW, g1, g2⟩
      have g1_0 : W.cell? ⟨w3.heap.size, 0, none⟩ = some (.int .i64 px) := g1.cell 0
      have g1_1 : W.cell? ⟨w3.heap.size, 1, none⟩ = some (.int .i64 py) := g1.cell 1
      have g1_2 : W.cell? ⟨w3.heap.size, 2, none⟩ = some (.int .i64 ph) := g1.cell 2
      have g1_f := g1.frozen
      have g1_l := g1.lt
      have g2_0 : W.cell? ⟨w4.heap.size, 0, none⟩ = some (.int .i64 (tX r X Y)) := g2.cell 0
      have g2_1 : W.cell? ⟨w4.heap.size, 1, none⟩ = some (.int .i64 (tY r X Y)) := g2.cell 1
      have g2_2 : W.cell? ⟨w4.heap.size, 2, none⟩ = some (.int .i64 (D : Nat)) := g2.cell 2
      have g2_f := g2.frozen
      have g2_l := g2.lt
      clear hbw4
      refine region_grow (fun w0 => Below W.heap.size W w0) 10 (by kernel_rfl) (by kernel_rfl) (by repeat (first | with_reducible assumption | with_reducible exact bw_refl _ | with_reducible refine bw_alloc ?_ _ | with_reducible refine bw_drew ?_ | with_reducible refine bw_drewN _ ?_ | refine bw_set ?_ (by simp; try omega) _ | refine bw_call (by with_reducible assumption) ?_)) ?_
      simp only [List.take_succ_cons, List.take_zero, List.drop_succ_cons, List.drop_zero]
      iterate 10 (first | (refine wpG_ex ?_ ?_; (focus (go_simp; done)); constructor; constructor; (focus (intro w0 hS0; obtain ⟨hSc, hSf⟩ := bcell hS0; go_simp; exact ⟨rfl, hS0⟩)); (focus (intro K hK; go_simp; refine hK _ ?_; clear hK K))) | (refine wpG_ex ?_ ?_; (focus (go_simp; done)); constructor; constructor; (focus (intro w0 hS0; obtain ⟨hSc, hSf⟩ := bcell hS0; go_simp; exact grow_of hS0 (HD.out _))); (focus (intro K hK; go_simp; refine hK _ ?_; clear hK K))) | (refine wpG_skip ?_ ?_; (focus (go_simp; done)); intro K hK; go_simp; refine hK _ ?_; clear hK K))
      refine wpG_nil ?_
      intro w9 hSw9
      go_wp2
      go_ret
      exact ⟨by simp; omega, by repeat (first | with_reducible assumption | with_reducible exact bw_refl _ | with_reducible refine bw_alloc ?_ _ | with_reducible refine bw_drew ?_ | with_reducible refine bw_drewN _ ?_ | refine bw_set ?_ (by simp; try omega) _ | refine bw_call (by with_reducible assumption) ?_)⟩

end Go.Proofs.Ytkacggfadalbiaa
