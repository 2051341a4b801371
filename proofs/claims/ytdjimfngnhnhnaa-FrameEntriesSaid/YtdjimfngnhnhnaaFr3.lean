/- Contracts of package frame: inverse, Inverse, mapped, near, Point. -/
import Derived.Test.YtdjimfngnhnhnaaFr2
set_option linter.all false
namespace Go.Proofs.Ytdjimfngnhnhnaa
open Go.RowKit

theorem wneg4 (q : Int) : wrap64 (-q) % 4 = (-q) % 4 := by unfold wrap64; omega

set_option maxHeartbeats 400000 in
theorem inverse_any (fq fx fy : Int) (w : World) (h1 : -1000000000 ≤ fx) (h2 : fx ≤ 1000000000) (h3 : -1000000000 ≤ fy) (h4 : fy ≤ 1000000000) :
    Calls Try.prog 68 #[.agg #[.int .i64 fq, .int .i64 fx, .int .i64 fy]] w fun e w' =>
      e = .returned (.agg #[.int .i64 ((-fq) % 4), .int .i64 (tX ((-fq) % 4) (-fx) (-fy)), .int .i64 (tY ((-fq) % 4) (-fx) (-fy))]) ∧
      (w.alloc (.cells #[.int .i64 fq, .int .i64 fx, .int .i64 fy] 23)).alloc (.cells #[.int .i64 ((-fq) % 4), .int .i64 (tX ((-fq) % 4) (-fx) (-fy)), .int .i64 (tY ((-fq) % 4) (-fx) (-fy))] 23) = w' := by
  have ha := and3
  have hb := wneg4
  go_enter Try.func68, Try.ntmps68
  go_wp2_with (go_at_call 65; refine (turned_any _ _ _ _ (by omega) (by omega) (by omega) (by omega)).mono ?_; rintro e w' ⟨rfl, rfl⟩)
  exact bodyPost_ret (v := .agg #[.int .i64 ((-fq) % 4), .int .i64 (tX ((-fq) % 4) (-fx) (-fy)), .int .i64 (tY ((-fq) % 4) (-fx) (-fy))]) (by simp [results, Try.results68, go_sem]) rfl
    ⟨rfl, rfl⟩

def InvV (fq fx fy : Int) : Value :=
  if szB fx 8192 && szB fy 8192 then .tuple #[.agg #[.int .i64 ((-fq) % 4), .int .i64 (tX ((-fq) % 4) (-fx) (-fy)), .int .i64 (tY ((-fq) % 4) (-fx) (-fy))], .int .i64 0]
  else .tuple #[.agg #[.int .i64 0, .int .i64 0, .int .i64 0], .int .i64 1]

set_option maxHeartbeats 400000 in
theorem Inverse_any (fq fx fy : Int) (w : World) :
    Calls Try.prog 22 #[.agg #[.int .i64 fq, .int .i64 fx, .int .i64 fy]] w fun e w' => e = .returned (InvV fq fx fy) ∧ Below w.heap.size w w' := by
  cases hf : (szB fx 8192 && szB fy 8192)
  · have HS := Lib.hid (show InvV fq fx fy = .tuple #[.agg #[.int .i64 0, .int .i64 0, .int .i64 0], .int .i64 1] by simp [InvV, hf])
    go_enter Try.func22, Try.ntmps22
    go_wp2_with (go_at_call 56; refine (valid_any _ _ _ _).mono ?_; rintro e w1 ⟨rfl, rfl⟩)
    refine bodyPost_ret (v := .tuple #[.agg #[.int .i64 0, .int .i64 0, .int .i64 0], .int .i64 1]) (by simp [results, Try.results22, go_sem]) rfl ⟨by rw [HS.out], ?_⟩
    repeat (first | exact bw_refl _ | refine bw_alloc ?_ _)
  · have HS := Lib.hid (show InvV fq fx fy = .tuple #[.agg #[.int .i64 ((-fq) % 4), .int .i64 (tX ((-fq) % 4) (-fx) (-fy)), .int .i64 (tY ((-fq) % 4) (-fx) (-fy))], .int .i64 0] by simp [InvV, hf])
    obtain ⟨f1, f2, f3, f4⟩ := szB2_of hf
    go_enter Try.func22, Try.ntmps22
    go_wp2_with (first | (go_at_call 56; refine (valid_any _ _ _ _).mono ?_; rintro e w1 ⟨rfl, rfl⟩) | (go_at_call 68; refine (inverse_any _ _ _ _ (by omega) (by omega) (by omega) (by omega)).mono ?_; rintro e w1 ⟨rfl, rfl⟩))
    refine bodyPost_ret (v := .tuple #[.agg #[.int .i64 ((-fq) % 4), .int .i64 (tX ((-fq) % 4) (-fx) (-fy)), .int .i64 (tY ((-fq) % 4) (-fx) (-fy))], .int .i64 0]) (by simp [results, Try.results22, go_sem]) rfl ⟨by rw [HS.out], ?_⟩
    repeat (first | exact bw_refl _ | refine bw_alloc ?_ _)

set_option maxHeartbeats 400000 in
theorem nearp_any (x y : Int) (w : World) :
    Calls Try.prog 90 #[.int .i64 x, .int .i64 y] w fun e w' => e = .returned (.bool (szB x 1048576 && szB y 1048576)) ∧ w = w' := by
  cases h3 : szB x 1048576
  all_goals
    go_enter Try.func90, Try.ntmps90
    go_wp2_with (go_at_call 64; refine (size_any _ _ _ (by omega) (by omega)).mono ?_; rintro e w' ⟨rfl, rfl⟩)
    go_ret
    exact ⟨by simp, rfl⟩

set_option maxHeartbeats 400000 in
theorem mapped_any (fq fx fy x y : Int) (w : World) (h1 : -1000000000 ≤ fx) (h2 : fx ≤ 1000000000) (h3 : -1000000000 ≤ fy) (h4 : fy ≤ 1000000000)
    (h5 : -1000000000 ≤ x) (h6 : x ≤ 1000000000) (h7 : -1000000000 ≤ y) (h8 : y ≤ 1000000000) :
    Calls Try.prog 91 #[.agg #[.int .i64 fq, .int .i64 fx, .int .i64 fy], .int .i64 x, .int .i64 y] w fun e w' =>
      e = .returned (.tuple #[.int .i64 (tX (fq % 4) x y + 64 * fx), .int .i64 (tY (fq % 4) x y + 64 * fy)]) ∧ ∃ n, (w.alloc (.cells #[.int .i64 fq, .int .i64 fx, .int .i64 fy] 23)).drewN n = w' := by
  obtain ⟨b1, b2⟩ := tX_bd (fq % 4) x y 1000000000 h5 h6 h7 h8
  obtain ⟨b3, b4⟩ := tY_bd (fq % 4) x y 1000000000 h5 h6 h7 h8
  go_enter Try.func91, Try.ntmps91
  go_wp2_with (go_at_call 65; refine (turned_any _ _ _ _ (by omega) (by omega) (by omega) (by omega)).mono ?_; rintro e w' ⟨rfl, rfl⟩)
  have e1 : IntKind.i64.wrap (64 * fx) = 64 * fx := IntWalk.i64_in _ (by omega)
  have e2 : IntKind.i64.wrap (64 * fy) = 64 * fy := IntWalk.i64_in _ (by omega)
  have e3 : IntKind.i64.wrap (tX (fq % 4) x y + 64 * fx) = tX (fq % 4) x y + 64 * fx := IntWalk.i64_in _ (by omega)
  have e4 : IntKind.i64.wrap (tY (fq % 4) x y + 64 * fy) = tY (fq % 4) x y + 64 * fy := IntWalk.i64_in _ (by omega)
  go_quiet (fail)
  clear e1 e2 e3 e4
  go_wp2
  go_ret2
  exact ⟨rfl, _, rfl⟩

end Go.Proofs.Ytdjimfngnhnhnaa
