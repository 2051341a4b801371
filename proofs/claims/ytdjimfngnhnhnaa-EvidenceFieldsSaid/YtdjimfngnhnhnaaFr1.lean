/- Contracts of package frame: sizes, turns, composing. -/
import Derived.Test.YtdjimfngnhnhnaaCm
set_option linter.all false
namespace Go.Proofs.Ytdjimfngnhnhnaa
open Go.RowKit

def szB (n m : Int) : Bool := decide (-m ≤ n ∧ n ≤ m)

set_option maxHeartbeats 400000 in
theorem size_any (n m : Int) (w : World) (h1 : -1000000000000 ≤ m) (h2 : m ≤ 1000000000000) :
    Calls Try.prog 64 #[.int .i64 n, .int .i64 m] w fun e w' => e = .returned (.bool (szB n m)) ∧ w = w' := by
  by_cases h3 : -m ≤ n
  · by_cases h4 : n ≤ m
    · have HS := Lib.hid (show szB n m = true by simp [szB, h3, h4])
      go_enter Try.func64, Try.ntmps64
      go_wp2
      go_ret
      exact ⟨by simp [HS.out], rfl⟩
    · have HS := Lib.hid (show szB n m = false by simp [szB, h4])
      go_enter Try.func64, Try.ntmps64
      go_wp2
      go_ret
      exact ⟨by simp [HS.out], rfl⟩
  · have HS := Lib.hid (show szB n m = false by simp [szB, h3])
    go_enter Try.func64, Try.ntmps64
    go_wp2
    go_ret
    exact ⟨by simp [HS.out], rfl⟩

set_option maxHeartbeats 400000 in
theorem valid_any (q x y : Int) (w : World) :
    Calls Try.prog 56 #[.agg #[.int .i64 q, .int .i64 x, .int .i64 y]] w fun e w' => e = .returned (.bool (szB x 8192 && szB y 8192)) ∧ w.alloc (.cells #[.int .i64 q, .int .i64 x, .int .i64 y] 23) = w' := by
  cases h3 : szB x 8192
  all_goals
    go_enter Try.func56, Try.ntmps56
    go_wp2_with (go_at_call 64; refine (size_any _ _ _ (by omega) (by omega)).mono ?_; rintro e w' ⟨rfl, rfl⟩)
    go_ret
    exact ⟨by simp, rfl⟩

def clipI (n lo hi : Int) : Int := max lo (min n hi)

set_option maxHeartbeats 400000 in
theorem clip_any (n lo hi : Int) (w : World) :
    Calls Try.prog 29 #[.int .i64 n, .int .i64 lo, .int .i64 hi] w fun e w' => e = .returned (.int .i64 (clipI n lo hi)) ∧ w = w' := by
  by_cases h1 : hi < n
  · by_cases h2 : lo < hi
    all_goals
      have HS := Lib.hid (show clipI n lo hi = max lo hi by unfold clipI; omega)
      go_enter Try.func29, Try.ntmps29
      go_wp2
      go_ret
      exact ⟨by simp [HS.out]; omega, rfl⟩
  · by_cases h2 : lo < n
    all_goals
      have HS := Lib.hid (show clipI n lo hi = max lo n by unfold clipI; omega)
      go_enter Try.func29, Try.ntmps29
      go_wp2
      go_ret
      exact ⟨by simp [HS.out]; omega, rfl⟩

set_option maxHeartbeats 400000 in
theorem mod_any (n m : Int) (w : World) (h1 : 1 ≤ m) (h2 : m ≤ 1000000000000) :
    Calls Try.prog 55 #[.int .i64 n, .int .i64 m] w fun e w' => e = .returned (.int .i64 (n % m)) ∧ w = w' := by
  by_cases h3 : 0 ≤ n
  · have h4 : 0 ≤ n % m := Int.emod_nonneg _ (by omega)
    go_enter Try.func55, Try.ntmps55
    go_wp2
    go_ret
    exact ⟨by simp, rfl⟩
  · obtain ⟨k1, k2, h4, h5⟩ := tmod_neg_eq n m (by omega) h1
    by_cases h6 : n.tmod m < 0
    · have HS := Lib.hid (k1 h6)
      clear k1 k2
      go_enter Try.func55, Try.ntmps55
      go_wp2
      go_ret
      exact ⟨by simp [HS.out], rfl⟩
    · have HS := Lib.hid (k2 h6)
      clear k1 k2
      go_enter Try.func55, Try.ntmps55
      go_wp2
      go_ret
      exact ⟨by simp [HS.out], rfl⟩

set_option maxHeartbeats 400000 in
theorem nearf_any (q x y m : Int) (w : World) (h1 : 1 ≤ m) (h2 : m ≤ 1000000) :
    Calls Try.prog 16 #[.agg #[.int .i64 q, .int .i64 x, .int .i64 y], .int .i64 m] w fun e w' =>
      e = .returned (.agg #[.int .i64 (q % 4), .int .i64 (clipI x (-m) m), .int .i64 (clipI y (-m) m)]) ∧ Below w.heap.size w w' := by
  have hw : IntKind.i64.wrap (-m) = -m := IntWalk.i64_in _ (by omega)
  go_enter Try.func16, Try.ntmps16
  go_wp2
  go_region_held3 (fun w' => w'.cell? ⟨w.heap.size, 0, none⟩ = some (.int .i64 q) ∧ w'.cell? ⟨w.heap.size, 1, none⟩ = some (.int .i64 x) ∧ w'.cell? ⟨w.heap.size, 2, none⟩ = some (.int .i64 y)) (simp [go_sem, World.cell?_alloc_past])
    (first
      | (go_at_call 55; refine (mod_any _ _ _ (by omega) (by omega)).mono ?_; rintro e w' ⟨rfl, rfl⟩)
      | (go_at_call 29; refine (clip_any _ _ _ _).mono ?_; rintro e w' ⟨rfl, rfl⟩))
  go_wp2
  exact bodyPost_ret (v := .agg #[.int .i64 (q % 4), .int .i64 (clipI x (-m) m), .int .i64 (clipI y (-m) m)]) (by simp [results, Try.results16, go_sem]) rfl
    ⟨rfl, bw_drew (bw_alloc (bw_alloc (bw_refl _) _) _)⟩

def tX (q x y : Int) : Int := if q = 0 then x else if q = 1 then -y else if q = 2 then -x else y
def tY (q x y : Int) : Int := if q = 0 then y else if q = 1 then x else if q = 2 then -y else -x
theorem tX_bd (q x y B : Int) (h1 : -B ≤ x) (h2 : x ≤ B) (h3 : -B ≤ y) (h4 : y ≤ B) : -B ≤ tX q x y ∧ tX q x y ≤ B := by
  unfold tX; split <;> (try split) <;> (try split) <;> omega
theorem tY_bd (q x y B : Int) (h1 : -B ≤ x) (h2 : x ≤ B) (h3 : -B ≤ y) (h4 : y ≤ B) : -B ≤ tY q x y ∧ tY q x y ≤ B := by
  unfold tY; split <;> (try split) <;> (try split) <;> omega
theorem tXY_succ (k x y : Int) (h0 : 0 ≤ k) (h1 : k < 3) : tX (k + 1) x y = -(tY k x y) ∧ tY (k + 1) x y = tX k x y := by
  rcases (by omega : k = 0 ∨ k = 1 ∨ k = 2) with rfl | rfl | rfl <;> simp [tX, tY]

set_option maxHeartbeats 400000 in
theorem turned_any (q x y : Int) (w : World) (h1 : -1000000000000 ≤ x) (h2 : x ≤ 1000000000000) (h3 : -1000000000000 ≤ y) (h4 : y ≤ 1000000000000) :
    Calls Try.prog 65 #[.int .i64 q, .int .i64 x, .int .i64 y] w fun e w' => e = .returned (.tuple #[.int .i64 (tX (q % 4) x y), .int .i64 (tY (q % 4) x y)]) ∧ w = w' := by
  have ha := and3 q
  have hq1 : 0 ≤ q % 4 := by omega
  have hq2 : q % 4 ≤ 3 := by omega
  generalize q % 4 = m at *
  go_enter Try.func65, Try.ntmps65
  go_wp2
  go_loop [1, 2, 10] (fun a b i => ∃ k : Int, 0 ≤ k ∧ k ≤ m ∧ i = .int .i64 k ∧ a = .int .i64 (tX k x y) ∧ b = .int .i64 (tY k x y)) (fun _ _ i => (m - intOf i).toNat)
  case atStart => exact ⟨0, by omega, by omega, rfl, by simp [tX], by simp [tY]⟩
  case round =>
    obtain ⟨k, hk0, hk, rfl, rfl, rfl⟩ := hrel
    obtain ⟨b1, b2⟩ := tX_bd k x y 1000000000000 h1 h2 h3 h4
    obtain ⟨b3, b4⟩ := tY_bd k x y 1000000000000 h1 h2 h3 h4
    by_cases hlt : k < m
    · have HS := Lib.hid (tXY_succ k x y hk0 (by omega))
      go_wp2
      go_round
      case rel => exact ⟨k + 1, by omega, by omega, rfl, by rw [HS.out.1], by rw [HS.out.2]⟩
      case measure => simp [intOf]; omega
    · obtain rfl : k = m := by omega
      go_wp2
      go_ret2
      exact ⟨rfl, rfl⟩

end Go.Proofs.Ytdjimfngnhnhnaa
