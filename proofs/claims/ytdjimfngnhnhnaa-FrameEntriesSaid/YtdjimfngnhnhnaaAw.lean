/- awake: the fixed calls return what the document says. -/
import Derived.Test.YtdjimfngnhnhnaaFr5
import Derived.Test.YtdjimfngnhnhnaaRb
set_option linter.all false
namespace Go.Proofs.Ytdjimfngnhnhnaa
open Go.RowKit

theorem aw1 : PtV 1 2 0 64 10 = .tuple #[.agg #[.int .i64 118, .int .i64 64], .int .i64 0] := by simp [PtV, szB, tX, tY]
theorem aw2 : addF [] (0, 1, 0, 3, 0) = (0, [(0, 1, 0, 3, 0)]) := by decide
theorem aw3 : addF [(0, 1, 0, 3, 0)] (1, 2, 1, 0, 0) = (0, [(0, 1, 0, 3, 0), (1, 2, 1, 0, 0)]) := by decide
theorem aw4 : btF [(0, 1, 0, 3, 0), (1, 2, 1, 0, 0)] 0 2 = some (1, 3, 0) := by decide

theorem Only.trans_new {w0 w w' : World} {rb : Nat} {ob : Option Nat} (h0 : Below w0.heap.size w0 w) (h : Only w w' rb ob) (h1 : w0.heap.size ≤ rb) (h2 : ∀ g, ob = some g → w0.heap.size ≤ g) : Below w0.heap.size w0 w' :=
  ⟨h.os.trans h0.os, h.tape.trans h0.tape, h.output.trans h0.output, Nat.le_trans h0.size h.size, fun i hi => (h.block i (Nat.lt_of_lt_of_le hi h0.size) (by omega) (fun e => by have := h2 i e.symm; omega)).trans (h0.block i hi)⟩

set_option maxHeartbeats 1000000 in
theorem awake_any (w : World) : Calls Try.prog 15 #[] w fun e w' => e = .returned (.bool true) ∧ Below w.heap.size w w' := by
  go_enter Try.func15, Try.ntmps15
  go_wp2_with fail
  refine (Point_any _ _ _ _ _ _).mono ?_
  rintro e w1 ⟨rfl, hb1⟩
  rw [aw1]
  go_wp2_with fail
  refine (New_any _).mono ?_
  rintro e w2 ⟨rfl, rfl⟩
  go_wp2_with fail
  have hR := RObj.new (w1.alloc (.cells #[.int .i64 118, .int .i64 64] 72))
  simp only [World.size_alloc] at hR
  refine (Add_any (w1.heap.size + 1) none [] (0, 1, 0, 3, 0) _ hR (by simp)).mono ?_
  rw [aw2]
  rintro e w3 ⟨rfl, ob3, hR3, ho3, hO3⟩
  have hb3 : Below w.heap.size w w3 := Only.trans_new (by repeat (first | with_reducible assumption | with_reducible exact bw_refl _ | with_reducible refine bw_alloc ?_ _ | with_reducible refine bw_drew ?_ | with_reducible refine bw_drewN _ ?_ | refine bw_set ?_ (by simp; try omega) _ | refine bw_call (by with_reducible assumption) ?_)) hO3 (by have := hb1.size; omega) (by simp)
  simp only at hR3
  clear hR
  go_wp2_with fail
  refine (Add_any (w1.heap.size + 1) ob3 [(0, 1, 0, 3, 0)] (1, 2, 1, 0, 0) _ hR3 (by simp)).mono ?_
  rw [aw3]
  rintro e w4 ⟨rfl, ob4, hR4, ho4, hO4⟩
  have hz3 : ∀ g, ob3 = some g → w.heap.size ≤ g := fun g hg => by
    rcases ho3 with h | ⟨g', h, h'⟩
    · rw [h] at hg; cases hg
    · rw [h] at hg; injection hg with hg; subst hg; have := hb1.size; simp at h'; omega
  have hb4 : Below w.heap.size w w4 := Only.trans_new hb3 hO4 (by have := hb1.size; omega) hz3
  simp only at hR4
  clear hR3 ho3 hO3 ho4 hO4 hz3 hb3 hb1
  go_wp2_with fail
  refine (Between_any (w1.heap.size + 1) ob4 _ 0 2 _ hR4 (by simp)).mono ?_
  rw [aw4]
  rintro e w5 ⟨rfl, hb5⟩
  simp only [btV, frV]
  go_wp2_with fail
  go_ret
  exact ⟨rfl, by repeat (first | with_reducible assumption | with_reducible exact bw_refl _ | with_reducible refine bw_alloc ?_ _ | with_reducible refine bw_drew ?_ | with_reducible refine bw_drewN _ ?_ | refine bw_set ?_ (by simp; try omega) _ | refine bw_call (by with_reducible assumption) ?_)⟩

end Go.Proofs.Ytdjimfngnhnhnaa
