/- Contracts of package box and of heading's arcs: small, ValidArc, Valid, arc. -/
import Derived.Test.YtbjkbjiglcomkaaFr1
import Derived.Test.YtbjkbjiglcomkaaGr
set_option linter.all false
namespace Go.Proofs.Ytbjkbjiglcomkaa
open Go.RowKit

/-- a slice of ints that reads as zs -/
def IntsAt (w : World) (A : Option Addr) (zs : List Int) : Prop :=
  zs = [] ∨ ∃ g o, A = some ⟨g, o, none⟩ ∧ ∀ (i : Nat) (z : Int), zs[i]? = some z → w.cell? ⟨g, o + i, none⟩ = some (.int .i64 z)

def badB (n : Int) : Bool := !(szB n 1048576)
set_option maxHeartbeats 400000 in
theorem smallf_any (n : Int) (w : World) : Calls Try.prog 130 #[.int .i64 n] w fun e w' => e = .returned (.bool (badB n)) ∧ w = w' := by
  by_cases h1 : n < -1048576
  · have HS := Lib.hid (show badB n = true by simp [badB, szB]; omega)
    go_enter Try.func130, Try.ntmps130
    go_wp2
    go_ret
    exact ⟨by simp [HS.out], rfl⟩
  · by_cases h2 : 1048576 < n
    all_goals
      have HS := Lib.hid (show badB n = decide (1048576 < n) by rw [Bool.eq_iff_iff]; simp [badB, szB]; omega)
      go_enter Try.func130, Try.ntmps130
      go_wp2
      go_ret
      exact ⟨by simp [HS.out, h2], rfl⟩

def IdxPost (zs : List Int) (w : World) (e : Ending) (w' : World) : Prop := ∃ r : Int, e = .returned (.int .i64 r) ∧ Hid (decide (0 ≤ r) = zs.any badB) ∧ w = w'

set_option maxRecDepth 100000 in
set_option maxHeartbeats 1000000 in
theorem IndexFunc_small (A : Option Addr) (c : Nat) (zs : List Int) (w : World) (hz : IntsAt w A zs) (hn : zs.length ≤ 1000000) :
    Calls Try.prog 159 #[.slice A zs.length c, .func (.func 130) #[] #[]] w (IdxPost zs w) := by
  have HZ := Lib.hid hz
  clear hz
  go_enter Try.func159, Try.ntmps159
  go_wp2
  go_loopg [8] zs.length (fun k ix wr => ∃ j : Nat, j ≤ zs.length ∧ k = zs.length - j ∧ ix = .int .i64 j ∧ Hid (((zs.take j).any badB) = false) ∧ wr = w)
  case atStart => exact ⟨0, by omega, by omega, rfl, Lib.hid (by simp), rfl⟩
  case round =>
    obtain ⟨j, hj, hk, rfl, HA, rfl⟩ := hrel
    by_cases hlt : j < zs.length
    · obtain ⟨z, hz⟩ : ∃ z, zs[j]? = some z := ⟨_, List.getElem?_eq_getElem hlt⟩
      rcases HZ.out with hnil | ⟨g, o, hA, hcs⟩
      · rw [hnil] at hlt; simp at hlt
      · have hc := hcs j z hz
        have hts : zs.take (j + 1) = zs.take j ++ [z] := by
          obtain ⟨hh, rfl⟩ := List.getElem?_eq_some_iff.1 hz
          exact List.take_succ_eq_append_getElem hh
        have HN := Lib.hid (show (zs.take (j + 1)).any badB = badB z by rw [hts, List.any_append, HA.out]; simp)
        have HI := Lib.hid (fun h : badB z = true => show zs.any badB = true by
          rw [List.any_eq_true]; exact ⟨z, List.mem_of_getElem? hz, h⟩)
        clear hcs hts hz
        subst hA
        have j0 : (0 : Int) ≤ (j : Int) := by omega
        have j1 : (j : Int) < (zs.length : Int) := by omega
        cases hb : badB z
        · go_wp2_with (go_at_call 130; refine (smallf_any _ _).mono ?_; rintro e w' ⟨rfl, rfl⟩)
          go_roundg (zs.length - (j + 1))
          case measure => omega
          case rel => exact ⟨j + 1, by omega, rfl, by simp, Lib.hid (by rw [HN.out, hb]), rfl⟩
        · go_wp2_with (go_at_call 130; refine (smallf_any _ _).mono ?_; rintro e w' ⟨rfl, rfl⟩)
          go_ret
          exact ⟨j, rfl, Lib.hid (by rw [HI.out hb]; simp), rfl⟩
    · obtain rfl : j = zs.length := by omega
      have HE := Lib.hid (show zs.any badB = false by have := HA.out; rwa [List.take_length] at this)
      go_wp2
      go_ret
      exact ⟨-1, rfl, Lib.hid (by rw [HE.out]; simp), rfl⟩


set_option maxHeartbeats 400000 in
theorem ContainsFunc_small (A : Option Addr) (c : Nat) (zs : List Int) (w : World) (hz : IntsAt w A zs) (hn : zs.length ≤ 1000000) :
    Calls Try.prog 129 #[.slice A zs.length c, .func (.func 130) #[] #[]] w fun e w' => e = .returned (.bool (zs.any badB)) ∧ w = w' := by
  have HZ := Lib.hid hz
  clear hz
  go_enter Try.func129, Try.ntmps129
  go_wp2_with fail
  refine (IndexFunc_small A c zs w HZ.out hn).mono ?_
  rintro e w1 ⟨r, rfl, HR, rfl⟩
  go_wp2_with fail
  go_ret
  exact ⟨by rw [← HR.out]; simp, rfl⟩

set_option maxHeartbeats 400000 in
theorem small_any (A : Option Addr) (c : Nat) (zs : List Int) (w : World) (hz : IntsAt w A zs) (hn : zs.length ≤ 1000000) :
    Calls Try.prog 100 #[.slice A zs.length c] w fun e w' => e = .returned (.bool (!(zs.any badB))) ∧ w = w' := by
  have HZ := Lib.hid hz
  clear hz
  go_enter Try.func100, Try.ntmps100
  go_wp2_with fail
  refine (ContainsFunc_small A c zs w HZ.out hn).mono ?_
  rintro e w1 ⟨rfl, rfl⟩
  go_wp2_with fail
  go_ret
  exact ⟨rfl, rfl⟩

def arcB (fr ct : Int) : Bool := decide (0 ≤ fr ∧ fr < 256 ∧ 1 ≤ ct ∧ ct ≤ 256 ∧ (fr = 0 ∨ ct < 256))

set_option maxHeartbeats 1000000 in
theorem ValidArc_any (fr ct : Int) (w : World) : Calls Try.prog 101 #[.agg #[.int .i64 fr, .int .i64 ct]] w fun e w' => e = .returned (.bool (arcB fr ct)) ∧ w.alloc (.cells #[.int .i64 fr, .int .i64 ct] 132) = w' := by
  by_cases h1 : 0 ≤ fr
  · by_cases h2 : fr < 256
    · by_cases h3 : 1 ≤ ct
      · by_cases h4 : ct ≤ 256
        · cases h5 : (fr == 0)
          · by_cases h6 : ct < 256
            all_goals
              have HS := Lib.hid (show arcB fr ct = decide (ct < 256) by rw [Bool.eq_iff_iff]; simp at h5; simp [arcB]; omega)
              go_enter Try.func101, Try.ntmps101
              go_wp2
              go_ret
              exact ⟨by simp [HS.out, h6], rfl⟩
          · have HS := Lib.hid (show arcB fr ct = true by simp at h5; simp [arcB]; omega)
            go_enter Try.func101, Try.ntmps101
            go_wp2
            go_ret
            exact ⟨by simp [HS.out], rfl⟩
        · have HS := Lib.hid (show arcB fr ct = false by simp [arcB]; omega)
          go_enter Try.func101, Try.ntmps101
          go_wp2
          go_ret
          exact ⟨by simp [HS.out], rfl⟩
      · have HS := Lib.hid (show arcB fr ct = false by simp [arcB]; omega)
        go_enter Try.func101, Try.ntmps101
        go_wp2
        go_ret
        exact ⟨by simp [HS.out], rfl⟩
    · have HS := Lib.hid (show arcB fr ct = false by simp [arcB]; omega)
      go_enter Try.func101, Try.ntmps101
      go_wp2
      go_ret
      exact ⟨by simp [HS.out], rfl⟩
  · have HS := Lib.hid (show arcB fr ct = false by simp [arcB]; omega)
    go_enter Try.func101, Try.ntmps101
    go_wp2
    go_ret
    exact ⟨by simp [HS.out], rfl⟩

set_option maxHeartbeats 400000 in
theorem arc_any (x0 y0 x1 y1 fr ct : Int) (w : World) : Calls Try.prog 102 #[.agg #[.int .i64 x0, .int .i64 y0, .int .i64 x1, .int .i64 y1, .int .i64 fr, .int .i64 ct]] w fun e w' => e = .returned (.agg #[.int .i64 fr, .int .i64 ct]) ∧
    (w.alloc (.cells #[.int .i64 x0, .int .i64 y0, .int .i64 x1, .int .i64 y1, .int .i64 fr, .int .i64 ct] 25)).alloc (.cells #[.int .i64 fr, .int .i64 ct] 132) = w' := by
  go_enter Try.func102, Try.ntmps102
  go_wp2
  exact bodyPost_ret (v := .agg #[.int .i64 fr, .int .i64 ct]) (by simp [results, Try.results102, go_sem]) rfl ⟨rfl, rfl⟩

def bxB (x0 y0 x1 y1 fr ct : Int) : Bool := decide (x0 ≤ x1) && decide (y0 ≤ y1) && !([x0, y0, x1, y1].any badB) && arcB fr ct

theorem intsAt4 (w : World) (a b c d : Int) (t : TypeId) : IntsAt (w.alloc (.cells #[.int .i64 a, .int .i64 b, .int .i64 c, .int .i64 d] t)) (some ⟨w.heap.size, 0, none⟩) [a, b, c, d] := by
  refine .inr ⟨w.heap.size, 0, rfl, fun i z hi => ?_⟩
  have hb : Bk (w.alloc (.cells #[.int .i64 a, .int .i64 b, .int .i64 c, .int .i64 d] t)) w.heap.size t #[.int .i64 a, .int .i64 b, .int .i64 c, .int .i64 d] := Bk.new _ _ _
  rw [Nat.zero_add, hb.cell i]
  rcases (by have := (List.getElem?_eq_some_iff.1 hi).1; simp at this; omega : i = 0 ∨ i = 1 ∨ i = 2 ∨ i = 3) with rfl | rfl | rfl | rfl <;> simp at hi <;> simp [hi]

set_option maxHeartbeats 1000000 in
theorem bxValid_any (x0 y0 x1 y1 fr ct : Int) (w : World) : Calls Try.prog 58 #[.agg #[.int .i64 x0, .int .i64 y0, .int .i64 x1, .int .i64 y1, .int .i64 fr, .int .i64 ct]] w fun e w' => e = .returned (.bool (bxB x0 y0 x1 y1 fr ct)) ∧ Below w.heap.size w w' := by
  by_cases h1 : x0 ≤ x1
  · by_cases h2 : y0 ≤ y1
    · have hsm0 := intsAt4 (w.alloc (.cells #[.int .i64 x0, .int .i64 y0, .int .i64 x1, .int .i64 y1, .int .i64 fr, .int .i64 ct] 25)) x0 y0 x1 y1 3
      rw [World.size_alloc] at hsm0
      have hsm := Lib.hid hsm0
      clear hsm0
      have HB := Lib.hid (show bxB x0 y0 x1 y1 fr ct = (!([x0, y0, x1, y1].any badB) && arcB fr ct) by simp [bxB, h1, h2])
      generalize hs : (!([x0, y0, x1, y1].any badB)) = sm at HB
      have HM := Lib.hid hs
      clear hs
      cases sm
      all_goals
        go_enter Try.func58, Try.ntmps58
        go_wp2_with fail
        refine (small_any _ 4 [x0, y0, x1, y1] _ hsm.out (by simp)).mono ?_
        rw [HM.out]
        rintro e w1 ⟨rfl, rfl⟩
        go_wp2_with (first | (go_at_call 102; refine (arc_any _ _ _ _ _ _ _).mono ?_; rintro e w1 ⟨rfl, rfl⟩) | (go_at_call 101; refine (ValidArc_any _ _ _).mono ?_; rintro e w1 ⟨rfl, rfl⟩))
        go_ret
        exact ⟨by simp [HB.out], by repeat (first | with_reducible assumption | with_reducible exact bw_refl _ | with_reducible refine bw_alloc ?_ _ | with_reducible refine bw_drew ?_ | with_reducible refine bw_drewN _ ?_ | refine bw_set ?_ (by simp; try omega) _ | refine bw_call (by with_reducible assumption) ?_)⟩
    · have HB := Lib.hid (show bxB x0 y0 x1 y1 fr ct = false by simp [bxB, h2])
      go_enter Try.func58, Try.ntmps58
      go_wp2
      go_ret
      exact ⟨by simp [HB.out], by repeat (first | with_reducible assumption | with_reducible exact bw_refl _ | with_reducible refine bw_alloc ?_ _ | with_reducible refine bw_drew ?_ | with_reducible refine bw_drewN _ ?_ | refine bw_set ?_ (by simp; try omega) _ | refine bw_call (by with_reducible assumption) ?_)⟩
  · have HB := Lib.hid (show bxB x0 y0 x1 y1 fr ct = false by simp [bxB, h1])
    go_enter Try.func58, Try.ntmps58
    go_wp2
    go_ret
    exact ⟨by simp [HB.out], by repeat (first | with_reducible assumption | with_reducible exact bw_refl _ | with_reducible refine bw_alloc ?_ _ | with_reducible refine bw_drew ?_ | with_reducible refine bw_drewN _ ?_ | refine bw_set ?_ (by simp; try omega) _ | refine bw_call (by with_reducible assumption) ?_)⟩

end Go.Proofs.Ytbjkbjiglcomkaa
