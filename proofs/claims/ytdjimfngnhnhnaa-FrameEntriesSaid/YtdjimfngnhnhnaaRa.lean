/- Relations: New, Between, Add. -/
import Derived.Test.YtdjimfngnhnhnaaRf
import Derived.Deep.AppendLies
import Derived.Deep.RegionLaw
set_option linter.all false
namespace Go.Proofs.Ytdjimfngnhnhnaa
open Go.RowKit

def rbB (n : Int) : Bool := decide (0 ≤ n ∧ n < 8)
theorem rbB_of {n : Int} (h : rbB n = true) : 0 ≤ n ∧ n < 8 := by simpa [rbB] using h

set_option maxHeartbeats 400000 in
theorem robot_any (n : Int) (w : World) : Calls Try.prog 92 #[.int .i64 n] w fun e w' => e = .returned (.bool (rbB n)) ∧ w = w' := by
  by_cases h1 : 0 ≤ n
  · by_cases h2 : n < 8
    all_goals
      have HS := Lib.hid (show rbB n = decide (n < 8) by simp [rbB, h1])
      go_enter Try.func92, Try.ntmps92
      go_wp2
      go_ret
      exact ⟨by simp [HS.out]; omega, rfl⟩
  · have HS := Lib.hid (show rbB n = false by simp [rbB, h1])
    go_enter Try.func92, Try.ntmps92
    go_wp2
    go_ret
    exact ⟨by simp [HS.out], rfl⟩

def relCells (r : Rel) : List Value := [.int .i64 r.1, .int .i64 r.2.1, .int .i64 r.2.2.1, .int .i64 r.2.2.2.1, .int .i64 r.2.2.2.2]
def relsCells (rs : List Rel) : List Value := rs.flatMap relCells
theorem relsCells_get : ∀ (rs : List Rel) (i : Nat) (r : Rel) (j : Nat), rs[i]? = some r → j < 5 → (relsCells rs)[i * 5 + j]? = (relCells r)[j]?
  | [], i, r, j, h, _ => by simp at h
  | r' :: rs, 0, r, j, h, hj => by
    simp at h; subst h
    simp only [relsCells, List.flatMap_cons, Nat.zero_mul, Nat.zero_add]
    rw [List.getElem?_append_left (by simp [relCells]; omega)]
  | r' :: rs, i + 1, r, j, h, hj => by
    have ih := relsCells_get rs i r j (by simpa using h) hj
    simp only [relsCells, List.flatMap_cons] at ih ⊢
    rw [List.getElem?_append_right (by simp [relCells]; omega), ← ih]
    congr 1
    simp [relCells]
    omega
theorem relsCells_snoc (rs : List Rel) (r : Rel) : relsCells (rs ++ [r]) = relsCells rs ++ relCells r := by simp [relsCells]

/-- block rb holds Relations whose list is rs; its array lies in block ob -/
def RObj (w : World) (rb : Nat) (ob : Option Nat) (rs : List Rel) : Prop :=
  ∃ v : Value, v.ownBlock = ob ∧ w.heap[rb]? = some (.cells #[v] 122) ∧ w.ownsRow 0 82 5 v rs.length (relsCells rs) ∧ ob ≠ some rb ∧ (∀ r ∈ rs, RelOk r)

theorem RObj.lt {w : World} {rb : Nat} {ob : Option Nat} {rs : List Rel} (h : RObj w rb ob rs) : rb < w.heap.size ∧ ∀ g, ob = some g → g < w.heap.size := by
  obtain ⟨v, hv, hh, ho, _, _⟩ := h
  refine ⟨?_, fun g hg => (ho.lt g (hv.trans hg)).2⟩
  rcases Nat.lt_or_ge rb w.heap.size with hlt | hge
  · exact hlt
  · rw [Array.getElem?_eq_none hge] at hh; cases hh

theorem RObj.keep {w w' : World} {rb : Nat} {ob : Option Nat} {rs : List Rel} (h : RObj w rb ob rs) (h1 : w'.heap[rb]? = w.heap[rb]?) (h2 : ∀ g, ob = some g → w'.heap[g]? = w.heap[g]?) : RObj w' rb ob rs := by
  obtain ⟨v, hv, hh, ho, hne, hok⟩ := h
  refine ⟨v, hv, h1.trans hh, ⟨ho.1, ?_⟩, hne, hok⟩
  rcases ho.2 with hn | ⟨g, cap, cur, rfl, hb, hgg, rest⟩
  · exact .inl hn
  · exact .inr ⟨g, cap, cur, rfl, hb, (h2 g (by rw [← hv]; rfl)).trans hgg, rest⟩
theorem RObj.below {w w' : World} {rb : Nat} {ob : Option Nat} {rs : List Rel} (h : RObj w rb ob rs) (hb : Below w.heap.size w w') : RObj w' rb ob rs :=
  h.keep (hb.block _ h.lt.1) (fun g hg => hb.block _ (h.lt.2 g hg))
theorem RObj.alloc {w : World} {rb : Nat} {ob : Option Nat} {rs : List Rel} (h : RObj w rb ob rs) (o : Obj) : RObj (w.alloc o) rb ob rs :=
  h.keep (Below.heap_alloc _ _ _ h.lt.1) (fun g hg => Below.heap_alloc _ _ _ (h.lt.2 g hg))
theorem RObj.read {w : World} {rb : Nat} {ob : Option Nat} {rs : List Rel} (h : RObj w rb ob rs) : ∃ A c, w.cell? ⟨rb, 0, none⟩ = some (.slice A rs.length c) ∧ RelsAt w A rs := by
  obtain ⟨v, hv, hh, ho, _, hok⟩ := h
  have hc := cell_of_row w rb 0 #[v] 122 (0, 0) hh
  rcases ho.2 with ⟨rfl, hn⟩ | ⟨g, cap, cur, rfl, hb, hgg, rest⟩
  · have : rs = [] := List.eq_nil_of_length_eq_zero hn
    subst this
    exact ⟨none, 0, by simpa using hc, .inl rfl⟩
  · refine ⟨_, cap, by simpa using hc, .inr ⟨g, rfl, fun i r hi => ?_⟩⟩
    have hlt : i < rs.length := (List.getElem?_eq_some_iff.1 hi).1
    have hat := fun (j : Nat) (hj : j < 5) => (ho.cellAt (i * 5 + j) (by omega)).trans (relsCells_get rs i r j hi hj)
    exact ⟨hat 0 (by omega), hat 1 (by omega), hat 2 (by omega), hat 3 (by omega), hat 4 (by omega)⟩

set_option maxHeartbeats 400000 in
theorem New_any (w : World) : Calls Try.prog 52 #[] w fun e w' => e = .returned (.pointer (some ⟨w.heap.size, 0, none⟩)) ∧ w.alloc (.cells #[.slice none 0 0] 122) = w' := by
  go_enter Try.func52, Try.ntmps52
  go_wp2
  go_ret
  exact ⟨rfl, rfl⟩
theorem RObj.new (w : World) : RObj (w.alloc (.cells #[.slice none 0 0] 122)) w.heap.size none [] :=
  ⟨.slice none 0 0, rfl, heap_alloc_new w _, ⟨by simp [relsCells], .inl ⟨rfl, rfl⟩⟩, by simp, by simp⟩

/-- what Between returns -/
def btF (rs : List Rel) (a b : Int) : Option Fr := if rbB a && rbB b then fLook (fromL rs a) b else none
def btV : Option Fr → Value
  | some f => .tuple #[frV f, .bool true]
  | none => .tuple #[.agg #[.int .i64 0, .int .i64 0, .int .i64 0], .bool false]

set_option maxHeartbeats 1000000 in
theorem Between_any (rb : Nat) (ob : Option Nat) (rs : List Rel) (a b : Int) (w : World) (hr : RObj w rb ob rs) (hn : rs.length ≤ 100) :
    Calls Try.prog 54 #[.pointer (some ⟨rb, 0, none⟩), .int .i64 a, .int .i64 b] w fun e w' => e = .returned (btV (btF rs a b)) ∧ Below w.heap.size w w' := by
  cases ha : rbB a
  · have HS := Lib.hid (show btF rs a b = none by simp [btF, ha])
    go_enter Try.func54, Try.ntmps54
    go_wp2_with (go_at_call 92; refine (robot_any _ _).mono ?_; rintro e w1 ⟨rfl, rfl⟩)
    refine bodyPost_ret (v := .tuple #[.agg #[.int .i64 0, .int .i64 0, .int .i64 0], .bool false]) (by simp [results, Try.results54, go_sem]) rfl ⟨by rw [HS.out]; rfl, ?_⟩
    repeat (first | with_reducible assumption | with_reducible exact bw_refl _ | with_reducible refine bw_alloc ?_ _ | with_reducible refine bw_drew ?_ | with_reducible refine bw_drewN _ ?_ | refine bw_set ?_ (by simp; try omega) _ | refine bw_call (by with_reducible assumption) ?_)
  · cases hb : rbB b
    · have HS := Lib.hid (show btF rs a b = none by simp [btF, hb])
      go_enter Try.func54, Try.ntmps54
      go_wp2_with (go_at_call 92; refine (robot_any _ _).mono ?_; rintro e w1 ⟨rfl, rfl⟩)
      refine bodyPost_ret (v := .tuple #[.agg #[.int .i64 0, .int .i64 0, .int .i64 0], .bool false]) (by simp [results, Try.results54, go_sem]) rfl ⟨by rw [HS.out]; rfl, ?_⟩
      repeat (first | with_reducible assumption | with_reducible exact bw_refl _ | with_reducible refine bw_alloc ?_ _ | with_reducible refine bw_drew ?_ | with_reducible refine bw_drewN _ ?_ | refine bw_set ?_ (by simp; try omega) _ | refine bw_call (by with_reducible assumption) ?_)
    · have HS := Lib.hid (show btF rs a b = fLook (fromL rs a) b by simp [btF, ha, hb])
      have hok := Lib.hid (show ∀ r ∈ rs, RelOk r from hr.choose_spec.2.2.2.2)
      obtain ⟨a0, a1⟩ := rbB_of ha
      have HR := Lib.hid hr
      clear hr
      go_enter Try.func54, Try.ntmps54
      go_wp2_with (go_at_call 92; refine (robot_any _ _).mono ?_; rintro e w1 ⟨rfl, rfl⟩)
      obtain ⟨A, c, hc, hra⟩ := (HR.out.alloc (.cells #[.int .i64 0, .int .i64 0, .int .i64 0] 23)).read
      refine (from_any rb A c rs a _ hc hra hok.out hn a0 a1).mono ?_
      clear hc hra
      rintro e w1 ⟨rfl, hm, hbl⟩
      have hs := hbl.size
      simp at hs
      obtain ⟨hcc, hff⟩ := bcell hbl
      have s0 : w.heap.size < w1.heap.size := by omega
      obtain ⟨R1, R2⟩ := map_rules ((w.alloc (.cells #[.int .i64 0, .int .i64 0, .int .i64 0] 23)).heap.size) (encM (fromL rs a))
      clear R2
      simp only [World.size_alloc] at R1 hm
      cases hl : fLook (fromL rs a) b with
      | none =>
        obtain ⟨A1, A2, _⟩ := mGet_none hl (.agg #[.int .i64 0, .int .i64 0, .int .i64 0])
        go_wp2
        refine bodyPost_ret (v := .tuple #[.agg #[.int .i64 0, .int .i64 0, .int .i64 0], .bool false]) (by simp [results, Try.results54, go_sem, hcc, s0]) rfl ⟨by rw [HS.out, hl]; rfl, ?_⟩
        repeat (first | with_reducible assumption | with_reducible exact bw_refl _ | with_reducible refine bw_alloc ?_ _ | with_reducible refine bw_drew ?_ | with_reducible refine bw_drewN _ ?_ | refine bw_set ?_ (by simp; try omega) _ | refine bw_call (by with_reducible assumption) ?_)
      | some f =>
        obtain ⟨fq, fx, fy⟩ := f
        obtain ⟨A1, A2⟩ := mGet_some hl (.agg #[.int .i64 0, .int .i64 0, .int .i64 0])
        simp only [frV] at A1
        go_wp2
        refine bodyPost_ret (v := .tuple #[.agg #[.int .i64 fq, .int .i64 fx, .int .i64 fy], .bool true]) (by simp [results, Try.results54, go_sem, hcc, s0]) rfl ⟨by rw [HS.out, hl]; rfl, ?_⟩
        repeat (first | with_reducible assumption | with_reducible exact bw_refl _ | with_reducible refine bw_alloc ?_ _ | with_reducible refine bw_drew ?_ | with_reducible refine bw_drewN _ ?_ | refine bw_set ?_ (by simp; try omega) _ | refine bw_call (by with_reducible assumption) ?_)

end Go.Proofs.Ytdjimfngnhnhnaa
