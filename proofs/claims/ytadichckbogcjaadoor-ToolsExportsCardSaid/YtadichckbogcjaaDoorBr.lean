/- A slice of structs of integers that came in, as the executor reads it. -/
import Derived.Test.YtadichckbogcjaaDoorOp
import Derived.Test.YtadichckbogcjaaDoorEnE
set_option linter.all false
namespace Go.Proofs.YtadichckbogcjaaDoor.En
open Go.RowKit

theorem ArgSl.of_SlO {w : World} {A : Option Addr} {n C : Nat} {V : Nat → Nat → Int} {α : Type} (enc : α → List Value) (f : Nat → α) (h : SlO w A n C V) (hC : 0 < C) (he : ∀ i, enc (f i) = (List.range C).map fun j => Value.int .i64 (V i j)) : ArgSl w A n C (((List.range n).map f).map enc) := by
  refine ⟨by simp, fun e hm => ?_, fun e hm v hv => ?_, fun hn => ?_⟩
  · obtain ⟨x, hx, rfl⟩ := List.mem_map.1 hm
    obtain ⟨i, _, rfl⟩ := List.mem_map.1 hx
    simp [he]
  · obtain ⟨x, hx, rfl⟩ := List.mem_map.1 hm
    obtain ⟨i, _, rfl⟩ := List.mem_map.1 hx
    rw [he] at hv
    obtain ⟨j, _, rfl⟩ := List.mem_map.1 hv
    rfl
  · rcases h with h | ⟨a, rfl, h⟩
    · exact (hn h).elim
    · obtain ⟨b, o, s⟩ := a
      have h0 := (h 0 (by omega) 0 hC).1
      have hs : s = none := by
        simp only [Nat.zero_mul, Addr.add, if_true] at h0
        unfold World.cell? at h0
        cases s with
        | none => rfl
        | some s =>
          exfalso
          simp only [Option.isSome_some, if_true] at h0
          revert h0
          split <;> intro h0 <;> cases h0
      subst hs
      refine ⟨b, o, rfl, fun i e hi j v hj => ?_⟩
      rw [List.getElem?_map, List.getElem?_map] at hi
      by_cases hin : i < n
      · rw [List.getElem?_range hin] at hi
        simp only [Option.map_some, Option.some.injEq] at hi
        subst hi
        rw [he, List.getElem?_map] at hj
        by_cases hjn : j < C
        · rw [List.getElem?_range hjn] at hj
          simp only [Option.map_some, Option.some.injEq] at hj
          subst hj
          have := (h i hin j hjn).1
          rw [Addr.add_mid, Addr.add_mid] at this
          exact this
        · rw [List.getElem?_eq_none (by simpa using hjn)] at hj
          cases hj
      · rw [List.getElem?_eq_none (by simpa using hin)] at hi
        cases hi
end Go.Proofs.YtadichckbogcjaaDoor.En
