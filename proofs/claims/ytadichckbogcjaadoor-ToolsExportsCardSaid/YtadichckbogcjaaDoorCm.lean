/- Small lemmas that all walks of this seat use: what lies below a call's own blocks stays; closing lines. -/
import Derived.Test.YtadichckbogcjaaDoorRows
import Derived.WalkKit
import Derived.WalkSpells
import Derived.WalkLawsBesides
import Derived.Lib.Hide
import Derived.Deep.RegionHeld3
import Derived.Deep.QuietTactic
import Derived.BigQuiet
import Derived.StillTailTactics
import Derived.Deep.DeepFit
import Derived.Deep.DeepCutAuto
import Derived.Deep.LoopGhost
set_option linter.all false
namespace Go.Proofs.YtadichckbogcjaaDoor
open Go.RowKit

theorem bcell {W w1 : World} (hb : Below W.heap.size W w1) : (∀ b o, b < W.heap.size → w1.cell? ⟨b, o, none⟩ = W.cell? ⟨b, o, none⟩) ∧ (∀ b o, b < W.heap.size → w1.frozen? ⟨b, o, none⟩ = W.frozen? ⟨b, o, none⟩) :=
  ⟨fun b o h => hb.cell (p := ⟨b, o, none⟩) h, fun b o h => hb.frozen (p := ⟨b, o, none⟩) h⟩

theorem bw_refl (w : World) : Below w.heap.size w w := Below.refl _ _
theorem bw_drew {w w' : World} (h : Below w.heap.size w w') : Below w.heap.size w w'.drew := h.drew
theorem bw_drewN {w w' : World} (n : Nat) (h : Below w.heap.size w w') : Below w.heap.size w (w'.drewN n) := ⟨h.os, h.tape, h.output, h.size, h.block⟩
theorem bw_alloc {w w' : World} (h : Below w.heap.size w w') (o : Obj) : Below w.heap.size w (w'.alloc o) := h.alloc h.size o
theorem bw_set {w w' : World} (h : Below w.heap.size w w') {p : Addr} (hp : w.heap.size ≤ p.block) (u : Value) : Below w.heap.size w (w'.setCell p u) := h.setCell hp u
theorem bw_call {w W w1 : World} (hb : Below W.heap.size W w1) (h : Below w.heap.size w W) : Below w.heap.size w w1 := h.trans (hb.mono h.size)
theorem ret_eq {v u : Value} (h : v = u) : Ending.returned v = .returned u := by rw [h]

theorem still_of {P : Program} {f : FuncId} {args : Array Value} {w : World} {v : Value} (h : Calls P f args w fun e w' => e = .returned v ∧ w = w') : Calls P f args w fun e w' => e = .returned v ∧ w' = w :=
  h.mono fun _ _ h => ⟨h.1, h.2.symm⟩

theorem and3 (n : Int) : bits .and .i64 n 3 = n % 4 := by
  have h3 : (BitVec.ofInt 64 3).toNat = 2 ^ 2 - 1 := by decide
  have key : (BitVec.ofInt 64 n &&& BitVec.ofInt 64 3).toNat = (n % ((2 ^ 64 : Nat) : Int)).toNat % 2 ^ 2 := by
    rw [BitVec.toNat_and, BitVec.toNat_ofInt, h3, Nat.and_two_pow_sub_one_eq_mod]
  show IntKind.i64.wrap ((BitVec.ofInt 64 n &&& BitVec.ofInt 64 3).toNat : Nat) = n % 4
  rw [key, IntKind.wrap_i64]
  omega

theorem tmod_neg_eq (n m : Int) (h0 : n < 0) (h1 : 1 ≤ m) : (n.tmod m < 0 → n % m = n.tmod m + m) ∧ (¬ n.tmod m < 0 → n % m = n.tmod m) ∧ n.tmod m ≤ 0 ∧ -m < n.tmod m := by
  have a1 := Int.tmod_nonneg (a := -n) m (by omega)
  have a2 := Int.tmod_lt_of_pos (-n) (show 0 < m by omega)
  rw [Int.neg_tmod] at a1 a2
  have a3 := Int.emod_nonneg n (show m ≠ 0 by omega)
  have a4 := Int.emod_lt_of_pos n (show 0 < m by omega)
  have e1 := Int.mul_tdiv_add_tmod n m
  have e2 := Int.mul_ediv_add_emod n m
  have key : m * (n.tdiv m - n / m) = n % m - n.tmod m := by rw [Int.mul_sub]; omega
  generalize n.tdiv m - n / m = d at key
  have hd : d = 0 ∨ d = 1 := by
    rcases (by omega : d < 0 ∨ 0 ≤ d) with h | h
    · have : m * d ≤ m * (-1) := Int.mul_le_mul_of_nonneg_left (by omega) (by omega)
      omega
    · rcases (by omega : 1 < d ∨ d ≤ 1) with h' | h'
      · have : m * 2 ≤ m * d := Int.mul_le_mul_of_nonneg_left (by omega) (by omega)
        omega
      · omega
  rcases hd with rfl | rfl
  · refine ⟨fun h => by omega, fun h => by omega, by omega, by omega⟩
  · refine ⟨fun h => by omega, fun h => by omega, by omega, by omega⟩

end Go.Proofs.YtadichckbogcjaaDoor
