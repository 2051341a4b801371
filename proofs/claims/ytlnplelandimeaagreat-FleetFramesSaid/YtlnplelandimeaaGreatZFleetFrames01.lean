import Derived.Test.YtlnplelandimeaaGreatRows
import Derived.WalkKit
import Derived.WalkSpells
import Derived.WalkLawsBesides
import Derived.Lib.Hide
import Derived.Deep.RegionHeld3
import Derived.Deep.QuietTactic
import Derived.BigQuiet
import Derived.StillTailTactics
import Derived.Deep.DeepFit
import Derived.Deep.DeepCutAuto
import Derived.Deep.LoopGhost
import Derived.ProofKit
import Derived.OpenShut
import Derived.Lib.SmallJoins
import Derived.Deep.Slices
import Derived.Deep.Fields
set_option linter.all false
section
namespace Go.Proofs.YtlnplelandimeaaGreat
open Go.RowKit
theorem bcell {W w1 : World} (hb : Below W.heap.size W w1) : (∀ b o, b < W.heap.size → w1.cell? ⟨b, o, none⟩ = W.cell? ⟨b, o, none⟩) ∧ (∀ b o, b < W.heap.size → w1.frozen? ⟨b, o, none⟩ = W.frozen? ⟨b, o, none⟩) :=
  ⟨fun b o h => hb.cell (p := ⟨b, o, none⟩) h, fun b o h => hb.frozen (p := ⟨b, o, none⟩) h⟩
theorem bw_refl (w : World) : Below w.heap.size w w := Below.refl _ _
theorem bw_drew {w w' : World} (h : Below w.heap.size w w') : Below w.heap.size w w'.drew := h.drew
theorem bw_drewN {w w' : World} (n : Nat) (h : Below w.heap.size w w') : Below w.heap.size w (w'.drewN n) := ⟨h.os, h.tape, h.output, h.size, h.block⟩
theorem bw_alloc {w w' : World} (h : Below w.heap.size w w') (o : Obj) : Below w.heap.size w (w'.alloc o) := h.alloc h.size o
theorem bw_set {w w' : World} (h : Below w.heap.size w w') {p : Addr} (hp : w.heap.size ≤ p.block) (u : Value) : Below w.heap.size w (w'.setCell p u) := h.setCell hp u
theorem bw_call {w W w1 : World} (hb : Below W.heap.size W w1) (h : Below w.heap.size w W) : Below w.heap.size w w1 := h.trans (hb.mono h.size)
theorem and3 (n : Int) : bits .and .i64 n 3 = n % 4 := by
  have h3 : (BitVec.ofInt 64 3).toNat = 2 ^ 2 - 1 := by decide
  have key : (BitVec.ofInt 64 n &&& BitVec.ofInt 64 3).toNat = (n % ((2 ^ 64 : Nat) : Int)).toNat % 2 ^ 2 := by
    rw [BitVec.toNat_and, BitVec.toNat_ofInt, h3, Nat.and_two_pow_sub_one_eq_mod]
  show IntKind.i64.wrap ((BitVec.ofInt 64 n &&& BitVec.ofInt 64 3).toNat : Nat) = n % 4
  rw [key, IntKind.wrap_i64]
  omega
theorem tmod_neg_eq (n m : Int) (h0 : n < 0) (h1 : 1 ≤ m) : (n.tmod m < 0 → n % m = n.tmod m + m) ∧ (¬ n.tmod m < 0 → n % m = n.tmod m) ∧ n.tmod m ≤ 0 ∧ -m < n.tmod m := by
  have a1 := Int.tmod_nonneg (a := -n) m (by omega)
  have a2 := Int.tmod_lt_of_pos (-n) (show 0 < m by omega)
  rw [Int.neg_tmod] at a1 a2
  have a3 := Int.emod_nonneg n (show m ≠ 0 by omega)
  have a4 := Int.emod_lt_of_pos n (show 0 < m by omega)
  have e1 := Int.mul_tdiv_add_tmod n m
  have e2 := Int.mul_ediv_add_emod n m
  have key : m * (n.tdiv m - n / m) = n % m - n.tmod m := by rw [Int.mul_sub]; omega
  generalize n.tdiv m - n / m = d at key
  have hd : d = 0 ∨ d = 1 := by
    rcases (by omega : d < 0 ∨ 0 ≤ d) with h | h
    · have : m * d ≤ m * (-1) := Int.mul_le_mul_of_nonneg_left (by omega) (by omega)
      omega
    · rcases (by omega : 1 < d ∨ d ≤ 1) with h' | h'
      · have : m * 2 ≤ m * d := Int.mul_le_mul_of_nonneg_left (by omega) (by omega)
        omega
      · omega
  rcases hd with rfl | rfl
  · refine ⟨fun h => by omega, fun h => by omega, by omega, by omega⟩
  · refine ⟨fun h => by omega, fun h => by omega, by omega, by omega⟩
end Go.Proofs.YtlnplelandimeaaGreat
end
section
namespace Go.Proofs.YtlnplelandimeaaGreat
open Go.ChangeShapes Go.WideShapes Go.ChangeAt Go.RowKit Go.Joins Go.Deep
theorem own : ownKnob Tryz.prog.godebug = none := by kernel_rfl
theorem laidOut : laidOutB Tryz.prog = true := by kernel_rfl
section
variable {H : Type} {enc : TypeId × Value → H} {P : Program} {w : World} {base : Nat} {spare : Nat → Bool} {held : Bool}
end
end Go.Proofs.YtlnplelandimeaaGreat
namespace Go.Proofs.YtlnplelandimeaaGreat
open Go.ChangeShapes Go.WideShapes Go.ChangeAt Go.RowKit Go.Joins Go.Deep
def flatI (P : Program) : Nat → TypeId → Bool
  | 0, _ => false
  | n + 1, t =>
    match P.underlying t with
    | some (.int .i64) => true
    | some (.struct fs) => (fs.all fun f => flatI P n f.type) && (List.range (P.cellsOf t)).all fun j => fs.any fun f => decide (f.offset ≤ j) && decide (j < f.offset + P.cellsOf f.type)
    | _ => false
section
variable {H : Type} {enc : TypeId × Value → H} {P : Program} {w : World} {base : Nat} {spare : Nat → Bool} {held : Bool}
theorem flat_cells : ∀ (n : Nat) {t : TypeId} {fuel : Nat} {cs : List Value} {x : DataW H × List MemPlace}, flatI P n t = true → DataW.trod enc P w base spare held fuel t cs = some x → ∀ j, j < cs.length → ∃ a : Int, cs[j]? = some (.int .i64 a) ∧ (Lit.int .i64 a).wf = true
  | 0, _, _, _, _, hf, _, _, _ => by simp [flatI] at hf
  | n + 1, t, fuel, cs, x, hf, h, j, hj => by
    unfold flatI at hf
    split at hf
    · rename_i ht
      obtain ⟨a, rfl, _, hw⟩ := DataW.trod_int ht h
      simp at hj
      subst hj
      exact ⟨a, rfl, hw⟩
    · rename_i fs ht
      simp only [Bool.and_eq_true] at hf
      obtain ⟨hf1, hf2⟩ := hf
      obtain ⟨xs, m, _, _, hl, hxl, hg⟩ := DataW.trod_struct ht h
      have h2 := List.all_eq_true.1 hf2 j (by simp; omega)
      obtain ⟨i, hi, hij⟩ := Array.any_eq_true.1 h2
      simp only [Bool.and_eq_true, decide_eq_true_eq] at hij
      have h1 := hg i fs[i] (Array.getElem?_eq_getElem hi)
      have hys : xs[i]? = some (xs[i]'(by omega)) := List.getElem?_eq_getElem (by omega)
      rw [hys] at h1
      have h3 := Array.all_eq_true.1 hf1 i hi
      obtain ⟨a, ha, hw⟩ := flat_cells n h3 h1 (j - fs[i].offset) (by simp; omega)
      refine ⟨a, ?_, hw⟩
      rw [List.getElem?_take_of_lt (by omega), List.getElem?_drop] at ha
      rw [← ha]
      congr 1
      omega
    · cases hf
def SlAt (w : World) (a : Addr) (len C : Nat) (V : Nat → Nat → Int) : Prop :=
  ∀ i, i < len → ∀ j, j < C → w.cell? ((a.add (i * C)).add j) = some (.int .i64 (V i j)) ∧ (Lit.int .i64 (V i j)).wf = true
theorem open_sliceI {t e : TypeId} {n : Nat} {cs : List Value} {fuel : Nat} {x : DataW H × List MemPlace} (ht : P.underlying t = some (.slice e)) (hf : flatI P n e = true) (h : DataW.trod enc P w base spare held fuel t cs = some x) :
    cs = [.slice none 0 0] ∨ ∃ (a : Addr) (len cap : Nat) (V : Nat → Nat → Int), cs = [.slice (some a) len cap] ∧ len ≤ cap ∧ cap ≤ maxLen ∧ SlAt w a len (P.cellsOf e) V := by
  rcases open_slice ht h with h0 | ⟨a, len, cap, m, k, D, Pl, hcs, hb, hl, hm, hmm, hx, hi⟩
  · exact .inl h0.1
  · have hlm : len ≤ m := by rw [hmm]; split <;> omega
    have hex : ∀ i j, ∃ v : Int, i < len → j < P.cellsOf e → w.cell? ((a.add (i * P.cellsOf e)).add j) = some (.int .i64 v) ∧ (Lit.int .i64 v).wf = true := by
      intro i j
      by_cases h1 : i < len
      · by_cases h2 : j < P.cellsOf e
        · obtain ⟨cs', hc, ht'⟩ := hi i (by omega)
          obtain ⟨_, hcl, hat⟩ := World.cells?_some hc
          obtain ⟨v, hv, hw⟩ := flat_cells n hf ht' j (by omega)
          exact ⟨v, fun _ _ => ⟨by rw [hat j h2, hv], hw⟩⟩
        · exact ⟨0, fun _ h => absurd h h2⟩
      · exact ⟨0, fun h => absurd h h1⟩
    exact .inr ⟨a, len, cap, fun i j => Classical.choose (hex i j), hcs, hl, hm, fun i h1 j h2 => Classical.choose_spec (hex i j) h1 h2⟩
end
def SlO (w : World) (A : Option Addr) (len C : Nat) (V : Nat → Nat → Int) : Prop := len = 0 ∨ ∃ a, A = some a ∧ SlAt w a len C V
theorem SlAt.below {w w' : World} {a : Addr} {len C : Nat} {V : Nat → Nat → Int} (h : SlAt w a len C V) (hb : Below w.heap.size w w') : SlAt w' a len C V := fun i hi j hj => by
  obtain ⟨h1, h2⟩ := h i hi j hj
  exact ⟨(hb.cell (World.block_lt_of_cell? w _ h1)).trans h1, h2⟩
theorem SlO.below {w w' : World} {A : Option Addr} {len C : Nat} {V : Nat → Nat → Int} (h : SlO w A len C V) (hb : Below w.heap.size w w') : SlO w' A len C V := by
  rcases h with h | ⟨a, h1, h2⟩
  · exact .inl h
  · exact .inr ⟨a, h1, h2.below hb⟩
theorem SlO.at {w : World} {A : Option Addr} {len C i : Nat} {V : Nat → Nat → Int} (h : SlO w A len C V) (hi : i < len) : ∃ a, A = some a ∧ ∀ j, j < C → w.cell? ((a.add (i * C)).add j) = some (.int .i64 (V i j)) := by
  rcases h with h | ⟨a, h1, h2⟩
  · omega
  · exact ⟨a, h1, fun j hj => (h2 i hi j hj).1⟩
theorem SlO.get {w : World} {A : Option Addr} {len C i : Nat} {V : Nat → Nat → Int} (h : SlO w A len C V) (hi : i < len) (hC : 0 < C) :
    ∃ a, A = some a ∧ w.cell? (a.add (i * C)) = some (.int .i64 (V i 0)) ∧ ∀ j, 0 < j → j < C → w.cell? ⟨(a.add (i * C)).block, (a.add (i * C)).off + j, none⟩ = some (.int .i64 (V i j)) := by
  obtain ⟨a, h1, h2⟩ := h.at hi
  refine ⟨a, h1, h2 0 hC, fun j h0 hj => ?_⟩
  have := h2 j hj
  unfold Addr.add at this ⊢
  rw [if_neg (by omega : j ≠ 0)] at this
  exact this
end Go.Proofs.YtlnplelandimeaaGreat
end
section
namespace Go.Proofs.YtlnplelandimeaaGreat
open Go.ChangeShapes Go.WideShapes Go.ChangeAt Go.RowKit Go.Joins Go.Deep
set_option maxRecDepth 100000
def leafT (P : Program) : Nat → TypeId → Nat → Option TypeId
  | 0, _, _ => none
  | n + 1, t, j =>
    match P.underlying t with
    | some (.struct fs) => (fs.toList.find? fun f => decide (f.offset ≤ j) && decide (j < f.offset + P.cellsOf f.type) && decide (f.offset + P.cellsOf f.type ≤ P.cellsOf t)).bind fun f => leafT P n f.type (j - f.offset)
    | some _ => if decide (j = 0) && decide (P.cellsOf t = 1) then some t else none
    | none => none
section
variable {H : Type} {enc : TypeId × Value → H} {P : Program} {w : World} {base : Nat} {spare : Nat → Bool} {held : Bool}
theorem leaf_cell : ∀ (n : Nat) {t tl : TypeId} {j fuel : Nat} {cs : List Value} {x : DataW H × List MemPlace}, leafT P n t j = some tl → cs.length = P.cellsOf t → DataW.trod enc P w base spare held fuel t cs = some x →
    ∃ (fuel' : Nat) (y : DataW H × List MemPlace), DataW.trod enc P w base spare held fuel' tl ((cs.drop j).take 1) = some y
  | 0, _, _, _, _, _, _, hf, _, _ => by cases hf
  | n + 1, t, tl, j, fuel, cs, x, hf, hc, h => by
    unfold leafT at hf
    split at hf
    · rename_i fs ht
      obtain ⟨xs, m, _, _, hl, hxl, hg⟩ := DataW.trod_struct ht h
      cases hq : fs.toList.find? fun f => decide (f.offset ≤ j) && decide (j < f.offset + P.cellsOf f.type) && decide (f.offset + P.cellsOf f.type ≤ P.cellsOf t) with
      | none => rw [hq] at hf; cases hf
      | some f =>
        rw [hq] at hf
        have h1 := List.find?_some hq
        have h2 := List.mem_of_find?_eq_some hq
        simp only [Bool.and_eq_true, decide_eq_true_eq] at h1
        obtain ⟨i, hi, hfi⟩ := List.getElem_of_mem h2
        have hfi' : fs[i]? = some f := by
          rw [← hfi, Array.getElem_toList]
          exact Array.getElem?_eq_getElem (by simpa using hi)
        have h3 := hg i f hfi'
        have hys : xs[i]? = some (xs[i]'(by rw [hxl]; simpa using hi)) := List.getElem?_eq_getElem _
        rw [hys] at h3
        obtain ⟨fuel', y, hy⟩ := leaf_cell n (by simpa using hf) (by simp; omega) h3
        refine ⟨fuel', y, ?_⟩
        rw [← hy, List.drop_take, List.take_take, List.drop_drop, show min 1 (P.cellsOf f.type - (j - f.offset)) = 1 by omega]
        first
        | rw [show f.offset + (j - f.offset) = j by omega]
        | rw [show j - f.offset + f.offset = j by omega]
    · rename_i ht hs
      split at hf
      · rename_i h1
        cases hf
        simp only [Bool.and_eq_true, decide_eq_true_eq] at h1
        obtain ⟨rfl, h2⟩ := h1
        refine ⟨fuel, x, ?_⟩
        rw [List.drop_zero, List.take_of_length_le (by omega)]
        exact h
      · cases hf
    · cases hf
end
end Go.Proofs.YtlnplelandimeaaGreat
end
section
namespace Go.Proofs.YtlnplelandimeaaGreat
open Go.RowKit
def szB (n m : Int) : Bool := decide (-m ≤ n ∧ n ≤ m)
set_option maxHeartbeats 400000 in
theorem size_any (n m : Int) (w : World) (h1 : -1000000000000 ≤ m) (h2 : m ≤ 1000000000000) :
    Calls Tryz.prog 102 #[.int .i64 n, .int .i64 m] w fun e w' => e = .returned (.bool (szB n m)) ∧ w = w' := by
  by_cases h3 : -m ≤ n
  · by_cases h4 : n ≤ m
    · have HS := Lib.hid (show szB n m = true by simp [szB, h3, h4])
      go_enter Tryz.func102, Tryz.ntmps102
      go_wp2
      go_ret
      exact ⟨by simp [HS.out], rfl⟩
    · have HS := Lib.hid (show szB n m = false by simp [szB, h4])
      go_enter Tryz.func102, Tryz.ntmps102
      go_wp2
      go_ret
      exact ⟨by simp [HS.out], rfl⟩
  · have HS := Lib.hid (show szB n m = false by simp [szB, h3])
    go_enter Tryz.func102, Tryz.ntmps102
    go_wp2
    go_ret
    exact ⟨by simp [HS.out], rfl⟩
set_option maxHeartbeats 400000 in
theorem valid_any (q x y : Int) (w : World) :
    Calls Tryz.prog 91 #[.agg #[.int .i64 q, .int .i64 x, .int .i64 y]] w fun e w' => e = .returned (.bool (szB x 8192 && szB y 8192)) ∧ w.alloc (.cells #[.int .i64 q, .int .i64 x, .int .i64 y] 37) = w' := by
  cases h3 : szB x 8192
  all_goals
    go_enter Tryz.func91, Tryz.ntmps91
    go_wp2_with (go_at_call 102; refine (size_any _ _ _ (by omega) (by omega)).mono ?_; rintro e w' ⟨rfl, rfl⟩)
    go_ret
    exact ⟨by simp, rfl⟩
def clipI (n lo hi : Int) : Int := max lo (min n hi)
set_option maxHeartbeats 400000 in
theorem mod_any (n m : Int) (w : World) (h1 : 1 ≤ m) (h2 : m ≤ 1000000000000) :
    Calls Tryz.prog 36 #[.int .i64 n, .int .i64 m] w fun e w' => e = .returned (.int .i64 (n % m)) ∧ w = w' := by
  by_cases h3 : 0 ≤ n
  · have h4 : 0 ≤ n % m := Int.emod_nonneg _ (by omega)
    go_enter Tryz.func36, Tryz.ntmps36
    go_wp2
    go_ret
    exact ⟨by simp, rfl⟩
  · obtain ⟨k1, k2, h4, h5⟩ := tmod_neg_eq n m (by omega) h1
    by_cases h6 : n.tmod m < 0
    · have HS := Lib.hid (k1 h6)
      clear k1 k2
      go_enter Tryz.func36, Tryz.ntmps36
      go_wp2
      go_ret
      exact ⟨by simp [HS.out], rfl⟩
    · have HS := Lib.hid (k2 h6)
      clear k1 k2
      go_enter Tryz.func36, Tryz.ntmps36
      go_wp2
      go_ret
      exact ⟨by simp [HS.out], rfl⟩
def tX (q x y : Int) : Int := if q = 0 then x else if q = 1 then -y else if q = 2 then -x else y
def tY (q x y : Int) : Int := if q = 0 then y else if q = 1 then x else if q = 2 then -y else -x
theorem tX_bd (q x y B : Int) (h1 : -B ≤ x) (h2 : x ≤ B) (h3 : -B ≤ y) (h4 : y ≤ B) : -B ≤ tX q x y ∧ tX q x y ≤ B := by
  unfold tX; split <;> (try split) <;> (try split) <;> omega
theorem tY_bd (q x y B : Int) (h1 : -B ≤ x) (h2 : x ≤ B) (h3 : -B ≤ y) (h4 : y ≤ B) : -B ≤ tY q x y ∧ tY q x y ≤ B := by
  unfold tY; split <;> (try split) <;> (try split) <;> omega
theorem tXY_succ (k x y : Int) (h0 : 0 ≤ k) (h1 : k < 3) : tX (k + 1) x y = -(tY k x y) ∧ tY (k + 1) x y = tX k x y := by
  rcases (by omega : k = 0 ∨ k = 1 ∨ k = 2) with rfl | rfl | rfl <;> simp [tX, tY]
set_option maxHeartbeats 400000 in
theorem turned_any (q x y : Int) (w : World) (h1 : -1000000000000 ≤ x) (h2 : x ≤ 1000000000000) (h3 : -1000000000000 ≤ y) (h4 : y ≤ 1000000000000) :
    Calls Tryz.prog 126 #[.int .i64 q, .int .i64 x, .int .i64 y] w fun e w' => e = .returned (.tuple #[.int .i64 (tX (q % 4) x y), .int .i64 (tY (q % 4) x y)]) ∧ w = w' := by
  have ha := and3 q
  have hq1 : 0 ≤ q % 4 := by omega
  have hq2 : q % 4 ≤ 3 := by omega
  generalize q % 4 = m at *
  go_enter Tryz.func126, Tryz.ntmps126
  go_wp2
  go_loop [1, 2, 10] (fun a b i => ∃ k : Int, 0 ≤ k ∧ k ≤ m ∧ i = .int .i64 k ∧ a = .int .i64 (tX k x y) ∧ b = .int .i64 (tY k x y)) (fun _ _ i => (m - intOf i).toNat)
  case atStart => exact ⟨0, by omega, by omega, rfl, by simp [tX], by simp [tY]⟩
  case round =>
    obtain ⟨k, hk0, hk, rfl, rfl, rfl⟩ := hrel
    obtain ⟨b1, b2⟩ := tX_bd k x y 1000000000000 h1 h2 h3 h4
    obtain ⟨b3, b4⟩ := tY_bd k x y 1000000000000 h1 h2 h3 h4
    by_cases hlt : k < m
    · have HS := Lib.hid (tXY_succ k x y hk0 (by omega))
      go_wp2
      go_round
      case rel => exact ⟨k + 1, by omega, by omega, rfl, by rw [HS.out.1], by rw [HS.out.2]⟩
      case measure => simp [intOf]; omega
    · obtain rfl : k = m := by omega
      go_wp2
      go_ret2
      exact ⟨rfl, rfl⟩
end Go.Proofs.YtlnplelandimeaaGreat
end
