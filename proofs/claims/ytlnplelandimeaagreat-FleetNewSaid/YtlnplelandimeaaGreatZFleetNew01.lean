import Derived.Test.YtlnplelandimeaaGreatRows
import Derived.WalkKit
import Derived.WalkSpells
import Derived.WalkLawsBesides
import Derived.Lib.Hide
import Derived.Deep.RegionHeld3
import Derived.Deep.QuietTactic
import Derived.BigQuiet
import Derived.StillTailTactics
import Derived.Deep.DeepFit
import Derived.Deep.DeepCutAuto
import Derived.Deep.LoopGhost
import Derived.ProofKit
import Derived.OpenShut
import Derived.Lib.SmallJoins
import Derived.Deep.Slices
import Derived.Deep.Fields
set_option linter.all false
section
namespace Go.Proofs.YtlnplelandimeaaGreat
open Go.RowKit
theorem bcell {W w1 : World} (hb : Below W.heap.size W w1) : (∀ b o, b < W.heap.size → w1.cell? ⟨b, o, none⟩ = W.cell? ⟨b, o, none⟩) ∧ (∀ b o, b < W.heap.size → w1.frozen? ⟨b, o, none⟩ = W.frozen? ⟨b, o, none⟩) :=
  ⟨fun b o h => hb.cell (p := ⟨b, o, none⟩) h, fun b o h => hb.frozen (p := ⟨b, o, none⟩) h⟩
theorem bw_refl (w : World) : Below w.heap.size w w := Below.refl _ _
theorem bw_drew {w w' : World} (h : Below w.heap.size w w') : Below w.heap.size w w'.drew := h.drew
theorem bw_drewN {w w' : World} (n : Nat) (h : Below w.heap.size w w') : Below w.heap.size w (w'.drewN n) := ⟨h.os, h.tape, h.output, h.size, h.block⟩
theorem bw_alloc {w w' : World} (h : Below w.heap.size w w') (o : Obj) : Below w.heap.size w (w'.alloc o) := h.alloc h.size o
theorem bw_set {w w' : World} (h : Below w.heap.size w w') {p : Addr} (hp : w.heap.size ≤ p.block) (u : Value) : Below w.heap.size w (w'.setCell p u) := h.setCell hp u
theorem bw_call {w W w1 : World} (hb : Below W.heap.size W w1) (h : Below w.heap.size w W) : Below w.heap.size w w1 := h.trans (hb.mono h.size)
theorem and3 (n : Int) : bits .and .i64 n 3 = n % 4 := by
  have h3 : (BitVec.ofInt 64 3).toNat = 2 ^ 2 - 1 := by decide
  have key : (BitVec.ofInt 64 n &&& BitVec.ofInt 64 3).toNat = (n % ((2 ^ 64 : Nat) : Int)).toNat % 2 ^ 2 := by
    rw [BitVec.toNat_and, BitVec.toNat_ofInt, h3, Nat.and_two_pow_sub_one_eq_mod]
  show IntKind.i64.wrap ((BitVec.ofInt 64 n &&& BitVec.ofInt 64 3).toNat : Nat) = n % 4
  rw [key, IntKind.wrap_i64]
  omega
end Go.Proofs.YtlnplelandimeaaGreat
end
section
namespace Go.Proofs.YtlnplelandimeaaGreat
open Go.ChangeShapes Go.WideShapes Go.ChangeAt Go.RowKit Go.Joins Go.Deep
theorem own : ownKnob Tryz.prog.godebug = none := by kernel_rfl
theorem laidOut : laidOutB Tryz.prog = true := by kernel_rfl
def theInt : Value → Int
  | .int _ a => a
  | _ => 0
theorem ints5 {l : List Int} (h : l.length = 5) : ∃ a0 a1 a2 a3 a4 : Int, l = [a0, a1, a2, a3, a4] := by
  match l, h with
  | [a0, a1, a2, a3, a4], _ => exact ⟨a0, a1, a2, a3, a4, rfl⟩
section
variable {H : Type} {enc : TypeId × Value → H} {P : Program} {w : World} {base : Nat} {spare : Nat → Bool} {held : Bool}
theorem ints_of_cells : ∀ (cs : List Value), (∀ j, j < cs.length → ∃ a : Int, cs[j]? = some (.int .i64 a)) → cs = (cs.map theInt).map (Value.int .i64)
  | [], _ => rfl
  | c :: cs, h => by
    obtain ⟨a, ha⟩ := h 0 (by simp)
    simp at ha
    subst ha
    have ih := ints_of_cells cs fun j hj => by simpa using h (j + 1) (by simpa using hj)
    simp only [List.map_cons, theInt]
    rw [← ih]
end
end Go.Proofs.YtlnplelandimeaaGreat
namespace Go.Proofs.YtlnplelandimeaaGreat
open Go.ChangeShapes Go.WideShapes Go.ChangeAt Go.RowKit Go.Joins Go.Deep
def flatI (P : Program) : Nat → TypeId → Bool
  | 0, _ => false
  | n + 1, t =>
    match P.underlying t with
    | some (.int .i64) => true
    | some (.struct fs) => (fs.all fun f => flatI P n f.type) && (List.range (P.cellsOf t)).all fun j => fs.any fun f => decide (f.offset ≤ j) && decide (j < f.offset + P.cellsOf f.type)
    | _ => false
section
variable {H : Type} {enc : TypeId × Value → H} {P : Program} {w : World} {base : Nat} {spare : Nat → Bool} {held : Bool}
theorem flat_cells : ∀ (n : Nat) {t : TypeId} {fuel : Nat} {cs : List Value} {x : DataW H × List MemPlace}, flatI P n t = true → DataW.trod enc P w base spare held fuel t cs = some x → ∀ j, j < cs.length → ∃ a : Int, cs[j]? = some (.int .i64 a) ∧ (Lit.int .i64 a).wf = true
  | 0, _, _, _, _, hf, _, _, _ => by simp [flatI] at hf
  | n + 1, t, fuel, cs, x, hf, h, j, hj => by
    unfold flatI at hf
    split at hf
    · rename_i ht
      obtain ⟨a, rfl, _, hw⟩ := DataW.trod_int ht h
      simp at hj
      subst hj
      exact ⟨a, rfl, hw⟩
    · rename_i fs ht
      simp only [Bool.and_eq_true] at hf
      obtain ⟨hf1, hf2⟩ := hf
      obtain ⟨xs, m, _, _, hl, hxl, hg⟩ := DataW.trod_struct ht h
      have h2 := List.all_eq_true.1 hf2 j (by simp; omega)
      obtain ⟨i, hi, hij⟩ := Array.any_eq_true.1 h2
      simp only [Bool.and_eq_true, decide_eq_true_eq] at hij
      have h1 := hg i fs[i] (Array.getElem?_eq_getElem hi)
      have hys : xs[i]? = some (xs[i]'(by omega)) := List.getElem?_eq_getElem (by omega)
      rw [hys] at h1
      have h3 := Array.all_eq_true.1 hf1 i hi
      obtain ⟨a, ha, hw⟩ := flat_cells n h3 h1 (j - fs[i].offset) (by simp; omega)
      refine ⟨a, ?_, hw⟩
      rw [List.getElem?_take_of_lt (by omega), List.getElem?_drop] at ha
      rw [← ha]
      congr 1
      omega
    · cases hf
def SlAt (w : World) (a : Addr) (len C : Nat) (V : Nat → Nat → Int) : Prop :=
  ∀ i, i < len → ∀ j, j < C → w.cell? ((a.add (i * C)).add j) = some (.int .i64 (V i j)) ∧ (Lit.int .i64 (V i j)).wf = true
end
def SlO (w : World) (A : Option Addr) (len C : Nat) (V : Nat → Nat → Int) : Prop := len = 0 ∨ ∃ a, A = some a ∧ SlAt w a len C V
theorem SlAt.below {w w' : World} {a : Addr} {len C : Nat} {V : Nat → Nat → Int} (h : SlAt w a len C V) (hb : Below w.heap.size w w') : SlAt w' a len C V := fun i hi j hj => by
  obtain ⟨h1, h2⟩ := h i hi j hj
  exact ⟨(hb.cell (World.block_lt_of_cell? w _ h1)).trans h1, h2⟩
theorem SlO.below {w w' : World} {A : Option Addr} {len C : Nat} {V : Nat → Nat → Int} (h : SlO w A len C V) (hb : Below w.heap.size w w') : SlO w' A len C V := by
  rcases h with h | ⟨a, h1, h2⟩
  · exact .inl h
  · exact .inr ⟨a, h1, h2.below hb⟩
theorem SlO.at {w : World} {A : Option Addr} {len C i : Nat} {V : Nat → Nat → Int} (h : SlO w A len C V) (hi : i < len) : ∃ a, A = some a ∧ ∀ j, j < C → w.cell? ((a.add (i * C)).add j) = some (.int .i64 (V i j)) := by
  rcases h with h | ⟨a, h1, h2⟩
  · omega
  · exact ⟨a, h1, fun j hj => (h2 i hi j hj).1⟩
theorem SlO.get {w : World} {A : Option Addr} {len C i : Nat} {V : Nat → Nat → Int} (h : SlO w A len C V) (hi : i < len) (hC : 0 < C) :
    ∃ a, A = some a ∧ w.cell? (a.add (i * C)) = some (.int .i64 (V i 0)) ∧ ∀ j, 0 < j → j < C → w.cell? ⟨(a.add (i * C)).block, (a.add (i * C)).off + j, none⟩ = some (.int .i64 (V i j)) := by
  obtain ⟨a, h1, h2⟩ := h.at hi
  refine ⟨a, h1, h2 0 hC, fun j h0 hj => ?_⟩
  have := h2 j hj
  unfold Addr.add at this ⊢
  rw [if_neg (by omega : j ≠ 0)] at this
  exact this
end Go.Proofs.YtlnplelandimeaaGreat
end
section
namespace Go.Proofs.YtlnplelandimeaaGreat
open Go.ChangeShapes Go.WideShapes Go.ChangeAt Go.RowKit Go.Joins Go.Deep
section
variable {H : Type} {enc : TypeId × Value → H} {P : Program} {w : World} {base : Nat} {spare : Nat → Bool} {held : Bool}
theorem open_aggN {r : Reach} {b0 : Nat} {t : TypeId} {fs : Array Field} {v : Value} {d : DataW H} {p : List MemPlace} (n C : Nat) (hs : P.underlying t = some (.struct fs)) (hf : flatI P n t = true) (hC : P.cellsOf t = C)
    (hv : Value.okWide P w r b0 t v) (h : DataW.Trod enc P w base spare held t v d p) : ∃ l : List Int, l.length = C ∧ v = .agg (l.map (Value.int .i64)).toArray := by
  obtain ⟨cs, rfl, hsz⟩ := okWide_struct hs hv
  obtain ⟨cs⟩ := cs
  have hlen : cs.length = C := by simpa [hC] using hsz
  obtain ⟨fuel, hf'⟩ := h
  have hcells : ∀ j, j < cs.length → ∃ a : Int, cs[j]? = some (.int .i64 a) := fun j hj => by
    obtain ⟨a, ha, _⟩ := flat_cells n hf hf' j hj
    exact ⟨a, ha⟩
  exact ⟨cs.map theInt, by simpa using hlen, by rw [← ints_of_cells cs hcells]⟩
end
end Go.Proofs.YtlnplelandimeaaGreat
end
section
namespace Go.Proofs.YtlnplelandimeaaGreat
open Go.RowKit
def szB (n m : Int) : Bool := decide (-m ≤ n ∧ n ≤ m)
set_option maxHeartbeats 400000 in
theorem size_any (n m : Int) (w : World) (h1 : -1000000000000 ≤ m) (h2 : m ≤ 1000000000000) :
    Calls Tryz.prog 102 #[.int .i64 n, .int .i64 m] w fun e w' => e = .returned (.bool (szB n m)) ∧ w = w' := by
  by_cases h3 : -m ≤ n
  · by_cases h4 : n ≤ m
    · have HS := Lib.hid (show szB n m = true by simp [szB, h3, h4])
      go_enter Tryz.func102, Tryz.ntmps102
      go_wp2
      go_ret
      exact ⟨by simp [HS.out], rfl⟩
    · have HS := Lib.hid (show szB n m = false by simp [szB, h4])
      go_enter Tryz.func102, Tryz.ntmps102
      go_wp2
      go_ret
      exact ⟨by simp [HS.out], rfl⟩
  · have HS := Lib.hid (show szB n m = false by simp [szB, h3])
    go_enter Tryz.func102, Tryz.ntmps102
    go_wp2
    go_ret
    exact ⟨by simp [HS.out], rfl⟩
set_option maxHeartbeats 400000 in
theorem valid_any (q x y : Int) (w : World) :
    Calls Tryz.prog 91 #[.agg #[.int .i64 q, .int .i64 x, .int .i64 y]] w fun e w' => e = .returned (.bool (szB x 8192 && szB y 8192)) ∧ w.alloc (.cells #[.int .i64 q, .int .i64 x, .int .i64 y] 37) = w' := by
  cases h3 : szB x 8192
  all_goals
    go_enter Tryz.func91, Tryz.ntmps91
    go_wp2_with (go_at_call 102; refine (size_any _ _ _ (by omega) (by omega)).mono ?_; rintro e w' ⟨rfl, rfl⟩)
    go_ret
    exact ⟨by simp, rfl⟩
def clipI (n lo hi : Int) : Int := max lo (min n hi)
def tX (q x y : Int) : Int := if q = 0 then x else if q = 1 then -y else if q = 2 then -x else y
def tY (q x y : Int) : Int := if q = 0 then y else if q = 1 then x else if q = 2 then -y else -x
theorem tX_bd (q x y B : Int) (h1 : -B ≤ x) (h2 : x ≤ B) (h3 : -B ≤ y) (h4 : y ≤ B) : -B ≤ tX q x y ∧ tX q x y ≤ B := by
  unfold tX; split <;> (try split) <;> (try split) <;> omega
theorem tY_bd (q x y B : Int) (h1 : -B ≤ x) (h2 : x ≤ B) (h3 : -B ≤ y) (h4 : y ≤ B) : -B ≤ tY q x y ∧ tY q x y ≤ B := by
  unfold tY; split <;> (try split) <;> (try split) <;> omega
theorem tXY_succ (k x y : Int) (h0 : 0 ≤ k) (h1 : k < 3) : tX (k + 1) x y = -(tY k x y) ∧ tY (k + 1) x y = tX k x y := by
  rcases (by omega : k = 0 ∨ k = 1 ∨ k = 2) with rfl | rfl | rfl <;> simp [tX, tY]
set_option maxHeartbeats 400000 in
theorem turned_any (q x y : Int) (w : World) (h1 : -1000000000000 ≤ x) (h2 : x ≤ 1000000000000) (h3 : -1000000000000 ≤ y) (h4 : y ≤ 1000000000000) :
    Calls Tryz.prog 126 #[.int .i64 q, .int .i64 x, .int .i64 y] w fun e w' => e = .returned (.tuple #[.int .i64 (tX (q % 4) x y), .int .i64 (tY (q % 4) x y)]) ∧ w = w' := by
  have ha := and3 q
  have hq1 : 0 ≤ q % 4 := by omega
  have hq2 : q % 4 ≤ 3 := by omega
  generalize q % 4 = m at *
  go_enter Tryz.func126, Tryz.ntmps126
  go_wp2
  go_loop [1, 2, 10] (fun a b i => ∃ k : Int, 0 ≤ k ∧ k ≤ m ∧ i = .int .i64 k ∧ a = .int .i64 (tX k x y) ∧ b = .int .i64 (tY k x y)) (fun _ _ i => (m - intOf i).toNat)
  case atStart => exact ⟨0, by omega, by omega, rfl, by simp [tX], by simp [tY]⟩
  case round =>
    obtain ⟨k, hk0, hk, rfl, rfl, rfl⟩ := hrel
    obtain ⟨b1, b2⟩ := tX_bd k x y 1000000000000 h1 h2 h3 h4
    obtain ⟨b3, b4⟩ := tY_bd k x y 1000000000000 h1 h2 h3 h4
    by_cases hlt : k < m
    · have HS := Lib.hid (tXY_succ k x y hk0 (by omega))
      go_wp2
      go_round
      case rel => exact ⟨k + 1, by omega, by omega, rfl, by rw [HS.out.1], by rw [HS.out.2]⟩
      case measure => simp [intOf]; omega
    · obtain rfl : k = m := by omega
      go_wp2
      go_ret2
      exact ⟨rfl, rfl⟩
end Go.Proofs.YtlnplelandimeaaGreat
end
