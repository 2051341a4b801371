/- Opening an argument that is a slice of calls (structs with bools, integers and a slice of beams) -/
/- Opening an argument that is a placement -/
import Derived.Test.YtodaijlclbngbaaGreatOp
import Derived.Test.YtodaijlclbngbaaGreatLwAo
set_option linter.all false
namespace Go.Proofs.YtodaijlclbngbaaGreat
open Go.ChangeShapes Go.WideShapes Go.ChangeAt Go.RowKit Go.Joins Go.Deep
set_option maxRecDepth 100000

/-- the type of the cell j of a type -/
def leafT (P : Program) : Nat → TypeId → Nat → Option TypeId
  | 0, _, _ => none
  | n + 1, t, j =>
    match P.underlying t with
    | some (.struct fs) => (fs.toList.find? fun f => decide (f.offset ≤ j) && decide (j < f.offset + P.cellsOf f.type) && decide (f.offset + P.cellsOf f.type ≤ P.cellsOf t)).bind fun f => leafT P n f.type (j - f.offset)
    | some _ => if decide (j = 0) && decide (P.cellsOf t = 1) then some t else none
    | none => none
section
variable {H : Type} {enc : TypeId × Value → H} {P : Program} {w : World} {base : Nat} {spare : Nat → Bool} {held : Bool}
theorem leaf_cell : ∀ (n : Nat) {t tl : TypeId} {j fuel : Nat} {cs : List Value} {x : DataW H × List MemPlace}, leafT P n t j = some tl → cs.length = P.cellsOf t → DataW.trod enc P w base spare held fuel t cs = some x →
    ∃ (fuel' : Nat) (y : DataW H × List MemPlace), DataW.trod enc P w base spare held fuel' tl ((cs.drop j).take 1) = some y
  | 0, _, _, _, _, _, _, hf, _, _ => by cases hf
  | n + 1, t, tl, j, fuel, cs, x, hf, hc, h => by
    unfold leafT at hf
    split at hf
    · rename_i fs ht
      obtain ⟨xs, m, _, _, hl, hxl, hg⟩ := DataW.trod_struct ht h
      cases hq : fs.toList.find? fun f => decide (f.offset ≤ j) && decide (j < f.offset + P.cellsOf f.type) && decide (f.offset + P.cellsOf f.type ≤ P.cellsOf t) with
      | none => rw [hq] at hf; cases hf
      | some f =>
        rw [hq] at hf
        have h1 := List.find?_some hq
        have h2 := List.mem_of_find?_eq_some hq
        simp only [Bool.and_eq_true, decide_eq_true_eq] at h1
        obtain ⟨i, hi, hfi⟩ := List.getElem_of_mem h2
        have hfi' : fs[i]? = some f := by
          rw [← hfi, Array.getElem_toList]
          exact Array.getElem?_eq_getElem (by simpa using hi)
        have h3 := hg i f hfi'
        have hys : xs[i]? = some (xs[i]'(by rw [hxl]; simpa using hi)) := List.getElem?_eq_getElem _
        rw [hys] at h3
        obtain ⟨fuel', y, hy⟩ := leaf_cell n (by simpa using hf) (by simp; omega) h3
        refine ⟨fuel', y, ?_⟩
        rw [← hy, List.drop_take, List.take_take, List.drop_drop, show min 1 (P.cellsOf f.type - (j - f.offset)) = 1 by omega]
        first
        | rw [show f.offset + (j - f.offset) = j by omega]
        | rw [show j - f.offset + f.offset = j by omega]
    · rename_i ht hs
      split at hf
      · rename_i h1
        cases hf
        simp only [Bool.and_eq_true, decide_eq_true_eq] at h1
        obtain ⟨rfl, h2⟩ := h1
        refine ⟨fuel, x, ?_⟩
        rw [List.drop_zero, List.take_of_length_le (by omega)]
        exact h
      · cases hf
    · cases hf
end
/-- the cells of a call, one by one -/
theorem op_cells {H : Type} {enc : TypeId × Value → H} {w : World} {base : Nat} {spare : Nat → Bool} {held : Bool} {fuel : Nat} {cs : List Value} {x : DataW H × List MemPlace} (hc : cs.length = 8) (h : DataW.trod enc Tryz.prog w base spare held fuel 35 cs = some x) :
    ∃ o : En.AOp, cs = En.encOp o ∧ En.ArgSl w o.2.2.1.1 o.2.2.1.2.2.length 2 (o.2.2.1.2.2.map En.encBm) ∧ o.2.2.1.2.2.length ≤ maxLen := by
  have hC : cs.length = Tryz.prog.cellsOf 35 := hc.trans (by kernel_rfl)
  have one : ∀ j, j < 8 → (cs.drop j).take 1 = [cs.getD j undef] := fun j hj => by
    have e : cs.getD j undef = cs[j]'(by omega) := by simp [show j < cs.length by omega]
    rw [e, List.drop_eq_getElem_cons (by omega)]
    rfl
  have hint : ∀ j, j < 8 → leafT Tryz.prog 4 35 j = some 3 → ∃ a : Int, cs.getD j undef = .int .i64 a := fun j hj hl => by
    obtain ⟨f', y, hy⟩ := leaf_cell 4 hl hC h
    obtain ⟨a, ha, _⟩ := DataW.trod_int Tryz.underlying3 hy
    rw [one j hj] at ha
    exact ⟨a, by simpa using ha⟩
  have hbool : ∀ j, j < 8 → leafT Tryz.prog 4 35 j = some 4 → ∃ a : Bool, cs.getD j undef = .bool a := fun j hj hl => by
    obtain ⟨f', y, hy⟩ := leaf_cell 4 hl hC h
    obtain ⟨a, ha, _⟩ := DataW.trod_bool Tryz.underlying4 hy
    rw [one j hj] at ha
    exact ⟨a, by simpa using ha⟩
  obtain ⟨mv, h0⟩ := hbool 0 (by decide) (by kernel_rfl)
  obtain ⟨id, h1⟩ := hint 1 (by decide) (by kernel_rfl)
  obtain ⟨v, h3⟩ := hint 3 (by decide) (by kernel_rfl)
  obtain ⟨g, h4⟩ := hbool 4 (by decide) (by kernel_rfl)
  obtain ⟨px, h5⟩ := hint 5 (by decide) (by kernel_rfl)
  obtain ⟨py, h6⟩ := hint 6 (by decide) (by kernel_rfl)
  obtain ⟨ph, h7⟩ := hint 7 (by decide) (by kernel_rfl)
  have hsl : leafT Tryz.prog 4 35 2 = some 29 := by kernel_rfl
  obtain ⟨f', y, hy⟩ := leaf_cell 4 hsl hC h
  rw [one 2 (by decide)] at hy
  have hcs : cs = [cs.getD 0 undef, cs.getD 1 undef, cs.getD 2 undef, cs.getD 3 undef, cs.getD 4 undef, cs.getD 5 undef, cs.getD 6 undef, cs.getD 7 undef] := by
    match cs, hc with
    | [_, _, _, _, _, _, _, _], _ => rfl
  rw [h0, h1, h3, h4, h5, h6, h7] at hcs
  have hflat : flatI Tryz.prog 4 40 = true := by kernel_rfl
  rcases open_sliceI Tryz.underlying29 hflat hy with h2 | ⟨a, len, cap, V, h2, hle, hcap, hat⟩
  · have h2' : cs.getD 2 undef = .slice none 0 0 := by simpa using h2
    rw [h2'] at hcs
    exact ⟨(mv, id, (none, 0, []), (v, g, px, py, ph)), hcs, ⟨rfl, by simp, by simp, fun h => (h rfl).elim⟩, by simp [maxLen]⟩
  · have h2' : cs.getD 2 undef = .slice (some a) len cap := by simpa using h2
    rw [h2'] at hcs
    have hC2 : Tryz.prog.cellsOf 40 = 2 := by kernel_rfl
    rw [hC2] at hat
    refine ⟨(mv, id, (some a, cap, (List.range len).map fun i => (V i 0, V i 1)), (v, g, px, py, ph)), ?_, ?_, ?_⟩
    · rw [hcs]
      simp [En.encOp]
    · have := En.ArgSl.of_SlO En.encBm (fun i => (V i 0, V i 1)) (.inr ⟨a, rfl, hat⟩) (by decide) (fun i => rfl)
      simpa using this
    · simp
      omega
theorem open_ops {H : Type} {enc : TypeId × Value → H} {w : World} {base : Nat} {spare : Nat → Bool} {held : Bool} {r : Reach} {b0 : Nat} {v : Value} {d : DataW H} {p : List MemPlace} (hv : Value.okWide Tryz.prog w r b0 22 v) (h : DataW.Trod enc Tryz.prog w base spare held 22 v d p) :
    ∃ (A : Option Addr) (n c : Nat) (l : List En.AOp), v = .slice A n c ∧ n ≤ c ∧ c ≤ maxLen ∧ l.length = n ∧ En.opsW w A n l := by
  obtain ⟨a, len, cap, rfl⟩ := okWide_slice Tryz.underlying22 hv
  obtain ⟨fuel, hf⟩ := h
  rcases open_slice Tryz.underlying22 hf with h0 | ⟨ad, len', cap', m, k, D, Pl, hcs, hb, hl, hm, hmm, hx, hi⟩
  · have : Value.slice a len cap = .slice none 0 0 := by simpa [Value.cells] using h0.1
    exact ⟨none, 0, 0, [], this, Nat.le_refl _, by simp [maxLen], rfl, ⟨rfl, by simp, by simp, fun h => (h rfl).elim⟩, by simp⟩
  · have hval : Value.slice a len cap = .slice (some ad) len' cap' := by simpa [Value.cells] using hcs
    have hC : Tryz.prog.cellsOf 35 = 8 := by kernel_rfl
    rw [hC] at hi
    have hlm : len' ≤ m := by rw [hmm]; split <;> omega
    have hex : ∀ i, ∃ o : En.AOp, i < len' → (∀ j, j < 8 → w.cell? ((ad.add (i * 8)).add j) = (En.encOp o)[j]?) ∧ En.ArgSl w o.2.2.1.1 o.2.2.1.2.2.length 2 (o.2.2.1.2.2.map En.encBm) ∧ o.2.2.1.2.2.length ≤ maxLen := by
      intro i
      by_cases h1 : i < len'
      · obtain ⟨cs', hc, ht'⟩ := hi i (by omega)
        obtain ⟨_, hcl, hat⟩ := World.cells?_some hc
        obtain ⟨o, ho, hs, hl2⟩ := op_cells hcl ht'
        refine ⟨o, fun _ => ⟨fun j hj => ?_, hs, hl2⟩⟩
        rw [← ho]
        exact hat j hj
      · exact ⟨En.op0, fun h => absurd h h1⟩
    obtain ⟨f, hfo⟩ := Classical.axiomOfChoice hex
    refine ⟨some ad, len', cap', (List.range len').map f, hval, hl, hm, by simp, ⟨by simp, ?_, ?_, ?_⟩, ?_⟩
    · intro e he
      obtain ⟨o, _, rfl⟩ := List.mem_map.1 he
      rfl
    · intro e he v hv'
      obtain ⟨o, _, rfl⟩ := List.mem_map.1 he
      simp [En.encOp] at hv'
      rcases hv' with rfl | rfl | rfl | rfl | rfl | rfl | rfl | rfl <;> rfl
    · intro hn
      obtain ⟨b, o, s⟩ := ad
      have h0 := (hfo 0 (by omega)).1 0 (by omega)
      have hs : s = none := by
        simp only [Nat.zero_mul, Addr.add] at h0
        unfold World.cell? at h0
        cases s with
        | none => rfl
        | some s =>
          exfalso
          simp [En.encOp] at h0
          revert h0
          split <;> intro h0 <;> cases h0
      subst hs
      refine ⟨b, o, rfl, fun i e hi' j v hj => ?_⟩
      rw [List.getElem?_map, List.getElem?_map] at hi'
      by_cases hin : i < len'
      · rw [List.getElem?_range hin] at hi'
        simp only [Option.map_some, Option.some.injEq] at hi'
        subst hi'
        have hj8 : j < 8 := (List.getElem?_eq_some_iff.1 hj).1
        have := (hfo i hin).1 j hj8
        rw [Addr.add_mid, Addr.add_mid] at this
        rw [this]
        exact hj
      · rw [List.getElem?_eq_none (by simpa using hin)] at hi'
        cases hi'
    · intro o ho
      obtain ⟨i, hi', rfl⟩ := List.mem_map.1 ho
      have := hfo i (by simpa using hi')
      exact this.2
end Go.Proofs.YtodaijlclbngbaaGreat

namespace Go.Proofs.YtodaijlclbngbaaGreat
open Go.ChangeShapes Go.WideShapes Go.ChangeAt Go.RowKit Go.Joins Go.Deep
set_option maxRecDepth 100000

theorem open_plc {H : Type} {enc : TypeId × Value → H} {w : World} {base : Nat} {spare : Nat → Bool} {held : Bool} {r : Reach} {b0 : Nat} {v : Value} {d : DataW H} {p : List MemPlace} {fs : Array Field} (hs : Tryz.prog.underlying 33 = some (.struct fs)) (hv : Value.okWide Tryz.prog w r b0 33 v) (h : DataW.Trod enc Tryz.prog w base spare held 33 v d p) :
    ∃ q : En.PlT, v = En.encPl q := by
  obtain ⟨cs, rfl, hsz⟩ := okWide_struct hs hv
  obtain ⟨cs⟩ := cs
  have hC : Tryz.prog.cellsOf 33 = 5 := by kernel_rfl
  have hlen : cs.length = 5 := by simpa [hC] using hsz
  obtain ⟨fuel, hf⟩ := h
  have hC' : cs.length = Tryz.prog.cellsOf 33 := hlen.trans hC.symm
  have one : ∀ j, j < 5 → (cs.drop j).take 1 = [cs.getD j undef] := fun j hj => by
    have e : cs.getD j undef = cs[j]'(by omega) := by simp [show j < cs.length by omega]
    rw [e, List.drop_eq_getElem_cons (by omega)]
    rfl
  have hf' : DataW.trod enc Tryz.prog w base spare held fuel 33 cs = some (d, p) := hf
  have hint : ∀ j, j < 5 → leafT Tryz.prog 4 33 j = some 3 → ∃ a : Int, cs.getD j undef = .int .i64 a := fun j hj hl => by
    obtain ⟨f', y, hy⟩ := leaf_cell 4 hl hC' hf'
    obtain ⟨a, ha, _⟩ := DataW.trod_int Tryz.underlying3 hy
    rw [one j hj] at ha
    exact ⟨a, by simpa using ha⟩
  have hbool : ∀ j, j < 5 → leafT Tryz.prog 4 33 j = some 4 → ∃ a : Bool, cs.getD j undef = .bool a := fun j hj hl => by
    obtain ⟨f', y, hy⟩ := leaf_cell 4 hl hC' hf'
    obtain ⟨a, ha, _⟩ := DataW.trod_bool Tryz.underlying4 hy
    rw [one j hj] at ha
    exact ⟨a, by simpa using ha⟩
  obtain ⟨a, h0⟩ := hint 0 (by decide) (by kernel_rfl)
  obtain ⟨g, h1⟩ := hbool 1 (by decide) (by kernel_rfl)
  obtain ⟨x, h2⟩ := hint 2 (by decide) (by kernel_rfl)
  obtain ⟨y, h3⟩ := hint 3 (by decide) (by kernel_rfl)
  obtain ⟨z, h4⟩ := hint 4 (by decide) (by kernel_rfl)
  have hcs : cs = [cs.getD 0 undef, cs.getD 1 undef, cs.getD 2 undef, cs.getD 3 undef, cs.getD 4 undef] := by
    match cs, hlen with
    | [_, _, _, _, _], _ => rfl
  rw [h0, h1, h2, h3, h4] at hcs
  exact ⟨(a, g, x, y, z), by rw [hcs]; rfl⟩
theorem u8_bd {n : Int} (h : (Lit.int .u8 n).wf = true) : 0 ≤ n ∧ n < 256 := by
  simp only [Lit.wf, Bool.and_eq_true, decide_eq_true_eq] at h
  have h1 : IntKind.u8.min = 0 := by decide
  have h2 : IntKind.u8.max = 255 := by decide
  omega
end Go.Proofs.YtodaijlclbngbaaGreat
