import Derived.Test.YtlnplelandimeaaGreatZFleetAligned01
import Derived.Test.YtlnplelandimeaaGreatZFleetAligned28
set_option linter.all false
section
namespace Go.Proofs.YtlnplelandimeaaGreat
open Go.ChangeShapes Go.WideShapes Go.ChangeAt Go.RowKit Go.Joins Go.Deep
set_option maxRecDepth 100000
theorem opF_cells {H : Type} {enc : TypeId × Value → H} {w : World} {base : Nat} {spare : Nat → Bool} {held : Bool} {fuel : Nat} {cs : List Value} {x : DataW H × List MemPlace} (hc : cs.length = 15) (h : DataW.trod enc Tryz.prog w base spare held fuel 41 cs = some x) :
 ∃ o : En.FOp, cs = En.encFO o ∧ En.ArgSl w o.2.2.2.2.1.1 o.2.2.2.2.1.2.2.length 2 (o.2.2.2.2.1.2.2.map En.encBm) ∧ o.2.2.2.2.1.2.2.length ≤ maxLen := by
 have hC : cs.length = Tryz.prog.cellsOf 41 := hc.trans (by kernel_rfl)
 have one : ∀ j, j < 15 → (cs.drop j).take 1 = [cs.getD j undef] := fun j hj => by
  have e : cs.getD j undef = cs[j]'(by omega) := by simp [show j < cs.length by omega]
  rw [e, List.drop_eq_getElem_cons (by omega)]
  rfl
 have hint : ∀ j, j < 15 → leafT Tryz.prog 4 41 j = some 3 → ∃ a : Int, cs.getD j undef = .int .i64 a := fun j hj hl => by
  obtain ⟨f', y, hy⟩ := leaf_cell 4 hl hC h
  obtain ⟨a, ha, _⟩ := DataW.trod_int Tryz.underlying3 hy
  rw [one j hj] at ha
  exact ⟨a, by simpa using ha⟩
 have hbool : ∀ j, j < 15 → leafT Tryz.prog 4 41 j = some 4 → ∃ a : Bool, cs.getD j undef = .bool a := fun j hj hl => by
  obtain ⟨f', y, hy⟩ := leaf_cell 4 hl hC h
  obtain ⟨a, ha, _⟩ := DataW.trod_bool Tryz.underlying4 hy
  rw [one j hj] at ha
  exact ⟨a, by simpa using ha⟩
 obtain ⟨kd, h0⟩ := hint 0 (by decide) (by kernel_rfl)
 obtain ⟨wh, h1⟩ := hint 1 (by decide) (by kernel_rfl)
 obtain ⟨fr, h2⟩ := hint 2 (by decide) (by kernel_rfl)
 obtain ⟨id, h3⟩ := hint 3 (by decide) (by kernel_rfl)
 obtain ⟨v, h5⟩ := hint 5 (by decide) (by kernel_rfl)
 obtain ⟨g, h6⟩ := hbool 6 (by decide) (by kernel_rfl)
 obtain ⟨px, h7⟩ := hint 7 (by decide) (by kernel_rfl)
 obtain ⟨py, h8⟩ := hint 8 (by decide) (by kernel_rfl)
 obtain ⟨ph, h9⟩ := hint 9 (by decide) (by kernel_rfl)
 obtain ⟨ra, h10⟩ := hint 10 (by decide) (by kernel_rfl)
 obtain ⟨rb, h11⟩ := hint 11 (by decide) (by kernel_rfl)
 obtain ⟨rq, h12⟩ := hint 12 (by decide) (by kernel_rfl)
 obtain ⟨rx, h13⟩ := hint 13 (by decide) (by kernel_rfl)
 obtain ⟨ry, h14⟩ := hint 14 (by decide) (by kernel_rfl)
 have hsl : leafT Tryz.prog 4 41 4 = some 31 := by kernel_rfl
 obtain ⟨f', y, hy⟩ := leaf_cell 4 hsl hC h
 rw [one 4 (by decide)] at hy
 have hcs : cs = [cs.getD 0 undef, cs.getD 1 undef, cs.getD 2 undef, cs.getD 3 undef, cs.getD 4 undef, cs.getD 5 undef, cs.getD 6 undef, cs.getD 7 undef, cs.getD 8 undef, cs.getD 9 undef, cs.getD 10 undef, cs.getD 11 undef, cs.getD 12 undef, cs.getD 13 undef, cs.getD 14 undef] := by
  match cs, hc with
  | [_, _, _, _, _, _, _, _, _, _, _, _, _, _, _], _ => rfl
 rw [h0, h1, h2, h3, h5, h6, h7, h8, h9, h10, h11, h12, h13, h14] at hcs
 have hflat : flatI Tryz.prog 4 78 = true := by kernel_rfl
 rcases open_sliceI Tryz.underlying31 hflat hy with h2 | ⟨a, len, cap, V, h2, hle, hcap, hat⟩
 ·have hs4 : cs.getD 4 undef = .slice none 0 0 := by simpa using h2
  rw [hs4] at hcs
  exact ⟨(kd, wh, fr, id, (none, 0, []), (v, g, px, py, ph), (ra, rb, rq, rx, ry)), hcs, ⟨rfl, by simp, by simp, fun h => (h rfl).elim⟩, by simp [maxLen]⟩
 ·have hs4 : cs.getD 4 undef = .slice (some a) len cap := by simpa using h2
  rw [hs4] at hcs
  have hC2 : Tryz.prog.cellsOf 78 = 2 := by kernel_rfl
  rw [hC2] at hat
  refine ⟨(kd, wh, fr, id, (some a, cap, (List.range len).map fun i => (V i 0, V i 1)), (v, g, px, py, ph), (ra, rb, rq, rx, ry)), ?_, ?_, ?_⟩
  ·rw [hcs]
   simp [En.encFO]
  ·have := En.ArgSl.of_SlO En.encBm (fun i => (V i 0, V i 1)) (.inr ⟨a, rfl, hat⟩) (by decide) (fun i => rfl)
   simpa using this
  ·simp
   omega
theorem open_opsF {H : Type} {enc : TypeId × Value → H} {w : World} {base : Nat} {spare : Nat → Bool} {held : Bool} {r : Reach} {b0 : Nat} {v : Value} {d : DataW H} {p : List MemPlace} (hv : Value.okWide Tryz.prog w r b0 22 v) (h : DataW.Trod enc Tryz.prog w base spare held 22 v d p) :
 ∃ (A : Option Addr) (n c : Nat) (l : List En.FOp), v = .slice A n c ∧ n ≤ c ∧ c ≤ maxLen ∧ l.length = n ∧ En.opsF w A n l := by
 obtain ⟨a, len, cap, rfl⟩ := okWide_slice Tryz.underlying22 hv
 obtain ⟨fuel, hf⟩ := h
 rcases open_slice Tryz.underlying22 hf with h0 | ⟨ad, len', cap', m, k, D, Pl, hcs, hb, hl, hm, hmm, hx, hi⟩
 ·have : Value.slice a len cap = .slice none 0 0 := by simpa [Value.cells] using h0.1
  exact ⟨none, 0, 0, [], this, Nat.le_refl _, by simp [maxLen], rfl, ⟨rfl, by simp, by simp, fun h => (h rfl).elim⟩, by simp⟩
 ·have hval : Value.slice a len cap = .slice (some ad) len' cap' := by simpa [Value.cells] using hcs
  have hC : Tryz.prog.cellsOf 41 = 15 := by kernel_rfl
  rw [hC] at hi
  have hlm : len' ≤ m := by rw [hmm]; split <;> omega
  have hex : ∀ i, ∃ o : En.FOp, i < len' → (∀ j, j < 15 → w.cell? ((ad.add (i * 15)).add j) = (En.encFO o)[j]?) ∧ En.ArgSl w o.2.2.2.2.1.1 o.2.2.2.2.1.2.2.length 2 (o.2.2.2.2.1.2.2.map En.encBm) ∧ o.2.2.2.2.1.2.2.length ≤ maxLen := by
   intro i
   by_cases h1 : i < len'
   ·obtain ⟨cs', hc, ht'⟩ := hi i (by omega)
    obtain ⟨_, hcl, hat⟩ := World.cells?_some hc
    obtain ⟨o, ho, hs, hl2⟩ := opF_cells hcl ht'
    refine ⟨o, fun _ => ⟨fun j hj => ?_, hs, hl2⟩⟩
    rw [← ho]
    exact hat j hj
   ·exact ⟨En.fo0, fun h => absurd h h1⟩
  obtain ⟨f, hfo⟩ := Classical.axiomOfChoice hex
  refine ⟨some ad, len', cap', (List.range len').map f, hval, hl, hm, by simp, ⟨by simp, ?_, ?_, ?_⟩, ?_⟩
  ·intro e he
   obtain ⟨o, _, rfl⟩ := List.mem_map.1 he
   rfl
  ·intro e he v hv'
   obtain ⟨o, _, rfl⟩ := List.mem_map.1 he
   simp [En.encFO] at hv'
   rcases hv' with rfl | rfl | rfl | rfl | rfl | rfl | rfl | rfl | rfl | rfl | rfl | rfl | rfl | rfl | rfl <;> rfl
  ·intro hn
   obtain ⟨b, o, s⟩ := ad
   have h0 := (hfo 0 (by omega)).1 0 (by omega)
   have hs : s = none := by
    simp only [Nat.zero_mul, Addr.add] at h0
    unfold World.cell? at h0
    cases s with
    | none => rfl
    | some s =>
     exfalso
     simp [En.encFO] at h0
     revert h0
     split <;> intro h0 <;> cases h0
   subst hs
   refine ⟨b, o, rfl, fun i e hi' j v hj => ?_⟩
   rw [List.getElem?_map, List.getElem?_map] at hi'
   by_cases hin : i < len'
   ·rw [List.getElem?_range hin] at hi'
    simp only [Option.map_some, Option.some.injEq] at hi'
    subst hi'
    have hj8 : j < 15 := (List.getElem?_eq_some_iff.1 hj).1
    have := (hfo i hin).1 j hj8
    rw [Addr.add_mid, Addr.add_mid] at this
    rw [this]
    exact hj
   ·rw [List.getElem?_eq_none (by simpa using hin)] at hi'
    cases hi'
  ·intro o ho
   obtain ⟨i, hi', rfl⟩ := List.mem_map.1 ho
   have := hfo i (by simpa using hi')
   exact this.2
end Go.Proofs.YtlnplelandimeaaGreat
end
