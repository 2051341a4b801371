/- The map of a tally (cells to entries), written out as the list of its entries in the order of their insertion; the range over it. -/
import Derived.Test.YtdjimfngnhnhnaaEp
import Derived.Maps.RangeRun
import Derived.Sort.MapsRangeIn
import Derived.RangeFuncNested
import Derived.RangeFuncBound
import Derived.RangeFuncLeaves
import Derived.Maps.AppendAt
import Derived.WalkKit
import Derived.OwnWalkIn
import Derived.TacticsInMore
import Derived.RegionIn
import Derived.LoopNIn
import Derived.LoopIn
import Derived.Shelf.Abstract
import Derived.Shelf.AbstractIn
set_option linter.all false
namespace Go.Proofs.Ytdjimfngnhnhnaa.En
open Go.RowKit Go.Shelf
open Go.ChangeMaps (setBlock)
open Go.Maps Go.MapKept

/-- an entry as one value; a cell as a key -/
abbrev encA (e : EntT) : Value := .agg #[.int .i64 e.1, .int .i64 e.2.1, .int .i64 e.2.2.1, .int .i64 e.2.2.2]
abbrev keyC (c : CellT) : Value := .agg #[.int .i64 c.1, .int .i64 c.2]
def tE1 (e : EntT) (i : Nat) : MapEntry := { key := keyC e.cell, val := encA e, born := i }
def tEs : List EntT → Nat → List MapEntry
  | [], _ => []
  | e :: r, i => tE1 e i :: tEs r (i + 1)
theorem tEs_get : ∀ (L : List EntT) (s i : Nat), (tEs L s)[i]? = (L[i]?).map fun e => tE1 e (s + i)
  | [], _, _ => by simp [tEs]
  | e :: r, s, 0 => by simp [tEs]
  | e :: r, s, i + 1 => by
    simp only [tEs, List.getElem?_cons_succ, tEs_get r (s + 1) i]
    rw [show s + 1 + i = s + (i + 1) by omega]
theorem tEs_len : ∀ (L : List EntT) (s : Nat), (tEs L s).length = L.length
  | [], _ => rfl
  | e :: r, s => by simp [tEs, tEs_len r (s + 1)]
theorem tEs_append : ∀ (L M : List EntT) (s : Nat), tEs (L ++ M) s = tEs L s ++ tEs M (s + L.length)
  | [], M, s => by simp [tEs]
  | e :: r, M, s => by
    simp only [List.cons_append, tEs, tEs_append r M (s + 1), List.length_cons]
    rw [show s + 1 + r.length = s + (r.length + 1) by omega]
theorem tEs_set : ∀ (L : List EntT) (s i : Nat) (e : EntT), tEs (L.set i e) s = (tEs L s).set i (tE1 e (s + i))
  | [], _, _, _ => by simp [tEs]
  | a :: r, s, 0, e => by simp [tEs]
  | a :: r, s, i + 1, e => by
    simp only [List.set_cons_succ, tEs, tEs_set r (s + 1) i e]
    rw [show s + 1 + i = s + (i + 1) by omega]
theorem tEs_mem {L : List EntT} {x : MapEntry} (h : x ∈ tEs L 0) : ∃ i, i < L.length ∧ x = tE1 (L.getD i e0) i := by
  obtain ⟨i, hi, rfl⟩ := List.getElem_of_mem h
  rw [tEs_len] at hi
  refine ⟨i, hi, ?_⟩
  have := tEs_get L 0 i
  rw [List.getElem?_eq_getElem (by rw [tEs_len]; exact hi), List.getElem?_eq_getElem hi] at this
  simp at this
  simp [this, hi]
theorem tEs_born : ∀ (L : List EntT) (s : Nat), (tEs L s).map (·.born) = List.range' s L.length
  | [], _ => rfl
  | e :: r, s => by simp [tEs, tE1, tEs_born r (s + 1), List.range'_succ]

def TalAt (w : World) (b : Nat) (L : List EntT) : Prop := w.heap[b]? = some (.map (tEs L 0).toArray L.length)
section
variable {P : Program} {w w' : World} {b r : Nat} {L : List EntT}
theorem TalAt.lt (h : TalAt w b L) : b < w.heap.size := (Array.getElem?_eq_some_iff.1 h).1
theorem TalAt.ext (h : TalAt w b L) (hb : w'.heap[b]? = w.heap[b]?) : TalAt w' b L := hb.trans h

theorem run_range_tal {t k e : TypeId} (ht : P.underlying t = some (.map k e)) (h : TalAt w b L) :
    (Instr.range t (.map (some b))).run P w = .ok (.pointer (some ⟨w.heap.size, 0, none⟩)) (w.alloc (.mapIter (some b) L.length #[] L.length)) := by
  simp [Instr.range, run_underlying ht, MapKept.run_getObj_map (P := P) h]

/-- a step of the range -/
theorem run_next_tal (ty : TypeId) {idx : List Nat} (hr : w.heap[r]? = some (.mapIter (some b) L.length idx.toArray L.length)) (hb : TalAt w b L) (hne : r ≠ b) :
    ((∀ i, i < L.length → i ∈ idx) ∧ (Instr.next (.pointer (some ⟨r, 0, none⟩)) false ty).run P w = .ok (.tuple #[.bool false]) w) ∨
    ∃ i w', i < L.length ∧ i ∉ idx ∧ (Instr.next (.pointer (some ⟨r, 0, none⟩)) false ty).run P w = .ok (.tuple #[.bool true, keyC (L.getD i e0).cell, encA (L.getD i e0)]) w' ∧
      w'.heap[r]? = some (.mapIter (some b) L.length (idx ++ [i]).toArray L.length) ∧ TalAt w' b L ∧ w.grownBy w' (some r) ∧ w'.heap.size = w.heap.size ∧
      (Instr.entry (.pointer (some ⟨r, 0, none⟩))).run P w' = .ok (.tuple #[keyC (L.getD i e0).cell, encA (L.getD i e0)]) w' := by
  have hold : ∀ x ∈ (tEs L 0).toArray.toList, x.born < L.length := by
    intro x hx
    obtain ⟨i, hi, rfl⟩ := tEs_mem (by simpa using hx)
    exact hi
  rcases run_next_at (P := P) w ty r b L.length L.length idx.toArray (tEs L 0).toArray L.length hr hb hold (Nat.le_refl _) with ⟨h0, hrun⟩ | ⟨e, he, w1, hal, hrun⟩
  · refine .inl ⟨fun i hi => ?_, hrun⟩
    have he : leftOf (tEs L 0).toArray idx.toArray = #[] := Array.eq_empty_of_size_eq_zero h0
    unfold leftOf at he
    rw [Array.filter_eq_empty_iff] at he
    have hg := tEs_get L 0 i
    rw [List.getElem?_eq_getElem hi] at hg
    have hm : tE1 L[i] (0 + i) ∈ tEs L 0 := List.mem_of_getElem? (by simpa using hg)
    have := he _ (by simpa using hm)
    simpa [tE1] using this
  · have hm : e ∈ tEs L 0 ∧ ¬ e.born ∈ idx := by
      unfold leftOf at he
      simp at he
      exact he
    obtain ⟨i, hi, rfl⟩ := tEs_mem hm.1
    have hr1 : w1.heap[r]? = some (.mapIter (some b) L.length idx.toArray L.length) := by rcases hal with rfl | rfl <;> exact hr
    have hb1 : w1.heap[b]? = some (.map (tEs L 0).toArray L.length) := by rcases hal with rfl | rfl <;> exact hb
    have hset := heap_set (o' := .mapIter (some b) L.length (idx.toArray.push i) L.length) hr1
    have hb' : TalAt (setBlock w1 r (.mapIter (some b) L.length (idx.toArray.push i) L.length)) b L := (hset.2 b (fun e1 => hne e1.symm)).trans hb1
    have hent := run_entry_at (P := P) _ r b L.length idx.toArray (tEs L 0).toArray L.length (tE1 (L.getD i e0) i) hset.1 hb' (by simpa using hm.1) (by simp [tEs_born, List.nodup_range'])
    refine .inr ⟨i, _, hi, hm.2, hrun, ?_, hb', ?_, ?_, hent⟩
    · have := hset.1
      rw [show idx.toArray.push i = (idx ++ [i]).toArray by simp] at this
      rw [show (idx ++ [i]).toArray = idx.toArray.push (tE1 (L.getD i e0) i).born by simp [tE1]]
      exact hset.1
    · rcases hal with rfl | rfl <;> exact ⟨rfl, rfl, rfl, by simp [setBlock], fun j _ hj => hset.2 j (fun e1 => hj (by rw [e1]))⟩
    · rcases hal with rfl | rfl <;> simp [setBlock]

variable {F : Fence} {n : Nat} {ops : Array Oper} {rest : List Oper} {o : Oper} {a : Act} {Q : Exit → Act → World → Prop}
theorem wpListIn_range_tal (hg : o.guard = none) (m : Operand) (t : TypeId) (hop : o.op = Op.range t m) (k e : TypeId) (ht : P.underlying t = some (.map k e)) (hm : a.eval m = .map (some b)) (h : TalAt w b L)
    (hK : wpListIn F n P ops Q rest (a.put o.dst (.pointer (some ⟨w.heap.size, 0, none⟩))) (w.alloc (.mapIter (some b) L.length #[] L.length))) : wpListIn F n P ops Q (o :: rest) a w := by
  refine wpListIn_plain hg fun K' hK' => ?_
  unfold Oper.wpIn
  refine ⟨?_, ?_⟩
  · simp [Oper.about, hop]
  · rw [Oper.semAt_plain F _ _ (by rw [hop]; intro c hc'; cases hc')]
    simp [execOp, hop, hm, run_range_tal ht h, Result.andThen]
    exact hK' _ _ hK
theorem wpListIn_next_tal (hg : o.guard = none) (it : Operand) (hop : o.op = Op.next it false) {idx : List Nat} (hit : a.eval it = .pointer (some ⟨r, 0, none⟩)) (hr : w.heap[r]? = some (.mapIter (some b) L.length idx.toArray L.length)) (hb : TalAt w b L) (hne : r ≠ b)
    (hDone : (∀ i, i < L.length → i ∈ idx) → wpListIn F n P ops Q rest (a.put o.dst (.tuple #[.bool false])) w)
    (hMore : ∀ i w', i < L.length → i ∉ idx → w'.heap[r]? = some (.mapIter (some b) L.length (idx ++ [i]).toArray L.length) → TalAt w' b L → w.grownBy w' (some r) → w'.heap.size = w.heap.size →
      (Instr.entry (.pointer (some ⟨r, 0, none⟩))).run P w' = .ok (.tuple #[keyC (L.getD i e0).cell, encA (L.getD i e0)]) w' → wpListIn F n P ops Q rest (a.put o.dst (.tuple #[.bool true, keyC (L.getD i e0).cell, encA (L.getD i e0)])) w') :
    wpListIn F n P ops Q (o :: rest) a w := by
  refine wpListIn_plain hg fun K' hK' => ?_
  unfold Oper.wpIn
  refine ⟨by simp [Oper.about, hop], ?_⟩
  rw [Oper.semAt_plain F _ _ (by rw [hop]; intro c hc'; cases hc')]
  rcases run_next_tal (P := P) o.type hr hb hne with ⟨h0, hrun⟩ | ⟨i, w', h1, h2, hrun, h3, h4, h5, h6, h7⟩
  · simp [execOp, hop, hit, hrun, Result.andThen]
    exact hK' _ _ (hDone h0)
  · simp only [execOp, hop, hit, Sem.run_bind, hrun, Result.andThen_ok, Sem.run_pure]
    exact hK' _ _ (hMore i w' h1 h2 h3 h4 h5 h6 h7)
end
/-- all indices, each once, in some order -/
theorem perm_of_idx {L : List EntT} {idx : List Nat} (hn : idx.Nodup) (hlt : ∀ i ∈ idx, i < L.length) (hall : ∀ i, i < L.length → i ∈ idx) : (idx.map fun i => L.getD i e0).Perm L := by
  have hp : idx.Perm (List.range L.length) := by
    rw [List.perm_ext_iff_of_nodup hn List.nodup_range]
    intro i
    simp
    exact ⟨hlt i, hall i⟩
  have h2 := hp.map fun i => L.getD i e0
  have e : (List.range L.length).map (fun i => L.getD i e0) = L := by
    apply List.ext_getElem
    · simp
    · intro i h1 h2
      simp at h1
      simp [h1]
  rwa [e] at h2
end Go.Proofs.Ytdjimfngnhnhnaa.En
