import Derived.Test.YtlnplelandimeaaGreatZFleetFrames09
import Derived.Test.YtlnplelandimeaaGreatZFleetFrames08
import Derived.Shelf.SlSortCmp.WholeK
import Derived.Shelf.SlSortCmp.NoneTotal
set_option linter.all false
section
namespace Go.Proofs.YtlnplelandimeaaGreat.En
open Go.RowKit
set_option maxRecDepth 100000
end Go.Proofs.YtlnplelandimeaaGreat.En
end
section
namespace Go.Proofs.YtlnplelandimeaaGreat.En
open Go.RowKit Go.Sort Go.Shelf
section
variable {α : Type} [Inhabited α]
theorem flat_div {sz : Nat} {enc : α → List Value} (henc : ∀ x, (enc x).length = sz) (hsz : 0 < sz) (xs : List α) {t : Nat} (ht : t < xs.length * sz) : (xs.map enc).flatten[t]? = (enc (xs.toArray[t / sz]!))[t % sz]? := by
  have h1 : t / sz < xs.length := by rw [Nat.div_lt_iff_lt_mul hsz]; exact ht
  have h2 : t % sz < sz := Nat.mod_lt _ hsz
  have hx : xs.toArray[t / sz]! = xs[t / sz] := by simp [h1]
  have h3 := flat_get (sz := sz) (els := xs.map enc) (i := t / sz) (j := t % sz) (e := enc xs[t / sz]) (v := (enc xs[t / sz])[t % sz]'(by rw [henc]; exact h2)) (by
    intro e he
    obtain ⟨x, _, rfl⟩ := List.mem_map.1 he
    exact henc x) (by simp [h1]) (by simp)
  rw [show t / sz * sz + t % sz = t by rw [Nat.mul_comm]; exact Nat.div_add_mod t sz] at h3
  rw [h3, hx]
  simp
theorem get_bang {l : List Value} {i : Nat} (h : i < l.length) : l[i]! = l[i] := by simp [h]
theorem holdsK_row {sz : Nat} {enc : α → List Value} (henc : ∀ x, (enc x).length = sz) (hsz : 0 < sz) {w : World} {g : Nat} {cur : Array Value} {e : TypeId} {xs : List α} (hb : w.heap[g]? = some (.cells cur e (0, 0))) (ht : cur.toList.take (xs.length * sz) = (xs.map enc).flatten) : HoldsK enc sz w g 0 xs.toArray := by
  intro t h
  have h' : t < xs.length * sz := by simpa using h
  refine ⟨?_, by simp [World.frozen?, hb]⟩
  have h1 : (cur.toList.take (xs.length * sz))[t]? = (xs.map enc).flatten[t]? := by rw [ht]
  rw [List.getElem?_take_of_lt h', flat_div henc hsz xs h'] at h1
  rw [get_flatK _ _ _ _ (by simpa using h')]
  simp only [World.cell?, hb, Nat.zero_add, Option.isSome_none, Bool.false_eq_true, if_false, id]
  rw [← Array.getElem?_toList, h1]
  have h2 : t % sz < (enc (xs.toArray[t / sz]!)).length := by rw [henc]; exact Nat.mod_lt _ hsz
  rw [List.getElem?_eq_getElem h2]
  exact congrArg some (get_bang h2).symm
theorem heap_sortedK {sz : Nat} {enc : α → List Value} {w : World} {g n : Nat} {os : Array Obj} {cur : Array Value} {e : TypeId} {fr : Nat × Nat} (d : Array α) (hb : w.heap[g]? = some (.cells cur e fr)) :
    (sortWorldK enc sz w g 0 n d os).heap[g]? = some (.cells (putCells id 0 (flatK enc sz d) cur) e fr) := by
  have hg : g < w.heap.size := (Array.getElem?_eq_some_iff.1 hb).1
  unfold sortWorldK putRowK
  rw [heap_grow_old _ _ (by simpa [putRow, mapBlock, Sort.ahead] using hg)]
  simp [putRow, mapBlock, Sort.ahead, Array.getElem?_modify, hb, onCells]
theorem heap_sortedK_old {sz : Nat} {enc : α → List Value} {w : World} {g n : Nat} {os : Array Obj} (d : Array α) {i : Nat} (hi : i < w.heap.size) (hne : i ≠ g) : (sortWorldK enc sz w g 0 n d os).heap[i]? = w.heap[i]? := by
  unfold sortWorldK putRowK
  rw [heap_grow_old _ _ (by simpa [putRow, mapBlock, Sort.ahead] using hi)]
  simp [putRow, mapBlock, Sort.ahead, Array.getElem?_modify, hne.symm]
theorem size_sortedK {sz : Nat} {enc : α → List Value} {w : World} {g n : Nat} {os : Array Obj} (d : Array α) : w.heap.size ≤ (sortWorldK enc sz w g 0 n d os).heap.size := by
  simp [sortWorldK, putRowK, putRow, mapBlock, Sort.ahead, Sort.grow]
theorem take_sortedK {sz : Nat} {enc : α → List Value} (henc : ∀ x, (enc x).length = sz) (hsz : 0 < sz) (cur : Array Value) (ys : List α) (h : ys.length * sz ≤ cur.size) : (putCells id 0 (flatK enc sz ys.toArray) cur).toList.take (ys.length * sz) = (ys.map enc).flatten := by
  have hfl : ((ys.map enc).flatten).length = ys.length * sz := by
    rw [flat_len (sz := sz) (by
      intro e he
      obtain ⟨x, _, rfl⟩ := List.mem_map.1 he
      exact henc x)]
    simp
  apply List.ext_getElem?
  intro t
  by_cases ht : t < ys.length * sz
  · rw [List.getElem?_take_of_lt ht, Array.getElem?_toList, flat_div henc hsz ys ht]
    have h2 : t % sz < (enc (ys.toArray[t / sz]!)).length := by rw [henc]; exact Nat.mod_lt _ hsz
    have hg := get_flatK enc sz ys.toArray t (by simpa using ht)
    rw [List.getElem?_eq_getElem h2]
    simp only [putCells, Array.getElem?_mapIdx]
    rw [Array.getElem?_eq_getElem (show t < cur.size by omega)]
    simp only [Option.map_some, Nat.zero_le, true_and, Nat.zero_add, size_flatK, List.size_toArray, ht, if_true, Nat.sub_zero, id, hg]
    simp
    rw [List.getElem?_eq_getElem (by rw [henc]; exact Nat.mod_lt _ hsz)]
    rfl
  · rw [List.getElem?_take_eq_none (by omega), List.getElem?_eq_none (by omega)]
theorem CallX_sortK {C : Ctx} {ob : List OB} {k : SV → List OB → Prop} {ρ : Ren} (L : SlLaysF0.n6 C.P ρ) {sz : Nat} (hsz : 0 < sz) (enc : α → List Value) (henc : ∀ x, (enc x).length = sz) (h1 : ∀ x, ∀ v ∈ enc x, v.oneCell' = true)
    (aE : ∀ w, (isAgg (ρ.t 24)).run C.P w = .ok true w) (zE : ∀ w, (Go.sizeOf (ρ.t 24)).run C.P w = .ok sz w) (cf : α → α → Int) (hO : SWO (ltOf cf)) (g : Nat) (eg : ∀ args w, (callFunc g args).run C.P w = .ok (.enter g args) w)
    (hcmp : ∀ (W : World) (x y : α), Calls C.P g #[.agg (enc x).toArray, .agg (enc y).toArray] W fun e w' => e = .returned (.int .i64 (cf x y)) ∧ ∃ q os', w' = grow (W.drewN q) os')
    (hent : Entr C.P (ρ.f 6)) (j : Nat) (xs : List α) {A : Option Addr} {n c e : Nat} (hj : nth ob j = some (.row e sz A n c (xs.map enc))) (hx : xs.length = n) (hn : n < 4611686018427387904)
    (hk : ∀ ys : List α, ys.Perm xs → (∀ i k, i < k → k < n → ltOf cf (ys.getD k default) (ys.getD i default) = false) → force (setN ob j (.row e sz A n c (ys.map enc))) fun ob => k (.t []) ob) :
    CallX C (ρ.f 6) [.v (.slice A n c), .fn g []] ob k := by
  unfold CallX
  refine ⟨hent, fun σ fp w hm => ?_⟩
  obtain ⟨⟨hown, hlen, hsize, hone, hF⟩, hjl⟩ := nth_row hm hj
  simp only [SV.vals, SV.val]
  have hset : ob.set j (.row e sz A n c (xs.map enc)) = ob := by
    rw [nth_eq] at hj
    apply List.ext_getElem?
    intro i
    rw [List.getElem?_set]
    by_cases e : j = i
    · subst e
      simp [hjl, hj]
      exact (List.getElem?_eq_some_iff.1 hj).2.symm
    · simp [e]
  by_cases h0 : n = 0
  · subst h0
    have hxs : xs = [] := List.eq_nil_of_length_eq_zero hx
    refine (AnyF.slices_SortFunc_none L A c (.func (.func g) #[] #[]) w).mono ?_
    rintro e' w' ⟨rfl, rfl⟩
    have hk' := hk xs (List.Perm.refl _) (fun i k h1 h2 => by omega)
    rw [force_eq, setN_eq, hset] at hk'
    exact ⟨_, rfl, .t [], ob, σ, fp, hk', fun _ _ => rfl, Nat.le_refl _, rfl, trivial, hm, Frm.below (Below.refl _ _)⟩
  · rcases hown.2 with ⟨_, h⟩ | ⟨blk, cap, cur, hsl, hbg, hg, hnc, hcm, hcs, htake⟩
    · exact (h0 h).elim
    simp at hsl
    obtain ⟨rfl, rfl⟩ := hsl
    subst hx
    have hlt : blk < w.heap.size := (Array.getElem?_eq_some_iff.1 hg).1
    have hH := holdsK_row henc hsz hg htake
    have hcon := AnyQ.slices_SortFunc L sz aE zE enc henc h1 cf hO g #[] blk 0 c xs.toArray w eg (fun m os dk _ x y => by simpa using hcmp _ x y) hH hlt (by simpa using hn)
    simp only [List.size_toArray] at hcon
    refine hcon.mono ?_
    rintro e' w' ⟨rfl, d', m, os, ⟨hsz', _, hperm⟩, hsort, rfl⟩
    obtain ⟨ys, rfl⟩ : ∃ ys : List α, ys.toArray = d' := ⟨d'.toList, by simp⟩
    have hyl : ys.length = xs.length := by simpa using hsz'
    have hp : ys.Perm xs := by
      have := hperm
      simp only [List.extract_toArray, List.extract_eq_drop_take, Nat.sub_zero, List.drop_zero] at this
      rwa [← hyl, List.take_length, hyl, List.take_length] at this
    have hk' := hk ys hp (fun i k hik hkn => by
      have := hsort i k (Nat.zero_le _) hik hkn
      have e1 : ys.toArray[k]! = ys.getD k default := by simp [show k < ys.length by omega]
      have e2 : ys.toArray[i]! = ys.getD i default := by simp [show i < ys.length by omega]
      rwa [e1, e2] at this)
    rw [force_eq, setN_eq] at hk'
    have hcsz : ys.length * sz ≤ cur.size := by
      rw [hcs, hyl]
      exact Nat.mul_le_mul_right _ hnc
    have hown' : (sortWorldK enc sz w blk 0 m ys.toArray os).ownsRow 0 e sz (.slice (some ⟨blk, 0, none⟩) xs.length c) xs.length (ys.map enc).flatten := by
      refine ⟨?_, .inr ⟨blk, c, _, rfl, Nat.zero_le _, heap_sortedK _ hg, hnc, hcm, by simp [putCells, hcs], ?_⟩⟩
      · rw [flat_len (sz := sz) (by
          intro q hq
          obtain ⟨x, _, rfl⟩ := List.mem_map.1 hq
          exact henc x)]
        simp [hyl]
      · rw [← hyl]
        exact take_sortedK henc hsz cur ys hcsz
    have hsame : ∀ i, i < w.heap.size → ¬ fp j i → (sortWorldK enc sz w blk 0 m ys.toArray os).heap[i]? = w.heap[i]? := by
      intro i hi hni
      exact heap_sortedK_old _ hi fun e' => hni ((hF i).2 (by simp [Value.ownBlock, e']))
    have hszw : w.heap.size ≤ (sortWorldK enc sz w blk 0 m ys.toArray os).heap.size := size_sortedK _
    have hM := hm.change (w' := sortWorldK enc sz w blk 0 m ys.toArray os) hjl (.row e sz (some ⟨blk, 0, none⟩) xs.length c (ys.map enc)) (fp j) ⟨hown', by simp [hyl], (by
        intro q hq
        obtain ⟨x, _, rfl⟩ := List.mem_map.1 hq
        exact henc x), (by
        intro q hq
        obtain ⟨l, hl, hql⟩ := List.mem_flatten.1 hq
        obtain ⟨x, _, rfl⟩ := List.mem_map.1 hl
        exact h1 x q hql), hF⟩ (fun i hi => .inl hi) (fun i hi => Nat.lt_of_lt_of_le (hm.hi j hjl i hi) hszw) rfl rfl rfl hszw hsame (fun _ => by simp [sortWorldK, putRowK, putRow, mapBlock, Sort.ahead, Sort.grow])
    exact ⟨_, rfl, .t [], _, σ, _, hk', fun _ _ => rfl, by simp, rfl, trivial, hM, Frm.changed hjl (by simp) (fun i hi => .inl hi) hszw hsame⟩
end
end Go.Proofs.YtlnplelandimeaaGreat.En
end
