/- The symbolic executor: slice expressions on slices, clear. -/
import Derived.Test.YtodaijlclbngbaaEnE
set_option linter.all false
namespace Go.Proofs.Ytodaijlclbngbaa.En
open Go.RowKit

section
variable {C : Ctx} {σ : Nat → Nat} {fp : Nat → Nat → Prop} {ob : List OB} {w : World} {A : Option Addr} {n c sz e : Nat} {els : List (List Value)}

/-- where a slice begins whose first i elements are dropped -/
def cutA (A : Option Addr) (c i sz : Nat) : Option Addr := if c = i then A else A.map fun a => ⟨a.block, a.off + i * sz, none⟩

theorem slInfo_run (hT : TabOk C.P C.T) {t : TypeId} (h : slInfo C t = some (e, sz)) (w : World) : C.P.underlying t = some (.slice e) ∧ (sizeOf e).run C.P w = .ok sz w := by
  obtain ⟨hu, te, hl, hz, hti, hid⟩ := slInfo_spec hT h
  refine ⟨hu, ?_⟩
  have := hti.run_size w
  rwa [hid, hz] at this
theorem addr_add0 (A : Option Addr) : A.map (·.add 0) = A := by cases A <;> simp [Addr.add]
theorem run_slice_hi {P : Program} {t : TypeId} {w : World} (hu : P.underlying t = some (.slice e)) (hs : (sizeOf e).run P w = .ok sz w) {m : Nat} (hm : m ≤ c) :
    (Instr.slice t (.slice A n c) none (some (.int .i64 m)) none).run P w = .ok (.slice A m c) w := by
  have h0 : (0 : Int) ≤ m := by omega
  have h1 : (m : Int) ≤ c := by omega
  simp [Instr.slice, run_underlying hu, Instr.sliceBounds, run_sliceBound, hs, h1, addr_add0]
theorem run_slice_lo {P : Program} {t : TypeId} {w : World} (hu : P.underlying t = some (.slice e)) (hs : (sizeOf e).run P w = .ok sz w) {m : Nat} (hm : m ≤ n) (hA : ∀ a, A = some a → a.spot = none) :
    (Instr.slice t (.slice A n c) (some (.int .i64 m)) none none).run P w = .ok (.slice (cutA A c m sz) (n - m) (c - m)) w := by
  have h0 : (0 : Int) ≤ m := by omega
  have h1 : (m : Int) ≤ n := by omega
  simp only [Instr.slice, run_underlying hu, Instr.sliceBounds, run_sliceBound _ _ _ _ _ h0 h1, hs, Sem.run_bind, Sem.run_pure, Result.andThen_ok, Int.toNat_natCast]
  congr 2
  unfold cutA
  split
  · rfl
  · cases A with
    | none => rfl
    | some a =>
      have := hA a rfl
      obtain ⟨b, o, s⟩ := a
      simp only at this
      subst this
      simp only [Option.map_some]
      congr 1
      unfold Addr.add
      split
      · rename_i h
        rw [h]
        simp
      · rfl

theorem ValX_sliceHi {o : Oper} {t : TypeId} {x y : Operand} {m : Nat} {k : SV → Prop} (hT : TabOk C.P C.T) (ho : o.op = .slice t x none (some y) none) (hs : slInfo C t = some (e, sz)) (hm : m ≤ c)
    (hk : k (.v (.slice A m c))) : ValX C o [.v (.slice A n c), .v (.int .i64 (m : Int))] ob k := by
  unfold ValX
  intro σ fp w ρ hM hx
  obtain ⟨hu, hz⟩ := slInfo_run hT hs w
  rw [ho] at hx
  simp [Op.operands, SV.vals, SV.val] at hx
  refine ⟨_, hk, ?_, trivial⟩
  simp [execOp, ho, hx.1, hx.2, Instr.sliceAt, run_underlying hu, run_slice_hi (w := w) hu hz hm, SV.val]
theorem ValX_sliceLo {o : Oper} {t : TypeId} {x y : Operand} {m : Nat} {k : SV → Prop} (hT : TabOk C.P C.T) (ho : o.op = .slice t x (some y) none none) (hs : slInfo C t = some (e, sz)) (hA : ∀ σ fp w, Mem C σ fp ob w → ∀ a, A = some a → a.spot = none) (hm : m ≤ n)
    (hk : k (.v (.slice (cutA A c m sz) (n - m) (c - m)))) : ValX C o [.v (.slice A n c), .v (.int .i64 (m : Int))] ob k := by
  unfold ValX
  intro σ fp w ρ hM hx
  obtain ⟨hu, hz⟩ := slInfo_run hT hs w
  rw [ho] at hx
  simp [Op.operands, SV.vals, SV.val] at hx
  refine ⟨_, hk, ?_, trivial⟩
  simp [execOp, ho, hx.1, hx.2, Instr.sliceAt, run_underlying hu, run_slice_lo (w := w) hu hz hm (hA σ fp w hM), SV.val]
theorem row_spot (j : Nat) (hj : nth ob j = some (.row e sz A n c els)) : ∀ σ fp w, Mem C σ fp ob w → ∀ a, A = some a → a.spot = none := by
  intro σ fp w hm a ha
  obtain ⟨⟨hown, _⟩, _⟩ := nth_row hm hj
  rcases hown.2 with ⟨h, _⟩ | ⟨g, cap, cur, hsl, _⟩
  · simp [ha] at h
  · simp [ha] at hsl
    rw [hsl.1]

/-- a row with fewer elements -/
theorem owns_take {base : Nat} {i : Nat} (h : w.ownsRow base e sz (.slice A n c) n els.flatten) (hl : els.length = n) (hs : ∀ x ∈ els, x.length = sz) (hi : i ≤ n) : (A ≠ none ∨ i = n) → w.ownsRow base e sz (.slice A i c) i (els.take i).flatten := by
  intro hA
  have hs' : ∀ x ∈ els.take i, x.length = sz := fun x hx => hs x (List.mem_of_mem_take hx)
  rcases h.2 with ⟨h0, h1⟩ | ⟨g, cap, cur, hsl, hb, hg, hnc, hcm, hcs, ht⟩
  · simp at h0
    obtain ⟨rfl, rfl, rfl⟩ := h0
    obtain rfl : i = 0 := by omega
    simpa using World.ownsRow_nil w base e sz
  · simp at hsl
    obtain ⟨rfl, rfl⟩ := hsl
    refine ⟨by rw [flat_len hs', List.length_take, hl, Nat.min_eq_left hi], .inr ⟨g, c, cur, rfl, hb, hg, by omega, hcm, hcs, ?_⟩⟩
    have e1 : (els.take i).flatten = els.flatten.take (i * sz) := by
      have hsplit : els.flatten = (els.take i).flatten ++ (els.drop i).flatten := by rw [← List.flatten_append, List.take_append_drop]
      rw [hsplit, List.take_left' (by rw [flat_len hs', List.length_take, hl, Nat.min_eq_left hi])]
    rw [e1, ← ht, List.take_take, Nat.min_eq_left (Nat.mul_le_mul_right _ hi)]

theorem zero_one {t : TypeId} {te : TI} (hT : TabOk C.P C.T) (ht : lookT C.T t = some te) (hone : ones (te.zero.map .v) = true) : ∀ v ∈ te.zero, v.oneCell' = true := by
  have := ones_spec (fun _ => 0) hone
  rwa [vals_v] at this
theorem OpX_clear {o : Oper} {t : TypeId} {x : Operand} {i : Nat} {k : SV → List OB → Prop} {te : TI} (j : Nat) (hT : TabOk C.P C.T) (ho : o.op = .call ⟨.builtin .clear, #[x], #[t]⟩) (hj : nth ob j = some (.row e sz A n c els))
    (hs : slInfo C t = some (e, sz)) (hte : lookT C.T e = some te) (hone : ones (te.zero.map .v) = true) (hi : i < n)
    (hk : force (setN ob j (.row e sz A i c (els.take i))) fun ob => k (.t []) ob) : OpX C o [.v (.slice (cutA A c i sz) (n - i) (c - i))] ob k := by
  unfold OpX
  intro σ fp w ρ hm hx
  obtain ⟨hu, te', hl', hz', hti', hid'⟩ := slInfo_spec hT hs
  obtain ⟨hid, hti⟩ := hT e te hte
  rw [hl'] at hte
  cases hte
  obtain ⟨⟨hown, hlen, hsize, hone', hF⟩, hjl⟩ := nth_row hm hj
  rcases hown.2 with ⟨_, h0⟩ | ⟨g, cap, cur, hsl, hbg, hg, hnc, hcm, hcs, htake⟩
  · omega
  simp at hsl
  obtain ⟨rfl, rfl⟩ := hsl
  obtain ⟨z, hzr, hzc⟩ := hti.zero
  have hzr' := hzr w
  rw [hid] at hzr'
  have hcut : cutA (some (⟨g, 0, none⟩ : Addr)) c i sz = some ⟨g, i * sz, none⟩ := by
    unfold cutA
    rw [if_neg (by omega)]
    simp
  rw [ho, hcut] at hx
  simp [Op.operands, Call.operands, SV.vals, SV.val] at hx
  have hzl : (Builtin.zeroCells z.cells (n - i)).size = (n - i) * sz := by simp [Builtin.zeroCells, hzc, hz']
  have h1z := zero_one hT hl' hone
  have hz1 : ∀ v ∈ (Builtin.zeroCells z.cells (n - i)).toList, v.oneCell' = true := by
    intro v hv
    simp only [Builtin.zeroCells, Array.toList_map, List.mem_map] at hv
    obtain ⟨q, hq, rfl⟩ := hv
    rw [hzc]
    simp [hzc, hz'] at hq
    have hsz0 : 0 < sz := by
      rcases Nat.eq_zero_or_pos sz with h | h
      · rw [h] at hq; simp at hq
      · exact h
    have hlt : q % te.zero.toArray.size < te.zero.toArray.size := Nat.mod_lt _ (by simp [hz']; omega)
    rw [getElem!_pos te.zero.toArray (q % te.zero.toArray.size) hlt]
    exact h1z _ (by simp)
  have hle : i * sz + (n - i) * sz ≤ c * sz := by
    rw [← Nat.add_mul]
    exact Nat.mul_le_mul_right _ (by omega)
  have hst := run_storeCells_at (P := C.P) g (i * sz) e (Builtin.zeroCells z.cells (n - i)).toList 0 cur w hg (by rw [hcs, Array.length_toList, hzl]; omega) hz1
  simp only [Nat.add_zero] at hst
  generalize hcur : (cur.toList.take (i * sz) ++ (Builtin.zeroCells z.cells (n - i)).toList ++ cur.toList.drop (i * sz + (Builtin.zeroCells z.cells (n - i)).toList.length)).toArray = cur' at hst
  obtain ⟨m', hm'⟩ : ∃ m', n - i = m' + 1 := ⟨n - i - 1, by omega⟩
  have hex : (execOp ρ o).run C.P w = .ok (.value (.tuple #[])) (w.setRow g cur') := by
    rw [hm'] at hst
    simp [execOp, ho, resolve, invoke, builtin, Builtin.clear_, hx, hm', run_underlying hu, hzr', hst, Result.andThen]
  rw [hex]
  have hcl : cur'.size = c * sz := by
    rw [← hcur]
    simp only [List.size_toArray, List.length_append, List.length_take, List.length_drop, Array.length_toList, hcs, hzl]
    omega
  have htk : cur'.toList.take (i * sz) = cur.toList.take (i * sz) := by
    rw [← hcur]
    simp only [List.append_assoc]
    rw [List.take_left' (by rw [List.length_take, Array.length_toList, hcs]; omega)]
  have hrow := setRow_heap w g cur cur' e (0, 0) hg
  have hown' : (w.setRow g cur').ownsRow 0 e sz (.slice (some ⟨g, 0, none⟩) i c) i (els.take i).flatten := by
    have h2 := owns_take (i := i) hown hlen hsize (by omega) (.inl (by simp))
    rcases h2.2 with ⟨h3, _⟩ | ⟨g2, cap2, cur2, hsl2, _, hg2, h5, h6, h7, h8⟩
    · simp at h3
    · simp at hsl2
      obtain ⟨rfl, rfl⟩ := hsl2
      rw [hg] at hg2
      cases hg2
      exact ⟨h2.1, .inr ⟨g, c, cur', rfl, Nat.zero_le _, hrow, h5, h6, hcl, by rw [htk]; exact h8⟩⟩
  have hsz2 : w.heap.size ≤ (w.setRow g cur').heap.size := by simp [World.setRow]
  have hsame : ∀ q, q < w.heap.size → ¬ fp j q → (w.setRow g cur').heap[q]? = w.heap[q]? := by
    intro q hq hnq
    have : q ≠ g := fun e' => hnq ((hF q).2 (by simp [Value.ownBlock, e']))
    simp [World.setRow, Array.getElem?_modify, this.symm]
  have hM := hm.change (w' := w.setRow g cur') hjl (.row e sz (some ⟨g, 0, none⟩) i c (els.take i)) (fp j) ⟨hown', by simp; omega, fun q hq => hsize q (List.mem_of_mem_take hq), (by
      intro q hq
      obtain ⟨l, hl, hql⟩ := List.mem_flatten.1 hq
      exact hone' q (List.mem_flatten.2 ⟨l, List.mem_of_mem_take hl, hql⟩)), fun q => by rw [hF q]; simp [Value.ownBlock]⟩ (fun i hi => .inl hi) (by
      intro q hq
      have := hm.hi j hjl q hq
      simpa [World.setRow] using this) rfl rfl rfl hsz2 hsame (fun _ => Nat.le_refl _)
  rw [force_eq, setN_eq] at hk
  exact ⟨.t [], _, σ, _, hk, fun _ _ => rfl, by simp, rfl, trivial, hM, Frm.changed hjl (by simp) (fun i hi => .inl hi) hsz2 hsame⟩
end
end Go.Proofs.Ytodaijlclbngbaa.En
