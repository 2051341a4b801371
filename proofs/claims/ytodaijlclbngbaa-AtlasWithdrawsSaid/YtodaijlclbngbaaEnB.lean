/- The symbolic executor: slices. Rules for operations on slices that came in and on slices of the call's own. -/
import Derived.Test.YtodaijlclbngbaaEnA
set_option linter.all false
namespace Go.Proofs.Ytodaijlclbngbaa.En
open Go.RowKit

/-- a slice that reads as a list of elements, each of sz cells -/
structure ArgSl (w : World) (A : Option Addr) (n : Nat) (sz : Nat) (els : List (List Value)) : Prop where
  len : els.length = n
  size : ∀ e ∈ els, e.length = sz
  one : ∀ e ∈ els, ∀ v ∈ e, Value.oneCell' v = true
  at_ : n ≠ 0 → ∃ b o, A = some ⟨b, o, none⟩ ∧ ∀ i e, els[i]? = some e → ∀ j v, e[j]? = some v → w.cell? ⟨b, o + i * sz + j, none⟩ = some v

theorem flat_get {sz : Nat} : ∀ {els : List (List Value)} {i j : Nat} {e : List Value} {v : Value}, (∀ e ∈ els, e.length = sz) → els[i]? = some e → e[j]? = some v → els.flatten[i * sz + j]? = some v
  | [], _, _, _, _, _, h, _ => by simp at h
  | x :: r, 0, j, e, v, hs, h, hj => by
    simp at h
    subst h
    have hlt := (List.getElem?_eq_some_iff.1 hj).1
    simp only [List.flatten_cons, Nat.zero_mul, Nat.zero_add]
    rw [List.getElem?_append_left hlt, hj]
  | x :: r, i + 1, j, e, v, hs, h, hj => by
    have hx := hs x (by simp)
    have := flat_get (els := r) (i := i) (j := j) (fun e he => hs e (by simp [he])) (by simpa using h) hj
    simp only [List.flatten_cons]
    rw [List.getElem?_append_right (by rw [hx, Nat.add_mul]; omega), hx]
    rw [← this]
    congr 1
    rw [Nat.add_mul]
    omega
theorem flat_len {sz : Nat} : ∀ {els : List (List Value)}, (∀ e ∈ els, e.length = sz) → els.flatten.length = els.length * sz
  | [], _ => by simp
  | x :: r, h => by
    simp only [List.flatten_cons, List.length_append, List.length_cons, flat_len (els := r) (fun e he => h e (by simp [he])), h x (by simp)]
    rw [Nat.add_mul]; omega

section
variable {C : Ctx} {σ : Nat → Nat} {fp : Nat → Nat → Prop} {ob : List OB} {w : World} {A : Option Addr} {n c sz e : Nat} {els : List (List Value)}

theorem nth_row {j : Nat} (hm : Mem C σ fp ob w) (h : nth ob j = some (.row e sz A n c els)) : (OB.row e sz A n c els).at σ ob.length w (σ j) (fp j) ∧ j < ob.length := by
  rw [nth_eq] at h
  exact ⟨hm.at_ j _ h, (List.getElem?_eq_some_iff.1 h).1⟩

theorem ArgSl.of_owns {base : Nat} (h : w.ownsRow base e sz (.slice A n c) n els.flatten) (hl : els.length = n) (hs : ∀ x ∈ els, x.length = sz) (h1 : ∀ x ∈ els.flatten, Value.oneCell' x = true) : ArgSl w A n sz els := by
  refine ⟨hl, hs, fun x hx v hv => h1 v (List.mem_flatten.2 ⟨x, hx, hv⟩), fun hn => ?_⟩
  rcases h.2 with ⟨_, h0⟩ | ⟨g, cap, cur, hv, _, hg, _, _, hcs, htake⟩
  · exact (hn h0).elim
  · simp at hv
    obtain ⟨rfl, rfl⟩ := hv
    refine ⟨g, 0, rfl, fun i x hi j v hj => ?_⟩
    have hf := flat_get hs hi hj
    rw [← htake, List.getElem?_take] at hf
    split at hf
    · rw [Nat.zero_add, cell_of_row w g _ cur e (0, 0) hg]
      simpa using hf
    · cases hf

theorem ArgSl.row (j : Nat) (h : nth ob j = some (.row e sz A n c els)) : ∀ σ fp w, Mem C σ fp ob w → ArgSl w A n sz els := by
  intro σ fp w hm
  obtain ⟨⟨h1, h2, h3, h4, _⟩, _⟩ := nth_row hm h
  exact ArgSl.of_owns h1 h2 h3 h4

theorem ArgSl.block {sz : Nat} (h : ArgSl w A n sz els) (hn : n ≠ 0) (hz : sz ≠ 0) : ∃ b o, A = some ⟨b, o, none⟩ ∧ b < w.heap.size := by
  obtain ⟨b, o, hA, hc⟩ := h.at_ hn
  refine ⟨b, o, hA, ?_⟩
  have h0 : 0 < els.length := by have := h.len; omega
  have hs := h.size els[0] (by simp)
  have := hc 0 els[0] (by simp [h0]) 0 (els[0][0]'(by omega)) (by simp)
  exact World.block_lt_of_cell? w _ this
theorem ArgSl.below {w' : World} {B : Nat} (h : ArgSl w A n sz els) (hb : ∀ b, b < B → w'.heap[b]? = w.heap[b]?) (hB : ∀ b o, A = some ⟨b, o, none⟩ → b < B) : ArgSl w' A n sz els := by
  refine ⟨h.len, h.size, h.one, fun hn => ?_⟩
  obtain ⟨b, o, hA, hc⟩ := h.at_ hn
  refine ⟨b, o, hA, fun i x hi j v hj => ?_⟩
  rw [World.cell?_of_block (w := w) (hb b (hB b o hA))]
  exact hc i x hi j v hj
/-- a slice that came in stays -/
theorem ArgSl.mem (h : ArgSl C.w0 A n sz els) (hz : sz ≠ 0) (hM : C.M = fun _ => False) : ∀ σ fp w, Mem C σ fp ob w → ArgSl w A n sz els := by
  intro σ fp w hm
  have hk := hm.kept
  rw [hM] at hk
  refine ⟨h.len, h.size, h.one, fun hn => ?_⟩
  obtain ⟨b, o, hA, hlt⟩ := h.block hn hz
  obtain ⟨b', o', hA', hc⟩ := h.at_ hn
  rw [hA] at hA'
  simp at hA'
  obtain ⟨rfl, rfl⟩ := hA'
  refine ⟨b, o, hA, fun i x hi j v hj => ?_⟩
  rw [World.cell?_of_block (w := C.w0) (hk.block b hlt (fun h => h))]
  exact hc i x hi j v hj

def elA (A : Option Addr) (i : Int) (sz : Nat) : Addr :=
  match A with
  | some a => ⟨a.block, a.off + i.toNat * sz, none⟩
  | none => default

def slInfo (C : Ctx) (t : TypeId) : Option (Nat × Nat) :=
  match lookT C.T t with
  | some ti => match ti.el with
    | 0 => none
    | e + 1 => match lookT C.T e with
      | some te => lenK lits te.zero (fun n => some (e, n)) none
      | none => none
  | none => none
theorem lenK_opt {α : Type} {l : List α} {e : Nat} {r : Nat × Nat} (h : lenK lits l (fun n => some (e, n)) none = some r) : r = (e, l.length) := by
  rw [lits_eq] at h
  have key : ∀ (m s : Nat) (l : List α), lenK (List.range' s m) l (fun n => some (e, n)) none = some r → r = (e, s + l.length) := by
    intro m
    induction m with
    | zero => intro s l h; simp [lenK] at h
    | succ m ih =>
      intro s l h
      rw [List.range'_succ] at h
      cases l with
      | nil => simp [lenK] at h; simp [← h]
      | cons x l =>
        have := ih (s + 1) l h
        rw [this]
        simp
        omega
  simpa using key _ _ _ h
theorem slInfo_spec (hT : TabOk C.P C.T) {t : TypeId} (h : slInfo C t = some (e, sz)) : C.P.underlying t = some (.slice e) ∧ ∃ te, lookT C.T e = some te ∧ te.zero.length = sz ∧ TIok C.P te ∧ te.id = e := by
  unfold slInfo at h
  split at h
  · rename_i ti hl
    obtain ⟨hid, hti⟩ := hT t ti hl
    split at h
    · cases h
    · rename_i e' hel
      have hu := hti.sl e' hel
      rw [hid] at hu
      split at h
      · rename_i te hl'
        have h := lenK_opt h
        simp at h
        obtain ⟨rfl, rfl⟩ := h
        obtain ⟨hid', hti'⟩ := hT e te hl'
        exact ⟨hu, te, hl', rfl, hti', hid'⟩
      · cases h
  · cases h
theorem TIok.run_size {P : Program} {te : TI} (h : TIok P te) (w : World) : (sizeOf te.id).run P w = .ok te.zero.length w := by
  have := h.info
  cases hq : P.info? te.id with
  | none => simp [hq] at this
  | some i => simp [hq] at this; rw [← this]; exact run_sizeOf hq w

theorem ValX_index {o : Oper} {t : TypeId} {x ix : Operand} {i : Int} {k : SV → Prop} (hT : TabOk C.P C.T) (ho : o.op = .indexAddr t x ix) (hA : ∀ σ fp w, Mem C σ fp ob w → ArgSl w A n sz els) (hs : slInfo C t = some (e, sz))
    (h0 : 0 ≤ i) (h1 : i < n) (hk : k (.v (.pointer (some (elA A i sz))))) : ValX C o [.v (.slice A n c), .v (.int .i64 i)] ob k := by
  unfold ValX
  intro σ fp w ρ hm hx
  obtain ⟨hu, te, hl, hz, hti, hid⟩ := slInfo_spec hT hs
  obtain ⟨b, oo, rfl, _⟩ := (hA σ fp w hm).at_ (by omega)
  refine ⟨_, hk, ?_, trivial⟩
  rw [ho] at hx
  simp [Op.operands, SV.vals, SV.val] at hx
  have hsz := hti.run_size w
  rw [hid, hz] at hsz
  obtain ⟨dst, op, ty, pos, after, guard⟩ := o
  simp only at ho
  subst ho
  simp only [execOp, hx, Instr.indexAt, asIntOf, Sem.run_bind, Sem.run_pure, Result.andThen_ok, run_underlying hu]
  have hc : (0 ≤ i ∧ i < (n : Int)) := ⟨h0, h1⟩
  simp only [hc, and_self, if_true, Sem.run_bind, hsz, Result.andThen_ok, Sem.run_pure, elA, SV.val, Addr.add_mid]

theorem ArgSl.cells (h : ArgSl w A n sz els) {i : Int} {b oo : Nat} (hA : A = some ⟨b, oo, none⟩) {x : List Value} (hx : els[i.toNat]? = some x) : w.rangeAt b (oo + i.toNat * sz) x := by
  intro j v hj
  by_cases hn : n = 0
  · have := h.len
    have hlt := (List.getElem?_eq_some_iff.1 hx).1
    omega
  · obtain ⟨b', o', hA', hc⟩ := h.at_ hn
    rw [hA] at hA'
    simp at hA'
    obtain ⟨rfl, rfl⟩ := hA'
    exact hc i.toNat x hx j v hj

theorem ValX_load {o : Oper} {t : TypeId} {x : Operand} {i : Int} {k : SV → Prop} {te : TI} (hT : TabOk C.P C.T) (ho : o.op = .load t x) (ht : lookT C.T t = some te) (hz : te.zero.length = sz) (hA : ∀ σ fp w, Mem C σ fp ob w → ArgSl w A n sz els)
    (h1 : i.toNat < n) (v : SV) (hv : v = if te.agg then .a ((els.getD i.toNat []).map .v) else .v ((els.getD i.toNat []).headD undef)) (hk : k v) : ValX C o [.v (.pointer (some (elA A i sz)))] ob k := by
  unfold ValX
  intro σ fp w ρ hm hx
  obtain ⟨hid, hti⟩ := hT t te ht
  have hS := hA σ fp w hm
  obtain ⟨b, oo, rfl, _⟩ := hS.at_ (by omega)
  have hlen := hS.len
  have hlt : i.toNat < els.length := by omega
  have hget : els[i.toNat]? = some els[i.toNat] := by simp
  have hcs := hS.cells rfl hget
  have hxl := hS.size els[i.toNat] (by simp)
  have hgd : els.getD i.toNat [] = els[i.toNat] := by simp [hget]
  rw [hgd] at hv
  rw [ho] at hx
  simp [Op.operands, SV.vals, SV.val] at hx
  obtain ⟨dst, op, ty, pos, after, guard⟩ := o
  simp only at ho
  subst ho
  obtain ⟨d, hd, hrow⟩ := hti.under
  cases hagg : te.agg with
  | true =>
    rw [hagg] at hv hrow
    simp at hv
    subst hv
    have hl := run_loadVar_mid (P := C.P) w b (oo + i.toNat * sz) te.id els[i.toNat] d hcs hd hrow (by rw [hti.info, hz, hxl])
    rw [hid] at hl
    refine ⟨_, hk, ?_, ?_⟩
    · simp only [execOp, hx, Instr.loadAt, elA, Instr.sureAddr, Sem.run_bind, Sem.run_pure, Result.andThen_ok, hl, SV.val, vals_v]
    · exact wfs_v _ _
  | false =>
    rw [hagg] at hv
    simp at hv
    have h1' := hti.one hagg
    obtain ⟨u, hu⟩ := List.length_eq_one_iff.1 (show (els[i.toNat]).length = 1 by omega)
    rw [hu] at hv hcs
    simp at hv
    subst hv
    have hc0 := hcs 0 u (by simp)
    have hl := load_one hti hagg (by simpa using hc0)
    rw [hid] at hl
    refine ⟨_, hk, ?_, trivial⟩
    simp only [execOp, hx, Instr.loadAt, elA, Instr.sureAddr, Sem.run_bind, Sem.run_pure, Result.andThen_ok, hl, SV.val]

/-- the elements of a list of structs -/
theorem ValX_loadE {o : Oper} {t : TypeId} {x : Operand} {i : Int} {k : SV → Prop} {te : TI} {α : Type} (enc : α → List Value) (xs : List α) (d : α) (hT : TabOk C.P C.T) (ho : o.op = .load t x) (ht : lookT C.T t = some te) (hz : te.zero.length = sz) (hagg : te.agg = true)
    (hA : ∀ σ fp w, Mem C σ fp ob w → ArgSl w A n sz (xs.map enc)) (h1 : i.toNat < n) (hl : xs.length = n) (hk : force ((enc (xs.getD i.toNat d)).map SV.v) fun l => k (.a l)) : ValX C o [.v (.pointer (some (elA A i sz)))] ob k := by
  refine ValX_load hT ho ht hz hA h1 (.a ((enc (xs.getD i.toNat d)).map .v)) ?_ (by rwa [force_eq] at hk)
  have : (xs.map enc).getD i.toNat [] = enc (xs.getD i.toNat d) := by
    have : i.toNat < xs.length := by omega
    simp [this]
  rw [this, hagg]
  rfl
/-- the elements of a list of values of one cell -/
theorem ValX_load1 {o : Oper} {t : TypeId} {x : Operand} {i : Int} {k : SV → Prop} {te : TI} {α : Type} (enc : α → Value) (xs : List α) (d : α) (hT : TabOk C.P C.T) (ho : o.op = .load t x) (ht : lookT C.T t = some te) (hagg : te.agg = false)
    (hA : ∀ σ fp w, Mem C σ fp ob w → ArgSl w A n 1 (xs.map fun x => [enc x])) (h1 : i.toNat < n) (hl : xs.length = n) (hk : k (.v (enc (xs.getD i.toNat d)))) : ValX C o [.v (.pointer (some (elA A i 1)))] ob k := by
  refine ValX_load hT ho ht ?_ hA h1 (.v (enc (xs.getD i.toNat d))) ?_ hk
  · exact (hT t te ht).2.one hagg
  · have : (xs.map fun x => [enc x]).getD i.toNat [] = [enc (xs.getD i.toNat d)] := by
      have : i.toNat < xs.length := by omega
      simp [this]
    rw [this, hagg]
    rfl

/-- one cell of an element that is a struct -/
theorem ValX_loadF {o : Oper} {t : TypeId} {x : Operand} {i : Int} {fo : Nat} {k : SV → Prop} {te : TI} {α : Type} (enc : α → List Value) (xs : List α) (d : α) (v : Value) (hT : TabOk C.P C.T) (ho : o.op = .load t x) (ht : lookT C.T t = some te) (hagg : te.agg = false)
    (hA : ∀ σ fp w, Mem C σ fp ob w → ArgSl w A n sz (xs.map enc)) (h1 : i.toNat < n) (hl : xs.length = n) (hv : nth (enc (xs.getD i.toNat d)) fo = some v) (hk : k (.v v)) : ValX C o [.v (.pointer (some ((elA A i sz).add fo)))] ob k := by
  unfold ValX
  intro σ fp w ρ hm hx
  obtain ⟨hid, hti⟩ := hT t te ht
  have hS := hA σ fp w hm
  obtain ⟨b, oo, rfl, hc⟩ := hS.at_ (by omega)
  have hlt : i.toNat < xs.length := by omega
  have hget : (xs.map enc)[i.toNat]? = some (enc (xs.getD i.toNat d)) := by simp [hlt]
  rw [nth_eq] at hv
  have hc0 := hc _ _ hget fo v hv
  rw [ho] at hx
  simp [Op.operands, SV.vals, SV.val] at hx
  obtain ⟨dst, op, ty, pos, after, guard⟩ := o
  simp only at ho
  subst ho
  have hl' := load_one hti hagg hc0
  rw [hid] at hl'
  refine ⟨_, hk, ?_, trivial⟩
  simp only [execOp, hx, Instr.loadAt, elA, Addr.add_mid, Instr.sureAddr, Sem.run_bind, Sem.run_pure, Result.andThen_ok, hl', SV.val]
theorem ValX_loadEn {o : Oper} {t : TypeId} {x : Operand} {m : Nat} {k : SV → Prop} {te : TI} {α : Type} (enc : α → List Value) (xs : List α) (d : α) (hT : TabOk C.P C.T) (ho : o.op = .load t x) (ht : lookT C.T t = some te) (hz : te.zero.length = sz) (hagg : te.agg = true)
    (hA : ∀ σ fp w, Mem C σ fp ob w → ArgSl w A n sz (xs.map enc)) (h1 : m < n) (hl : xs.length = n) (hk : force ((enc (xs.getD m d)).map SV.v) fun l => k (.a l)) : ValX C o [.v (.pointer (some (elA A (m : Int) sz)))] ob k :=
  ValX_loadE enc xs d hT ho ht hz hagg hA (by simpa using h1) hl (by simpa using hk)
theorem ValX_load1n {o : Oper} {t : TypeId} {x : Operand} {m : Nat} {k : SV → Prop} {te : TI} {α : Type} (enc : α → Value) (xs : List α) (d : α) (hT : TabOk C.P C.T) (ho : o.op = .load t x) (ht : lookT C.T t = some te) (hagg : te.agg = false)
    (hA : ∀ σ fp w, Mem C σ fp ob w → ArgSl w A n 1 (xs.map fun x => [enc x])) (h1 : m < n) (hl : xs.length = n) (hk : k (.v (enc (xs.getD m d)))) : ValX C o [.v (.pointer (some (elA A (m : Int) 1)))] ob k :=
  ValX_load1 enc xs d hT ho ht hagg hA (by simpa using h1) hl (by simpa using hk)

theorem ValX_loadFn {o : Oper} {t : TypeId} {x : Operand} {m : Nat} {fo : Nat} {k : SV → Prop} {te : TI} {α : Type} (enc : α → List Value) (xs : List α) (d : α) (v : Value) (hT : TabOk C.P C.T) (ho : o.op = .load t x) (ht : lookT C.T t = some te) (hagg : te.agg = false)
    (hA : ∀ σ fp w, Mem C σ fp ob w → ArgSl w A n sz (xs.map enc)) (h1 : m < n) (hl : xs.length = n) (hv : nth (enc (xs.getD m d)) fo = some v) (hk : k (.v v)) : ValX C o [.v (.pointer (some ((elA A (m : Int) sz).add fo)))] ob k :=
  ValX_loadF enc xs d v hT ho ht hagg hA (by simpa using h1) hl (by simpa using hv) hk

/-- some cells of an element that is a struct: a struct in it -/
theorem ValX_loadG {o : Oper} {t : TypeId} {x : Operand} {i : Int} {fo : Nat} {k : SV → Prop} {te : TI} {α : Type} (enc : α → List Value) (xs : List α) (d : α) (vs : List Value) (hT : TabOk C.P C.T) (ho : o.op = .load t x) (ht : lookT C.T t = some te) (hagg : te.agg = true)
    (hA : ∀ σ fp w, Mem C σ fp ob w → ArgSl w A n sz (xs.map enc)) (h1 : i.toNat < n) (hl : xs.length = n) (hv : cut (enc (xs.getD i.toNat d)) fo te.zero.length = vs) (hlen : vs.length = te.zero.length) (hk : force (vs.map SV.v) fun l => k (.a l)) : ValX C o [.v (.pointer (some ((elA A i sz).add fo)))] ob k := by
  rw [force_eq] at hk
  unfold ValX
  intro σ fp w ρ hm hx
  obtain ⟨hid, hti⟩ := hT t te ht
  have hS := hA σ fp w hm
  obtain ⟨b, oo, rfl, hc⟩ := hS.at_ (by omega)
  have hlt : i.toNat < xs.length := by omega
  have hget : (xs.map enc)[i.toNat]? = some (enc (xs.getD i.toNat d)) := by simp [hlt]
  rw [cut_eq] at hv
  have hcs : w.rangeAt b (oo + i.toNat * sz + fo) vs := by
    intro j v hj
    rw [← hv, List.getElem?_take] at hj
    split at hj
    · rw [List.getElem?_drop] at hj
      have := hc _ _ hget (fo + j) v hj
      rw [← Nat.add_assoc] at this
      exact this
    · cases hj
  obtain ⟨d', hd, hrow⟩ := hti.under
  rw [hagg] at hrow
  have hl' := run_loadVar_mid (P := C.P) w b (oo + i.toNat * sz + fo) te.id vs d' hcs hd hrow (by rw [hti.info, hlen])
  rw [hid] at hl'
  rw [ho] at hx
  simp [Op.operands, SV.vals, SV.val] at hx
  obtain ⟨dst, op, ty, pos, after, guard⟩ := o
  simp only at ho
  subst ho
  refine ⟨_, hk, ?_, wfs_v _ _⟩
  simp only [execOp, hx, Instr.loadAt, elA, Addr.add_mid, Instr.sureAddr, Sem.run_bind, Sem.run_pure, Result.andThen_ok, hl', SV.val, vals_v]
theorem ValX_loadGn {o : Oper} {t : TypeId} {x : Operand} {m : Nat} {fo : Nat} {k : SV → Prop} {te : TI} {α : Type} (enc : α → List Value) (xs : List α) (d : α) (vs : List Value) (hT : TabOk C.P C.T) (ho : o.op = .load t x) (ht : lookT C.T t = some te) (hagg : te.agg = true)
    (hA : ∀ σ fp w, Mem C σ fp ob w → ArgSl w A n sz (xs.map enc)) (h1 : m < n) (hl : xs.length = n) (hv : cut (enc (xs.getD m d)) fo te.zero.length = vs) (hlen : vs.length = te.zero.length) (hk : force (vs.map SV.v) fun l => k (.a l)) : ValX C o [.v (.pointer (some ((elA A (m : Int) sz).add fo)))] ob k :=
  ValX_loadG enc xs d vs hT ho ht hagg hA (by simpa using h1) hl (by simpa using hv) hlen hk
theorem nat_idx {o : Oper} {m : Nat} {k : SV → Prop} (h : ValX C o [.v (.pointer (some (elA A (m : Int) sz)))] ob k) : ValX C o [.v (.pointer (some (elA A (m : Int) sz)))] ob k := h
theorem nat_idxF {o : Oper} {m fo : Nat} {k : SV → Prop} (h : ValX C o [.v (.pointer (some ((elA A (m : Int) sz).add fo)))] ob k) : ValX C o [.v (.pointer (some ((elA A (m : Int) sz).add fo)))] ob k := h

/-! ### Calls with slices -/
/-- a function that computes from memory that it only reads -/
def CallW (P : Program) (f : FuncId) (args : List SV) (pre : World → Prop) (x : SV) : Prop :=
  Entr P f ∧ x.wf 0 ∧ ∀ σ w, pre w → Calls P f (SV.vals σ args).toArray w fun e w' => e = .returned (x.val σ) ∧ Below w.heap.size w w'
theorem CallX_w {f : FuncId} {args : List SV} {k : SV → List OB → Prop} {x : SV} {pre : World → Prop} (h : CallW C.P f args pre x) (hp : ∀ σ fp w, Mem C σ fp ob w → pre w) (hk : k x ob) (hd : C.d = false := by rfl) : CallX C f args ob k := by
  unfold CallX
  refine ⟨h.1, fun σ fp w hm => (h.2.2 σ w (hp σ fp w hm)).mono ?_⟩
  rintro e w' ⟨rfl, hb⟩
  exact ⟨_, rfl, x, ob, σ, fp, hk, fun _ _ => rfl, Nat.le_refl _, rfl, SV.wf_mono (Nat.zero_le _) x h.2.1, hm.below hb (fun h => by rw [hd] at h; cases h), Frm.below hb⟩
theorem CallW.of {P : Program} {T : List TI} {f : FuncId} {fn : Func} {c : Code} {args : List SV} {x : SV} {pre : World → Prop} (hf : P.funcs[f]? = some fn) (hb : fn.body = some c) (hT : TabOk P T) (hname : (fn.name == "runtime.NumGoroutine") = false) (hl : Nat.ble args.length fn.ntmps = true) (hl' : Nat.ble args.length 300 = true)
    (hw : SV.wfs 0 args) (hx : x.wf 0) (h : ∀ w, pre w → force (argsL lits args) fun tm => xcode ⟨P, T, fn.ntmps, w, fun _ => False, 0, id, false⟩ c tm [] (endX ⟨P, T, fn.ntmps, w, fun _ => False, 0, id, false⟩ (fun e w' => (∀ σ, e = .returned (x.val σ)) ∧ Below w.heap.size w w') fn.results.toList)) : CallW P f args pre x := by
  refine ⟨Entr.of hf hname hb, hx, fun σ w hp => ?_⟩
  refine (calls_of_x (C := ⟨P, T, fn.ntmps, w, fun _ => False, 0, id, false⟩) (σ := σ) (ob := []) hT hf hb rfl (Nat.le_of_ble_eq_true hl) hw (Mem.nil _ rfl σ (fun _ _ => False)) (by have := h w hp; rwa [force_eq, argsL_eq (Nat.le_of_ble_eq_true hl')] at this)).mono ?_
  rintro e w' ⟨h1, h2⟩
  exact ⟨h1 σ, h2⟩

end
end Go.Proofs.Ytodaijlclbngbaa.En
