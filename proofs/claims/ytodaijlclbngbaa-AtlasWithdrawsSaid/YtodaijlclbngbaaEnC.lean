/- The symbolic executor: slices of the call's own: made, appended to, stored into. -/
import Derived.Test.YtodaijlclbngbaaEnB
import Derived.Laws.OwnMore
import Derived.Great.BuildSlice
set_option linter.all false
namespace Go.Proofs.Ytodaijlclbngbaa.En
open Go.RowKit

section
variable {C : Ctx} {σ : Nat → Nat} {fp : Nat → Nat → Prop} {ob : List OB} {w w' : World} {A : Option Addr} {n c sz e : Nat} {els : List (List Value)}

/-- one more object, in new blocks -/
theorem Mem.pushO (h : Mem C σ fp ob w) (hb : Below w.heap.size w w') (o : OB) (b : Nat) (F : Nat → Prop) (ho : o.at (fun j => if j = ob.length then b else σ j) (ob.length + 1) w' b F) (hF : ∀ i, F i → w.heap.size ≤ i ∧ i < w'.heap.size) (hdr : C.d = true → w.drawn ≤ w'.drawn) :
    Mem C (fun j => if j = ob.length then b else σ j) (fun j => if j = ob.length then F else fp j) (ob ++ [o]) w' := by
  have hσ : ∀ j, j < ob.length → (fun j => if j = ob.length then b else σ j) j = σ j := fun j hj => by simp [show j ≠ ob.length by omega]
  refine ⟨?_, ?_, ?_, ?_, h.kept.below hb, ⟨by have := h.pin.1; simp; omega, fun j hj => (hσ j (Nat.lt_of_lt_of_le hj h.pin.1)).trans (h.pin.2 j hj)⟩, fun hd => Nat.le_trans (h.drw hd) (hdr hd)⟩
  · intro k o' hk
    by_cases hlt : k < ob.length
    · rw [List.getElem?_append_left hlt] at hk
      simp only [show k ≠ ob.length by omega, if_false]
      exact OB.at_ext (h.at_ k o' hk) hσ (by simp) fun i hi => hb.block i (h.hi k hlt i hi)
    · have hlen := (List.getElem?_eq_some_iff.1 hk).1
      simp at hlen
      obtain rfl : k = ob.length := by omega
      simp at hk
      subst hk
      simp only [if_true]
      simpa using ho
  · intro j k hj hk hne i hi hi'
    simp at hj hk
    by_cases ej : j = ob.length
    · simp only [ej, if_true] at hi
      simp only [show k ≠ ob.length by omega, if_false] at hi'
      have := h.hi k (by omega) i hi'
      have := (hF i hi).1
      omega
    · simp only [ej, if_false] at hi
      by_cases ek : k = ob.length
      · simp only [ek, if_true] at hi'
        have := h.hi j (by omega) i hi
        have := (hF i hi').1
        omega
      · simp only [ek, if_false] at hi'
        exact h.disj j k (by omega) (by omega) hne i hi hi'
  · intro k hk i hi
    simp at hk
    by_cases ek : k = ob.length
    · simp only [ek, if_true] at hi
      have := h.kept.size
      have := (hF i hi).1
      right; omega
    · simp only [ek, if_false] at hi
      exact h.lo k (by omega) i hi
  · intro k hk i hi
    simp at hk
    by_cases ek : k = ob.length
    · simp only [ek, if_true] at hi; exact (hF i hi).2
    · simp only [ek, if_false] at hi
      have := h.hi k (by omega) i hi
      have := hb.size
      omega

theorem owns_mono {base base' : Nat} {v : Value} {xs : List Value} (h : w.ownsRow base e sz v n xs) (hb : base' ≤ base) : w.ownsRow base' e sz v n xs := by
  refine ⟨h.1, ?_⟩
  rcases h.2 with h1 | ⟨g, cap, cur, h1, h2, h3⟩
  · exact .inl h1
  · exact .inr ⟨g, cap, cur, h1, Nat.le_trans hb h2, h3⟩
theorem flat_inv {sz : Nat} : ∀ {els : List (List Value)} {j : Nat} {v : Value}, (∀ e ∈ els, e.length = sz) → els.flatten[j]? = some v → ∃ i r e, j = i * sz + r ∧ els[i]? = some e ∧ e[r]? = some v
  | [], j, v, _, h => by simp at h
  | x :: l, j, v, hs, h => by
    have hx := hs x (by simp)
    simp only [List.flatten_cons, List.getElem?_append] at h
    split at h
    · exact ⟨0, j, x, by simp, by simp, h⟩
    · rename_i hlt
      obtain ⟨i, r, e, h1, h2, h3⟩ := flat_inv (fun e he => hs e (by simp [he])) h
      exact ⟨i + 1, r, e, by rw [Nat.add_mul]; omega, by simpa using h2, h3⟩
theorem append_none {P : Program} (base : Nat) (t ty : TypeId) (i : TypeInfo) (ht : P.underlying t = some (.slice e)) (hi : P.info? e = some i)
    (v : Value) (xs : List Value) (c2 : Nat) (hown : w.ownsRow base e sz v n xs) : (Builtin.append_ #[t, t] ty #[v, .slice none 0 c2]).run P w = .ok v w := by
  rcases hown.2 with ⟨rfl, rfl⟩ | ⟨g, cap, cur, rfl, _, _, hnc, _⟩
  · simp [Builtin.append_, run_underlying ht, sizeOf, typeInfo, hi, Builtin.lenOf, Builtin.firstCells]
  · simp [Builtin.append_, run_underlying ht, sizeOf, typeInfo, hi, Builtin.lenOf, Builtin.firstCells, hnc, storeCells]
theorem grown_below {w w' : World} (h : w.grownBy w' none) : Below w.heap.size w w' := ⟨h.os, h.tape, h.output, h.size, fun k hk => h.block k hk (by simp)⟩

theorem Goes.pushRow {k : SV → List OB → Prop} {v : Value} (hm : Mem C σ fp ob w) (hb : Below w.heap.size w w') (ho : w'.ownsRow w.heap.size e sz (.slice A n c) n els.flatten) (hl : els.length = n) (hs : ∀ x ∈ els, x.length = sz) (h1 : ∀ x ∈ els.flatten, Value.oneCell' x = true)
    (x : SV) (hv : ∀ σ', v = x.val σ') (hx : x.wf 0) (hk : k x (ob ++ [.row e sz A n c els])) (hdr : C.d = true → w.drawn ≤ w'.drawn) : Goes C ob.length σ fp w k v w' := by
  refine ⟨x, _, _, _, hk, fun j hj => by simp [show j ≠ ob.length by omega], by simp, hv _, SV.wf_mono (Nat.zero_le _) x hx, hm.pushO hb (.row e sz A n c els) 0 (fun i => (Value.slice A n c).ownBlock = some i) ⟨owns_mono ho (Nat.zero_le _), hl, hs, h1, fun i => Iff.rfl⟩ (fun i hi => ho.lt i hi) hdr, Frm.pushed hb (by simp) fun i hi => (ho.lt i hi).1⟩

/-! ### append -/
theorem append_loc {P : Program} (t ty : TypeId) (i : TypeInfo) (z : Value) (bytes : Nat) (ht : P.underlying t = some (.slice e)) (hi : P.info? e = some i) (hz : i.zero = some z)
    (hsize : i.size = sz) (hby : i.bytes = bytes) (hzs : z.cells.size = sz) (hsz : 0 < sz)
    (v : Value) (xs : List Value) (hown : w.ownsRow 0 e sz v n xs)
    (a : Addr) (m c : Nat) (news : List Value) (hl : news.length = m * sz) (hnews : ∀ j u, news[j]? = some u → w.cell? (a.add j) = some u) (h1 : ∀ u ∈ news, u.oneCell' = true)
    (h63 : n + m ≤ maxLen) (hbytes : (n + m) * bytes ≤ 140737488355328) :
    ∃ v' w', (Builtin.append_ #[t, t] ty #[v, .slice (some a) m c]).run P w = .ok v' w' ∧ w'.ownsRow 0 e sz v' (n + m) (xs ++ news) ∧ w.grownBy w' v.ownBlock ∧ ∀ g, v'.ownBlock = some g → v.ownBlock = some g ∨ w.heap.size ≤ g := by
  obtain ⟨v', w', hr, ho, hg, _⟩ := run_append_own w 0 t ty e i z sz bytes ht hi hz hsize hby hzs hsz v n xs hown a m c news hl hnews h1 h63 hbytes (Nat.zero_le _)
  refine ⟨v', w', hr, ho, hg, fun g hgb => ?_⟩
  rcases hown.2 with ⟨rfl, rfl⟩ | ⟨g0, cap, cur, rfl, hbg, hg0, hnc, hcm, hcs, htake⟩
  · have hx : xs = [] := List.eq_nil_of_length_eq_zero (by simpa using hown.1)
    subst hx
    obtain ⟨v2, w2, hr2, ho2, _, _⟩ := run_append_own w w.heap.size t ty e i z sz bytes ht hi hz hsize hby hzs hsz (.slice none 0 0) 0 [] (World.ownsRow_nil w _ e sz) a m c news hl hnews h1 h63 hbytes (Nat.le_refl _)
    rw [hr] at hr2
    simp at hr2
    obtain ⟨rfl, rfl⟩ := hr2
    exact .inr (ho2.lt g hgb).1
  · by_cases hroom : n + m ≤ cap
    · subst hsize
      have hr2 := run_append_room (P := P) w t ty e i ht hi g0 n cap cur hg0 a m c news hl hnews h1 hroom (by rw [hl, hcs, ← Nat.add_mul]; exact Nat.mul_le_mul_right _ hroom)
      rw [hr] at hr2
      simp at hr2
      obtain ⟨rfl, rfl⟩ := hr2
      exact .inl hgb
    · subst hsize
      subst hby
      have hsmall : n + m ≤ 9223372036854775807 := by simp only [maxLen] at h63; omega
      have hr2 := run_append_grow (P := P) w t ty e i z ht hi hz ⟨g0, 0, none⟩ n cap xs hown.1 (hown.cells (g := g0) rfl) a m c news hl hnews (by omega) (by omega) (growslice_fits (by omega) hbytes)
      rw [hr] at hr2
      simp at hr2
      obtain ⟨rfl, rfl⟩ := hr2
      simp [Value.ownBlock] at hgb
      exact .inr (by omega)

theorem ownsRow_slice {v : Value} {xs : List Value} (h : w.ownsRow 0 e sz v n xs) : ∃ A c, v = .slice A n c := by
  rcases h.2 with ⟨rfl, rfl⟩ | ⟨g, cap, cur, rfl, _⟩
  · exact ⟨none, 0, rfl⟩
  · exact ⟨_, cap, rfl⟩

theorem OpX_append {o : Oper} {t : TypeId} {x y : Operand} {k : SV → List OB → Prop} {te : TI} {A2 : Option Addr} {m c2 : Nat} {els2 : List (List Value)} (j : Nat) (hT : TabOk C.P C.T) (ho : o.op = .call ⟨.builtin .append, #[x, y], #[t, t]⟩) (hj : nth ob j = some (.row e sz A n c els))
    (hs : slInfo C t = some (e, sz)) (hte : lookT C.T e = some te) (hA2 : ∀ σ fp w, Mem C σ fp ob w → ArgSl w A2 m sz els2) (hsz : 0 < sz) (hn : (n + m) * te.byt ≤ 140737488355328) (hn' : n + m ≤ 1000000000000)
    (hk : ∀ A' c', force (setN ob j (.row e sz A' (n + m) c' (els ++ els2))) fun ob => k (.v (.slice A' (n + m) c')) ob) (hd : C.d = false := by rfl) : OpX C o [.v (.slice A n c), .v (.slice A2 m c2)] ob k := by
  unfold OpX
  intro σ fp w ρ hm hx
  obtain ⟨hu, te', hl, hz, hti, hid⟩ := slInfo_spec hT hs
  rw [hte] at hl
  cases hl
  obtain ⟨i, z, hi, hz', hzc, his, hib⟩ := hti.inf
  rw [hid] at hi
  rw [ho] at hx
  simp [Op.operands, Call.operands, SV.vals, SV.val] at hx
  obtain ⟨⟨hown, hlen, hsize, hone, hF⟩, hjl⟩ := nth_row hm hj
  have hS := hA2 σ fp w hm
  obtain ⟨dst, op, ty, pos, after, guard⟩ := o
  simp only at ho
  subst ho
  have hexec : ∀ r w', (Builtin.append_ #[t, t] ty #[.slice A n c, .slice A2 m c2]).run C.P w = .ok r w' → (execOp ρ ⟨dst, .call ⟨.builtin .append, #[x, y], #[t, t]⟩, ty, pos, after, guard⟩).run C.P w = .ok (.value r) w' := by
    intro r w' hr
    simp [execOp, resolve, invoke, builtin, hx.1, hx.2, hr]
  have hflat : (els ++ els2).flatten = els.flatten ++ els2.flatten := by simp
  have hlen2 := flat_len hS.size
  rw [hS.len] at hlen2
  have hone2 : ∀ u ∈ els2.flatten, u.oneCell' = true := fun u hu => by
    obtain ⟨q, hq, hq'⟩ := List.mem_flatten.1 hu
    exact hS.one q hq u hq'
  have fin : ∀ v' w', (Builtin.append_ #[t, t] ty #[.slice A n c, .slice A2 m c2]).run C.P w = .ok v' w' → w'.ownsRow 0 e sz v' (n + m) (els.flatten ++ els2.flatten) → w.grownBy w' (Value.slice A n c).ownBlock → (∀ g, v'.ownBlock = some g → (Value.slice A n c).ownBlock = some g ∨ w.heap.size ≤ g) →
      (match (execOp ρ ⟨dst, .call ⟨.builtin .append, #[x, y], #[t, t]⟩, ty, pos, after, guard⟩).run C.P w with
        | .ok (.value v) w' => Goes C ob.length σ fp w k v w'
        | .ok .skip w' => Goes C ob.length σ fp w k undef w'
        | .ok (.enter f args) w' => Calls C.P f args w' fun e w'' => ∃ v, e = .returned v ∧ Goes C ob.length σ fp w k v w''
        | _ => False) := by
    intro v' w' hr ho' hg hloc
    rw [hexec _ _ hr]
    obtain ⟨A', c', rfl⟩ := ownsRow_slice ho'
    have hin : ∀ g, (Value.slice A' (n + m) c').ownBlock = some g → fp j g ∨ w.heap.size ≤ g := by
      intro g hg'
      rcases hloc g hg' with h1 | h1
      · exact .inl ((hF g).2 h1)
      · exact .inr h1
    have hsame : ∀ g, g < w.heap.size → ¬ fp j g → w'.heap[g]? = w.heap[g]? := by
      intro g hg' hng
      exact hg.block g hg' (fun h => hng ((hF g).2 h.symm))
    have hM := hm.change (w' := w') hjl (.row e sz A' (n + m) c' (els ++ els2)) (fun i => (Value.slice A' (n + m) c').ownBlock = some i) ⟨by rw [hflat]; exact ho', by simp [hlen, hS.len], (by
        intro q hq
        rcases List.mem_append.1 hq with hq | hq
        · exact hsize q hq
        · exact hS.size q hq), (by
        intro q hq
        rw [hflat] at hq
        rcases List.mem_append.1 hq with hq | hq
        · exact hone q hq
        · exact hone2 q hq), fun i => Iff.rfl⟩ hin (by
        intro g hg'
        exact (ho'.lt g hg').2) hg.os hg.tape hg.output hg.size hsame (fun h => by rw [hd] at h; cases h)
    have hk' := hk A' c'
    rw [force_eq, setN_eq] at hk'
    exact ⟨.v (.slice A' (n + m) c'), _, σ, _, hk', fun _ _ => rfl, by simp, rfl, trivial, hM, Frm.changed hjl (by simp) hin hg.size hsame⟩
  by_cases hm0 : m = 0 ∧ A2 = none
  · obtain ⟨rfl, rfl⟩ := hm0
    have he2 : els2 = [] := List.eq_nil_of_length_eq_zero hS.len
    subst he2
    exact fin _ w (append_none 0 t ty i hu hi _ _ c2 hown) (by simpa using hown) (World.grownBy.refl w _) (fun g hg => .inl hg)
  · have hA2' : ∃ ad, A2 = some ad ∧ ∀ j u, els2.flatten[j]? = some u → w.cell? (ad.add j) = some u := by
      by_cases hm1 : m = 0
      · subst hm1
        have he2 : els2 = [] := List.eq_nil_of_length_eq_zero hS.len
        subst he2
        cases A2 with
        | none => simp at hm0
        | some ad => exact ⟨ad, rfl, fun j u h => by simp at h⟩
      · obtain ⟨b, oo, rfl, hc⟩ := hS.at_ hm1
        refine ⟨_, rfl, fun j u hju => ?_⟩
        obtain ⟨i', r, q, h1, h2, h3⟩ := flat_inv hS.size hju
        rw [Addr.add_mid, h1, ← Nat.add_assoc]
        exact hc i' q h2 r u h3
    obtain ⟨ad, rfl, hcells⟩ := hA2'
    obtain ⟨v', w', hr, ho', hg, hloc⟩ := append_loc t ty i z te.byt hu hi hz' (by rw [his, hz]) hib (by rw [hzc]; simpa using hz) hsz _ _ hown ad m c2 els2.flatten hlen2 hcells hone2 (by simp [maxLen]; omega) hn
    exact fin v' w' hr ho' hg hloc

/-! ### a slice that is nil, as an object -/
theorem fp_add {n m : Nat} (hm : m ≤ n + 1) : ∀ j, j < m → ∀ i, (fun j => if j = n then (fun _ => False) else fp j) j i → ∃ j', j' < n ∧ fp j' i := by
  intro j hj i hi
  by_cases e : j = n
  · simp [e] at hi
  · simp only [e, if_false] at hi
    exact ⟨j, by omega, hi⟩
theorem Mem.addNil (h : Mem C σ fp ob w) (e sz : Nat) : ∃ σ' fp', (∀ j, j < ob.length → σ' j = σ j) ∧ (∀ j, j < (ob ++ [OB.row e sz none 0 0 []]).length → ∀ i, fp' j i → ∃ j', j' < ob.length ∧ fp j' i) ∧ Mem C σ' fp' (ob ++ [.row e sz none 0 0 []]) w :=
  ⟨_, _, fun j hj => by simp [show j ≠ ob.length by omega], fp_add (by simp), h.pushO (Below.refl _ _) (.row e sz none 0 0 []) 0 (fun _ => False) ⟨World.ownsRow_nil w 0 e sz, rfl, by simp, by simp, fun i => by simp [Value.ownBlock]⟩ (fun i h => h.elim) (fun _ => Nat.le_refl _)⟩
theorem Goes.less {k : SV → List OB → Prop} {v : Value} {σ' : Nat → Nat} {fp' : Nat → Nat → Prop} {m : Nat} (h : Goes C m σ' fp' w k v w') (hn : n ≤ m) (hσ : ∀ j, j < n → σ' j = σ j) (hf : ∀ j, j < m → ∀ i, fp' j i → ∃ j', j' < n ∧ fp j' i) : Goes C n σ fp w k v w' := by
  obtain ⟨x, ob, σ2, fp2, h1, h2, h3, h4, h5, h6, h7⟩ := h
  refine ⟨x, ob, σ2, fp2, h1, fun j hj => (h2 j (by omega)).trans (hσ j hj), by omega, h4, h5, h6, fun i h8 h9 h10 => h7.old i h8 h9 fun j hj hi => ?_, fun j hj i hi h8 h9 => ?_, h7.size⟩
  · obtain ⟨j', h11, h12⟩ := hf j hj i hi
    exact h10 j' h11 h12
  · obtain ⟨j', h11, h12⟩ := h7.new j hj i hi h8 h9
    exact hf j' h11 i h12

/-- the operands name no object beyond those known -/
theorem OpX_addNil {o : Oper} {xs : List SV} {k : SV → List OB → Prop} (e sz : Nat) (hw : SV.wfs ob.length xs) (h : OpX C o xs (ob ++ [.row e sz none 0 0 []]) k) : OpX C o xs ob k := by
  unfold OpX at *
  intro σ fp w ρ hm hx
  obtain ⟨σ', fp', hσ, hfp, hm'⟩ := hm.addNil e sz
  have h1 := h σ' fp' w ρ hm' (by rw [hx, SV.vals_ext hσ xs hw])
  have hl : ob.length ≤ (ob ++ [OB.row e sz none 0 0 []]).length := by simp
  generalize (execOp ρ o).run C.P w = r at h1 ⊢
  cases r with
  | halt _ _ => exact h1
  | ok n w' =>
    cases n with
    | value v => exact h1.less hl hσ hfp
    | skip => exact h1.less hl hσ hfp
    | enter f args => exact h1.mono fun e w'' ⟨v, he, hg⟩ => ⟨v, he, hg.less hl hσ hfp⟩
    | _ => exact h1
theorem LoopX_addNil {cd : Code} {tm : List (Nat × SV)} {K : Kx} (e sz : Nat) (h : force (ob ++ [.row e sz none 0 0 []]) fun ob => LoopX C cd tm ob K) : LoopX C cd tm ob K := by
  rw [force_eq] at h
  unfold LoopX at *
  intro σ fp a w hr
  obtain ⟨σ', fp', hσ, _, hm'⟩ := hr.mem.addNil e sz
  exact h σ' fp' a w ⟨hr.tm.ext hσ (by simp), hm'⟩

/-! ### slices that are made -/
def valsP : List SV → Option (List Value)
  | [] => some []
  | .v x :: r => match valsP r with
    | some l => some (x :: l)
    | none => none
  | _ :: _ => none
theorem valsP_spec : ∀ {l : List SV} {vs : List Value}, valsP l = some vs → l = vs.map .v
  | [], vs, h => by simp [valsP] at h; subst h; rfl
  | x :: r, vs, h => by
    unfold valsP at h
    split at h
    · rename_i heq
      cases heq
    · rename_i y r' heq
      cases heq
      split at h
      · rename_i l hl
        simp at h
        subst h
        rw [valsP_spec hl]
        rfl
      · cases h
    · cases h
def valsPs : List SV → Option (List (List Value))
  | [] => some []
  | x :: r => match valsP x.cells, valsPs r with
    | some l, some m => some (l :: m)
    | _, _ => none
theorem valsPs_spec (σ : Nat → Nat) : ∀ {l : List SV} {vs : List (List Value)}, valsPs l = some vs → vs.length = l.length ∧ ∀ (i : Nat) (x : SV), l[i]? = some x → ∃ v : List Value, vs[i]? = some v ∧ (x.val σ).cells = v.toArray
  | [], vs, h => by simp [valsPs] at h; subst h; simp
  | x :: r, vs, h => by
    unfold valsPs at h
    split at h
    · rename_i l m hl hm
      simp at h
      subst h
      obtain ⟨h1, h2⟩ := valsPs_spec σ hm
      refine ⟨by simp [h1], fun i y hy => ?_⟩
      cases i with
      | zero =>
        simp at hy
        subst hy
        exact ⟨l, by simp, by rw [cells_val, valsP_spec hl, vals_v]⟩
      | succ i => simpa using h2 i y (by simpa using hy)
    · cases h

def idxP : Nat → List (Nat × Operand) → Bool
  | _, [] => true
  | n, (i, _) :: r => match Nat.beq i n with
    | true => idxP (n + 1) r
    | false => false
def sizesP (sz : Nat) : List (List Value) → Bool
  | [] => true
  | x :: r => match Nat.beq x.length sz with
    | true => sizesP sz r
    | false => false
theorem sizesP_spec : ∀ {vs : List (List Value)}, sizesP sz vs = true → ∀ x ∈ vs, x.length = sz
  | [], _, x, hx => by simp at hx
  | y :: r, h, x, hx => by
    unfold sizesP at h
    split at h
    · rename_i hb
      rcases List.mem_cons.1 hx with rfl | hx
      · exact Nat.eq_of_beq_eq_true hb
      · exact sizesP_spec h x hx
    · cases h

theorem fill_dense (ρ : Operand → Value) : ∀ (ps : List (Nat × Operand)) (s : Nat) (vs : List (List Value)) (cs : Array Value), idxP s ps = true → vs.length = ps.length → (∀ (i : Nat) (p : Nat × Operand), ps[i]? = some p → ∃ v : List Value, vs[i]? = some v ∧ (ρ p.2).cells = v.toArray) → (∀ x ∈ vs, x.length = sz) → (s + ps.length) * sz ≤ cs.size →
    Instr.fill (fun i => some (i * sz, sz)) cs (ps.map fun p => (p.1, ρ p.2)) = some (cs.toList.take (s * sz) ++ vs.flatten ++ cs.toList.drop ((s + ps.length) * sz)).toArray
  | [], s, vs, cs, _, hl, _, _, _ => by
    have : vs = [] := List.eq_nil_of_length_eq_zero hl
    subst this
    simp [Instr.fill]
  | (i, x) :: ps, s, [], cs, _, hl, _, _, _ => by simp at hl
  | (i, x) :: ps, s, v :: vs, cs, hi, hl, hv, hs, hc => by
    unfold idxP at hi
    split at hi
    · rename_i hb
      have hb := Nat.eq_of_beq_eq_true hb
      subst hb
      obtain ⟨v', h1, h2⟩ := hv 0 (i, x) (by simp)
      simp at h1
      subst h1
      have hvl := hs v (by simp)
      have hc' : (i + 1 + ps.length) * sz ≤ cs.size := by
        have : (i + 1 + ps.length) * sz = (i + (ps.length + 1)) * sz := by congr 1; omega
        simp at hc
        omega
      have e1 : (i + 1 + ps.length) * sz = i * sz + sz + ps.length * sz := by rw [Nat.add_mul, Nat.add_mul, Nat.one_mul]
      have hfold := fold_splice cs v (i * sz) (by rw [hvl]; omega)
      have ih := fill_dense ρ ps (i + 1) vs (cs.toList.take (i * sz) ++ v ++ cs.toList.drop (i * sz + v.length)).toArray hi (by simpa using hl) (fun j p hp => by simpa using hv (j + 1) p (by simpa using hp)) (fun y hy => hs y (by simp [hy])) (by
        simp only [List.size_toArray, List.length_append, List.length_take, List.length_drop, Array.length_toList]
        omega)
      simp only [List.map_cons, Instr.fill, h2]
      rw [if_neg (by simp [hvl]; omega)]
      rw [hfold, ih]
      congr 2
      apply List.ext_getElem?
      intro q
      have e2 : (i + 1) * sz = i * sz + sz := by rw [Nat.add_mul, Nat.one_mul]
      have e3 : (i + (ps.length + 1)) * sz = i * sz + sz + ps.length * sz := by rw [Nat.add_mul, Nat.add_mul, Nat.one_mul]; omega
      have hfl : vs.flatten.length = ps.length * sz := by rw [flat_len (fun y hy => hs y (by simp [hy]))]; congr 1; simpa using hl
      simp only [List.flatten_cons, List.length_cons, e1, e2, e3]
      generalize hP : ps.length * sz = pz at *
      have t1 : (List.take (i * sz) cs.toList ++ v ++ List.drop (i * sz + v.length) cs.toList).take (i * sz + sz) = List.take (i * sz) cs.toList ++ v := by
        rw [List.take_append_of_le_length (by simp; omega)]
        rw [List.take_of_length_le (by simp; omega)]
      have t2 : (List.take (i * sz) cs.toList ++ v ++ List.drop (i * sz + v.length) cs.toList).drop (i * sz + sz + pz) = cs.toList.drop (i * sz + sz + pz) := by
        rw [List.drop_append, List.drop_eq_nil_of_le (by simp; omega)]
        simp only [List.nil_append, List.drop_drop]
        congr 1
        simp
        omega
      rw [t1, t2]
      simp [List.append_assoc]
    · cases hi

theorem OpX_build {o : Oper} {t : TypeId} {len : Nat} {parts : Array (Nat × Operand)} {k : SV → List OB → Prop} {te : TI} {rs : List SV} {vs : List (List Value)} (hT : TabOk C.P C.T) (ho : o.op = .buildSlice t len parts)
    (hs : slInfo C t = some (e, sz)) (hte : lookT C.T e = some te) (hv : valsPs rs = some vs) (hchk : (idxP 0 parts.toList && Nat.beq parts.toList.length len && sizesP sz vs && ones (vs.flatten.map .v) && Nat.ble (len * sz) 16777216 && Nat.ble 1 (len * sz)) = true)
    (hk : ∀ b, force (ob ++ [.row e sz (some ⟨b, 0, none⟩) len len vs]) fun ob => k (.v (.slice (some ⟨b, 0, none⟩) len len)) ob) : OpX C o rs ob k := by
  simp only [force_eq] at hk
  unfold OpX
  intro σ fp w ρ hm hx
  simp only [Bool.and_eq_true] at hchk
  obtain ⟨⟨⟨⟨⟨hc1, hc2⟩, hc3⟩, hc4⟩, hc5⟩, hc6⟩ := hchk
  have hc2 := Nat.eq_of_beq_eq_true hc2
  have hc3 := sizesP_spec hc3
  have hc5 := Nat.le_of_ble_eq_true hc5
  have hc6 := Nat.le_of_ble_eq_true hc6
  obtain ⟨hu, te', hl, hz, hti, hid⟩ := slInfo_spec hT hs
  rw [hte] at hl
  cases hl
  obtain ⟨i, z, hi, hz', hzc, his, hib⟩ := hti.inf
  rw [hid] at hi
  rw [hz] at his
  rw [ho] at hx
  have hx' : parts.toList.map (fun p => ρ p.2) = SV.vals σ rs := by simpa [Op.operands, Function.comp_def] using hx
  obtain ⟨hvl, hvs⟩ := valsPs_spec σ hv
  have hrl : rs.length = parts.toList.length := by
    have := congrArg List.length hx'
    simpa [vals_length] using this.symm
  obtain ⟨dst, op, ty, pos, after, guard⟩ := o
  simp only at ho
  subst ho
  have hzz : ((Array.range (len * i.size)).map (z.cells[· % z.cells.size]!)).size = len * sz := by simp [his]
  have hf := fill_dense (sz := sz) ρ parts.toList 0 vs ((Array.range (len * i.size)).map (z.cells[· % z.cells.size]!)) hc1 (by omega) (by
    intro q p hp
    have h1 : (SV.vals σ rs)[q]? = some (ρ p.2) := by rw [← hx']; simp [hp]
    rw [vals_get] at h1
    cases hq : rs[q]? with
    | none => simp [hq] at h1
    | some y =>
      simp [hq] at h1
      obtain ⟨v, hv1, hv2⟩ := hvs q y hq
      exact ⟨v, hv1, by rw [← h1]; exact hv2⟩) hc3 (by rw [hzz, hc2]; simp)
  have hfl : vs.flatten.length = len * sz := by rw [flat_len hc3]; congr 1; omega
  have hcells : ((((Array.range (len * i.size)).map (z.cells[· % z.cells.size]!)).toList.take (0 * sz) ++ vs.flatten ++ ((Array.range (len * i.size)).map (z.cells[· % z.cells.size]!)).toList.drop ((0 + parts.toList.length) * sz)).toArray) = vs.flatten.toArray := by
    rw [List.drop_eq_nil_of_le (by rw [Array.length_toList, hzz, hc2]; simp)]
    simp
  rw [hcells] at hf
  have hrun := run_buildSlice (P := C.P) w t e len (parts.map fun (i, x) => (i, ρ x)) vs.flatten.toArray i z hu hi hz' (by rw [his]; omega) (by rw [his]; omega) (by rw [his, Array.toList_map]; rw [his] at hf; exact hf)
  have hex : (execOp ρ ⟨dst, .buildSlice t len parts, ty, pos, after, guard⟩).run C.P w = .ok (.value (.slice (some ⟨w.heap.size, 0, none⟩) len len)) (w.alloc (.cells vs.flatten.toArray e)) := by
    simp only [execOp, Sem.run_bind, hrun, Result.andThen_ok, Sem.run_pure]
  rw [hex]
  have hlen : len ≤ 16777216 := by
    have : len * 1 ≤ len * sz := Nat.mul_le_mul_left _ (by rcases Nat.eq_zero_or_pos sz with h | h; (subst h; simp at hc6); exact h)
    omega
  have hown := World.ownsRow_lit (base := w.heap.size) (e := e) (size := sz) w vs.flatten.toArray len (Nat.le_refl _) (by simp [maxLen]; omega) (by simpa using hfl)
  refine Goes.pushRow hm ((Below.refl _ _).alloc (Nat.le_refl _) _) (by simpa using hown) (by omega) hc3 ?_ (.v (.slice (some ⟨w.heap.size, 0, none⟩) len len)) (fun _ => rfl) trivial (hk _) (fun _ => Nat.le_refl _)
  intro q hq
  exact ones_spec σ hc4 q (by rw [vals_v]; exact hq)

theorem OpX_build0 {o : Oper} {t : TypeId} {parts : Array (Nat × Operand)} {k : SV → List OB → Prop} (hT : TabOk C.P C.T) (ho : o.op = .buildSlice t 0 parts) (hp : parts.toList = [])
    (hs : slInfo C t = some (e, sz)) (hk : ∀ b, force (ob ++ [.row e sz (some ⟨b, 0, none⟩) 0 0 []]) fun ob => k (.v (.slice (some ⟨b, 0, none⟩) 0 0)) ob) : OpX C o [] ob k := by
  simp only [force_eq] at hk
  unfold OpX
  intro σ fp w ρ hm hx
  obtain ⟨hu, te, hl, hz, hti, hid⟩ := slInfo_spec hT hs
  obtain ⟨i, z, hi, hz', hzc, his, hib⟩ := hti.inf
  rw [hid] at hi
  have hparts : parts = #[] := by
    apply Array.toList_inj.1
    simpa using hp
  subst hparts
  obtain ⟨dst, op, ty, pos, after, guard⟩ := o
  simp only at ho
  subst ho
  have hex : (execOp ρ ⟨dst, .buildSlice t 0 #[], ty, pos, after, guard⟩).run C.P w = .ok (.value (.slice (some ⟨w.heap.size, 0, none⟩) 0 0)) (w.alloc (.cells #[] e)) := by
    simp [execOp, Instr.buildSlice, run_underlying hu, sizeOf, typeInfo, hi, Instr.fill, newRow]
    congr 2
    apply Array.toList_inj.1
    simp
  rw [hex]
  have hown := World.ownsRow_lit (base := w.heap.size) (e := e) (size := sz) w #[] 0 (Nat.le_refl _) (by simp) (by simp)
  exact Goes.pushRow (els := []) (n := 0) (sz := sz) (e := e) hm ((Below.refl _ _).alloc (Nat.le_refl _) _) (by simpa using hown) rfl (by simp) (by simp) (.v (.slice (some ⟨w.heap.size, 0, none⟩) 0 0)) (fun _ => rfl) trivial (hk _) (fun _ => Nat.le_refl _)

theorem made_eq (z : List Value) (n : Nat) (hz : z.length = sz) (hp : 0 < sz) : (madeCells z.toArray (n * sz)).toList = (List.replicate n z).flatten := by
  have hfl : (List.replicate n z).flatten.length = n * sz := by rw [flat_len (sz := sz) (by intro e he; rw [List.eq_of_mem_replicate he, hz])]; simp
  apply List.ext_getElem?
  intro i
  by_cases hi : i < n * sz
  · have h1 : i / sz < n := by rw [Nat.div_lt_iff_lt_mul hp]; exact hi
    have h2 : i % sz < sz := Nat.mod_lt _ hp
    have h3 := flat_get (sz := sz) (els := List.replicate n z) (i := i / sz) (j := i % sz) (e := z) (v := z[i % sz]'(by omega)) (by intro e he; rw [List.eq_of_mem_replicate he, hz]) (by simp [h1]) (by simp)
    rw [show i / sz * sz + i % sz = i by rw [Nat.mul_comm]; exact Nat.div_add_mod i sz] at h3
    rw [h3]
    simp [madeCells, hi, hz]
    rw [List.getElem?_eq_getElem (by omega)]
    rfl
  · rw [List.getElem?_eq_none (by simp [size_madeCells]; omega), List.getElem?_eq_none (by omega)]

theorem OpX_make {o : Oper} {t : TypeId} {x y : Operand} {m : Nat} {k : SV → List OB → Prop} {te : TI} (hT : TabOk C.P C.T) (ho : o.op = .makeSlice t x y)
    (hs : slInfo C t = some (e, sz)) (hte : lookT C.T e = some te) (hone : (ones (te.zero.map .v) && Nat.ble 1 sz) = true) (hn : te.byt * m ≤ 140737488355328) (hn' : m * sz ≤ 16777216)
    (hk : ∀ b, force (ob ++ [.row e sz (some ⟨b, 0, none⟩) m m (List.replicate m te.zero)]) fun ob => k (.v (.slice (some ⟨b, 0, none⟩) m m)) ob) (hd : C.d = false := by rfl) : OpX C o [.v (.int .i64 (m : Int)), .v (.int .i64 (m : Int))] ob k := by
  simp only [force_eq] at hk
  unfold OpX
  intro σ fp w ρ hm hx
  simp only [Bool.and_eq_true] at hone
  have hsz := Nat.le_of_ble_eq_true hone.2
  obtain ⟨hu, te', hl, hz, hti, hid⟩ := slInfo_spec hT hs
  rw [hte] at hl
  cases hl
  obtain ⟨i, z, hi, hz', hzc, his, hib⟩ := hti.inf
  rw [hid] at hi
  rw [hz] at his
  rw [ho] at hx
  simp [Op.operands, SV.vals, SV.val] at hx
  obtain ⟨dst, op, ty, pos, after, guard⟩ := o
  simp only at ho
  subst ho
  have hm' : m ≤ 16777216 := by
    have : m * 1 ≤ m * sz := Nat.mul_le_mul_left _ hsz
    omega
  obtain ⟨w', hr, hown, hg⟩ := run_makeSlice_full (P := C.P) w w.heap.size t e i z sz hu hi hz' his .i64 .i64 m hn' (by rw [hib]; omega) (by simp [maxLen]; omega) (Nat.le_refl _)
  rw [hzc, made_eq _ _ hz (by omega)] at hown
  have hex : (execOp ρ ⟨dst, .makeSlice t x y, ty, pos, after, guard⟩).run C.P w = .ok (.value (.slice (some ⟨w.heap.size, 0, none⟩) m m)) w' := by
    simp only [execOp, hx, Sem.run_bind, hr, Result.andThen_ok, Sem.run_pure]
  rw [hex]
  refine Goes.pushRow hm (grown_below hg) hown (by simp) (by intro q hq; rw [List.eq_of_mem_replicate hq, hz]) ?_ (.v (.slice (some ⟨w.heap.size, 0, none⟩) m m)) (fun _ => rfl) trivial (hk _) (fun h => by rw [hd] at h; cases h)
  intro q hq
  obtain ⟨l, hl, hql⟩ := List.mem_flatten.1 hq
  rw [List.eq_of_mem_replicate hl] at hql
  exact ones_spec σ hone.1 q (by rw [vals_v]; exact hql)

theorem flat_set {sz : Nat} {vs : List Value} (hv : vs.length = sz) : ∀ {els : List (List Value)} {i : Nat}, (∀ e ∈ els, e.length = sz) → i < els.length → (els.set i vs).flatten = els.flatten.take (i * sz) ++ vs ++ els.flatten.drop (i * sz + sz)
  | [], i, _, h => by simp at h
  | x :: r, 0, hs, _ => by
    have hx := hs x (by simp)
    simp only [List.set_cons_zero, List.flatten_cons, Nat.zero_mul, List.take_zero, List.nil_append, Nat.zero_add]
    rw [List.drop_append, List.drop_eq_nil_of_le (by omega)]
    simp [hx]
  | x :: r, i + 1, hs, h => by
    have hx := hs x (by simp)
    have ih := flat_set hv (els := r) (i := i) (fun e he => hs e (by simp [he])) (by simpa using h)
    simp only [List.set_cons_succ, List.flatten_cons, ih]
    have e1 : (i + 1) * sz = x.length + i * sz := by rw [Nat.add_mul, Nat.one_mul, hx]; omega
    have e2 : (i + 1) * sz + sz = x.length + (i * sz + sz) := by omega
    rw [e2, e1]
    simp only [List.take_append, List.drop_append, Nat.add_sub_cancel_left]
    rw [List.take_of_length_le (l := x) (by omega), show List.drop (x.length + (i * sz + sz)) x = [] from List.drop_eq_nil_of_le (by omega)]
    simp
theorem splice_take (L vs : List Value) (a N : Nat) (h1 : a + vs.length ≤ N) (h2 : N ≤ L.length) : (L.take a ++ vs ++ L.drop (a + vs.length)).take N = (L.take N).take a ++ vs ++ (L.take N).drop (a + vs.length) := by
  have hl : (L.take a ++ vs).length = a + vs.length := by simp; omega
  rw [List.take_append, hl, List.take_of_length_le (by rw [hl]; omega), List.take_take, Nat.min_eq_left (by omega), List.drop_take]

theorem OpX_store {o : Oper} {t : TypeId} {x y : Operand} {i : Int} {k : SV → List OB → Prop} {te : TI} {r : SV} {vs : List Value} (j : Nat) (hT : TabOk C.P C.T) (ho : o.op = .store t x y) (hj : nth ob j = some (.row e sz A n c els))
    (ht : lookT C.T t = some te) (hz : te.zero.length = sz) (hv : valsP r.cells = some vs) (hchk : (Nat.beq vs.length sz && ones r.cells && Nat.ble 1 sz) = true) (h1 : i.toNat < n)
    (hk : force (setN ob j (.row e sz A n c (els.set i.toNat vs))) fun ob => k (.v undef) ob) : OpX C o [.v (.pointer (some (elA A i sz))), r] ob k := by
  unfold OpX
  intro σ fp w ρ hm hx
  simp only [Bool.and_eq_true] at hchk
  obtain ⟨⟨hc1, hc2⟩, hc3⟩ := hchk
  have hc1 := Nat.eq_of_beq_eq_true hc1
  have hc3 := Nat.le_of_ble_eq_true hc3
  obtain ⟨hid, hti⟩ := hT t te ht
  obtain ⟨⟨hown, hlen, hsize, hone, hF⟩, hjl⟩ := nth_row hm hj
  have hrc := valsP_spec hv
  have hcv := cells_val σ r
  rw [hrc, vals_v] at hcv
  have hov := ones_spec σ hc2
  rw [hrc, vals_v] at hov
  rcases hown.2 with ⟨_, h0⟩ | ⟨g, cap, cur, hsl, hbg, hg, hnc, hcm, hcs, htake⟩
  · omega
  simp at hsl
  obtain ⟨rfl, rfl⟩ := hsl
  rw [ho] at hx
  simp [Op.operands, SV.vals, SV.val, elA] at hx
  have hle : i.toNat * sz + sz ≤ n * sz := by
    have : (i.toNat + 1) * sz ≤ n * sz := Nat.mul_le_mul_right _ (by omega)
    rw [Nat.add_mul, Nat.one_mul] at this
    exact this
  have hle2 : n * sz ≤ c * sz := Nat.mul_le_mul_right _ hnc
  have hst := run_storeCells_at (P := C.P) g (i.toNat * sz) e vs 0 cur w hg (by rw [hcs, hc1]; omega) hov
  simp only [Nat.add_zero] at hst
  have hsz := hti.run_size w
  rw [hid, hz] at hsz
  obtain ⟨dst, op, ty, pos, after, guard⟩ := o
  simp only at ho
  subst ho
  have hex : (execOp ρ ⟨dst, .store t x y, ty, pos, after, guard⟩).run C.P w = .ok .skip (w.setRow g (cur.toList.take (i.toNat * sz) ++ vs ++ cur.toList.drop (i.toNat * sz + vs.length)).toArray) := by
    simp only [execOp, Instr.storeAt, hx.1, hx.2, Instr.sureAddr, Sem.run_bind, Sem.run_pure, Result.andThen_ok, storeVar, hsz, hcv, List.size_toArray, hc1, ne_eq, not_true, if_false, Nat.zero_add]
    rw [hc1] at hst
    simp only [hst, Result.andThen_ok]
  rw [hex]
  have hrow := setRow_heap w g cur (cur.toList.take (i.toNat * sz) ++ vs ++ cur.toList.drop (i.toNat * sz + vs.length)).toArray e (0, 0) hg
  have hfl := flat_set hc1 hsize (i := i.toNat) (by omega)
  have hfs : ∀ q ∈ els.set i.toNat vs, q.length = sz := by
    intro q hq
    rcases List.mem_or_eq_of_mem_set hq with h | h
    · exact hsize q h
    · rw [h, hc1]
  have hown' : (w.setRow g (cur.toList.take (i.toNat * sz) ++ vs ++ cur.toList.drop (i.toNat * sz + vs.length)).toArray).ownsRow 0 e sz (.slice (some ⟨g, 0, none⟩) n c) n (els.set i.toNat vs).flatten := by
    refine ⟨by rw [flat_len hfs]; simp [hlen], .inr ⟨g, c, _, rfl, Nat.zero_le _, hrow, hnc, hcm, ?_, ?_⟩⟩
    · simp only [List.size_toArray, List.length_append, List.length_take, List.length_drop, Array.length_toList]
      omega
    · rw [hfl, ← htake]
      have := splice_take cur.toList vs (i.toNat * sz) (n * sz) (by omega) (by rw [Array.length_toList]; omega)
      rw [hc1] at this ⊢
      simpa using this
  have hsz2 : w.heap.size ≤ (w.setRow g (cur.toList.take (i.toNat * sz) ++ vs ++ cur.toList.drop (i.toNat * sz + vs.length)).toArray).heap.size := by simp [World.setRow]
  have hsame : ∀ q, q < w.heap.size → ¬ fp j q → (w.setRow g (cur.toList.take (i.toNat * sz) ++ vs ++ cur.toList.drop (i.toNat * sz + vs.length)).toArray).heap[q]? = w.heap[q]? := by
    intro q hq hnq
    have : q ≠ g := fun e' => hnq ((hF q).2 (by simp [Value.ownBlock, e']))
    simp [World.setRow, Array.getElem?_modify, this.symm]
  have hM := hm.change (w' := w.setRow g (cur.toList.take (i.toNat * sz) ++ vs ++ cur.toList.drop (i.toNat * sz + vs.length)).toArray) hjl (.row e sz (some ⟨g, 0, none⟩) n c (els.set i.toNat vs)) (fp j) ⟨hown', by simp [hlen], hfs, (by
      intro q hq
      obtain ⟨l, hl, hql⟩ := List.mem_flatten.1 hq
      rcases List.mem_or_eq_of_mem_set hl with h | h
      · exact hone q (List.mem_flatten.2 ⟨l, h, hql⟩)
      · rw [h] at hql; exact hov q hql), hF⟩ (fun i hi => .inl hi) (by
      intro q hq
      have := hm.hi j hjl q hq
      simpa [World.setRow] using this) rfl rfl rfl hsz2 hsame (fun _ => Nat.le_refl _)
  rw [force_eq, setN_eq] at hk
  exact ⟨.v undef, _, σ, _, hk, fun _ _ => rfl, by simp, rfl, trivial, hM, Frm.changed hjl (by simp) (fun i hi => .inl hi) hsz2 hsame⟩

/-! ### a call that returns a new slice -/
/-- the result is x A c; the slice (A, n, c) is new -/
def CallR (P : Program) (f : FuncId) (args : List SV) (pre : World → Prop) (e sz : Nat) (els : List (List Value)) (x : Option Addr → Nat → SV) : Prop :=
  Entr P f ∧ (∀ A c, (x A c).wf 0) ∧ els.length * sz < 2 ^ 60 ∧ (∀ q ∈ els, q.length = sz) ∧ (∀ q ∈ els.flatten, Value.oneCell' q = true) ∧
    ∀ σ w, pre w → Calls P f (SV.vals σ args).toArray w fun en w' => ∃ A c, en = .returned ((x A c).val σ) ∧ w'.ownsRow w.heap.size e sz (.slice A els.length c) els.length els.flatten ∧ Below w.heap.size w w'
theorem CallX_r {f : FuncId} {args : List SV} {k : SV → List OB → Prop} {x : Option Addr → Nat → SV} {pre : World → Prop} (h : CallR C.P f args pre e sz els x) (hp : ∀ σ fp w, Mem C σ fp ob w → pre w) (hk : ∀ A c, force (ob ++ [.row e sz A els.length c els]) fun ob => k (x A c) ob) (hd : C.d = false := by rfl) : CallX C f args ob k := by
  simp only [force_eq] at hk
  obtain ⟨h1, h2, _, h3, h4, h5⟩ := h
  unfold CallX
  refine ⟨h1, fun σ fp w hm => (h5 σ w (hp σ fp w hm)).mono ?_⟩
  rintro en w' ⟨A, c, rfl, ho, hb⟩
  exact ⟨_, rfl, Goes.pushRow hm hb ho rfl h3 h4 (x A c) (fun σ' => by rw [SV.val_ext (n := 0) (by simp) (x A c) (h2 A c)]) (h2 A c) (hk A c) (fun h => by rw [hd] at h; cases h)⟩

/-! ### a slice that is read, whether it came in or is the call's own -/
def rdO (w0 : World) (A : Option Addr) (n sz : Nat) (els : List (List Value)) : OB := .res fun w F =>
  (ArgSl w0 A n sz els ∧ ∀ i, ¬ F i) ∨ (ArgSl w A n sz els ∧ ∀ b o s, A = some ⟨b, o, s⟩ → F b)
theorem rdO_of {w0 : World} (h : ArgSl w A n sz els) {F : Nat → Prop} (hF : ∀ b o s, A = some ⟨b, o, s⟩ → F b) {σ : Nat → Nat} {m b : Nat} : (rdO w0 A n sz els).at σ m w b F := by
  refine ⟨.inr ⟨h, hF⟩, fun w' hw => .inr ⟨⟨h.len, h.size, h.one, fun hn => ?_⟩, hF⟩⟩
  obtain ⟨b, o, hA, hc⟩ := h.at_ hn
  refine ⟨b, o, hA, fun i x hi j v hj => ?_⟩
  rw [World.cell?_of_block (w := w) (hw b (hF b o none hA))]
  exact hc i x hi j v hj
theorem rdO_row {w0 : World} {r : List Nat} {m : Nat} : OB.is r m (.row e sz A n c els) (rdO w0 A n sz els) := by
  intro w F h
  obtain ⟨h1, h2, h3, h4, h5⟩ := h
  exact rdO_of (σ := fun _ => 0) (m := 0) (b := 0) (ArgSl.of_owns h1 h2 h3 h4) fun b o s hA => (h5 b).2 (by rw [hA]; rfl)
theorem ArgSl.rd (j : Nat) (hz : sz ≠ 0) (hM : C.M = fun _ => False) (h : nth ob j = some (rdO C.w0 A n sz els)) : ∀ σ fp w, Mem C σ fp ob w → ArgSl w A n sz els := by
  intro σ fp w hm
  rw [nth_eq] at h
  rcases (hm.at_ j _ h).1 with ⟨h1, _⟩ | ⟨h1, _⟩
  · exact h1.mem hz hM σ fp w hm
  · exact h1
theorem Mem.addO (h : Mem C σ fp ob w) (o : OB) (ho : ∀ σ n b, o.at σ n w b fun _ => False) : ∃ σ' fp', (∀ j, j < ob.length → σ' j = σ j) ∧ Mem C σ' fp' (ob ++ [o]) w :=
  ⟨_, _, fun j hj => by simp [show j ≠ ob.length by omega], h.pushO (Below.refl _ _) o 0 (fun _ => False) (ho _ _ _) (fun i h => h.elim) (fun _ => Nat.le_refl _)⟩
theorem LoopX_addO {cd : Code} {tm : List (Nat × SV)} {K : Kx} (o : OB) (ho : ∀ σ fp w, Mem C σ fp ob w → ∀ σ n b, o.at σ n w b fun _ => False) (h : LoopX C cd tm (ob ++ [o]) K) : LoopX C cd tm ob K := by
  unfold LoopX at *
  intro σ fp a w hr
  obtain ⟨σ', fp', hσ, hm'⟩ := hr.mem.addO o (ho σ fp w hr.mem)
  exact h σ' fp' a w ⟨hr.tm.ext hσ (by simp), hm'⟩
/-- a slice that came in, as an object -/
theorem LoopX_rd {cd : Code} {tm : List (Nat × SV)} {K : Kx} (hA : ArgSl C.w0 A n sz els) (h : force (ob ++ [rdO C.w0 A n sz els]) fun ob => LoopX C cd tm ob K) : LoopX C cd tm ob K :=
  LoopX_addO (rdO C.w0 A n sz els) (fun _ _ _ _ _ _ _ => ⟨.inl ⟨hA, fun _ h => h⟩, fun _ _ => .inl ⟨hA, fun _ h => h⟩⟩) (by rwa [force_eq] at h)

theorem CallR.of {P : Program} {T : List TI} {f : FuncId} {fn : Func} {cd : Code} {args : List SV} {x : Option Addr → Nat → SV} {pre : World → Prop} (hf : P.funcs[f]? = some fn) (hb : fn.body = some cd) (hT : TabOk P T) (hname : (fn.name == "runtime.NumGoroutine") = false) (hl : Nat.ble args.length fn.ntmps = true) (hl' : Nat.ble args.length 300 = true)
    (hw : SV.wfs 0 args) (hx : ∀ A c, (x A c).wf 0) (he : els.length * sz < 2 ^ 60) (hs : ∀ q ∈ els, q.length = sz) (ho : ∀ q ∈ els.flatten, Value.oneCell' q = true)
    (h : ∀ w, pre w → force (argsL lits args) fun tm => xcode ⟨P, T, fn.ntmps, w, fun _ => False, 0, id, false⟩ cd tm [] (endX ⟨P, T, fn.ntmps, w, fun _ => False, 0, id, false⟩ (fun en w' => ∃ A c, (∀ σ, en = .returned ((x A c).val σ)) ∧ w'.ownsRow w.heap.size e sz (.slice A els.length c) els.length els.flatten ∧ Below w.heap.size w w') fn.results.toList)) : CallR P f args pre e sz els x := by
  refine ⟨Entr.of hf hname hb, hx, he, hs, ho, fun σ w hp => ?_⟩
  refine (calls_of_x (C := ⟨P, T, fn.ntmps, w, fun _ => False, 0, id, false⟩) (σ := σ) (ob := []) hT hf hb rfl (Nat.le_of_ble_eq_true hl) hw (Mem.nil _ rfl σ (fun _ _ => False)) (by have := h w hp; rwa [force_eq, argsL_eq (Nat.le_of_ble_eq_true hl')] at this)).mono ?_
  rintro en w' ⟨A, c, h1, h2, h3⟩
  exact ⟨A, c, h1 σ, h2, h3⟩
/-- the end: the slice that is returned is the object j -/
theorem Fin_row {y : SV} {x : Option Addr → Nat → SV} (j : Nat) (hM : C.M = fun _ => False) (hj : nth ob j = some (.row e sz A els.length c els)) (hy : y = x A c) (hw : (x A c).wf 0) :
    Fin C (fun en w' => ∃ A c, (∀ σ, en = .returned ((x A c).val σ)) ∧ w'.ownsRow C.w0.heap.size e sz (.slice A els.length c) els.length els.flatten ∧ Below C.w0.heap.size C.w0 w') y ob := by
  subst hy
  unfold Fin
  intro σ fp w hm _
  obtain ⟨⟨h1, h2, h3, h4, h5⟩, hjl⟩ := nth_row hm hj
  refine ⟨A, c, fun σ' => by rw [SV.val_ext (n := 0) (by simp) _ hw], ⟨h1.1, ?_⟩, ?_⟩
  · rcases h1.2 with h | ⟨g, cap, cur, hs, _, hr⟩
    · exact .inl h
    · refine .inr ⟨g, cap, cur, hs, ?_, hr⟩
      have hf := (h5 g).2 (by rw [hs]; rfl)
      rcases hm.lo j hjl g hf with h | h
      · rw [hM] at h; exact h.elim
      · exact h
  · have := hm.kept
    rw [hM] at this
    exact this.to_below
theorem Fin_rowN {y : SV} {x : Option Addr → Nat → SV} {m : Nat} (j : Nat) (hM : C.M = fun _ => False) (hm : m = els.length) (hj : nth ob j = some (.row e sz A m c els)) (hy : y = x A c) (hw : (x A c).wf 0) :
    Fin C (fun en w' => ∃ A c, (∀ σ, en = .returned ((x A c).val σ)) ∧ w'.ownsRow C.w0.heap.size e sz (.slice A els.length c) els.length els.flatten ∧ Below C.w0.heap.size C.w0 w') y ob := by
  subst hm
  exact Fin_row j hM hj hy hw
end
end Go.Proofs.Ytodaijlclbngbaa.En
