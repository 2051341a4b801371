/- The symbolic executor: slices of the call's own: made, appended to, stored into. -/
/- The symbolic executor in a region that draws its order and makes variables at any time ('f, g := ..'): they are taken up where they are first used. -/
import Derived.Test.YtadichckbogcjaaDoorEn9
import Derived.Laws.OwnMore
import Derived.Great.BuildSlice
set_option linter.all false
namespace Go.Proofs.YtadichckbogcjaaDoor.En
open Go.RowKit

section
variable {C : Ctx} {σ : Nat → Nat} {fp : Nat → Nat → Prop} {ob : List OB} {w w' : World} {A : Option Addr} {n c sz e : Nat} {els : List (List Value)}

/-- one more object, in new blocks -/
theorem Mem.pushO (h : Mem C σ fp ob w) (hb : Below w.heap.size w w') (o : OB) (b : Nat) (F : Nat → Prop) (ho : o.at (fun j => if j = ob.length then b else σ j) (ob.length + 1) w' b F) (hF : ∀ i, F i → w.heap.size ≤ i ∧ i < w'.heap.size) (hdr : C.d = true → w.drawn ≤ w'.drawn) :
    Mem C (fun j => if j = ob.length then b else σ j) (fun j => if j = ob.length then F else fp j) (ob ++ [o]) w' := by
  have hσ : ∀ j, j < ob.length → (fun j => if j = ob.length then b else σ j) j = σ j := fun j hj => by simp [show j ≠ ob.length by omega]
  refine ⟨?_, ?_, ?_, ?_, h.kept.below hb, ⟨by have := h.pin.1; simp; omega, fun j hj => (hσ j (Nat.lt_of_lt_of_le hj h.pin.1)).trans (h.pin.2 j hj)⟩, fun hd => Nat.le_trans (h.drw hd) (hdr hd)⟩
  · intro k o' hk
    by_cases hlt : k < ob.length
    · rw [List.getElem?_append_left hlt] at hk
      simp only [show k ≠ ob.length by omega, if_false]
      exact OB.at_ext (h.at_ k o' hk) hσ (by simp) fun i hi => hb.block i (h.hi k hlt i hi)
    · have hlen := (List.getElem?_eq_some_iff.1 hk).1
      simp at hlen
      obtain rfl : k = ob.length := by omega
      simp at hk
      subst hk
      simp only [if_true]
      simpa using ho
  · intro j k hj hk hne i hi hi'
    simp at hj hk
    by_cases ej : j = ob.length
    · simp only [ej, if_true] at hi
      simp only [show k ≠ ob.length by omega, if_false] at hi'
      have := h.hi k (by omega) i hi'
      have := (hF i hi).1
      omega
    · simp only [ej, if_false] at hi
      by_cases ek : k = ob.length
      · simp only [ek, if_true] at hi'
        have := h.hi j (by omega) i hi
        have := (hF i hi').1
        omega
      · simp only [ek, if_false] at hi'
        exact h.disj j k (by omega) (by omega) hne i hi hi'
  · intro k hk i hi
    simp at hk
    by_cases ek : k = ob.length
    · simp only [ek, if_true] at hi
      have := h.kept.size
      have := (hF i hi).1
      right; omega
    · simp only [ek, if_false] at hi
      exact h.lo k (by omega) i hi
  · intro k hk i hi
    simp at hk
    by_cases ek : k = ob.length
    · simp only [ek, if_true] at hi; exact (hF i hi).2
    · simp only [ek, if_false] at hi
      have := h.hi k (by omega) i hi
      have := hb.size
      omega

theorem owns_mono {base base' : Nat} {v : Value} {xs : List Value} (h : w.ownsRow base e sz v n xs) (hb : base' ≤ base) : w.ownsRow base' e sz v n xs := by
  refine ⟨h.1, ?_⟩
  rcases h.2 with h1 | ⟨g, cap, cur, h1, h2, h3⟩
  · exact .inl h1
  · exact .inr ⟨g, cap, cur, h1, Nat.le_trans hb h2, h3⟩
theorem flat_inv {sz : Nat} : ∀ {els : List (List Value)} {j : Nat} {v : Value}, (∀ e ∈ els, e.length = sz) → els.flatten[j]? = some v → ∃ i r e, j = i * sz + r ∧ els[i]? = some e ∧ e[r]? = some v
  | [], j, v, _, h => by simp at h
  | x :: l, j, v, hs, h => by
    have hx := hs x (by simp)
    simp only [List.flatten_cons, List.getElem?_append] at h
    split at h
    · exact ⟨0, j, x, by simp, by simp, h⟩
    · rename_i hlt
      obtain ⟨i, r, e, h1, h2, h3⟩ := flat_inv (fun e he => hs e (by simp [he])) h
      exact ⟨i + 1, r, e, by rw [Nat.add_mul]; omega, by simpa using h2, h3⟩
theorem append_none {P : Program} (base : Nat) (t ty : TypeId) (i : TypeInfo) (ht : P.underlying t = some (.slice e)) (hi : P.info? e = some i)
    (v : Value) (xs : List Value) (c2 : Nat) (hown : w.ownsRow base e sz v n xs) : (Builtin.append_ #[t, t] ty #[v, .slice none 0 c2]).run P w = .ok v w := by
  rcases hown.2 with ⟨rfl, rfl⟩ | ⟨g, cap, cur, rfl, _, _, hnc, _⟩
  · simp [Builtin.append_, run_underlying ht, sizeOf, typeInfo, hi, Builtin.lenOf, Builtin.firstCells]
  · simp [Builtin.append_, run_underlying ht, sizeOf, typeInfo, hi, Builtin.lenOf, Builtin.firstCells, hnc, storeCells]
theorem grown_below {w w' : World} (h : w.grownBy w' none) : Below w.heap.size w w' := ⟨h.os, h.tape, h.output, h.size, fun k hk => h.block k hk (by simp)⟩

theorem Goes.pushRow {k : SV → List OB → Prop} {v : Value} (hm : Mem C σ fp ob w) (hb : Below w.heap.size w w') (ho : w'.ownsRow w.heap.size e sz (.slice A n c) n els.flatten) (hl : els.length = n) (hs : ∀ x ∈ els, x.length = sz) (h1 : ∀ x ∈ els.flatten, Value.oneCell' x = true)
    (x : SV) (hv : ∀ σ', v = x.val σ') (hx : x.wf 0) (hk : k x (ob ++ [.row e sz A n c els])) (hdr : C.d = true → w.drawn ≤ w'.drawn) : Goes C ob.length σ fp w k v w' := by
  refine ⟨x, _, _, _, hk, fun j hj => by simp [show j ≠ ob.length by omega], by simp, hv _, SV.wf_mono (Nat.zero_le _) x hx, hm.pushO hb (.row e sz A n c els) 0 (fun i => (Value.slice A n c).ownBlock = some i) ⟨owns_mono ho (Nat.zero_le _), hl, hs, h1, fun i => Iff.rfl⟩ (fun i hi => ho.lt i hi) hdr, Frm.pushed hb (by simp) fun i hi => (ho.lt i hi).1⟩

/-! ### append -/
theorem append_loc {P : Program} (t ty : TypeId) (i : TypeInfo) (z : Value) (bytes : Nat) (ht : P.underlying t = some (.slice e)) (hi : P.info? e = some i) (hz : i.zero = some z)
    (hsize : i.size = sz) (hby : i.bytes = bytes) (hzs : z.cells.size = sz) (hsz : 0 < sz)
    (v : Value) (xs : List Value) (hown : w.ownsRow 0 e sz v n xs)
    (a : Addr) (m c : Nat) (news : List Value) (hl : news.length = m * sz) (hnews : ∀ j u, news[j]? = some u → w.cell? (a.add j) = some u) (h1 : ∀ u ∈ news, u.oneCell' = true)
    (h63 : n + m ≤ maxLen) (hbytes : (n + m) * bytes ≤ 140737488355328) :
    ∃ v' w', (Builtin.append_ #[t, t] ty #[v, .slice (some a) m c]).run P w = .ok v' w' ∧ w'.ownsRow 0 e sz v' (n + m) (xs ++ news) ∧ w.grownBy w' v.ownBlock ∧ ∀ g, v'.ownBlock = some g → v.ownBlock = some g ∨ w.heap.size ≤ g := by
  obtain ⟨v', w', hr, ho, hg, _⟩ := run_append_own w 0 t ty e i z sz bytes ht hi hz hsize hby hzs hsz v n xs hown a m c news hl hnews h1 h63 hbytes (Nat.zero_le _)
  refine ⟨v', w', hr, ho, hg, fun g hgb => ?_⟩
  rcases hown.2 with ⟨rfl, rfl⟩ | ⟨g0, cap, cur, rfl, hbg, hg0, hnc, hcm, hcs, htake⟩
  · have hx : xs = [] := List.eq_nil_of_length_eq_zero (by simpa using hown.1)
    subst hx
    obtain ⟨v2, w2, hr2, ho2, _, _⟩ := run_append_own w w.heap.size t ty e i z sz bytes ht hi hz hsize hby hzs hsz (.slice none 0 0) 0 [] (World.ownsRow_nil w _ e sz) a m c news hl hnews h1 h63 hbytes (Nat.le_refl _)
    rw [hr] at hr2
    simp at hr2
    obtain ⟨rfl, rfl⟩ := hr2
    exact .inr (ho2.lt g hgb).1
  · by_cases hroom : n + m ≤ cap
    · subst hsize
      have hr2 := run_append_room (P := P) w t ty e i ht hi g0 n cap cur hg0 a m c news hl hnews h1 hroom (by rw [hl, hcs, ← Nat.add_mul]; exact Nat.mul_le_mul_right _ hroom)
      rw [hr] at hr2
      simp at hr2
      obtain ⟨rfl, rfl⟩ := hr2
      exact .inl hgb
    · subst hsize
      subst hby
      have hsmall : n + m ≤ 9223372036854775807 := by simp only [maxLen] at h63; omega
      have hr2 := run_append_grow (P := P) w t ty e i z ht hi hz ⟨g0, 0, none⟩ n cap xs hown.1 (hown.cells (g := g0) rfl) a m c news hl hnews (by omega) (by omega) (growslice_fits (by omega) hbytes)
      rw [hr] at hr2
      simp at hr2
      obtain ⟨rfl, rfl⟩ := hr2
      simp [Value.ownBlock] at hgb
      exact .inr (by omega)

theorem ownsRow_slice {v : Value} {xs : List Value} (h : w.ownsRow 0 e sz v n xs) : ∃ A c, v = .slice A n c := by
  rcases h.2 with ⟨rfl, rfl⟩ | ⟨g, cap, cur, rfl, _⟩
  · exact ⟨none, 0, rfl⟩
  · exact ⟨_, cap, rfl⟩

theorem OpX_append {o : Oper} {t : TypeId} {x y : Operand} {k : SV → List OB → Prop} {te : TI} {A2 : Option Addr} {m c2 : Nat} {els2 : List (List Value)} (j : Nat) (hT : TabOk C.P C.T) (ho : o.op = .call ⟨.builtin .append, #[x, y], #[t, t]⟩) (hj : nth ob j = some (.row e sz A n c els))
    (hs : slInfo C t = some (e, sz)) (hte : lookT C.T e = some te) (hA2 : ∀ σ fp w, Mem C σ fp ob w → ArgSl w A2 m sz els2) (hsz : 0 < sz) (hn : (n + m) * te.byt ≤ 140737488355328) (hn' : n + m ≤ 1000000000000)
    (hk : ∀ A' c', force (setN ob j (.row e sz A' (n + m) c' (els ++ els2))) fun ob => k (.v (.slice A' (n + m) c')) ob) (hd : C.d = false := by rfl) : OpX C o [.v (.slice A n c), .v (.slice A2 m c2)] ob k := by
  unfold OpX
  intro σ fp w ρ hm hx
  obtain ⟨hu, te', hl, hz, hti, hid⟩ := slInfo_spec hT hs
  rw [hte] at hl
  cases hl
  obtain ⟨i, z, hi, hz', hzc, his, hib⟩ := hti.inf
  rw [hid] at hi
  rw [ho] at hx
  simp [Op.operands, Call.operands, SV.vals, SV.val] at hx
  obtain ⟨⟨hown, hlen, hsize, hone, hF⟩, hjl⟩ := nth_row hm hj
  have hS := hA2 σ fp w hm
  obtain ⟨dst, op, ty, pos, after, guard⟩ := o
  simp only at ho
  subst ho
  have hexec : ∀ r w', (Builtin.append_ #[t, t] ty #[.slice A n c, .slice A2 m c2]).run C.P w = .ok r w' → (execOp ρ ⟨dst, .call ⟨.builtin .append, #[x, y], #[t, t]⟩, ty, pos, after, guard⟩).run C.P w = .ok (.value r) w' := by
    intro r w' hr
    simp [execOp, resolve, invoke, builtin, hx.1, hx.2, hr]
  have hflat : (els ++ els2).flatten = els.flatten ++ els2.flatten := by simp
  have hlen2 := flat_len hS.size
  rw [hS.len] at hlen2
  have hone2 : ∀ u ∈ els2.flatten, u.oneCell' = true := fun u hu => by
    obtain ⟨q, hq, hq'⟩ := List.mem_flatten.1 hu
    exact hS.one q hq u hq'
  have fin : ∀ v' w', (Builtin.append_ #[t, t] ty #[.slice A n c, .slice A2 m c2]).run C.P w = .ok v' w' → w'.ownsRow 0 e sz v' (n + m) (els.flatten ++ els2.flatten) → w.grownBy w' (Value.slice A n c).ownBlock → (∀ g, v'.ownBlock = some g → (Value.slice A n c).ownBlock = some g ∨ w.heap.size ≤ g) →
      (match (execOp ρ ⟨dst, .call ⟨.builtin .append, #[x, y], #[t, t]⟩, ty, pos, after, guard⟩).run C.P w with
        | .ok (.value v) w' => Goes C ob.length σ fp w k v w'
        | .ok .skip w' => Goes C ob.length σ fp w k undef w'
        | .ok (.enter f args) w' => Calls C.P f args w' fun e w'' => ∃ v, e = .returned v ∧ Goes C ob.length σ fp w k v w''
        | _ => False) := by
    intro v' w' hr ho' hg hloc
    rw [hexec _ _ hr]
    obtain ⟨A', c', rfl⟩ := ownsRow_slice ho'
    have hin : ∀ g, (Value.slice A' (n + m) c').ownBlock = some g → fp j g ∨ w.heap.size ≤ g := by
      intro g hg'
      rcases hloc g hg' with h1 | h1
      · exact .inl ((hF g).2 h1)
      · exact .inr h1
    have hsame : ∀ g, g < w.heap.size → ¬ fp j g → w'.heap[g]? = w.heap[g]? := by
      intro g hg' hng
      exact hg.block g hg' (fun h => hng ((hF g).2 h.symm))
    have hM := hm.change (w' := w') hjl (.row e sz A' (n + m) c' (els ++ els2)) (fun i => (Value.slice A' (n + m) c').ownBlock = some i) ⟨by rw [hflat]; exact ho', by simp [hlen, hS.len], (by
        intro q hq
        rcases List.mem_append.1 hq with hq | hq
        · exact hsize q hq
        · exact hS.size q hq), (by
        intro q hq
        rw [hflat] at hq
        rcases List.mem_append.1 hq with hq | hq
        · exact hone q hq
        · exact hone2 q hq), fun i => Iff.rfl⟩ hin (by
        intro g hg'
        exact (ho'.lt g hg').2) hg.os hg.tape hg.output hg.size hsame (fun h => by rw [hd] at h; cases h)
    have hk' := hk A' c'
    rw [force_eq, setN_eq] at hk'
    exact ⟨.v (.slice A' (n + m) c'), _, σ, _, hk', fun _ _ => rfl, by simp, rfl, trivial, hM, Frm.changed hjl (by simp) hin hg.size hsame⟩
  by_cases hm0 : m = 0 ∧ A2 = none
  · obtain ⟨rfl, rfl⟩ := hm0
    have he2 : els2 = [] := List.eq_nil_of_length_eq_zero hS.len
    subst he2
    exact fin _ w (append_none 0 t ty i hu hi _ _ c2 hown) (by simpa using hown) (World.grownBy.refl w _) (fun g hg => .inl hg)
  · have hA2' : ∃ ad, A2 = some ad ∧ ∀ j u, els2.flatten[j]? = some u → w.cell? (ad.add j) = some u := by
      by_cases hm1 : m = 0
      · subst hm1
        have he2 : els2 = [] := List.eq_nil_of_length_eq_zero hS.len
        subst he2
        cases A2 with
        | none => simp at hm0
        | some ad => exact ⟨ad, rfl, fun j u h => by simp at h⟩
      · obtain ⟨b, oo, rfl, hc⟩ := hS.at_ hm1
        refine ⟨_, rfl, fun j u hju => ?_⟩
        obtain ⟨i', r, q, h1, h2, h3⟩ := flat_inv hS.size hju
        rw [Addr.add_mid, h1, ← Nat.add_assoc]
        exact hc i' q h2 r u h3
    obtain ⟨ad, rfl, hcells⟩ := hA2'
    obtain ⟨v', w', hr, ho', hg, hloc⟩ := append_loc t ty i z te.byt hu hi hz' (by rw [his, hz]) hib (by rw [hzc]; simpa using hz) hsz _ _ hown ad m c2 els2.flatten hlen2 hcells hone2 (by simp [maxLen]; omega) hn
    exact fin v' w' hr ho' hg hloc

/-! ### a slice that is nil, as an object -/
theorem fp_add {n m : Nat} (hm : m ≤ n + 1) : ∀ j, j < m → ∀ i, (fun j => if j = n then (fun _ => False) else fp j) j i → ∃ j', j' < n ∧ fp j' i := by
  intro j hj i hi
  by_cases e : j = n
  · simp [e] at hi
  · simp only [e, if_false] at hi
    exact ⟨j, by omega, hi⟩
theorem Mem.addNil (h : Mem C σ fp ob w) (e sz : Nat) : ∃ σ' fp', (∀ j, j < ob.length → σ' j = σ j) ∧ (∀ j, j < (ob ++ [OB.row e sz none 0 0 []]).length → ∀ i, fp' j i → ∃ j', j' < ob.length ∧ fp j' i) ∧ Mem C σ' fp' (ob ++ [.row e sz none 0 0 []]) w :=
  ⟨_, _, fun j hj => by simp [show j ≠ ob.length by omega], fp_add (by simp), h.pushO (Below.refl _ _) (.row e sz none 0 0 []) 0 (fun _ => False) ⟨World.ownsRow_nil w 0 e sz, rfl, by simp, by simp, fun i => by simp [Value.ownBlock]⟩ (fun i h => h.elim) (fun _ => Nat.le_refl _)⟩
theorem Goes.less {k : SV → List OB → Prop} {v : Value} {σ' : Nat → Nat} {fp' : Nat → Nat → Prop} {m : Nat} (h : Goes C m σ' fp' w k v w') (hn : n ≤ m) (hσ : ∀ j, j < n → σ' j = σ j) (hf : ∀ j, j < m → ∀ i, fp' j i → ∃ j', j' < n ∧ fp j' i) : Goes C n σ fp w k v w' := by
  obtain ⟨x, ob, σ2, fp2, h1, h2, h3, h4, h5, h6, h7⟩ := h
  refine ⟨x, ob, σ2, fp2, h1, fun j hj => (h2 j (by omega)).trans (hσ j hj), by omega, h4, h5, h6, fun i h8 h9 h10 => h7.old i h8 h9 fun j hj hi => ?_, fun j hj i hi h8 h9 => ?_, h7.size⟩
  · obtain ⟨j', h11, h12⟩ := hf j hj i hi
    exact h10 j' h11 h12
  · obtain ⟨j', h11, h12⟩ := h7.new j hj i hi h8 h9
    exact hf j' h11 i h12

/-- the operands name no object beyond those known -/
theorem OpX_addNil {o : Oper} {xs : List SV} {k : SV → List OB → Prop} (e sz : Nat) (hw : SV.wfs ob.length xs) (h : OpX C o xs (ob ++ [.row e sz none 0 0 []]) k) : OpX C o xs ob k := by
  unfold OpX at *
  intro σ fp w ρ hm hx
  obtain ⟨σ', fp', hσ, hfp, hm'⟩ := hm.addNil e sz
  have h1 := h σ' fp' w ρ hm' (by rw [hx, SV.vals_ext hσ xs hw])
  have hl : ob.length ≤ (ob ++ [OB.row e sz none 0 0 []]).length := by simp
  generalize (execOp ρ o).run C.P w = r at h1 ⊢
  cases r with
  | halt _ _ => exact h1
  | ok n w' =>
    cases n with
    | value v => exact h1.less hl hσ hfp
    | skip => exact h1.less hl hσ hfp
    | enter f args => exact h1.mono fun e w'' ⟨v, he, hg⟩ => ⟨v, he, hg.less hl hσ hfp⟩
    | _ => exact h1
theorem LoopX_addNil {cd : Code} {tm : List (Nat × SV)} {K : Kx} (e sz : Nat) (h : force (ob ++ [.row e sz none 0 0 []]) fun ob => LoopX C cd tm ob K) : LoopX C cd tm ob K := by
  rw [force_eq] at h
  unfold LoopX at *
  intro σ fp a w hr
  obtain ⟨σ', fp', hσ, _, hm'⟩ := hr.mem.addNil e sz
  exact h σ' fp' a w ⟨hr.tm.ext hσ (by simp), hm'⟩

/-! ### slices that are made -/
def valsP : List SV → Option (List Value)
  | [] => some []
  | .v x :: r => match valsP r with
    | some l => some (x :: l)
    | none => none
  | _ :: _ => none
theorem valsP_spec : ∀ {l : List SV} {vs : List Value}, valsP l = some vs → l = vs.map .v
  | [], vs, h => by simp [valsP] at h; subst h; rfl
  | x :: r, vs, h => by
    unfold valsP at h
    split at h
    · rename_i heq
      cases heq
    · rename_i y r' heq
      cases heq
      split at h
      · rename_i l hl
        simp at h
        subst h
        rw [valsP_spec hl]
        rfl
      · cases h
    · cases h
def valsPs : List SV → Option (List (List Value))
  | [] => some []
  | x :: r => match valsP x.cells, valsPs r with
    | some l, some m => some (l :: m)
    | _, _ => none
theorem valsPs_spec (σ : Nat → Nat) : ∀ {l : List SV} {vs : List (List Value)}, valsPs l = some vs → vs.length = l.length ∧ ∀ (i : Nat) (x : SV), l[i]? = some x → ∃ v : List Value, vs[i]? = some v ∧ (x.val σ).cells = v.toArray
  | [], vs, h => by simp [valsPs] at h; subst h; simp
  | x :: r, vs, h => by
    unfold valsPs at h
    split at h
    · rename_i l m hl hm
      simp at h
      subst h
      obtain ⟨h1, h2⟩ := valsPs_spec σ hm
      refine ⟨by simp [h1], fun i y hy => ?_⟩
      cases i with
      | zero =>
        simp at hy
        subst hy
        exact ⟨l, by simp, by rw [cells_val, valsP_spec hl, vals_v]⟩
      | succ i => simpa using h2 i y (by simpa using hy)
    · cases h

def idxP : Nat → List (Nat × Operand) → Bool
  | _, [] => true
  | n, (i, _) :: r => match Nat.beq i n with
    | true => idxP (n + 1) r
    | false => false
def sizesP (sz : Nat) : List (List Value) → Bool
  | [] => true
  | x :: r => match Nat.beq x.length sz with
    | true => sizesP sz r
    | false => false
theorem sizesP_spec : ∀ {vs : List (List Value)}, sizesP sz vs = true → ∀ x ∈ vs, x.length = sz
  | [], _, x, hx => by simp at hx
  | y :: r, h, x, hx => by
    unfold sizesP at h
    split at h
    · rename_i hb
      rcases List.mem_cons.1 hx with rfl | hx
      · exact Nat.eq_of_beq_eq_true hb
      · exact sizesP_spec h x hx
    · cases h

theorem fill_dense (ρ : Operand → Value) : ∀ (ps : List (Nat × Operand)) (s : Nat) (vs : List (List Value)) (cs : Array Value), idxP s ps = true → vs.length = ps.length → (∀ (i : Nat) (p : Nat × Operand), ps[i]? = some p → ∃ v : List Value, vs[i]? = some v ∧ (ρ p.2).cells = v.toArray) → (∀ x ∈ vs, x.length = sz) → (s + ps.length) * sz ≤ cs.size →
    Instr.fill (fun i => some (i * sz, sz)) cs (ps.map fun p => (p.1, ρ p.2)) = some (cs.toList.take (s * sz) ++ vs.flatten ++ cs.toList.drop ((s + ps.length) * sz)).toArray
  | [], s, vs, cs, _, hl, _, _, _ => by
    have : vs = [] := List.eq_nil_of_length_eq_zero hl
    subst this
    simp [Instr.fill]
  | (i, x) :: ps, s, [], cs, _, hl, _, _, _ => by simp at hl
  | (i, x) :: ps, s, v :: vs, cs, hi, hl, hv, hs, hc => by
    unfold idxP at hi
    split at hi
    · rename_i hb
      have hb := Nat.eq_of_beq_eq_true hb
      subst hb
      obtain ⟨v', h1, h2⟩ := hv 0 (i, x) (by simp)
      simp at h1
      subst h1
      have hvl := hs v (by simp)
      have hc' : (i + 1 + ps.length) * sz ≤ cs.size := by
        have : (i + 1 + ps.length) * sz = (i + (ps.length + 1)) * sz := by congr 1; omega
        simp at hc
        omega
      have e1 : (i + 1 + ps.length) * sz = i * sz + sz + ps.length * sz := by rw [Nat.add_mul, Nat.add_mul, Nat.one_mul]
      have hfold := fold_splice cs v (i * sz) (by rw [hvl]; omega)
      have ih := fill_dense ρ ps (i + 1) vs (cs.toList.take (i * sz) ++ v ++ cs.toList.drop (i * sz + v.length)).toArray hi (by simpa using hl) (fun j p hp => by simpa using hv (j + 1) p (by simpa using hp)) (fun y hy => hs y (by simp [hy])) (by
        simp only [List.size_toArray, List.length_append, List.length_take, List.length_drop, Array.length_toList]
        omega)
      simp only [List.map_cons, Instr.fill, h2]
      rw [if_neg (by simp [hvl]; omega)]
      rw [hfold, ih]
      congr 2
      apply List.ext_getElem?
      intro q
      have e2 : (i + 1) * sz = i * sz + sz := by rw [Nat.add_mul, Nat.one_mul]
      have e3 : (i + (ps.length + 1)) * sz = i * sz + sz + ps.length * sz := by rw [Nat.add_mul, Nat.add_mul, Nat.one_mul]; omega
      have hfl : vs.flatten.length = ps.length * sz := by rw [flat_len (fun y hy => hs y (by simp [hy]))]; congr 1; simpa using hl
      simp only [List.flatten_cons, List.length_cons, e1, e2, e3]
      generalize hP : ps.length * sz = pz at *
      have t1 : (List.take (i * sz) cs.toList ++ v ++ List.drop (i * sz + v.length) cs.toList).take (i * sz + sz) = List.take (i * sz) cs.toList ++ v := by
        rw [List.take_append_of_le_length (by simp; omega)]
        rw [List.take_of_length_le (by simp; omega)]
      have t2 : (List.take (i * sz) cs.toList ++ v ++ List.drop (i * sz + v.length) cs.toList).drop (i * sz + sz + pz) = cs.toList.drop (i * sz + sz + pz) := by
        rw [List.drop_append, List.drop_eq_nil_of_le (by simp; omega)]
        simp only [List.nil_append, List.drop_drop]
        congr 1
        simp
        omega
      rw [t1, t2]
      simp [List.append_assoc]
    · cases hi

theorem OpX_build {o : Oper} {t : TypeId} {len : Nat} {parts : Array (Nat × Operand)} {k : SV → List OB → Prop} {te : TI} {rs : List SV} {vs : List (List Value)} (hT : TabOk C.P C.T) (ho : o.op = .buildSlice t len parts)
    (hs : slInfo C t = some (e, sz)) (hte : lookT C.T e = some te) (hv : valsPs rs = some vs) (hchk : (idxP 0 parts.toList && Nat.beq parts.toList.length len && sizesP sz vs && ones (vs.flatten.map .v) && Nat.ble (len * sz) 16777216 && Nat.ble 1 (len * sz)) = true)
    (hk : ∀ b, force (ob ++ [.row e sz (some ⟨b, 0, none⟩) len len vs]) fun ob => k (.v (.slice (some ⟨b, 0, none⟩) len len)) ob) : OpX C o rs ob k := by
  simp only [force_eq] at hk
  unfold OpX
  intro σ fp w ρ hm hx
  simp only [Bool.and_eq_true] at hchk
  obtain ⟨⟨⟨⟨⟨hc1, hc2⟩, hc3⟩, hc4⟩, hc5⟩, hc6⟩ := hchk
  have hc2 := Nat.eq_of_beq_eq_true hc2
  have hc3 := sizesP_spec hc3
  have hc5 := Nat.le_of_ble_eq_true hc5
  have hc6 := Nat.le_of_ble_eq_true hc6
  obtain ⟨hu, te', hl, hz, hti, hid⟩ := slInfo_spec hT hs
  rw [hte] at hl
  cases hl
  obtain ⟨i, z, hi, hz', hzc, his, hib⟩ := hti.inf
  rw [hid] at hi
  rw [hz] at his
  rw [ho] at hx
  have hx' : parts.toList.map (fun p => ρ p.2) = SV.vals σ rs := by simpa [Op.operands, Function.comp_def] using hx
  obtain ⟨hvl, hvs⟩ := valsPs_spec σ hv
  have hrl : rs.length = parts.toList.length := by
    have := congrArg List.length hx'
    simpa [vals_length] using this.symm
  obtain ⟨dst, op, ty, pos, after, guard⟩ := o
  simp only at ho
  subst ho
  have hzz : ((Array.range (len * i.size)).map (z.cells[· % z.cells.size]!)).size = len * sz := by simp [his]
  have hf := fill_dense (sz := sz) ρ parts.toList 0 vs ((Array.range (len * i.size)).map (z.cells[· % z.cells.size]!)) hc1 (by omega) (by
    intro q p hp
    have h1 : (SV.vals σ rs)[q]? = some (ρ p.2) := by rw [← hx']; simp [hp]
    rw [vals_get] at h1
    cases hq : rs[q]? with
    | none => simp [hq] at h1
    | some y =>
      simp [hq] at h1
      obtain ⟨v, hv1, hv2⟩ := hvs q y hq
      exact ⟨v, hv1, by rw [← h1]; exact hv2⟩) hc3 (by rw [hzz, hc2]; simp)
  have hfl : vs.flatten.length = len * sz := by rw [flat_len hc3]; congr 1; omega
  have hcells : ((((Array.range (len * i.size)).map (z.cells[· % z.cells.size]!)).toList.take (0 * sz) ++ vs.flatten ++ ((Array.range (len * i.size)).map (z.cells[· % z.cells.size]!)).toList.drop ((0 + parts.toList.length) * sz)).toArray) = vs.flatten.toArray := by
    rw [List.drop_eq_nil_of_le (by rw [Array.length_toList, hzz, hc2]; simp)]
    simp
  rw [hcells] at hf
  have hrun := run_buildSlice (P := C.P) w t e len (parts.map fun (i, x) => (i, ρ x)) vs.flatten.toArray i z hu hi hz' (by rw [his]; omega) (by rw [his]; omega) (by rw [his, Array.toList_map]; rw [his] at hf; exact hf)
  have hex : (execOp ρ ⟨dst, .buildSlice t len parts, ty, pos, after, guard⟩).run C.P w = .ok (.value (.slice (some ⟨w.heap.size, 0, none⟩) len len)) (w.alloc (.cells vs.flatten.toArray e)) := by
    simp only [execOp, Sem.run_bind, hrun, Result.andThen_ok, Sem.run_pure]
  rw [hex]
  have hlen : len ≤ 16777216 := by
    have : len * 1 ≤ len * sz := Nat.mul_le_mul_left _ (by rcases Nat.eq_zero_or_pos sz with h | h; (subst h; simp at hc6); exact h)
    omega
  have hown := World.ownsRow_lit (base := w.heap.size) (e := e) (size := sz) w vs.flatten.toArray len (Nat.le_refl _) (by simp [maxLen]; omega) (by simpa using hfl)
  refine Goes.pushRow hm ((Below.refl _ _).alloc (Nat.le_refl _) _) (by simpa using hown) (by omega) hc3 ?_ (.v (.slice (some ⟨w.heap.size, 0, none⟩) len len)) (fun _ => rfl) trivial (hk _) (fun _ => Nat.le_refl _)
  intro q hq
  exact ones_spec σ hc4 q (by rw [vals_v]; exact hq)

theorem OpX_build0 {o : Oper} {t : TypeId} {parts : Array (Nat × Operand)} {k : SV → List OB → Prop} (hT : TabOk C.P C.T) (ho : o.op = .buildSlice t 0 parts) (hp : parts.toList = [])
    (hs : slInfo C t = some (e, sz)) (hk : ∀ b, force (ob ++ [.row e sz (some ⟨b, 0, none⟩) 0 0 []]) fun ob => k (.v (.slice (some ⟨b, 0, none⟩) 0 0)) ob) : OpX C o [] ob k := by
  simp only [force_eq] at hk
  unfold OpX
  intro σ fp w ρ hm hx
  obtain ⟨hu, te, hl, hz, hti, hid⟩ := slInfo_spec hT hs
  obtain ⟨i, z, hi, hz', hzc, his, hib⟩ := hti.inf
  rw [hid] at hi
  have hparts : parts = #[] := by
    apply Array.toList_inj.1
    simpa using hp
  subst hparts
  obtain ⟨dst, op, ty, pos, after, guard⟩ := o
  simp only at ho
  subst ho
  have hex : (execOp ρ ⟨dst, .buildSlice t 0 #[], ty, pos, after, guard⟩).run C.P w = .ok (.value (.slice (some ⟨w.heap.size, 0, none⟩) 0 0)) (w.alloc (.cells #[] e)) := by
    simp [execOp, Instr.buildSlice, run_underlying hu, sizeOf, typeInfo, hi, Instr.fill, newRow]
    congr 2
    apply Array.toList_inj.1
    simp
  rw [hex]
  have hown := World.ownsRow_lit (base := w.heap.size) (e := e) (size := sz) w #[] 0 (Nat.le_refl _) (by simp) (by simp)
  exact Goes.pushRow (els := []) (n := 0) (sz := sz) (e := e) hm ((Below.refl _ _).alloc (Nat.le_refl _) _) (by simpa using hown) rfl (by simp) (by simp) (.v (.slice (some ⟨w.heap.size, 0, none⟩) 0 0)) (fun _ => rfl) trivial (hk _) (fun _ => Nat.le_refl _)

theorem made_eq (z : List Value) (n : Nat) (hz : z.length = sz) (hp : 0 < sz) : (madeCells z.toArray (n * sz)).toList = (List.replicate n z).flatten := by
  have hfl : (List.replicate n z).flatten.length = n * sz := by rw [flat_len (sz := sz) (by intro e he; rw [List.eq_of_mem_replicate he, hz])]; simp
  apply List.ext_getElem?
  intro i
  by_cases hi : i < n * sz
  · have h1 : i / sz < n := by rw [Nat.div_lt_iff_lt_mul hp]; exact hi
    have h2 : i % sz < sz := Nat.mod_lt _ hp
    have h3 := flat_get (sz := sz) (els := List.replicate n z) (i := i / sz) (j := i % sz) (e := z) (v := z[i % sz]'(by omega)) (by intro e he; rw [List.eq_of_mem_replicate he, hz]) (by simp [h1]) (by simp)
    rw [show i / sz * sz + i % sz = i by rw [Nat.mul_comm]; exact Nat.div_add_mod i sz] at h3
    rw [h3]
    simp [madeCells, hi, hz]
    rw [List.getElem?_eq_getElem (by omega)]
    rfl
  · rw [List.getElem?_eq_none (by simp [size_madeCells]; omega), List.getElem?_eq_none (by omega)]

theorem OpX_make {o : Oper} {t : TypeId} {x y : Operand} {m : Nat} {k : SV → List OB → Prop} {te : TI} (hT : TabOk C.P C.T) (ho : o.op = .makeSlice t x y)
    (hs : slInfo C t = some (e, sz)) (hte : lookT C.T e = some te) (hone : (ones (te.zero.map .v) && Nat.ble 1 sz) = true) (hn : te.byt * m ≤ 140737488355328) (hn' : m * sz ≤ 16777216)
    (hk : ∀ b, force (ob ++ [.row e sz (some ⟨b, 0, none⟩) m m (List.replicate m te.zero)]) fun ob => k (.v (.slice (some ⟨b, 0, none⟩) m m)) ob) (hd : C.d = false := by rfl) : OpX C o [.v (.int .i64 (m : Int)), .v (.int .i64 (m : Int))] ob k := by
  simp only [force_eq] at hk
  unfold OpX
  intro σ fp w ρ hm hx
  simp only [Bool.and_eq_true] at hone
  have hsz := Nat.le_of_ble_eq_true hone.2
  obtain ⟨hu, te', hl, hz, hti, hid⟩ := slInfo_spec hT hs
  rw [hte] at hl
  cases hl
  obtain ⟨i, z, hi, hz', hzc, his, hib⟩ := hti.inf
  rw [hid] at hi
  rw [hz] at his
  rw [ho] at hx
  simp [Op.operands, SV.vals, SV.val] at hx
  obtain ⟨dst, op, ty, pos, after, guard⟩ := o
  simp only at ho
  subst ho
  have hm' : m ≤ 16777216 := by
    have : m * 1 ≤ m * sz := Nat.mul_le_mul_left _ hsz
    omega
  obtain ⟨w', hr, hown, hg⟩ := run_makeSlice_full (P := C.P) w w.heap.size t e i z sz hu hi hz' his .i64 .i64 m hn' (by rw [hib]; omega) (by simp [maxLen]; omega) (Nat.le_refl _)
  rw [hzc, made_eq _ _ hz (by omega)] at hown
  have hex : (execOp ρ ⟨dst, .makeSlice t x y, ty, pos, after, guard⟩).run C.P w = .ok (.value (.slice (some ⟨w.heap.size, 0, none⟩) m m)) w' := by
    simp only [execOp, hx, Sem.run_bind, hr, Result.andThen_ok, Sem.run_pure]
  rw [hex]
  refine Goes.pushRow hm (grown_below hg) hown (by simp) (by intro q hq; rw [List.eq_of_mem_replicate hq, hz]) ?_ (.v (.slice (some ⟨w.heap.size, 0, none⟩) m m)) (fun _ => rfl) trivial (hk _) (fun h => by rw [hd] at h; cases h)
  intro q hq
  obtain ⟨l, hl, hql⟩ := List.mem_flatten.1 hq
  rw [List.eq_of_mem_replicate hl] at hql
  exact ones_spec σ hone.1 q (by rw [vals_v]; exact hql)

theorem flat_set {sz : Nat} {vs : List Value} (hv : vs.length = sz) : ∀ {els : List (List Value)} {i : Nat}, (∀ e ∈ els, e.length = sz) → i < els.length → (els.set i vs).flatten = els.flatten.take (i * sz) ++ vs ++ els.flatten.drop (i * sz + sz)
  | [], i, _, h => by simp at h
  | x :: r, 0, hs, _ => by
    have hx := hs x (by simp)
    simp only [List.set_cons_zero, List.flatten_cons, Nat.zero_mul, List.take_zero, List.nil_append, Nat.zero_add]
    rw [List.drop_append, List.drop_eq_nil_of_le (by omega)]
    simp [hx]
  | x :: r, i + 1, hs, h => by
    have hx := hs x (by simp)
    have ih := flat_set hv (els := r) (i := i) (fun e he => hs e (by simp [he])) (by simpa using h)
    simp only [List.set_cons_succ, List.flatten_cons, ih]
    have e1 : (i + 1) * sz = x.length + i * sz := by rw [Nat.add_mul, Nat.one_mul, hx]; omega
    have e2 : (i + 1) * sz + sz = x.length + (i * sz + sz) := by omega
    rw [e2, e1]
    simp only [List.take_append, List.drop_append, Nat.add_sub_cancel_left]
    rw [List.take_of_length_le (l := x) (by omega), show List.drop (x.length + (i * sz + sz)) x = [] from List.drop_eq_nil_of_le (by omega)]
    simp
theorem splice_take (L vs : List Value) (a N : Nat) (h1 : a + vs.length ≤ N) (h2 : N ≤ L.length) : (L.take a ++ vs ++ L.drop (a + vs.length)).take N = (L.take N).take a ++ vs ++ (L.take N).drop (a + vs.length) := by
  have hl : (L.take a ++ vs).length = a + vs.length := by simp; omega
  rw [List.take_append, hl, List.take_of_length_le (by rw [hl]; omega), List.take_take, Nat.min_eq_left (by omega), List.drop_take]

theorem OpX_store {o : Oper} {t : TypeId} {x y : Operand} {i : Int} {k : SV → List OB → Prop} {te : TI} {r : SV} {vs : List Value} (j : Nat) (hT : TabOk C.P C.T) (ho : o.op = .store t x y) (hj : nth ob j = some (.row e sz A n c els))
    (ht : lookT C.T t = some te) (hz : te.zero.length = sz) (hv : valsP r.cells = some vs) (hchk : (Nat.beq vs.length sz && ones r.cells && Nat.ble 1 sz) = true) (h1 : i.toNat < n)
    (hk : force (setN ob j (.row e sz A n c (els.set i.toNat vs))) fun ob => k (.v undef) ob) : OpX C o [.v (.pointer (some (elA A i sz))), r] ob k := by
  unfold OpX
  intro σ fp w ρ hm hx
  simp only [Bool.and_eq_true] at hchk
  obtain ⟨⟨hc1, hc2⟩, hc3⟩ := hchk
  have hc1 := Nat.eq_of_beq_eq_true hc1
  have hc3 := Nat.le_of_ble_eq_true hc3
  obtain ⟨hid, hti⟩ := hT t te ht
  obtain ⟨⟨hown, hlen, hsize, hone, hF⟩, hjl⟩ := nth_row hm hj
  have hrc := valsP_spec hv
  have hcv := cells_val σ r
  rw [hrc, vals_v] at hcv
  have hov := ones_spec σ hc2
  rw [hrc, vals_v] at hov
  rcases hown.2 with ⟨_, h0⟩ | ⟨g, cap, cur, hsl, hbg, hg, hnc, hcm, hcs, htake⟩
  · omega
  simp at hsl
  obtain ⟨rfl, rfl⟩ := hsl
  rw [ho] at hx
  simp [Op.operands, SV.vals, SV.val, elA] at hx
  have hle : i.toNat * sz + sz ≤ n * sz := by
    have : (i.toNat + 1) * sz ≤ n * sz := Nat.mul_le_mul_right _ (by omega)
    rw [Nat.add_mul, Nat.one_mul] at this
    exact this
  have hle2 : n * sz ≤ c * sz := Nat.mul_le_mul_right _ hnc
  have hst := run_storeCells_at (P := C.P) g (i.toNat * sz) e vs 0 cur w hg (by rw [hcs, hc1]; omega) hov
  simp only [Nat.add_zero] at hst
  have hsz := hti.run_size w
  rw [hid, hz] at hsz
  obtain ⟨dst, op, ty, pos, after, guard⟩ := o
  simp only at ho
  subst ho
  have hex : (execOp ρ ⟨dst, .store t x y, ty, pos, after, guard⟩).run C.P w = .ok .skip (w.setRow g (cur.toList.take (i.toNat * sz) ++ vs ++ cur.toList.drop (i.toNat * sz + vs.length)).toArray) := by
    simp only [execOp, Instr.storeAt, hx.1, hx.2, Instr.sureAddr, Sem.run_bind, Sem.run_pure, Result.andThen_ok, storeVar, hsz, hcv, List.size_toArray, hc1, ne_eq, not_true, if_false, Nat.zero_add]
    rw [hc1] at hst
    simp only [hst, Result.andThen_ok]
  rw [hex]
  have hrow := setRow_heap w g cur (cur.toList.take (i.toNat * sz) ++ vs ++ cur.toList.drop (i.toNat * sz + vs.length)).toArray e (0, 0) hg
  have hfl := flat_set hc1 hsize (i := i.toNat) (by omega)
  have hfs : ∀ q ∈ els.set i.toNat vs, q.length = sz := by
    intro q hq
    rcases List.mem_or_eq_of_mem_set hq with h | h
    · exact hsize q h
    · rw [h, hc1]
  have hown' : (w.setRow g (cur.toList.take (i.toNat * sz) ++ vs ++ cur.toList.drop (i.toNat * sz + vs.length)).toArray).ownsRow 0 e sz (.slice (some ⟨g, 0, none⟩) n c) n (els.set i.toNat vs).flatten := by
    refine ⟨by rw [flat_len hfs]; simp [hlen], .inr ⟨g, c, _, rfl, Nat.zero_le _, hrow, hnc, hcm, ?_, ?_⟩⟩
    · simp only [List.size_toArray, List.length_append, List.length_take, List.length_drop, Array.length_toList]
      omega
    · rw [hfl, ← htake]
      have := splice_take cur.toList vs (i.toNat * sz) (n * sz) (by omega) (by rw [Array.length_toList]; omega)
      rw [hc1] at this ⊢
      simpa using this
  have hsz2 : w.heap.size ≤ (w.setRow g (cur.toList.take (i.toNat * sz) ++ vs ++ cur.toList.drop (i.toNat * sz + vs.length)).toArray).heap.size := by simp [World.setRow]
  have hsame : ∀ q, q < w.heap.size → ¬ fp j q → (w.setRow g (cur.toList.take (i.toNat * sz) ++ vs ++ cur.toList.drop (i.toNat * sz + vs.length)).toArray).heap[q]? = w.heap[q]? := by
    intro q hq hnq
    have : q ≠ g := fun e' => hnq ((hF q).2 (by simp [Value.ownBlock, e']))
    simp [World.setRow, Array.getElem?_modify, this.symm]
  have hM := hm.change (w' := w.setRow g (cur.toList.take (i.toNat * sz) ++ vs ++ cur.toList.drop (i.toNat * sz + vs.length)).toArray) hjl (.row e sz (some ⟨g, 0, none⟩) n c (els.set i.toNat vs)) (fp j) ⟨hown', by simp [hlen], hfs, (by
      intro q hq
      obtain ⟨l, hl, hql⟩ := List.mem_flatten.1 hq
      rcases List.mem_or_eq_of_mem_set hl with h | h
      · exact hone q (List.mem_flatten.2 ⟨l, h, hql⟩)
      · rw [h] at hql; exact hov q hql), hF⟩ (fun i hi => .inl hi) (by
      intro q hq
      have := hm.hi j hjl q hq
      simpa [World.setRow] using this) rfl rfl rfl hsz2 hsame (fun _ => Nat.le_refl _)
  rw [force_eq, setN_eq] at hk
  exact ⟨.v undef, _, σ, _, hk, fun _ _ => rfl, by simp, rfl, trivial, hM, Frm.changed hjl (by simp) (fun i hi => .inl hi) hsz2 hsame⟩

/-! ### a call that returns a new slice -/
/-- the result is x A c; the slice (A, n, c) is new -/
def CallR (P : Program) (f : FuncId) (args : List SV) (pre : World → Prop) (e sz : Nat) (els : List (List Value)) (x : Option Addr → Nat → SV) : Prop :=
  Entr P f ∧ (∀ A c, (x A c).wf 0) ∧ els.length * sz < 2 ^ 60 ∧ (∀ q ∈ els, q.length = sz) ∧ (∀ q ∈ els.flatten, Value.oneCell' q = true) ∧
    ∀ σ w, pre w → Calls P f (SV.vals σ args).toArray w fun en w' => ∃ A c, en = .returned ((x A c).val σ) ∧ w'.ownsRow w.heap.size e sz (.slice A els.length c) els.length els.flatten ∧ Below w.heap.size w w'
theorem CallX_r {f : FuncId} {args : List SV} {k : SV → List OB → Prop} {x : Option Addr → Nat → SV} {pre : World → Prop} (h : CallR C.P f args pre e sz els x) (hp : ∀ σ fp w, Mem C σ fp ob w → pre w) (hk : ∀ A c, force (ob ++ [.row e sz A els.length c els]) fun ob => k (x A c) ob) (hd : C.d = false := by rfl) : CallX C f args ob k := by
  simp only [force_eq] at hk
  obtain ⟨h1, h2, _, h3, h4, h5⟩ := h
  unfold CallX
  refine ⟨h1, fun σ fp w hm => (h5 σ w (hp σ fp w hm)).mono ?_⟩
  rintro en w' ⟨A, c, rfl, ho, hb⟩
  exact ⟨_, rfl, Goes.pushRow hm hb ho rfl h3 h4 (x A c) (fun σ' => by rw [SV.val_ext (n := 0) (by simp) (x A c) (h2 A c)]) (h2 A c) (hk A c) (fun h => by rw [hd] at h; cases h)⟩

/-! ### a slice that is read, whether it came in or is the call's own -/
def rdO (w0 : World) (A : Option Addr) (n sz : Nat) (els : List (List Value)) : OB := .res fun w F =>
  (ArgSl w0 A n sz els ∧ ∀ i, ¬ F i) ∨ (ArgSl w A n sz els ∧ ∀ b o s, A = some ⟨b, o, s⟩ → F b)
theorem rdO_of {w0 : World} (h : ArgSl w A n sz els) {F : Nat → Prop} (hF : ∀ b o s, A = some ⟨b, o, s⟩ → F b) {σ : Nat → Nat} {m b : Nat} : (rdO w0 A n sz els).at σ m w b F := by
  refine ⟨.inr ⟨h, hF⟩, fun w' hw => .inr ⟨⟨h.len, h.size, h.one, fun hn => ?_⟩, hF⟩⟩
  obtain ⟨b, o, hA, hc⟩ := h.at_ hn
  refine ⟨b, o, hA, fun i x hi j v hj => ?_⟩
  rw [World.cell?_of_block (w := w) (hw b (hF b o none hA))]
  exact hc i x hi j v hj
theorem rdO_row {w0 : World} {r : List Nat} {m : Nat} : OB.is r m (.row e sz A n c els) (rdO w0 A n sz els) := by
  intro w F h
  obtain ⟨h1, h2, h3, h4, h5⟩ := h
  exact rdO_of (σ := fun _ => 0) (m := 0) (b := 0) (ArgSl.of_owns h1 h2 h3 h4) fun b o s hA => (h5 b).2 (by rw [hA]; rfl)
theorem ArgSl.rd (j : Nat) (hz : sz ≠ 0) (hM : C.M = fun _ => False) (h : nth ob j = some (rdO C.w0 A n sz els)) : ∀ σ fp w, Mem C σ fp ob w → ArgSl w A n sz els := by
  intro σ fp w hm
  rw [nth_eq] at h
  rcases (hm.at_ j _ h).1 with ⟨h1, _⟩ | ⟨h1, _⟩
  · exact h1.mem hz hM σ fp w hm
  · exact h1
theorem Mem.addO (h : Mem C σ fp ob w) (o : OB) (ho : ∀ σ n b, o.at σ n w b fun _ => False) : ∃ σ' fp', (∀ j, j < ob.length → σ' j = σ j) ∧ Mem C σ' fp' (ob ++ [o]) w :=
  ⟨_, _, fun j hj => by simp [show j ≠ ob.length by omega], h.pushO (Below.refl _ _) o 0 (fun _ => False) (ho _ _ _) (fun i h => h.elim) (fun _ => Nat.le_refl _)⟩
theorem LoopX_addO {cd : Code} {tm : List (Nat × SV)} {K : Kx} (o : OB) (ho : ∀ σ fp w, Mem C σ fp ob w → ∀ σ n b, o.at σ n w b fun _ => False) (h : LoopX C cd tm (ob ++ [o]) K) : LoopX C cd tm ob K := by
  unfold LoopX at *
  intro σ fp a w hr
  obtain ⟨σ', fp', hσ, hm'⟩ := hr.mem.addO o (ho σ fp w hr.mem)
  exact h σ' fp' a w ⟨hr.tm.ext hσ (by simp), hm'⟩
/-- a slice that came in, as an object -/
theorem LoopX_rd {cd : Code} {tm : List (Nat × SV)} {K : Kx} (hA : ArgSl C.w0 A n sz els) (h : force (ob ++ [rdO C.w0 A n sz els]) fun ob => LoopX C cd tm ob K) : LoopX C cd tm ob K :=
  LoopX_addO (rdO C.w0 A n sz els) (fun _ _ _ _ _ _ _ => ⟨.inl ⟨hA, fun _ h => h⟩, fun _ _ => .inl ⟨hA, fun _ h => h⟩⟩) (by rwa [force_eq] at h)

theorem CallR.of {P : Program} {T : List TI} {f : FuncId} {fn : Func} {cd : Code} {args : List SV} {x : Option Addr → Nat → SV} {pre : World → Prop} (hf : P.funcs[f]? = some fn) (hb : fn.body = some cd) (hT : TabOk P T) (hname : (fn.name == "runtime.NumGoroutine") = false) (hl : Nat.ble args.length fn.ntmps = true) (hl' : Nat.ble args.length 300 = true)
    (hw : SV.wfs 0 args) (hx : ∀ A c, (x A c).wf 0) (he : els.length * sz < 2 ^ 60) (hs : ∀ q ∈ els, q.length = sz) (ho : ∀ q ∈ els.flatten, Value.oneCell' q = true)
    (h : ∀ w, pre w → force (argsL lits args) fun tm => xcode ⟨P, T, fn.ntmps, w, fun _ => False, 0, id, false⟩ cd tm [] (endX ⟨P, T, fn.ntmps, w, fun _ => False, 0, id, false⟩ (fun en w' => ∃ A c, (∀ σ, en = .returned ((x A c).val σ)) ∧ w'.ownsRow w.heap.size e sz (.slice A els.length c) els.length els.flatten ∧ Below w.heap.size w w') fn.results.toList)) : CallR P f args pre e sz els x := by
  refine ⟨Entr.of hf hname hb, hx, he, hs, ho, fun σ w hp => ?_⟩
  refine (calls_of_x (C := ⟨P, T, fn.ntmps, w, fun _ => False, 0, id, false⟩) (σ := σ) (ob := []) hT hf hb rfl (Nat.le_of_ble_eq_true hl) hw (Mem.nil _ rfl σ (fun _ _ => False)) (by have := h w hp; rwa [force_eq, argsL_eq (Nat.le_of_ble_eq_true hl')] at this)).mono ?_
  rintro en w' ⟨A, c, h1, h2, h3⟩
  exact ⟨A, c, h1 σ, h2, h3⟩
/-- the end: the slice that is returned is the object j -/
theorem Fin_row {y : SV} {x : Option Addr → Nat → SV} (j : Nat) (hM : C.M = fun _ => False) (hj : nth ob j = some (.row e sz A els.length c els)) (hy : y = x A c) (hw : (x A c).wf 0) :
    Fin C (fun en w' => ∃ A c, (∀ σ, en = .returned ((x A c).val σ)) ∧ w'.ownsRow C.w0.heap.size e sz (.slice A els.length c) els.length els.flatten ∧ Below C.w0.heap.size C.w0 w') y ob := by
  subst hy
  unfold Fin
  intro σ fp w hm _
  obtain ⟨⟨h1, h2, h3, h4, h5⟩, hjl⟩ := nth_row hm hj
  refine ⟨A, c, fun σ' => by rw [SV.val_ext (n := 0) (by simp) _ hw], ⟨h1.1, ?_⟩, ?_⟩
  · rcases h1.2 with h | ⟨g, cap, cur, hs, _, hr⟩
    · exact .inl h
    · refine .inr ⟨g, cap, cur, hs, ?_, hr⟩
      have hf := (h5 g).2 (by rw [hs]; rfl)
      rcases hm.lo j hjl g hf with h | h
      · rw [hM] at h; exact h.elim
      · exact h
  · have := hm.kept
    rw [hM] at this
    exact this.to_below
theorem Fin_rowN {y : SV} {x : Option Addr → Nat → SV} {m : Nat} (j : Nat) (hM : C.M = fun _ => False) (hm : m = els.length) (hj : nth ob j = some (.row e sz A m c els)) (hy : y = x A c) (hw : (x A c).wf 0) :
    Fin C (fun en w' => ∃ A c, (∀ σ, en = .returned ((x A c).val σ)) ∧ w'.ownsRow C.w0.heap.size e sz (.slice A els.length c) els.length els.flatten ∧ Below C.w0.heap.size C.w0 w') y ob := by
  subst hm
  exact Fin_row j hM hj hy hw
end
end Go.Proofs.YtadichckbogcjaaDoor.En

namespace Go.Proofs.YtadichckbogcjaaDoor.En
open Go.RowKit

structure Sil where
  s : Nat
  d : Nat
  t : TypeId
  zs : List Value

def opens (C : Ctx) (es : List Edge) (pd : List SP) : List Sil → List (Nat × SV) → List OB → (List Sil → List (Nat × SV) → List OB → Prop) → Prop
  | [], tm, ob, k => k [] tm ob
  | h :: r, tm, ob, k => match depL es h.s with
    | true => newBox h.t (h.zs.map .v) ob fun x ob => vX C ob pd fun _ => putT C (some h.d) x tm fun tm => opens C es pd r tm ob k
    | false => opens C es pd r tm ob fun hs tm ob => k (h :: hs) tm ob
def opensAll (C : Ctx) : List Sil → List (Nat × SV) → List OB → (List (Nat × SV) → List OB → Prop) → Prop
  | [], tm, ob, k => k tm ob
  | h :: r, tm, ob, k => newBox h.t (h.zs.map .v) ob fun x ob => putT C (some h.d) x tm fun tm => opensAll C r tm ob k

def runT (C : Ctx) (o : Oper) (i : Nat) (pd : List SP) (tm : List (Nat × SV)) (ob : List OB) (kk : List SP → List (Nat × SV) → List OB → Prop) : Prop :=
  match isVal o.op with
  | true => xval C o tm ob fun x => putT C o.dst x tm fun tm' => match pureOp o.op with
    | true => kk pd tm' ob
    | false => andX (xval C o tm ob fun y => y = x) fun _ => kk (⟨i, o, tm, x⟩ :: pd) tm' ob
  | false => xop C o tm ob fun x ob' => filtK o.after.toList pd fun pd' => vX C ob' pd' fun _ => putT C o.dst x tm fun tm' => kk pd' tm' ob'

def xschT (C : Ctx) (full : List Oper) : List Nat → List Sil → List SP → List (Nat × SV) → List OB → (List (Nat × SV) → List OB → Prop) → Prop
  | [], hs, _, tm, ob, k => opensAll C hs tm ob k
  | i :: r, hs, pd, tm, ob, k => match nth full i with
    | none => False
    | some o => opens C o.after.toList pd hs tm ob fun hs tm ob => match o.guard with
      | none => runT C o i pd tm ob fun pd tm ob => xschT C full r hs pd tm ob k
      | some (j, want) => match nth full j with
        | some g => match g.dst with
          | some d => match look tm d with
            | some (.v (.bool b)) => match want with
              | true => xif b (fun _ => runT C o i pd ((d, .v (.bool true)) :: tm) ob fun pd tm ob => xschT C full r hs pd tm ob k) (fun _ => skipS C o pd ((d, .v (.bool false)) :: tm) ob fun pd tm ob => xschT C full r hs pd tm ob k)
              | false => xif b (fun _ => skipS C o pd ((d, .v (.bool true)) :: tm) ob fun pd tm ob => xschT C full r hs pd tm ob k) (fun _ => runT C o i pd ((d, .v (.bool false)) :: tm) ob fun pd tm ob => xschT C full r hs pd tm ob k)
            | some (.v (.tuple _)) => skipS C o pd tm ob fun pd tm ob => xschT C full r hs pd tm ob k
            | _ => False
          | none => False
        | none => False

section
variable {C : Ctx} {ob : List OB} {σ : Nat → Nat} {fp : Nat → Nat → Prop} {a : Act} {w : World}

theorem Mem.adopt (h : Mem C σ fp ob w) (o : OB) (b : Nat) (F : Nat → Prop) (ho : o.at (fun j => if j = ob.length then b else σ j) (ob.length + 1) w b F) (hF : ∀ i, F i → (C.M i ∨ C.w0.heap.size ≤ i) ∧ i < w.heap.size ∧ ∀ j, j < ob.length → ¬ fp j i) :
    Mem C (fun j => if j = ob.length then b else σ j) (fun j => if j = ob.length then F else fp j) (ob ++ [o]) w := by
  have hσ : ∀ j, j < ob.length → (fun j => if j = ob.length then b else σ j) j = σ j := fun j hj => by simp [show j ≠ ob.length by omega]
  refine ⟨?_, ?_, ?_, ?_, h.kept, ⟨by have := h.pin.1; simp; omega, fun j hj => (hσ j (Nat.lt_of_lt_of_le hj h.pin.1)).trans (h.pin.2 j hj)⟩, h.drw⟩
  · intro k o' hk
    by_cases hlt : k < ob.length
    · rw [List.getElem?_append_left hlt] at hk
      simp only [show k ≠ ob.length by omega, if_false]
      exact OB.at_ext (h.at_ k o' hk) hσ (by simp) fun i hi => rfl
    · have hlen := (List.getElem?_eq_some_iff.1 hk).1
      simp at hlen
      obtain rfl : k = ob.length := by omega
      simp at hk
      subst hk
      simp only [if_true]
      simpa using ho
  · intro j k hj hk hne i hi hi'
    simp at hj hk
    by_cases e1 : j = ob.length <;> by_cases e2 : k = ob.length
    · omega
    · simp only [e1, e2, if_true, if_false] at hi hi'
      exact (hF i hi).2.2 k (by omega) hi'
    · simp only [e1, e2, if_true, if_false] at hi hi'
      exact (hF i hi').2.2 j (by omega) hi
    · simp only [e1, e2, if_false] at hi hi'
      exact h.disj j k (by omega) (by omega) hne i hi hi'
  · intro k hk i hi
    simp at hk
    by_cases e : k = ob.length
    · simp only [e, if_true] at hi
      exact (hF i hi).1
    · simp only [e, if_false] at hi
      exact h.lo k (by omega) i hi
  · intro k hk i hi
    simp at hk
    by_cases e : k = ob.length
    · simp only [e, if_true] at hi
      exact (hF i hi).2.1
    · simp only [e, if_false] at hi
      exact h.hi k (by omega) i hi

structure Hid (C : Ctx) (full : List Oper) (hs : List Sil) (sil : List Nat) (β : Nat → Nat) (tm : List (Nat × SV)) (n : Nat) (fp : Nat → Nat → Prop) (a : Act) (w : World) : Prop where
  op : ∀ h ∈ hs, ∃ o ti, full.toArray[h.s]? = some o ∧ o.op = .alloc h.t ∧ o.dst = some h.d ∧ o.guard = none ∧ lookT C.T h.t = some ti ∧ ti.zero = h.zs ∧ h.d < C.n
  free : ∀ h ∈ hs, look tm h.d = none
  pw : hs.Pairwise fun h h' => h.s ≠ h'.s ∧ h.d ≠ h'.d
  in_ : ∀ s ∈ sil, ∃ h ∈ hs, h.s = s
  at_ : ∀ h ∈ hs, h.s ∉ sil → a.tmps.getD h.d undef = .pointer (some ⟨β h.s, 0, none⟩) ∧ w.heap[β h.s]? = some (.cells h.zs.toArray h.t (0, 0)) ∧ C.w0.heap.size ≤ β h.s ∧ ∀ j, j < n → ¬ fp j (β h.s)
  inj : ∀ h ∈ hs, ∀ h' ∈ hs, h.s ∉ sil → h'.s ∉ sil → β h.s = β h'.s → h.s = h'.s

def PX (C : Ctx) (ob : List OB) (pd : List SP) : Prop := ∀ s ∈ pd, xval C s.o s.tm ob fun x => x = s.x

theorem PInv.now (hT : TabOk C.P C.T) {ops : Array Oper} {pd : List SP} {pend : List Pend} (h : PInv C ops σ ob.length pd pend) (hx : PX C ob pd) (hm : Mem C σ fp ob w) : ∀ p ∈ pend, YW C.P ops p w := by
  intro p hp
  rcases h.2 p hp with h1 | ⟨s, hs, h1, h2, h3, h4, h5, h6⟩
  · exact h1 w
  · obtain ⟨x, hxx, hrun, _⟩ := xval_sound hT (hx s hs) h4 hm
    subst hxx
    exact ⟨s.o, h2, .inl ⟨h3, by rw [h5]; exact hrun⟩⟩
theorem PInv.ext {ops : Array Oper} {n m : Nat} {σ' : Nat → Nat} {pd : List SP} {pend : List Pend} (h : PInv C ops σ n pd pend) (hσ : ∀ j, j < n → σ' j = σ j) (hn : n ≤ m) : PInv C ops σ' m pd pend := by
  refine ⟨h.1, fun p hp => ?_⟩
  rcases h.2 p hp with h1 | ⟨s, hs, h1, h2, h3, h4, h5, h6⟩
  · exact .inl h1
  · exact .inr ⟨s, hs, h1, h2, h3, h4.ext hσ hn, by rw [h5, SV.val_ext hσ s.x h6], SV.wf_mono hn _ h6⟩

theorem Tm.see {m d : Nat} {x : SV} {tm : List (Nat × SV)} (h : Tm C σ m tm a) (hx : a.tmps.getD d undef = x.val σ) (hw : x.wf m) : Tm C σ m ((d, x) :: tm) a := by
  refine ⟨h.size, h.defers, fun t y hl => ?_⟩
  unfold look at hl
  split at hl
  · rename_i e
    have := Nat.eq_of_beq_eq_true e
    subst this
    simp at hl
    subst hl
    exact ⟨hx, hw⟩
  · exact h.val t y hl

theorem Hid.take {full : List Oper} {kept r : List Sil} {h : Sil} {sil : List Nat} {β : Nat → Nat} {tm : List (Nat × SV)} (hh : Hid C full (kept ++ h :: r) sil β tm ob.length fp a w) (hn : h.s ∉ sil) (hr : Rel C tm ob σ fp a w) :
    ∃ σ' fp', (∀ j, j < ob.length → σ' j = σ j) ∧ Rel C ((h.d, .p ob.length 0) :: tm) (ob ++ [.box h.t (h.zs.map .v)]) σ' fp' a w ∧ Hid C full (kept ++ r) sil β ((h.d, .p ob.length 0) :: tm) (ob ++ [OB.box h.t (h.zs.map .v)]).length fp' a w := by
  have hmem : h ∈ kept ++ h :: r := by simp
  obtain ⟨h1, h2, h3, h4⟩ := hh.at_ h hmem hn
  have hlt : β h.s < w.heap.size := (Array.getElem?_eq_some_iff.1 h2).1
  have hσ : ∀ j, j < ob.length → (fun j => if j = ob.length then β h.s else σ j) j = σ j := fun j hj => by simp [show j ≠ ob.length by omega]
  have hsub : ∀ x ∈ kept ++ r, x ∈ kept ++ h :: r := by
    intro x hx
    simp at hx ⊢
    rcases hx with hx | hx
    · exact .inl hx
    · exact .inr (.inr hx)
  have hpw := hh.pw
  rw [List.pairwise_append, List.pairwise_cons] at hpw
  have hne : ∀ x ∈ kept ++ r, x.s ≠ h.s ∧ x.d ≠ h.d := by
    intro x hx
    rcases List.mem_append.1 hx with hx | hx
    · exact hpw.2.2 x hx h (by simp)
    · exact ⟨(hpw.2.1.1 x hx).1.symm, (hpw.2.1.1 x hx).2.symm⟩
  refine ⟨_, _, hσ, ⟨(hr.tm.ext hσ (by simp)).see (by simp [SV.val, h1]) (by simp [SV.wf]), hr.mem.adopt (.box h.t (h.zs.map .v)) (β h.s) (· = β h.s) ⟨by rw [vals_v]; exact h2, fun i => Iff.rfl, wfs_v _ _⟩ ?_⟩, ?_⟩
  · rintro i rfl
    exact ⟨.inr h3, hlt, h4⟩
  · refine ⟨fun x hx => hh.op x (hsub x hx), fun x hx => ?_, ?_, fun s hs => ?_, fun x hx hxn => ?_, fun x hx y hy => hh.inj x (hsub x hx) y (hsub y hy)⟩
    · unfold look
      have : Nat.beq h.d x.d = false := by
        cases hq : Nat.beq h.d x.d with
        | false => rfl
        | true => exact ((hne x hx).2 (Nat.eq_of_beq_eq_true hq).symm).elim
      rw [this]
      exact hh.free x (hsub x hx)
    · rw [List.pairwise_append]
      exact ⟨hpw.1, hpw.2.1.2, fun x hx y hy => hpw.2.2 x hx y (by simp [hy])⟩
    · obtain ⟨x, hx, hxs⟩ := hh.in_ s hs
      refine ⟨x, ?_, hxs⟩
      simp at hx ⊢
      rcases hx with hx | rfl | hx
      · exact .inl hx
      · exact (hn (hxs ▸ hs)).elim
      · exact .inr hx
    · obtain ⟨g1, g2, g3, g4⟩ := hh.at_ x (hsub x hx) hxn
      refine ⟨g1, g2, g3, fun j hj hf => ?_⟩
      by_cases e : j = ob.length
      · simp only [e, if_true] at hf
        exact (hne x hx).1 (hh.inj x (hsub x hx) h hmem hxn hn hf)
      · simp only [e, if_false] at hf
        simp at hj
        exact g4 j (by omega) hf

theorem putT_some {d : Nat} {x : SV} {tm : List (Nat × SV)} {k : List (Nat × SV) → Prop} (h : putT C (some d) x tm k) : k ((d, x) :: tm) := by
  unfold putT at h
  simp only at h
  split at h
  · exact h
  · exact h.elim

theorem opens_sound {full : List Oper} {sil : List Nat} {β : Nat → Nat} {es : List Edge} {pd : List SP} {pend : List Pend} (hes : ∀ s ∈ sil, depL es s = false) : ∀ {r : List Sil} {kept : List Sil} {tm : List (Nat × SV)} {ob : List OB} {σ : Nat → Nat} {fp : Nat → Nat → Prop} {k : List Sil → List (Nat × SV) → List OB → Prop},
    opens C es pd r tm ob k → Rel C tm ob σ fp a w → Hid C full (kept ++ r) sil β tm ob.length fp a w → PX C ob pd → PInv C full.toArray σ ob.length pd pend →
    ∃ r' tm' ob' σ' fp', k r' tm' ob' ∧ Rel C tm' ob' σ' fp' a w ∧ Hid C full (kept ++ r') sil β tm' ob'.length fp' a w ∧ PX C ob' pd ∧ PInv C full.toArray σ' ob'.length pd pend ∧ ∀ x ∈ r', x ∈ r
  | [], kept, tm, ob, σ, fp, k, h, hr, hh, hx, hp => ⟨[], tm, ob, σ, fp, h, hr, hh, hx, hp, fun _ h => h⟩
  | g :: r, kept, tm, ob, σ, fp, k, h, hr, hh, hx, hp => by
    unfold opens at h
    split at h
    · rename_i hd
      have hn : g.s ∉ sil := fun hs => by rw [hes _ hs] at hd; cases hd
      unfold newBox at h
      have h1 := lenK_spec h
      simp only [force_eq] at h1
      obtain ⟨h2, h3⟩ := vX_spec h1
      obtain ⟨σ', fp', hσ, hr', hh'⟩ := hh.take hn hr
      obtain ⟨r', tm', ob', σ', fp', h4, h5, h6, h7, h8, h9⟩ := opens_sound hes (putT_some h3) hr' hh' h2 (hp.ext hσ (by simp))
      exact ⟨r', tm', ob', σ', fp', h4, h5, h6, h7, h8, fun x hx => List.mem_cons_of_mem _ (h9 x hx)⟩
    · have e : kept ++ g :: r = (kept ++ [g]) ++ r := by simp
      rw [e] at hh
      obtain ⟨r', tm', ob', σ', fp', h1, h2, h3, h4, h5, h6⟩ := opens_sound hes h hr hh hx hp
      refine ⟨g :: r', tm', ob', σ', fp', h1, h2, by simpa using h3, h4, h5, fun x hx => ?_⟩
      rcases List.mem_cons.1 hx with rfl | hx
      · simp
      · exact List.mem_cons_of_mem _ (h6 x hx)
theorem opensAll_sound {full : List Oper} {β : Nat → Nat} : ∀ {r : List Sil} {tm : List (Nat × SV)} {ob : List OB} {σ : Nat → Nat} {fp : Nat → Nat → Prop} {k : List (Nat × SV) → List OB → Prop},
    opensAll C r tm ob k → Rel C tm ob σ fp a w → Hid C full r [] β tm ob.length fp a w → ∃ tm' ob' σ' fp', k tm' ob' ∧ Rel C tm' ob' σ' fp' a w
  | [], tm, ob, σ, fp, k, h, hr, hh => ⟨tm, ob, σ, fp, h, hr⟩
  | g :: r, tm, ob, σ, fp, k, h, hr, hh => by
    unfold opensAll newBox at h
    have h1 := lenK_spec h
    simp only [force_eq] at h1
    obtain ⟨σ', fp', hσ, hr', hh'⟩ := Hid.take (kept := []) hh (by simp) hr
    exact opensAll_sound (putT_some h1) hr' hh'

theorem pw_sep : ∀ {hs : List Sil}, (hs.Pairwise fun h h' => h.s ≠ h'.s ∧ h.d ≠ h'.d) → ∀ {g h : Sil}, g ∈ hs → h ∈ hs → g ≠ h → g.s ≠ h.s ∧ g.d ≠ h.d
  | [], _, _, _, hg, _, _ => by simp at hg
  | x :: r, hp, g, h, hg, hh, hne => by
    rw [List.pairwise_cons] at hp
    rcases List.mem_cons.1 hg with e1 | hg' <;> rcases List.mem_cons.1 hh with e2 | hh'
    · exact (hne (e1.trans e2.symm)).elim
    · rw [e1]
      exact hp.1 h hh'
    · rw [e2]
      have := hp.1 g hg'
      exact ⟨this.1.symm, this.2.symm⟩
    · exact pw_sep hp.2 hg' hh' hne
theorem Hid.put {tm : List (Nat × SV)} {full : List Oper} {hs : List Sil} {sil : List Nat} {β : Nat → Nat} {n : Nat} (hh : Hid C full hs sil β tm n fp a w) {d : Option Nat} (hd : ∀ h ∈ hs, d ≠ some h.d) (v : Value) {tm' : List (Nat × SV)} (hf : ∀ h ∈ hs, look tm' h.d = none) : Hid C full hs sil β tm' n fp (a.put d v) w := by
  refine ⟨hh.op, hf, hh.pw, hh.in_, fun h hm hn => ?_, hh.inj⟩
  obtain ⟨h1, h2⟩ := hh.at_ h hm hn
  refine ⟨?_, h2⟩
  rw [← h1]
  cases d with
  | none => rfl
  | some d =>
    have : d ≠ h.d := fun e => hd h hm (by rw [e])
    simp [Act.put, Array.getElem?_setIfInBounds_ne this]
theorem look_cons_ne {d t : Nat} {x : SV} {tm : List (Nat × SV)} (h : d ≠ t) : look ((d, x) :: tm) t = look tm t := by
  rw [look]
  cases hq : Nat.beq d t with
  | false => rfl
  | true => exact (h (Nat.eq_of_beq_eq_true hq)).elim
/-- a result is laid down -/
theorem putT_hid {tm : List (Nat × SV)} {full : List Oper} {hs : List Sil} {sil : List Nat} {β : Nat → Nat} {d : Option Nat} {x : SV} {k : List (Nat × SV) → Prop} (h : putT C d x tm k) {m : Nat} (ht : Tm C σ m tm a) (hx : x.wf m) (hd : ∀ h ∈ hs, d ≠ some h.d) {n : Nat} (hh : Hid C full hs sil β tm n fp a w) :
    ∃ tm', k tm' ∧ Tm C σ m tm' (a.put d (x.val σ)) ∧ Hid C full hs sil β tm' n fp (a.put d (x.val σ)) w := by
  unfold putT at h
  cases d with
  | none => exact ⟨tm, h, ht, hh.put (d := none) (by simp) _ hh.free⟩
  | some d =>
    simp only at h
    split at h
    · rename_i hlt
      refine ⟨_, h, ht.put (Nat.le_of_ble_eq_true hlt) hx, hh.put hd _ fun g hg => ?_⟩
      rw [look_cons_ne fun e => hd g hg (by rw [e])]
      exact hh.free g hg
    · exact h.elim
theorem Hid.goes {tm : List (Nat × SV)} {full : List Oper} {hs : List Sil} {sil : List Nat} {β : Nat → Nat} {n : Nat} (hh : Hid C full hs sil β tm n fp a w) {n' : Nat} {fp' : Nat → Nat → Prop} {w' : World} (hf : Frm C n fp w n' fp' w') : Hid C full hs sil β tm n' fp' a w' := by
  refine ⟨hh.op, hh.free, hh.pw, hh.in_, fun h hm hn => ?_, hh.inj⟩
  obtain ⟨h1, h2, h3, h4⟩ := hh.at_ h hm hn
  have hlt : β h.s < w.heap.size := (Array.getElem?_eq_some_iff.1 h2).1
  refine ⟨h1, (hf.old _ h3 hlt h4).trans h2, h3, fun j hj hi => ?_⟩
  obtain ⟨j', h5, h6⟩ := hf.new j hj _ hi h3 hlt
  exact h4 j' h5 h6
/-- a variable is made ahead of its use -/
theorem Hid.make {tm : List (Nat × SV)} {full : List Oper} {hs : List Sil} {sil : List Nat} {β : Nat → Nat} {h : Sil} (hh : Hid C full hs sil β tm ob.length fp a w) (hr : Rel C tm ob σ fp a w) (hnd : sil.Nodup) (hm : h ∈ hs) (hs' : h.s ∈ sil) :
    Rel C tm ob σ fp (a.put (some h.d) (.pointer (some ⟨w.heap.size, 0, none⟩))) (w.alloc (.cells h.zs.toArray h.t)) ∧
      Hid C full hs (sil.erase h.s) (fun x => if x = h.s then w.heap.size else β x) tm ob.length fp (a.put (some h.d) (.pointer (some ⟨w.heap.size, 0, none⟩))) (w.alloc (.cells h.zs.toArray h.t)) := by
  have hb : Below w.heap.size w (w.alloc (.cells h.zs.toArray h.t)) := (Below.refl _ _).alloc (Nat.le_refl _) _
  obtain ⟨o, ti, ho1, ho2, ho3, ho4, ho5, ho6, ho7⟩ := hh.op h hm
  have uniq : ∀ g ∈ hs, g.s = h.s → g = h := by
    intro g hg e
    cases Classical.em (g = h) with
    | inl h => exact h
    | inr hne => exact ((pw_sep hh.pw hg hm hne).1 e).elim
  have dne : ∀ g ∈ hs, g ≠ h → h.d ≠ g.d := fun g hg hne e => (pw_sep hh.pw hg hm hne).2 e.symm
  refine ⟨⟨⟨by simp [Act.put, hr.tm.size], hr.tm.defers, fun t x hx => ?_⟩, hr.mem.below hb (fun _ => Nat.le_refl _)⟩, ⟨hh.op, hh.free, hh.pw, fun s hs => hh.in_ s (List.mem_of_mem_erase hs), fun g hg hn => ?_, fun g hg g' hg' hn hn' he => ?_⟩⟩
  · have hne : h.d ≠ t := fun e => by
      have := hh.free h hm
      rw [e, hx] at this
      cases this
    have := hr.tm.val t x hx
    refine ⟨?_, this.2⟩
    rw [← this.1]
    simp [Act.put, Array.getElem?_setIfInBounds_ne hne]
  · rw [hnd.mem_erase_iff] at hn
    by_cases e : g.s = h.s
    · obtain rfl := uniq g hg e
      refine ⟨by simp [Act.put, hr.tm.size, ho7], ?_, ?_, ?_⟩
      · simp only [if_true]
        exact Array.getElem?_push_size
      · simp only [if_true]
        exact hr.mem.kept.size
      · intro j hj hf
        simp only [if_true] at hf
        have := hr.mem.hi j hj _ hf
        omega
    · have hn' : g.s ∉ sil := fun h => hn ⟨e, h⟩
      obtain ⟨h1, h2, h3, h4⟩ := hh.at_ g hg hn'
      have hlt : β g.s < w.heap.size := (Array.getElem?_eq_some_iff.1 h2).1
      have hgh : g ≠ h := fun e' => e (by rw [e'])
      simp only [e, if_false]
      refine ⟨?_, (hb.block _ hlt).trans h2, h3, h4⟩
      rw [← h1]
      simp [Act.put, Array.getElem?_setIfInBounds_ne (dne g hg hgh)]
  · rw [hnd.mem_erase_iff] at hn hn'
    by_cases e : g.s = h.s <;> by_cases e' : g'.s = h.s
    · rw [e, e']
    · have hn2 : g'.s ∉ sil := fun h => hn' ⟨e', h⟩
      obtain ⟨_, h2, _⟩ := hh.at_ g' hg' hn2
      have hlt : β g'.s < w.heap.size := (Array.getElem?_eq_some_iff.1 h2).1
      simp only [e, e', if_true, if_false] at he
      omega
    · have hn2 : g.s ∉ sil := fun h => hn ⟨e, h⟩
      obtain ⟨_, h2, _⟩ := hh.at_ g hg hn2
      have hlt : β g.s < w.heap.size := (Array.getElem?_eq_some_iff.1 h2).1
      simp only [e, e', if_true, if_false] at he
      omega
    · simp only [e, e', if_false] at he
      exact hh.inj g hg g' hg' (fun h => hn ⟨e, h⟩) (fun h => hn' ⟨e', h⟩) he

theorem xschT_sound (hT : TabOk C.P C.T) {Q : Act → World → Prop} {full : List Oper} : ∀ (n : Nat) {sch : List Nat} {hs : List Sil} {sil : List Nat} {β : Nat → Nat} {pd : List SP} {pend : List Pend} {tm : List (Nat × SV)} {ob : List OB} {k : List (Nat × SV) → List OB → Prop} {σ : Nat → Nat} {fp : Nat → Nat → Prop} {a : Act} {w : World},
    sch.length + sil.length = n → sil.Nodup → (∀ i ∈ sch, ∀ o, full.toArray[i]? = some o → ∀ h ∈ hs, o.dst ≠ some h.d) → xschT C full sch hs pd tm ob k → Rel C tm ob σ fp a w → Hid C full hs sil β tm ob.length fp a w → PX C ob pd → PInv C full.toArray σ ob.length pd pend → (∀ p ∈ pend, YW C.P full.toArray p w) →
    (∀ tm ob σ fp a w, k tm ob → Rel C tm ob σ fp a w → Q a w) → wpT C.P full.toArray (onlyN Q) n sch sil pend a w
  | 0, sch, hs, sil, β, pd, pend, tm, ob, k, σ, fp, a, w, hn, hnd, hdd, h, hr, hh, hx, hp, hpw, hk => by
    have e1 : sch = [] := List.eq_nil_of_length_eq_zero (by omega)
    have e2 : sil = [] := List.eq_nil_of_length_eq_zero (by omega)
    subst e1 e2
    unfold xschT at h
    obtain ⟨tm', ob', σ', fp', h1, h2⟩ := opensAll_sound h hr hh
    exact hk _ _ _ _ _ _ h1 h2
  | n + 1, sch, hs, sil, β, pd, pend, tm, ob, k, σ, fp, a, w, hn, hnd, hdd, h, hr, hh, hx, hp, hpw, hk => by
    refine ⟨fun s hs' => ?_, fun i r hsch hdep => ?_⟩
    · obtain ⟨g, hg, rfl⟩ := hh.in_ s hs'
      obtain ⟨o, ti, ho1, ho2, ho3, ho4, ho5, ho6, ho7⟩ := hh.op g hg
      obtain ⟨hid, hti⟩ := hT _ _ ho5
      obtain ⟨z, hz, hzc⟩ := hti.zero
      rw [hid] at hz
      rw [ho6] at hzc
      obtain ⟨hr', hh'⟩ := hh.make hr hnd hg hs'
      have hrun : (execOp a.eval o).run C.P w = .ok (.value (.pointer (some ⟨w.heap.size, 0, none⟩))) (w.alloc (.cells g.zs.toArray g.t)) := by
        obtain ⟨dst, op, ty, pos, after, guard⟩ := o
        simp only at ho2
        subst ho2
        simp only [execOp, Instr.alloc, Sem.run_bind, hz, Result.andThen_ok, newVar, newRow, hzc]
        rfl
      have hpw' : ∀ p ∈ pend, YW C.P full.toArray p (w.alloc (.cells g.zs.toArray g.t)) := hp.now hT hx hr'.mem
      unfold wpOp
      simp only [ho1]
      have hw : Region.wanted o (yielded full.toArray a.tmps) = true := by simp [Region.wanted, ho4]
      simp only [hw, if_true]
      refine .inl ?_
      unfold Oper.wp
      rw [hrun]
      simp only [Oper.upon, ho3]
      refine ⟨hpw', xschT_sound hT n (by rw [List.length_erase_of_mem hs']; have := List.length_pos_of_mem hs'; omega) (hnd.erase _) hdd h hr' hh' hx hp hpw' hk⟩
    · subst hsch
      unfold xschT at h
      cases hni : nth full i with
      | none => simp [hni] at h
      | some o =>
        simp only [hni] at h
        have hi : full.toArray[i]? = some o := by simpa [nth_eq] using hni
        refine ⟨o, hi, ?_⟩
        obtain ⟨hs', tm, ob, σ, fp, h, hr, hh, hx, hp, hsub⟩ := opens_sound (full := full) (kept := []) (fun s hs => by rw [← depL_eq full.toArray hi]; exact hdep s hs) h hr hh hx hp
        simp only [List.nil_append] at hh
        have hdo : ∀ g ∈ hs', o.dst ≠ some g.d := fun g hg => hdd i (by simp) o hi g (hsub g hg)
        have hdr : ∀ i ∈ r, ∀ o, full.toArray[i]? = some o → ∀ g ∈ hs', o.dst ≠ some g.d := fun j hj o ho g hg => hdd j (List.mem_cons_of_mem _ hj) o ho g (hsub g hg)
        have hlen : r.length + sil.length = n := by simp at hn; omega
        have run : ∀ tm, Rel C tm ob σ fp a w → Hid C full hs' sil β tm ob.length fp a w → Region.wanted o (yielded full.toArray a.tmps) = true → (runT C o i pd tm ob fun pd tm ob => xschT C full r hs' pd tm ob k) →
            ((isVal o.op = true ∧ ∃ v, YO C.P full.toArray o a v w ∧ wpT C.P full.toArray (onlyN Q) n r sil (⟨i, a, v⟩ :: pend) (a.put o.dst v) w) ∨
             (isVal o.op = false ∧ wpOp C.P full.toArray (onlyN Q) i (fun a' w' => (∀ p ∈ pend, tdB full.toArray i p.i = false → YW C.P full.toArray p w') ∧ wpT C.P full.toArray (onlyN Q) n r sil (pend.filter fun p => !tdB full.toArray i p.i) a' w') a w)) := by
          intro tm hr hh hw hxr
          unfold runT at hxr
          cases hv : isVal o.op with
          | true =>
            simp only [hv] at hxr
            refine .inl ⟨rfl, ?_⟩
            obtain ⟨x, h1, hrun, hwf⟩ := xval_sound hT hxr hr.tm hr.mem
            obtain ⟨tm', h2, h3, h4⟩ := putT_hid h1 hr.tm hwf hdo hh
            refine ⟨x.val σ, .inl ⟨hw, hrun⟩, ?_⟩
            have hpw' : ∀ p ∈ (⟨i, a, x.val σ⟩ : Pend) :: pend, YW C.P full.toArray p w := by
              intro p hpm
              rcases List.mem_cons.1 hpm with rfl | hpm
              · exact ⟨o, hi, .inl ⟨hw, hrun⟩⟩
              · exact hpw p hpm
            split at h2
            · rename_i hpo
              refine xschT_sound hT n hlen hnd hdr h2 ⟨h3, hr.mem⟩ h4 hx ⟨hp.1, ?_⟩ hpw' hk
              intro p hpm
              rcases List.mem_cons.1 hpm with rfl | hpm
              · exact .inl fun w' => ⟨o, hi, .inl ⟨hw, pure_any hpo hrun w'⟩⟩
              · exact hp.2 p hpm
            · rw [andX_iff] at h2
              refine xschT_sound hT n hlen hnd hdr h2.2 ⟨h3, hr.mem⟩ h4 ?_ ?_ hpw' hk
              · intro s hs
                rcases List.mem_cons.1 hs with rfl | hs
                · exact h2.1
                · exact hx s hs
              · refine ⟨fun s hs => ?_, ?_⟩
                · rcases List.mem_cons.1 hs with rfl | hs
                  · exact hi
                  · exact hp.1 s hs
                intro p hpm
                rcases List.mem_cons.1 hpm with rfl | hpm
                · exact .inr ⟨_, List.mem_cons_self, rfl, hi, hw, hr.tm, rfl, hwf⟩
                · rcases hp.2 p hpm with h5 | ⟨s, hs, h5⟩
                  · exact .inl h5
                  · exact .inr ⟨s, List.mem_cons_of_mem _ hs, h5⟩
          | false =>
            simp only [hv] at hxr
            refine .inr ⟨rfl, ?_⟩
            unfold wpOp
            simp only [hi, hw, if_true]
            refine .inl (xop_sound hT hxr hr ?_)
            rintro v w' ⟨x, ob', σ', fp', hf, hσ, hn', rfl, hwf, hm, hfr⟩
            obtain ⟨h1, h2⟩ := vX_spec (filtK_spec hf)
            obtain ⟨h3, h4⟩ := hp.again hT hσ hn' hm hi h1
            refine ⟨h3, ?_⟩
            obtain ⟨tm', h5, h6, h7⟩ := putT_hid h2 (hr.tm.ext hσ hn') hwf hdo (hh.goes hfr)
            exact xschT_sound hT n hlen hnd hdr h5 ⟨h6, hm⟩ h7 h1 h4 (fun p hpm => h3 p (List.mem_filter.1 hpm).1 (by simpa using (List.mem_filter.1 hpm).2)) hk
        have skip : ∀ tm, Rel C tm ob σ fp a w → Hid C full hs' sil β tm ob.length fp a w → Region.wanted o (yielded full.toArray a.tmps) = false → (skipS C o pd tm ob fun pd tm ob => xschT C full r hs' pd tm ob k) →
            ((isVal o.op = true ∧ ∃ v, YO C.P full.toArray o a v w ∧ wpT C.P full.toArray (onlyN Q) n r sil (⟨i, a, v⟩ :: pend) (a.put o.dst v) w) ∨
             (isVal o.op = false ∧ wpOp C.P full.toArray (onlyN Q) i (fun a' w' => (∀ p ∈ pend, tdB full.toArray i p.i = false → YW C.P full.toArray p w') ∧ wpT C.P full.toArray (onlyN Q) n r sil (pend.filter fun p => !tdB full.toArray i p.i) a' w') a w)) := by
          intro tm hr hh hw hxr
          unfold skipS at hxr
          obtain ⟨tm', h2, h3, h4⟩ := putT_hid (σ := σ) hxr hr.tm (x := .v undef) trivial hdo hh
          cases hv : isVal o.op with
          | true =>
            simp only [hv] at h2
            refine .inl ⟨rfl, undef, .inr ⟨hw, rfl⟩, xschT_sound hT n hlen hnd hdr h2 ⟨h3, hr.mem⟩ h4 hx ⟨hp.1, ?_⟩ ?_ hk⟩
            · intro p hpm
              rcases List.mem_cons.1 hpm with rfl | hpm
              · exact .inl fun w' => ⟨o, hi, .inr ⟨hw, rfl⟩⟩
              · exact hp.2 p hpm
            · intro p hpm
              rcases List.mem_cons.1 hpm with rfl | hpm
              · exact ⟨o, hi, .inr ⟨hw, rfl⟩⟩
              · exact hpw p hpm
          | false =>
            simp only [hv] at h2
            refine .inr ⟨rfl, ?_⟩
            unfold wpOp
            simp only [hi, hw, Bool.false_eq_true, if_false]
            have h5 := filtK_spec h2
            exact ⟨fun p hpm _ => hpw p hpm, xschT_sound hT n hlen hnd hdr h5 ⟨h3, hr.mem⟩ h4 (fun s hs => hx s (filtL_sub hs)) (hp.filt hi) (fun p hpm => hpw p (List.mem_filter.1 hpm).1) hk⟩
        have litH : ∀ {d : Nat} {b : Bool}, look tm d = some (.v (.bool b)) → Hid C full hs' sil β ((d, .v (.bool b)) :: tm) ob.length fp a w := by
          intro d b hl
          refine ⟨hh.op, fun g hg => ?_, hh.pw, hh.in_, hh.at_, hh.inj⟩
          rw [look_cons_ne fun e => by have := hh.free g hg; rw [← e, hl] at this; cases this]
          exact hh.free g hg
        cases hg : o.guard with
        | none =>
          simp only [hg] at h
          exact run tm hr hh (by simp [Region.wanted, hg]) h
        | some jw =>
          obtain ⟨j, want⟩ := jw
          simp only [hg] at h
          split at h
          · rename_i g hj
            split at h
            · rename_i d hd
              split at h
              · rename_i b hl
                have hy := yield_spec hr.tm hj hd hl
                have lit : Rel C ((d, .v (.bool b)) :: tm) ob σ fp a w := hr.lit hl
                split at h
                · rw [xif_iff] at h
                  cases b with
                  | true => exact run _ lit (litH hl) (by simp [Region.wanted, hg, hy]) (h.1 rfl)
                  | false => exact skip _ lit (litH hl) (by simp [Region.wanted, hg, hy]) (h.2 rfl)
                · rw [xif_iff] at h
                  cases b with
                  | true => exact skip _ lit (litH hl) (by simp [Region.wanted, hg, hy]) (h.1 rfl)
                  | false => exact run _ lit (litH hl) (by simp [Region.wanted, hg, hy]) (h.2 rfl)
              · rename_i l hl
                have hy := yield_none hr.tm hj hd hl
                exact skip _ hr hh (by simp [Region.wanted, hg, hy]) h
              · exact h.elim
            · exact h.elim
          · exact h.elim

/-! ### the rule -/
def silK (C : Ctx) (full : List Oper) : List Nat → (List Sil → Prop) → Prop
  | [], k => k []
  | s :: r, k => match nth full s with
    | some o => match o.op, o.dst with
      | .alloc t, some d => match lookT C.T t with
        | some ti => match Nat.ble (d + 1) C.n with
          | true => silK C full r fun hs => k (⟨s, d, t, ti.zero⟩ :: hs)
          | false => False
        | none => False
      | _, _ => False
    | none => False
def dropT (tm : List (Nat × SV)) (d : Nat) : List (Nat × SV) := tm.filter fun p => !Nat.beq p.1 d
def dropK (d : Nat) : List (Nat × SV) → (List (Nat × SV) → Prop) → Prop
  | [], k => k []
  | p :: r, k => match Nat.beq p.1 d with
    | true => dropK d r k
    | false => dropK d r fun r' => k (p :: r')
def dropsK : List Sil → List (Nat × SV) → (List (Nat × SV) → Prop) → Prop
  | [], tm, k => k tm
  | h :: r, tm, k => dropK h.d tm fun tm => dropsK r tm k
def chkD (ops : Array Oper) (sch sil : List Nat) : Bool :=
  Region.noSelect ops && Nat.beq (sch.length + sil.length) ops.size && decide (sch ++ sil).Nodup && ((List.range ops.size).all fun j => (sch ++ sil).contains j) && ((sch ++ sil).all fun j => Nat.blt j ops.size) && chkT ops sil sch &&
    (sil.all fun s => match ops[s]? with
      | some o => o.after.isEmpty && o.guard.isNone && (match o.op with | .alloc _ => true | _ => false)
      | none => false) &&
    ((sch ++ sil).all fun i => sil.all fun s => i == s || (match ops[i]?, ops[s]? with
      | some o, some o' => o.dst != o'.dst
      | _, _ => false))
theorem dropK_spec {d : Nat} : ∀ {tm : List (Nat × SV)} {k : List (Nat × SV) → Prop}, dropK d tm k → ∃ tm', k tm' ∧ look tm' d = none ∧ ∀ t x, look tm' t = some x → look tm t = some x
  | [], k, h => ⟨[], h, rfl, fun _ _ h => h⟩
  | p :: r, k, h => by
    unfold dropK at h
    split at h
    · rename_i e
      have e := Nat.eq_of_beq_eq_true e
      obtain ⟨tm', h1, h2, h3⟩ := dropK_spec h
      refine ⟨tm', h1, h2, fun t x hx => ?_⟩
      have hne : p.1 ≠ t := fun e' => by rw [← e', e, h2] at hx; cases hx
      rw [show p = (p.1, p.2) from rfl, look_cons_ne hne]
      exact h3 t x hx
    · rename_i e
      obtain ⟨tm', h1, h2, h3⟩ := dropK_spec h
      have hne : p.1 ≠ d := fun e' => by simp [e'] at e
      refine ⟨p :: tm', h1, by rw [show p = (p.1, p.2) from rfl, look_cons_ne hne]; exact h2, fun t x hx => ?_⟩
      by_cases hpt : p.1 = t
      · unfold look at hx ⊢
        simp only [hpt, Nat.beq_refl] at hx ⊢
        exact hx
      · rw [show p = (p.1, p.2) from rfl, look_cons_ne hpt] at hx ⊢
        exact h3 t x hx
theorem dropsK_spec : ∀ {hs : List Sil} {tm : List (Nat × SV)} {k : List (Nat × SV) → Prop}, dropsK hs tm k → ∃ tm', k tm' ∧ (∀ h ∈ hs, look tm' h.d = none) ∧ ∀ t x, look tm' t = some x → look tm t = some x
  | [], tm, k, h => ⟨tm, h, by simp, fun _ _ h => h⟩
  | g :: r, tm, k, h => by
    unfold dropsK at h
    obtain ⟨tm1, h1, h2, h3⟩ := dropK_spec h
    obtain ⟨tm2, h4, h5, h6⟩ := dropsK_spec h1
    refine ⟨tm2, h4, fun q hm => ?_, fun t x hx => h3 t x (h6 t x hx)⟩
    rcases List.mem_cons.1 hm with e | hm
    · rw [e]
      cases hq : look tm2 g.d with
      | none => rfl
      | some x => rw [h6 _ _ hq] at h2; cases h2
    · exact h5 q hm
theorem silK_spec {full : List Oper} : ∀ {l : List Nat} {k : List Sil → Prop}, silK C full l k → ∃ hs, k hs ∧ hs.map (·.s) = l ∧ ∀ h ∈ hs, ∃ o ti, full.toArray[h.s]? = some o ∧ o.op = .alloc h.t ∧ o.dst = some h.d ∧ lookT C.T h.t = some ti ∧ ti.zero = h.zs ∧ h.d < C.n
  | [], k, h => ⟨[], h, rfl, by simp⟩
  | s :: r, k, h => by
    unfold silK at h
    split at h
    · rename_i o ho
      split at h
      · rename_i t d hop hd
        split at h
        · rename_i ti hti
          split at h
          · rename_i hle
            obtain ⟨hs, h1, h2, h3⟩ := silK_spec h
            refine ⟨_, h1, by simp [h2], fun g hg => ?_⟩
            rcases List.mem_cons.1 hg with rfl | hg
            · exact ⟨o, ti, by simpa [nth_eq] using ho, hop, hd, hti, rfl, Nat.le_of_ble_eq_true hle⟩
            · exact h3 g hg
          · exact h.elim
        · exact h.elim
      · exact h.elim
    · exact h.elim

@[irreducible] def DrawS (C : Ctx) (ops : Array Oper) (sch sil : List Nat) (tm : List (Nat × SV)) (ob : List OB) (K : Kx) : Prop :=
  chkD ops sch sil = true ∧ silK C ops.toList sil fun hs => dropsK hs tm fun tm => xschT C ops.toList sch hs [] tm ob fun tm ob => K .normal tm ob
theorem DrawS_i {K : Kx} {tm : List (Nat × SV)} {ops : Array Oper} {sch sil : List Nat} (hc : chkD ops sch sil = true) (h : silK C ops.toList sil fun hs => dropsK hs tm fun tm => xschT C ops.toList sch hs [] tm ob fun tm ob => K .normal tm ob) : DrawS C ops sch sil tm ob K := by
  unfold DrawS
  exact ⟨hc, h⟩
theorem DrawX_ofS {K : Kx} {tm : List (Nat × SV)} {ops : Array Oper} (hT : TabOk C.P C.T) (sch sil : List Nat) (hm : C.P.follows .mixedOrders = true) (h : DrawS C ops sch sil tm ob K) : DrawX C ops tm ob K := by
  unfold DrawS at h
  obtain ⟨hc, h⟩ := h
  unfold DrawX
  intro id σ fp a w hr
  simp only [chkD, Bool.and_eq_true] at hc
  obtain ⟨⟨⟨⟨⟨⟨⟨c1, c2⟩, c3⟩, c4⟩, c8⟩, c5⟩, c6⟩, c7⟩ := hc
  have c2 := Nat.eq_of_beq_eq_true c2
  have c3 := of_decide_eq_true c3
  obtain ⟨hs, h1, h2, h3⟩ := silK_spec h
  obtain ⟨tm', h4, h5, h6⟩ := dropsK_spec h1
  have hnd := c3
  rw [List.nodup_append] at hnd
  have hmem : ∀ g ∈ hs, g.s ∈ sil := fun g hg => by rw [← h2]; exact List.mem_map_of_mem hg
  have hr' : Rel C tm' ob σ fp a w.drew := ⟨⟨hr.tm.size, hr.tm.defers, fun t x hx => hr.tm.val t x (h6 t x hx)⟩, hr.mem.drew⟩
  have hsil : ∀ s ∈ sil, ∃ o, ops[s]? = some o ∧ o.after = #[] ∧ o.guard = none := by
    intro s hs
    have := List.all_eq_true.1 c6 s hs
    cases ho : ops[s]? with
    | none => simp [ho] at this
    | some o => simp only [ho, Bool.and_eq_true, Array.isEmpty_iff, Option.isNone_iff_eq_none] at this; exact ⟨o, rfl, this.1.1, this.1.2⟩
  have hH : Hid C ops.toList hs sil (fun _ => 0) tm' ob.length fp a w.drew := by
    refine ⟨fun g hg => ?_, h5, ?_, fun s hs' => ?_, fun g hg hn => (hn (hmem g hg)).elim, fun g hg _ _ hn => (hn (hmem g hg)).elim⟩
    · obtain ⟨o, ti, e1, e2, e3, e4, e5, e6⟩ := h3 g hg
      obtain ⟨o', e7, e8, e9⟩ := hsil g.s (hmem g hg)
      have : o = o' := by
        have e1' : ops[g.s]? = some o := by simpa using e1
        rw [e1'] at e7
        simpa using e7
      subst this
      exact ⟨o, ti, e1, e2, e3, e9, e4, e5, e6⟩
    · have hsn : (hs.map (·.s)).Nodup := by rw [h2]; exact hnd.2.1
      rw [List.Nodup, List.pairwise_map] at hsn
      refine hsn.imp_of_mem fun {g g'} hg hg' hne => ⟨hne, fun e => ?_⟩
      have := List.all_eq_true.1 (List.all_eq_true.1 c7 g.s (List.mem_append_right _ (hmem g hg))) g'.s (hmem g' hg')
      obtain ⟨o, _, e1, _, e3, _⟩ := h3 g hg
      obtain ⟨o', _, e1', _, e3', _⟩ := h3 g' hg'
      have e1 : ops[g.s]? = some o := by simpa using e1
      have e1' : ops[g'.s]? = some o' := by simpa using e1'
      simp [e1, e1', hne, e3, e3', e] at this
    · rw [← h2] at hs'
      obtain ⟨g, hg, e⟩ := List.mem_map.1 hs'
      exact ⟨g, hg, e⟩
  have hT2 := xschT_sound hT (full := ops.toList) (pend := []) (Q := post C K .normal) (sch.length + sil.length) rfl hnd.2.1 (fun i hi o ho g hg e => by
      have := List.all_eq_true.1 (List.all_eq_true.1 c7 i (List.mem_append_left _ hi)) g.s (hmem g hg)
      obtain ⟨o', _, e1, _, e3, _⟩ := h3 g hg
      have e1 : ops[g.s]? = some o' := by simpa using e1
      have ho : ops[i]? = some o := by simpa using ho
      have hne : i ≠ g.s := fun e' => hnd.2.2 i hi g.s (hmem g hg) e'
      simp [e1, ho, hne, e3, e] at this) h4 hr' hH (by intro s hs; simp at hs) ⟨by intro s hs; simp at hs, by intro p hp; simp at hp⟩ (by simp) fun tm ob σ fp a w hk hr => ⟨tm, ob, σ, fp, hk, hr⟩
  have hV := wpV_of_T (ops := ops) (listed := Array.replicate ops.size false) (Q := onlyN (post C K .normal)) c1 (fun c a w h => h) (sil0 := sil) (fun s hs => by obtain ⟨o, e1, e2, _⟩ := hsil s hs; exact ⟨o, e1, e2⟩) (sch.length + sil.length) rfl c5 (fun s hs => hs) c3 (by simp) closed_none (fun j => ?_) (pend := []) (fun p hp => by cases hp) hT2
  · rw [c2] at hV
    refine wp_mono (wp_region_any hm (wpAny_of_V _ hV)) ?_
    intro e a w h
    cases e <;> first | exact h | exact h.elim
  · by_cases hj : j < ops.size
    · have := List.all_eq_true.1 c4 j (List.mem_range.2 hj)
      simp at this
      simp [hj, this]
    · have : j ∉ sch ++ sil := by
        intro hj'
        have := List.all_eq_true.1 c8 j hj'
        exact hj (by simpa using this)
      simp only [List.mem_append] at this
      simp [hj, this]

/-! the order: as DrawX_k, with what hangs on nothing apart -/
def isSil (o : Oper) : Bool := match o.op, o.after.toList, o.guard with
  | .alloc _, [], none => true
  | _, _, _ => false
def splitK : List (Nat × Oper) → (List Nat → List (Nat × Oper) → Prop) → Prop
  | [], k => k [] []
  | (i, o) :: r, k => match isSil o with
    | true => splitK r fun s m => k (i :: s) m
    | false => splitK r fun s m => k s ((i, o) :: m)
def canonT : Nat → List (Nat × Oper) → List Nat → List Nat → (List Nat → Prop) → Prop
  | 0, _, _, acc, k => force acc.reverse k
  | f + 1, rem, done, acc, k => takeK true done rem (fun i r => canonT f r (i :: done) (i :: acc) k) fun _ => takeK false done rem (fun i r => canonT f r (i :: done) (i :: acc) k) fun _ => force acc.reverse k
theorem splitK_spec : ∀ {l : List (Nat × Oper)} {k : List Nat → List (Nat × Oper) → Prop}, splitK l k → ∃ s m, k s m
  | [], k, h => ⟨_, _, h⟩
  | (i, o) :: r, k, h => by
    unfold splitK at h
    split at h
    · obtain ⟨s, m, h1⟩ := splitK_spec h
      exact ⟨_, _, h1⟩
    · obtain ⟨s, m, h1⟩ := splitK_spec h
      exact ⟨_, _, h1⟩
theorem canonT_spec : ∀ {f : Nat} {rem : List (Nat × Oper)} {done acc : List Nat} {k : List Nat → Prop}, canonT f rem done acc k → ∃ sch, k sch
  | 0, rem, done, acc, k, h => by
    unfold canonT at h
    rw [force_eq] at h
    exact ⟨_, h⟩
  | f + 1, rem, done, acc, k, h => by
    unfold canonT at h
    rcases takeK_spec h with ⟨i, r, h1⟩ | h1
    · exact canonT_spec h1
    · rcases takeK_spec h1 with ⟨i, r, h2⟩ | h2
      · exact canonT_spec h2
      · rw [force_eq] at h2
        exact ⟨_, h2⟩
theorem DrawX_s {K : Kx} {tm : List (Nat × SV)} {ops : Array Oper} (hT : TabOk C.P C.T) (hm : C.P.follows .mixedOrders = true) (h : splitK (zipL lits ops.toList) fun sil rem => canonT ops.size rem sil [] fun sch => DrawS C ops sch sil tm ob K) : DrawX C ops tm ob K := by
  obtain ⟨sil, rem, h1⟩ := splitK_spec h
  obtain ⟨sch, h2⟩ := canonT_spec h1
  exact DrawX_ofS hT sch sil hm h2

end
end Go.Proofs.YtadichckbogcjaaDoor.En
