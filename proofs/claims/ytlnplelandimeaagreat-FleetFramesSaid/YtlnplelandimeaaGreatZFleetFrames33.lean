import Derived.Test.YtlnplelandimeaaGreatZFleetFrames29
import Derived.Test.YtlnplelandimeaaGreatZFleetFrames32
set_option linter.all false
section
namespace Go.Proofs.YtlnplelandimeaaGreat.En
open Go.RowKit
set_option maxRecDepth 100000
section
variable {C : Ctx} {ob : List OB}
theorem CallX_pre {f : FuncId} {args : List SV} {ob' : List OB} {k : SV → List OB → Prop} (hen : Entr C.P f) (hl : ob.length ≤ ob'.length) (hw : SV.wfs ob.length args)
    (hc : ∀ σ fp w, Mem C σ fp ob w → ∃ σ' fp', (∀ j, j < ob.length → σ' j = σ j) ∧ (∀ j x, j < ob'.length → fp' j x → ∃ j', j' < ob.length ∧ fp j' x) ∧ Mem C σ' fp' ob' w) (h : CallX C f args ob' k) : CallX C f args ob k := by
  have key : ∀ σ fp w, Mem C σ fp ob w → Calls C.P f (SV.vals σ args).toArray w fun e w' => ∃ v, e = .returned v ∧ Goes C ob.length σ fp w k v w' := by
    intro σ fp w hm
    obtain ⟨σ', fp', hσ, hfp, hm'⟩ := hc σ fp w hm
    unfold CallX at h
    have h4 := h.2 σ' fp' w hm'
    rw [SV.vals_ext hσ args hw] at h4
    refine h4.mono ?_
    rintro e w' ⟨v, rfl, x, ob2, σ2, fp2, g, t1, t2, t3, t4, t5, t6⟩
    refine ⟨v, rfl, x, ob2, σ2, fp2, g, fun k hk => (t1 k (by omega)).trans (hσ k hk), by omega, t3, t4, t5, ⟨fun y hy hlt hno => t6.old y hy hlt fun k hk hk2 => ?_, fun k hk y hy hl hlt => ?_, t6.size⟩⟩
    · obtain ⟨k', h1, h2⟩ := hfp k y hk hk2
      exact hno k' h1 h2
    · obtain ⟨k', h1, h2⟩ := t6.new k hk y hy hl hlt
      exact hfp k' y h1 h2
  unfold CallX
  exact ⟨hen, key⟩
theorem CallX_post {f : FuncId} {args : List SV} {k k' : SV → List OB → Prop}
    (hc : ∀ x ob2, k' x ob2 → ∀ σ fp w, Mem C σ fp ob2 w → ∃ ob3 fp3, k x ob3 ∧ ob3.length = ob2.length ∧ (∀ j y, j < ob2.length → fp3 j y → ∃ j', j' < ob2.length ∧ fp j' y) ∧ Mem C σ fp3 ob3 w) (h : CallX C f args ob k') : CallX C f args ob k := by
  unfold CallX at h ⊢
  refine ⟨h.1, fun σ fp w hm => (h.2 σ fp w hm).mono ?_⟩
  rintro e w' ⟨v, rfl, x, ob2, σ2, fp2, g, t1, t2, t3, t4, t5, t6⟩
  obtain ⟨ob3, fp3, g3, hl, hf, hm3⟩ := hc x ob2 g σ2 fp2 w' t5
  refine ⟨v, rfl, x, ob3, σ2, fp3, g3, t1, by omega, t3, by rw [hl]; exact t4, hm3, ⟨t6.old, fun j hj y hy hl' hlt => ?_, t6.size⟩⟩
  obtain ⟨j', h1, h2⟩ := hf j y (by omega) hy
  exact t6.new j' h1 y h2 hl' hlt
theorem Goes.post {n : Nat} {σ : Nat → Nat} {fp : Nat → Nat → Prop} {w w' : World} {v : Value} {k k' : SV → List OB → Prop}
    (hc : ∀ x ob2, k' x ob2 → ∀ σ fp w, Mem C σ fp ob2 w → ∃ ob3 fp3, k x ob3 ∧ ob3.length = ob2.length ∧ (∀ j y, j < ob2.length → fp3 j y → ∃ j', j' < ob2.length ∧ fp j' y) ∧ Mem C σ fp3 ob3 w) (h : Goes C n σ fp w k' v w') : Goes C n σ fp w k v w' := by
  obtain ⟨x, ob2, σ2, fp2, g, t1, t2, t3, t4, t5, t6⟩ := h
  obtain ⟨ob3, fp3, g3, hl, hf, hm3⟩ := hc x ob2 g σ2 fp2 w' t5
  refine ⟨x, ob3, σ2, fp3, g3, t1, by omega, t3, by rw [hl]; exact t4, hm3, ⟨t6.old, fun j hj y hy hl' hlt => ?_, t6.size⟩⟩
  obtain ⟨j', h1, h2⟩ := hf j y (by omega) hy
  exact t6.new j' h1 y h2 hl' hlt
theorem OpX_post {o : Oper} {xs : List SV} {k k' : SV → List OB → Prop}
    (hc : ∀ x ob2, k' x ob2 → ∀ σ fp w, Mem C σ fp ob2 w → ∃ ob3 fp3, k x ob3 ∧ ob3.length = ob2.length ∧ (∀ j y, j < ob2.length → fp3 j y → ∃ j', j' < ob2.length ∧ fp j' y) ∧ Mem C σ fp3 ob3 w) (h : OpX C o xs ob k') : OpX C o xs ob k := by
  unfold OpX at h ⊢
  intro σ fp w ρ hm hx
  have h' := h σ fp w ρ hm hx
  revert h'
  split
  · exact Goes.post hc
  · exact Goes.post hc
  · exact fun h' => h'.mono fun e w'' ⟨v, he, hg⟩ => ⟨v, he, hg.post hc⟩
  · exact id
theorem Mem.swapR {σ : Nat → Nat} {fp : Nat → Nat → Prop} {w : World} (h : Mem C σ fp ob w) {q k e sz n c : Nat} {A : Option Addr} {els : List (List Value)} (hq : q < ob.length) (hk : nth ob k = some (.row e sz A n c els)) (hqk : q ≠ k) :
    Mem C σ (fun i => if i = q then fp k else if i = k then fp q else fp i) ((ob.set q (.row e sz A n c els)).set k noO) w := by
  rw [nth_eq] at hk
  have hkl := (List.getElem?_eq_some_iff.1 hk).1
  have key : ∀ i, i < ob.length → ∃ i', i' < ob.length ∧ (∀ x, (if i = q then fp k else if i = k then fp q else fp i) x ↔ fp i' x) ∧ (i' = if i = q then k else if i = k then q else i) := by
    intro i hi
    by_cases e1 : i = q
    · exact ⟨k, hkl, fun x => by rw [if_pos e1], by rw [if_pos e1]⟩
    · by_cases e2 : i = k
      · exact ⟨q, hq, fun x => by rw [if_neg e1, if_pos e2], by rw [if_neg e1, if_pos e2]⟩
      · exact ⟨i, hi, fun x => by rw [if_neg e1, if_neg e2], by rw [if_neg e1, if_neg e2]⟩
  refine ⟨?_, ?_, ?_, ?_, h.kept, ⟨by simpa using h.pin.1, h.pin.2⟩, h.drw⟩
  · intro i o hi
    simp only [List.length_set]
    by_cases e2 : i = k
    · subst e2
      rw [List.getElem?_set_self (by simpa using hkl)] at hi
      cases hi
      exact ⟨trivial, fun _ _ => trivial⟩
    · rw [List.getElem?_set_ne (Ne.symm e2)] at hi
      by_cases e1 : i = q
      · subst e1
        rw [List.getElem?_set_self hq] at hi
        cases hi
        rw [if_pos rfl]
        exact h.at_ k _ hk
      · rw [List.getElem?_set_ne (Ne.symm e1)] at hi
        rw [if_neg e1, if_neg e2]
        exact h.at_ i o hi
  · intro i j hi hj hij x hx hx'
    simp at hi hj
    obtain ⟨i', hi', h1, h2⟩ := key i hi
    obtain ⟨j', hj', h3, h4⟩ := key j hj
    refine h.disj i' j' hi' hj' ?_ x ((h1 x).1 hx) ((h3 x).1 hx')
    rw [h2, h4]
    split <;> split <;> (try split) <;> (try split) <;> omega
  · intro i hi x hx
    simp at hi
    obtain ⟨i', hi', h1, _⟩ := key i hi
    exact h.lo i' hi' x ((h1 x).1 hx)
  · intro i hi x hx
    simp at hi
    obtain ⟨i', hi', h1, _⟩ := key i hi
    exact h.hi i' hi' x ((h1 x).1 hx)
def swapK (q k : Nat) (K : SV → List OB → Prop) (x : SV) (ob : List OB) : Prop :=
  ∃ e sz A n c els, Nat.blt q ob.length = true ∧ nth ob k = some (.row e sz A n c els) ∧ force (setN (setN ob q (.row e sz A n c els)) k noO) fun ob => K x ob
theorem OpX_swap {o : Oper} {xs : List SV} {K : SV → List OB → Prop} (q k : Nat) (hqk : q ≠ k) (h : OpX C o xs ob (swapK q k K)) : OpX C o xs ob K := by
  refine OpX_post (fun x ob2 hk σ fp w hm => ?_) h
  obtain ⟨e, sz, A, n, c, els, g1, g2, g3⟩ := hk
  have hq : q < ob2.length := by simpa [Nat.blt_eq] using g1
  have hkl : k < ob2.length := by
    rw [nth_eq] at g2
    exact (List.getElem?_eq_some_iff.1 g2).1
  rw [force_eq] at g3
  simp only [setN_eq] at g3
  refine ⟨_, _, g3, by simp, fun j y hj hy => ?_, hm.swapR hq g2 hqk⟩
  (try dsimp only at hy)
  by_cases e1 : j = q
  · rw [if_pos e1] at hy
    exact ⟨k, hkl, hy⟩
  · rw [if_neg e1] at hy
    by_cases e2 : j = k
    · rw [if_pos e2] at hy
      exact ⟨q, hq, hy⟩
    · rw [if_neg e2] at hy
      exact ⟨j, hj, hy⟩
end
def bxO (b T N : Nat) (c : Nat → Value) : OB := .res fun w F => FnAt w b T N c ∧ F b
theorem bxO_mk {w : World} {F : Nat → Prop} {b T N : Nat} {c : Nat → Value} (h : FnAt w b T N c) (hF : F b) {σ : Nat → Nat} {n q : Nat} : (bxO b T N c).at σ n w q F := ⟨⟨h, hF⟩, fun w' hw => ⟨h.ext (hw b hF), hF⟩⟩
section
variable {C : Ctx} {ob : List OB} {b T N : Nat} {c : Nat → Value}
theorem nth_bx {σ : Nat → Nat} {fp : Nat → Nat → Prop} {w : World} {j : Nat} (hm : Mem C σ fp ob w) (h : nth ob j = some (bxO b T N c)) : (FnAt w b T N c ∧ fp j b) ∧ j < ob.length := by
  rw [nth_eq] at h
  have := hm.at_ j _ h
  exact ⟨this.1, (List.getElem?_eq_some_iff.1 h).1⟩
variable {o : Oper} {t : TypeId} {x y : Operand} {te : TI}
theorem ValX_bx (j i : Nat) (v : Value) {K : SV → Prop} (hT : TabOk C.P C.T) (ho : o.op = .load t x) (hte : lookT C.T t = some te) (hagg : te.agg = false) (hj : nth ob j = some (bxO b T N c)) (hi : i < N) (hv : c i = v) (hK : K (.v v)) : ValX C o [.v (.pointer (some ((⟨b, 0, none⟩ : Addr).add i)))] ob K := by
  subst hv
  rw [ad_add, Nat.zero_add]
  exact ValX_get1 _ hT ho hte hagg (fun σ fp w hm => (nth_bx hm hj).1.1.get hi) hK
theorem OpX_bx (j i : Nat) (v : Value) (c' : Nat → Value) {K : SV → List OB → Prop} (hT : TabOk C.P C.T) (ho : o.op = .store t x y) (hte : lookT C.T t = some te) (hz : te.zero.length = 1) (hj : nth ob j = some (bxO b T N c)) (hi : i < N) (h1 : Value.oneCell' v = true)
    (hc : ∀ k, k < N → c' k = if k = i then v else c k) (hK : force (setN ob j (bxO b T N c')) fun ob => K (.v undef) ob) : OpX C o [.v (.pointer (some ((⟨b, 0, none⟩ : Addr).add i))), .v v] ob K := by
  rw [ad_add, Nat.zero_add]
  unfold OpX
  intro σ fp w ρ hm hx
  obtain ⟨⟨hF, hb⟩, hjl⟩ := nth_bx hm hj
  obtain ⟨w', hex, hR', s2, s3, q1, q2, q3, q4⟩ := fn_set (vs := [v]) (v := .v v) (f' := c') hT ho hte (by simp; omega) (by rw [hz]; rfl) (by simpa using h1) (fun k hk => by
    rw [hc k hk]
    simp only [List.length_cons, List.length_nil, Nat.zero_add]
    by_cases e : k = i
    · rw [if_pos e, if_pos (by omega), e, Nat.sub_self]
      rfl
    · rw [if_neg e, if_neg (by omega)]) (.inr ⟨_, rfl, rfl⟩) hF hx
  rw [hex]
  have hsame : ∀ q, q < w.heap.size → ¬ fp j q → w'.heap[q]? = w.heap[q]? := fun q hq hnq => s2 q fun e => hnq (e ▸ hb)
  have hM := hm.change (w' := w') hjl (bxO b T N c') (fp j) (bxO_mk hR' hb) (fun x hx => .inl hx) (fun x hx => by rw [s3]; exact hm.hi j hjl x hx) q1 q2 q3 (by omega) hsame (fun _ => by omega)
  rw [force_eq, setN_eq] at hK
  refine ⟨.v undef, _, σ, _, hK, fun _ _ => rfl, by simp, rfl, trivial, hM, ⟨fun i _ hi hno => hsame i hi (hno j hjl), fun k' hk' i hi _ hlt => ?_, by omega⟩⟩
  simp at hk'
  by_cases e : k' = j
  · rw [if_pos e] at hi
    exact ⟨j, hjl, hi⟩
  · rw [if_neg e] at hi
    exact ⟨k', hk', hi⟩
end
def RaW (w : World) (F : Nat → Prop) (p : Nat) (r : RfT) : Prop := (RfAt w p r ∧ F p) ∧ ∀ i : Nat, i < 64 → InF w (fun a => F a ∧ a ≠ p) (r.s i)
theorem RaW.ext {w w' : World} {F : Nat → Prop} {p : Nat} {r : RfT} (h : RaW w F p r) (hw : ∀ i, F i → w'.heap[i]? = w.heap[i]?) : RaW w' F p r :=
  ⟨⟨h.1.1.ext (hw p h.1.2), h.1.2⟩, fun i hi => (h.2 i hi).ext (fun _ h => h) fun a ha => hw a ha.1⟩
structure RsW (w : World) (F : Nat → Prop) (p : Nat → Nat) (R : Nat → RfT) (H : Nat → Bool) (Fs : Nat → Nat → Prop) : Prop where
  ats : ∀ i, i < 8 → H i = true → RaW w (Fs i) (p i) (R i)
  disj : ∀ i j, i < 8 → j < 8 → i ≠ j → ∀ x, Fs i x → ¬ Fs j x
  sub : ∀ i, i < 8 → ∀ x, Fs i x → F x
def raO (p : Nat → Nat) (R : Nat → RfT) (H : Nat → Bool) : OB := .res fun w F => ∃ Fs, RsW w F p R H Fs
theorem raO_mk {w : World} {F : Nat → Prop} {p : Nat → Nat} {R : Nat → RfT} {H : Nat → Bool} {Fs : Nat → Nat → Prop} (h : RsW w F p R H Fs) {σ : Nat → Nat} {n q : Nat} : (raO p R H).at σ n w q F :=
  ⟨⟨Fs, h⟩, fun w' hw => ⟨Fs, ⟨fun i hi hH => (h.ats i hi hH).ext fun x hx => hw x (h.sub i hi x hx), h.disj, h.sub⟩⟩⟩
section
variable {C : Ctx} {ob : List OB} {p : Nat → Nat} {R : Nat → RfT} {H : Nat → Bool}
theorem nth_ra {σ : Nat → Nat} {fp : Nat → Nat → Prop} {w : World} {j : Nat} (hm : Mem C σ fp ob w) (h : nth ob j = some (raO p R H)) : (∃ Fs, RsW w (fp j) p R H Fs) ∧ j < ob.length := by
  rw [nth_eq] at h
  have := hm.at_ j _ h
  exact ⟨this.1, (List.getElem?_eq_some_iff.1 h).1⟩
theorem Mem.openRa {σ : Nat → Nat} {fp : Nat → Nat → Prop} {w : World} {j i : Nat} (hm : Mem C σ fp ob w) (hj : nth ob j = some (raO p R H)) (hi : i < 8) (hH : H i = true) :
    ∃ σ' fp', (∀ k, k < ob.length → σ' k = σ k) ∧ (∀ k x, k < ob.length + 1 → fp' k x → ∃ k', k' < ob.length ∧ fp k' x) ∧ Mem C σ' fp' (ob.set j (raO p R (offF H i)) ++ [rfO (p i) (R i)]) w := by
  obtain ⟨⟨Fs, hs⟩, hjl⟩ := nth_ra hm hj
  have hs' : RsW w (fun x => fp j x ∧ ¬ Fs i x) p R (offF H i) (fun k => if k = i then (fun _ => False) else Fs k) := by
    refine ⟨?_, ?_, ?_⟩
    · intro k hk hHk
      unfold offF at hHk
      by_cases e : k = i
      · rw [if_pos e] at hHk; cases hHk
      · rw [if_neg e] at hHk
        (try dsimp only)
        rw [if_neg e]
        exact hs.ats k hk hHk
    · intro k l hk hl hkl x hx hx'
      (try dsimp only at hx hx')
      by_cases e1 : k = i
      · rw [if_pos e1] at hx; exact hx
      · by_cases e2 : l = i
        · rw [if_pos e2] at hx'; exact hx'
        · rw [if_neg e1] at hx
          rw [if_neg e2] at hx'
          exact hs.disj k l hk hl hkl x hx hx'
    · intro k hk x hx
      (try dsimp only at hx)
      by_cases e1 : k = i
      · rw [if_pos e1] at hx; exact hx.elim
      · rw [if_neg e1] at hx
        exact ⟨hs.sub k hk x hx, fun h => hs.disj k i hk hi e1 x hx h⟩
  have hFi : ∀ x, Fs i x → fp j x := fun x hx => hs.sub i hi x hx
  have m0 := hm.change (w' := w) hjl (raO p R (offF H i)) (fun x => fp j x ∧ ¬ Fs i x) (raO_mk hs') (fun x hx => .inl hx.1) (fun x hx => hm.hi j hjl x hx.1) rfl rfl rfl (Nat.le_refl _) (fun _ _ _ => rfl) (fun _ => Nat.le_refl _)
  obtain ⟨⟨a1, a2⟩, a3⟩ := hs.ats i hi hH
  have m1 := m0.adopt (rfO (p i) (R i)) 0 (Fs i) (rfO_mk a1 a2 a3) (by
    intro x hx
    refine ⟨hm.lo j hjl x (hFi x hx), hm.hi j hjl x (hFi x hx), fun k hk h => ?_⟩
    simp at hk
    by_cases e : k = j
    · rw [if_pos e] at h; exact h.2 hx
    · rw [if_neg e] at h
      exact hm.disj k j hk hjl e x h (hFi x hx))
  refine ⟨_, _, ?_, ?_, m1⟩
  · intro k hk
    simp [show k ≠ ob.length by omega]
  · intro k x hk h
    simp only [List.length_set] at h
    by_cases e1 : k = ob.length
    · rw [if_pos e1] at h
      exact ⟨j, hjl, hFi x h⟩
    · rw [if_neg e1] at h
      by_cases e : k = j
      · rw [if_pos e] at h
        exact ⟨j, hjl, h.1⟩
      · rw [if_neg e] at h
        exact ⟨k, by omega, h⟩
theorem Mem.closeRa {σ : Nat → Nat} {fp : Nat → Nat → Prop} {w : World} {j k0 i b : Nat} {r : RfT} {H' : Nat → Bool} (hm : Mem C σ fp ob w) (hj : nth ob j = some (raO p R H)) (h0 : nth ob k0 = some (rfO b r)) (e0 : j ≠ k0) (hi : i < 8) (hH : H i = false) (hH' : ∀ k, k ≠ i → H' k = H k) :
    ∃ fp', (∀ k x, k < ob.length → fp' k x → ∃ k', k' < ob.length ∧ fp k' x) ∧ Mem C σ fp' ((ob.set j (raO (updN p i b) (updN R i r) H')).set k0 noO) w := by
  obtain ⟨⟨Fs, hs⟩, hjl⟩ := nth_ra hm hj
  obtain ⟨a1, a2, a3⟩ := nth_rf hm h0
  have hst : RsW w (fun x => fp j x ∨ fp k0 x) (updN p i b) (updN R i r) H' (fun k => if k = i then fp k0 else Fs k) := by
    refine ⟨?_, ?_, ?_⟩
    · intro k hk hHk
      (try dsimp only)
      by_cases e : k = i
      · subst e
        rw [if_pos rfl]
        unfold updN
        rw [if_pos rfl, if_pos rfl]
        exact ⟨a1, a2⟩
      · rw [hH' k e] at hHk
        rw [if_neg e]
        unfold updN
        rw [if_neg e, if_neg e]
        exact hs.ats k hk hHk
    · intro k l hk hl hkl x hx hx'
      (try dsimp only at hx hx')
      by_cases e1 : k = i <;> by_cases e2 : l = i
      · omega
      · rw [if_pos e1] at hx
        rw [if_neg e2] at hx'
        exact hm.disj j k0 hjl a3 e0 x (hs.sub l hl x hx') hx
      · rw [if_neg e1] at hx
        rw [if_pos e2] at hx'
        exact hm.disj j k0 hjl a3 e0 x (hs.sub k hk x hx) hx'
      · rw [if_neg e1] at hx
        rw [if_neg e2] at hx'
        exact hs.disj k l hk hl hkl x hx hx'
    · intro k hk x hx
      (try dsimp only at hx)
      by_cases e1 : k = i
      · rw [if_pos e1] at hx
        exact .inr hx
      · rw [if_neg e1] at hx
        exact .inl (hs.sub k hk x hx)
  have hM := hm.merge (w' := w) hjl a3 e0 (raO (updN p i b) (updN R i r) H') noO (raO_mk hst) ⟨trivial, fun _ _ => trivial⟩ rfl rfl rfl rfl (fun _ _ _ => rfl) rfl
  refine ⟨_, ?_, hM⟩
  intro k x hk hi
  by_cases e1 : k = j
  · rw [if_pos e1] at hi
    rcases hi with hi | hi
    · exact ⟨j, hjl, hi⟩
    · exact ⟨k0, a3, hi⟩
  · rw [if_neg e1] at hi
    by_cases e2 : k = k0
    · rw [if_pos e2] at hi
      exact hi.elim
    · rw [if_neg e2] at hi
      exact ⟨k, hk, hi⟩
def closeRK (j n : Nat) (p : Nat → Nat) (R : Nat → RfT) (H : Nat → Bool) (i : Nat) (k : SV → List OB → Prop) (x : SV) (ob : List OB) : Prop :=
  ∃ r : RfT, nth ob j = some (raO p R (offF H i)) ∧ nth ob n = some (rfO (p i) r) ∧ force (setN (setN ob j (raO p (updN R i r) H)) n noO) fun ob => k x ob
theorem CallX_openR {f : FuncId} {args : List SV} (j i n : Nat) (hen : Entr C.P f) {k : SV → List OB → Prop} (hj : nth ob j = some (raO p R H)) (hn : ob.length = n) (hi : i < 8) (hH : H i = true) (hw : SV.wfs ob.length args)
    (h : force (setN ob j (raO p R (offF H i)) ++ [rfO (p i) (R i)]) fun ob => CallX C f args ob (closeRK j n p R H i k)) : CallX C f args ob k := by
  subst hn
  rw [force_eq, setN_eq] at h
  refine CallX_pre hen (ob' := ob.set j (raO p R (offF H i)) ++ [rfO (p i) (R i)]) (by simp) hw (fun σ fp w hm => ?_) (CallX_post (fun x ob2 hk σ fp w hm => ?_) h)
  · obtain ⟨σ', fp', h1, h2, h3⟩ := hm.openRa hj hi hH
    exact ⟨σ', fp', h1, fun k x hk => h2 k x (by simpa using hk), h3⟩
  · obtain ⟨r, g1, g2, g3⟩ := hk
    have hne : j ≠ ob.length := by
      intro e
      rw [nth_eq] at hj
      have := (List.getElem?_eq_some_iff.1 hj).1
      omega
    obtain ⟨fp', hf, hM⟩ := hm.closeRa (i := i) (H' := H) g1 g2 hne hi (by unfold offF; rw [if_pos rfl]) (fun k hk => by unfold offF; rw [if_neg hk])
    rw [updN_self p i] at hM
    rw [force_eq] at g3
    simp only [setN_eq] at g3
    exact ⟨_, fp', g3, by simp, fun k x hk => hf k x hk, hM⟩
def newRK (j i n : Nat) (p : Nat → Nat) (R : Nat → RfT) (H : Nat → Bool) (k : SV → List OB → Prop) (x : SV) (ob : List OB) : Prop :=
  ∃ (b : Nat) (r : RfT), nth ob j = some (raO p R H) ∧ nth ob n = some (rfO b r) ∧ force (setN (setN ob j (raO (updN p i b) (updN R i r) (onF H i))) n noO) fun ob => k x ob
theorem CallX_newR {f : FuncId} {args : List SV} (j i n : Nat) (hjn : j ≠ n) (hi : i < 8) (hH : H i = false) {k : SV → List OB → Prop} (h : CallX C f args ob (newRK j i n p R H k)) : CallX C f args ob k := by
  refine CallX_post (fun x ob2 hk σ fp w hm => ?_) h
  obtain ⟨b, r, g1, g2, g3⟩ := hk
  obtain ⟨fp', hf, hM⟩ := hm.closeRa (b := b) (i := i) (H' := onF H i) g1 g2 hjn hi hH (fun k hk => by unfold onF; rw [if_neg hk])
  rw [force_eq] at g3
  simp only [setN_eq] at g3
  exact ⟨_, fp', g3, by simp, fun k x hk => hf k x hk, hM⟩
end
end Go.Proofs.YtlnplelandimeaaGreat.En
end
section
namespace Go.Proofs.YtlnplelandimeaaGreat.En
open Go.RowKit
set_option maxRecDepth 100000
theorem ArgSl.take {w : World} {A : Option Addr} {n sz : Nat} {els : List (List Value)} (h : ArgSl w A n sz els) {m : Nat} (hm : m ≤ n) : ArgSl w A m sz (els.take m) := by
  refine ⟨by rw [List.length_take, h.len]; omega, fun e he => h.size e (List.mem_of_mem_take he), fun e he => h.one e (List.mem_of_mem_take he), fun hn => ?_⟩
  obtain ⟨b, o, hA, hc⟩ := h.at_ (by omega)
  refine ⟨b, o, hA, fun i e hi => hc i e ?_⟩
  rw [List.getElem?_take] at hi
  split at hi
  · exact hi
  · cases hi
theorem ArgSl.drop {w : World} {A : Option Addr} {n sz : Nat} {els : List (List Value)} (h : ArgSl w A n sz els) {m : Nat} (hm : m ≤ n) {c : Nat} (hc : n ≤ c) : ArgSl w (cutA A c m sz) (n - m) sz (els.drop m) := by
  refine ⟨by rw [List.length_drop, h.len], fun e he => h.size e (List.mem_of_mem_drop he), fun e he => h.one e (List.mem_of_mem_drop he), fun hn => ?_⟩
  obtain ⟨b, o, hA, hcl⟩ := h.at_ (by omega)
  refine ⟨b, o + m * sz, ?_, fun i e hi j v hj => ?_⟩
  · unfold cutA
    rw [if_neg (by omega), hA]
    rfl
  · rw [List.getElem?_drop] at hi
    have := hcl (m + i) e hi j v hj
    rw [← this, Nat.add_mul]
    congr 2
    omega
def ltR (y x : RelT) : Bool := decide (y.1 < x.1) || (decide (y.1 = x.1) && decide (y.2.1 < x.2.1))
def eqR (y x : RelT) : Bool := decide (y.1 = x.1) && decide (y.2.1 = x.2.1)
def insR (x : RelT) : List RelT → List RelT
  | [] => [x]
  | y :: t => if ltR y x = true then y :: insR x t else if eqR y x = true then (if 0 < lexC (keyF x.2.2) (keyF y.2.2) then x :: t else y :: t) else x :: y :: t
theorem insR_at (x : RelT) : ∀ (L : List RelT) (k : Nat), k ≤ L.length → (∀ j, j < k → ltR (L.getD j r0) x = true) → (k < L.length → ltR (L.getD k r0) x = false) →
    insR x L = if k < L.length ∧ eqR (L.getD k r0) x = true then (if 0 < lexC (keyF x.2.2) (keyF (L.getD k r0).2.2) then L.set k x else L) else L.take k ++ x :: L.drop k
  | [], k, hk, _, _ => by
    obtain rfl : k = 0 := by simpa using hk
    rfl
  | y :: t, 0, _, _, h0 => by
    have h0 : ltR y x = false := by simpa using h0 (by simp)
    unfold insR
    rw [if_neg (by rw [h0]; simp)]
    by_cases e : eqR y x = true
    · have hc : 0 < (y :: t).length ∧ eqR ((y :: t).getD 0 r0) x = true := ⟨by simp, by simpa using e⟩
      rw [if_pos e, if_pos hc]
      simp
    · have hc : ¬ (0 < (y :: t).length ∧ eqR ((y :: t).getD 0 r0) x = true) := fun h => e (by simpa using h.2)
      rw [if_neg e, if_neg hc]
      rfl
  | y :: t, k + 1, hk, hj, h0 => by
    have h1 : ltR y x = true := by simpa using hj 0 (by omega)
    have ih := insR_at x t k (by simpa using hk) (fun j hjk => by simpa using hj (j + 1) (by omega)) (fun h => by simpa using h0 (by simpa using h))
    unfold insR
    rw [if_pos h1, ih]
    have e : (k + 1 < (y :: t).length ∧ eqR ((y :: t).getD (k + 1) r0) x = true) ↔ (k < t.length ∧ eqR (t.getD k r0) x = true) := by simp
    simp only [e]
    split
    · simp only [List.getD_cons_succ, List.set_cons_succ]
      split <;> rfl
    · rfl
theorem insR_append (x : RelT) : ∀ (L M : List RelT), (∀ y ∈ L, ltR y x = true) → insR x (L ++ M) = L ++ insR x M
  | [], _, _ => rfl
  | y :: t, M, h => by
    show insR x (y :: (t ++ M)) = y :: (t ++ insR x M)
    rw [← insR_append x t M fun z hz => h z (by simp [hz])]
    conv => lhs; unfold insR
    rw [if_pos (h y (by simp))]
theorem insR_snoc (x y : RelT) (h1 : ltR y x = false) (h2 : eqR y x = false) : ∀ (L : List RelT), insR x (L ++ [y]) = insR x L ++ [y]
  | [] => by
    show insR x [y] = [x] ++ [y]
    unfold insR
    rw [if_neg (by rw [h1]; simp), if_neg (by rw [h2]; simp)]
    rfl
  | z :: t => by
    show insR x (z :: (t ++ [y])) = insR x (z :: t) ++ [y]
    unfold insR
    split
    · rw [insR_snoc x y h1 h2 t]
      rfl
    · split
      · split <;> rfl
      · rfl
theorem pairsN_succ (S : SnT) (n : Nat) : pairsN S (n + 1) = pairsN S n ++ (prs S n).toList := by
  rcases opt_em (prs S n) with h | ⟨x, h⟩
  · rw [pairsN_none h, h]
    simp
  · rw [pairsN_some h, h]
    rfl
theorem pairsN_mem {S : SnT} {n : Nat} {y : RelT} (h : y ∈ pairsN S n) : ∃ t f, t < n ∧ y = (((t / 8 : Nat) : Int), ((t % 8 : Nat) : Int), f) := by
  unfold pairsN at h
  obtain ⟨t, ht, he⟩ := List.mem_filterMap.1 h
  unfold prs at he
  rcases opt_em (S.rel (t / 8) (t % 8)) with hn | ⟨f, hs⟩
  · rw [hn] at he
    cases he
  · rw [hs] at he
    exact ⟨t, f, by simpa using ht, (Option.some.inj he).symm⟩
theorem pairs_ins (S : SnT) {u v : Nat} (f : Fr) (hv : v < 8) : ∀ n, pairsN (setR S u v f) n = if 8 * u + v < n then insR ((u : Int), (v : Int), f) (pairsN S n) else pairsN S n
  | 0 => by rw [if_neg (by omega)]; rfl
  | n + 1 => by
    have ih := pairs_ins S f hv (u := u) n
    rw [pairsN_succ, pairsN_succ S, ih]
    have hp : n ≠ 8 * u + v → prs (setR S u v f) n = prs S n := by
      intro hn
      unfold prs setR upd2
      dsimp only
      rw [if_neg (by omega)]
    by_cases c1 : 8 * u + v < n
    · rw [if_pos c1, if_pos (by omega), hp (by omega)]
      rcases opt_em (prs S n) with h | ⟨y, h⟩
      · rw [h]
        simp
      · rw [h]
        have hy : y ∈ pairsN S (n + 1) := by rw [pairsN_some h]; simp
        obtain ⟨t, g, ht, rfl⟩ := pairsN_mem hy
        have hy2 : t = n := by
          unfold prs at h
          rcases opt_em (S.rel (n / 8) (n % 8)) with hn | ⟨f', hs⟩
          · rw [hn] at h; cases h
          · rw [hs] at h
            have h := Option.some.inj h
            simp only [Prod.mk.injEq] at h
            omega
        subst hy2
        refine (insR_snoc _ _ ?_ ?_ _).symm
        · unfold ltR
          simp
          omega
        · unfold eqR
          simp
          omega
    · rw [if_neg c1]
      by_cases c2 : n = 8 * u + v
      · rw [if_pos (by omega)]
        have e1 : n / 8 = u := by omega
        have e2 : n % 8 = v := by omega
        rw [insR_append _ _ _ (fun y hy => ?_)]
        · congr 1
          unfold prs setR upd2
          dsimp only
          rw [e1, e2, if_pos ⟨rfl, rfl⟩]
          rcases opt_em (S.rel u v) with hn | ⟨g, hs⟩
          · rw [hn]
            rfl
          · rw [hs]
            unfold mxO
            dsimp only
            show (Option.map (fun f => ((u : Int), (v : Int), f)) (if 0 < lexC (keyF f) (keyF g) then some f else some g)).toList = insR ((u : Int), (v : Int), f) [((u : Int), (v : Int), g)]
            have g1 : ¬ ltR ((u : Int), (v : Int), g) ((u : Int), (v : Int), f) = true := by unfold ltR; simp
            have g2 : eqR ((u : Int), (v : Int), g) ((u : Int), (v : Int), f) = true := by unfold eqR; simp
            unfold insR
            rw [if_neg g1, if_pos g2]
            split <;> rfl
        · obtain ⟨t, g, ht, rfl⟩ := pairsN_mem hy
          unfold ltR
          simp
          omega
      · rw [if_neg (by omega), hp c2]
theorem normR_bd' {x : RelT} (h : addOk x = true) : ((normR x).1.toNat < (normR x).2.1.toNat ∧ (normR x).2.1.toNat < 8) ∧ True := by
  obtain ⟨h1, h2, h3, h4, h5⟩ := addOk_bd h
  unfold normR
  split
  · dsimp only
    exact ⟨by omega, trivial⟩
  · dsimp only
    exact ⟨by omega, trivial⟩
theorem normR_nn {x : RelT} (h : addOk x = true) : 0 ≤ (normR x).1 ∧ 0 ≤ (normR x).2.1 := by
  obtain ⟨h1, h2, h3, h4, h5⟩ := addOk_bd h
  unfold normR
  split
  · exact ⟨h2.1, h1.1⟩
  · exact ⟨h1.1, h2.1⟩
theorem pairs_take (S : SnT) {x : RelT} (hx : addOk x = true) : pairs (takeS S x) = insR (normR x) (pairs S) := by
  obtain ⟨⟨n1, n2⟩, _⟩ := normR_bd' hx
  have h := pairs_ins S (u := (normR x).1.toNat) (v := (normR x).2.1.toNat) (normR x).2.2 n2 64
  rw [if_pos (by omega)] at h
  have e : ((((normR x).1.toNat : Nat) : Int), (((normR x).2.1.toNat : Nat) : Int), (normR x).2.2) = normR x := by
    obtain ⟨a1, a2⟩ := normR_nn hx
    rw [Int.toNat_of_nonneg a1, Int.toNat_of_nonneg a2]
  rw [e] at h
  exact h
end Go.Proofs.YtlnplelandimeaaGreat.En
end
