/- The symbolic executor is sound: values, memory. -/
import Derived.Test.YtodaijlclbngbaaEn2
set_option linter.all false
namespace Go.Proofs.Ytodaijlclbngbaa.En
open Go.RowKit

mutual
theorem SV.val_ext {n : Nat} {σ σ' : Nat → Nat} (h : ∀ j, j < n → σ' j = σ j) : ∀ x : SV, x.wf n → x.val σ' = x.val σ
  | .v _, _ => rfl
  | .p k off, hw => by simp only [SV.val, h k hw]
  | .a l, hw => by simp only [SV.val, SV.vals_ext h l hw]
  | .t l, hw => by simp only [SV.val, SV.vals_ext h l hw]
  | .fn f l, hw => by simp only [SV.val, SV.vals_ext h l hw]
theorem SV.vals_ext {n : Nat} {σ σ' : Nat → Nat} (h : ∀ j, j < n → σ' j = σ j) : ∀ l : List SV, SV.wfs n l → SV.vals σ' l = SV.vals σ l
  | [], _ => rfl
  | x :: r, hw => by simp only [SV.vals, SV.val_ext h x hw.1, SV.vals_ext h r hw.2]
end
mutual
theorem SV.wf_mono {n m : Nat} (h : n ≤ m) : ∀ x : SV, x.wf n → x.wf m
  | .v _, _ => trivial
  | .p k off, hw => Nat.lt_of_lt_of_le hw h
  | .a l, hw => SV.wfs_mono h l hw
  | .t l, hw => SV.wfs_mono h l hw
  | .fn f l, hw => SV.wfs_mono h l hw
theorem SV.wfs_mono {n m : Nat} (h : n ≤ m) : ∀ l : List SV, SV.wfs n l → SV.wfs m l
  | [], _ => trivial
  | x :: r, hw => ⟨SV.wf_mono h x hw.1, SV.wfs_mono h r hw.2⟩
end

theorem vals_length (σ : Nat → Nat) : ∀ l : List SV, (SV.vals σ l).length = l.length
  | [] => rfl
  | x :: r => by simp [SV.vals, vals_length σ r]
theorem vals_append (σ : Nat → Nat) : ∀ l m : List SV, SV.vals σ (l ++ m) = SV.vals σ l ++ SV.vals σ m
  | [], _ => rfl
  | x :: r, m => by simp [SV.vals, vals_append σ r m]
theorem vals_v (σ : Nat → Nat) : ∀ l : List Value, SV.vals σ (l.map .v) = l
  | [] => rfl
  | x :: r => by simp [SV.vals, SV.val, vals_v σ r]
theorem wfs_v (n : Nat) : ∀ l : List Value, SV.wfs n (l.map .v)
  | [] => trivial
  | _ :: r => ⟨trivial, wfs_v n r⟩
theorem wfs_append {n : Nat} : ∀ {l m : List SV}, SV.wfs n l → SV.wfs n m → SV.wfs n (l ++ m)
  | [], _, _, h => h
  | _ :: _, _, h, h' => ⟨h.1, wfs_append h.2 h'⟩
theorem nth_eq {α : Type} : ∀ (l : List α) (i : Nat), nth l i = l[i]?
  | [], _ => by simp [nth]
  | _ :: _, 0 => by simp [nth]
  | _ :: r, n + 1 => by simp [nth, nth_eq r n]
theorem vals_get (σ : Nat → Nat) : ∀ (l : List SV) (i : Nat), (SV.vals σ l)[i]? = (l[i]?).map (·.val σ)
  | [], _ => by simp [SV.vals]
  | _ :: _, 0 => by simp [SV.vals]
  | _ :: r, n + 1 => by simp [SV.vals, vals_get σ r n]
theorem wfs_get {n : Nat} : ∀ {l : List SV} {i : Nat} {x : SV}, SV.wfs n l → l[i]? = some x → x.wf n
  | [], _, _, _, h => by simp at h
  | _ :: _, 0, _, hw, h => by simp at h; subst h; exact hw.1
  | _ :: r, i + 1, _, hw, h => by simp at h; exact wfs_get hw.2 h
theorem force_eq {α : Type} {β : Sort _} : ∀ (l : List α) (k : List α → β), force l k = k l
  | [], _ => rfl
  | x :: r, k => by simp [force, force_eq r]
theorem setN_eq {α : Type} : ∀ (l : List α) (i : Nat) (x : α), setN l i x = l.set i x
  | [], _, _ => by simp [setN]
  | _ :: _, 0, _ => by simp [setN]
  | _ :: r, n + 1, x => by simp [setN, setN_eq r n]
theorem cut_eq {α : Type} : ∀ (l : List α) (o n : Nat), cut l o n = (l.drop o).take n
  | l, 0, n => by cases l <;> simp [cut]
  | [], _ + 1, _ => by simp [cut]
  | _ :: r, o + 1, n => by simp [cut, cut_eq r o n]
theorem vals_cut (σ : Nat → Nat) (l : List SV) (o n : Nat) : SV.vals σ ((l.drop o).take n) = ((SV.vals σ l).drop o).take n := by
  apply List.ext_getElem?
  intro i
  simp only [vals_get, List.getElem?_take, List.getElem?_drop]
  split <;> simp
theorem wfs_of {n : Nat} : ∀ {l : List SV}, (∀ (i : Nat) (x : SV), l[i]? = some x → x.wf n) → SV.wfs n l
  | [], _ => trivial
  | x :: _, h => ⟨h 0 x (by simp), wfs_of fun i y hy => h (i + 1) y (by simpa using hy)⟩
theorem wfs_cut {n : Nat} {l : List SV} (h : SV.wfs n l) (o m : Nat) : SV.wfs n ((l.drop o).take m) := by
  refine wfs_of fun i x hx => ?_
  rw [List.getElem?_take, List.getElem?_drop] at hx
  split at hx
  · exact wfs_get h hx
  · cases hx
theorem splice_eq : ∀ (l : List SV) (o : Nat) (m : List SV), o + m.length ≤ l.length → splice l o m = l.take o ++ m ++ l.drop (o + m.length)
  | l, o, [], _ => by simp [splice]
  | l, o, x :: r, h => by
    have h' : o + (r.length + 1) ≤ l.length := by simpa using h
    have hs : (setN l o x).length = l.length := by simp [setN_eq]
    rw [splice, splice_eq _ _ r (by rw [hs]; omega), setN_eq]
    apply List.ext_getElem?
    intro i
    simp only [List.getElem?_append, List.length_append, List.length_take, List.length_set, List.getElem?_take, List.getElem?_drop, List.length_cons, List.getElem?_set]
    by_cases h1 : i < o
    · simp only [show i < min (o + 1) l.length by omega, show i < min o l.length by omega, if_true, show i < o + 1 by omega, show ¬ o = i by omega, if_false]
      simp [show i < min (o + 1) l.length + r.length by omega, show i < min o l.length + (r.length + 1) by omega, h1]
    · by_cases h2 : i = o
      · subst h2
        simp [show i < min (i + 1) l.length + r.length by omega, show i < min (i + 1) l.length by omega, show i < min i l.length + (r.length + 1) by omega, show ¬ i < min i l.length by omega, show i < l.length by omega, show i - min i l.length = 0 by omega]
      · by_cases h3 : i < o + (r.length + 1)
        · simp [show i < min (o + 1) l.length + r.length by omega, show ¬ i < min (o + 1) l.length by omega, show i < min o l.length + (r.length + 1) by omega, show ¬ i < min o l.length by omega]
          rw [show i - min o l.length = (i - min (o + 1) l.length) + 1 by omega]
          simp
        · simp [show ¬ i < min (o + 1) l.length + r.length by omega, show ¬ i < min o l.length + (r.length + 1) by omega, show ¬ o = o + 1 + r.length + (i - (min (o + 1) l.length + r.length)) by omega]
          congr 1
          omega
theorem vals_splice (σ : Nat → Nat) (l m : List SV) (o : Nat) : SV.vals σ (l.take o ++ m ++ l.drop (o + m.length)) = (SV.vals σ l).take o ++ SV.vals σ m ++ (SV.vals σ l).drop (o + (SV.vals σ m).length) := by
  have h1 := vals_cut σ l 0 o
  have h2 := vals_cut σ l (o + m.length) l.length
  simp only [List.drop_zero] at h1
  rw [List.take_of_length_le (by simp), List.take_of_length_le (by simp [vals_length])] at h2
  rw [vals_append, vals_append, h1, h2, vals_length]
theorem wfs_splice {n : Nat} {l m : List SV} (hl : SV.wfs n l) (hm : SV.wfs n m) (o : Nat) : SV.wfs n (l.take o ++ m ++ l.drop (o + m.length)) := by
  have h1 := wfs_cut hl 0 o
  have h2 := wfs_cut hl (o + m.length) l.length
  simp only [List.drop_zero] at h1
  rw [List.take_of_length_le (by simp)] at h2
  exact wfs_append (wfs_append h1 hm) h2
theorem ones_spec (σ : Nat → Nat) : ∀ {l : List SV}, ones l = true → ∀ v ∈ SV.vals σ l, v.oneCell' = true
  | [], _, v, hv => by simp [SV.vals] at hv
  | x :: r, h, v, hv => by
    have hr : ones r = true := by
      unfold ones at h
      split at h <;> first | exact h | cases h
    rcases List.mem_cons.1 hv with rfl | hv
    · unfold ones at h
      cases x with
      | v y => cases y <;> first | rfl | cases h
      | p _ _ => rfl
      | a _ => cases h
      | t _ => cases h
      | fn _ _ => rfl
    · exact ones_spec σ hr v hv
theorem cells_val (σ : Nat → Nat) (x : SV) : (x.val σ).cells = (SV.vals σ x.cells).toArray := by
  cases x with
  | v y => cases y <;> simp [SV.val, SV.cells, Value.cells, SV.vals, vals_v]
  | p _ _ => simp [SV.val, SV.cells, Value.cells, SV.vals]
  | a l => simp [SV.val, SV.cells, Value.cells]
  | t l => simp [SV.val, SV.cells, Value.cells, SV.vals]
  | fn _ _ => simp [SV.val, SV.cells, Value.cells, SV.vals]
theorem cells_wf {n : Nat} {x : SV} (h : x.wf n) : SV.wfs n x.cells := by
  cases x with
  | v y => cases y <;> simp [SV.cells, SV.wfs, SV.wf, wfs_v]
  | p _ _ => exact ⟨h, trivial⟩
  | a l => exact h
  | t l => exact ⟨h, trivial⟩
  | fn _ _ => exact ⟨h, trivial⟩

theorem litK_range : ∀ (m s n : Nat) (k : Nat → Prop), litK (List.range' s m) n k False → k (s + n)
  | 0, _, _, _, h => by simp [litK] at h
  | m + 1, s, 0, k, h => by simpa [List.range'_succ, litK] using h
  | m + 1, s, n + 1, k, h => by
    rw [List.range'_succ] at h
    have := litK_range m (s + 1) n k h
    rwa [show s + 1 + n = s + (n + 1) by omega] at this
theorem lenK_range {α : Type} : ∀ (m s : Nat) (l : List α) (k : Nat → Prop), lenK (List.range' s m) l k False → k (s + l.length)
  | 0, _, _, _, h => by simp [lenK] at h
  | m + 1, s, [], k, h => by simpa [List.range'_succ, lenK] using h
  | m + 1, s, _ :: l, k, h => by
    rw [List.range'_succ] at h
    have := lenK_range m (s + 1) l k h
    rwa [show s + 1 + l.length = s + (l.length + 1) by omega] at this
theorem lits_eq : lits = List.range' 0 300 := by decide +kernel
theorem litK_spec {n : Nat} {k : Nat → Prop} (h : litK lits n k False) : k n := by
  rw [lits_eq] at h
  simpa using litK_range _ _ _ _ h
theorem lenK_spec {α : Type} {l : List α} {k : Nat → Prop} (h : lenK lits l k False) : k l.length := by
  rw [lits_eq] at h
  simpa using lenK_range _ _ _ _ h

/-! ### Memory -/
theorem owns_ext {w w' : World} {base e sz n : Nat} {v : Value} {xs : List Value} (h : w.ownsRow base e sz v n xs) (hw : ∀ i, v.ownBlock = some i → w'.heap[i]? = w.heap[i]?) : w'.ownsRow base e sz v n xs := by
  refine ⟨h.1, ?_⟩
  rcases h.2 with h1 | ⟨g, cap, cur, rfl, h2, h3, h4⟩
  · exact .inl h1
  · exact .inr ⟨g, cap, cur, rfl, h2, by rw [hw g rfl, h3], h4⟩
theorem OB.at_ext {σ σ' : Nat → Nat} {n m : Nat} {w w' : World} {b : Nat} {F : Nat → Prop} {o : OB} (h : o.at σ n w b F) (hσ : ∀ j, j < n → σ' j = σ j) (hn : n ≤ m) (hw : ∀ i, F i → w'.heap[i]? = w.heap[i]?) : o.at σ' m w' b F := by
  cases o with
  | box ty cells =>
    obtain ⟨h1, h2, h3⟩ := h
    exact ⟨by rw [hw b ((h2 b).2 rfl), h1, SV.vals_ext hσ cells h3], h2, SV.wfs_mono hn _ h3⟩
  | row e sz A n c els =>
    obtain ⟨h1, h2, h3, h4, h5⟩ := h
    exact ⟨owns_ext h1 fun i hi => hw i ((h5 i).2 hi), h2, h3, h4, h5⟩
  | res R => exact ⟨h.2 w' hw, fun w'' hw'' => h.2 w'' fun i hi => (hw'' i hi).trans (hw i hi)⟩

theorem Kept.alloc {M : Nat → Prop} {w0 w : World} (h : Kept M w0 w) (o : Obj) : Kept M w0 (w.alloc o) :=
  ⟨h.os, h.tape, h.output, by rw [World.size_alloc]; have := h.size; omega, fun i hi hm => by rw [Below.heap_alloc _ _ _ (by have := h.size; omega)]; exact h.block i hi hm⟩

/-- one more block: an object in it -/
theorem Mem.push {C : Ctx} {σ : Nat → Nat} {fp : Nat → Nat → Prop} {ob : List OB} {w : World} (h : Mem C σ fp ob w) (t : TypeId) (cs : List SV) (hw : SV.wfs ob.length cs) :
    Mem C (fun j => if j = ob.length then w.heap.size else σ j) (fun j => if j = ob.length then (· = w.heap.size) else fp j) (ob ++ [.box t cs]) (w.alloc (.cells (SV.vals σ cs).toArray t)) := by
  have hσ : ∀ j, j < ob.length → (fun j => if j = ob.length then w.heap.size else σ j) j = σ j := fun j hj => by simp [show j ≠ ob.length by omega]
  refine ⟨?_, ?_, ?_, ?_, h.kept.alloc _, ⟨by have := h.pin.1; simp; omega, fun j hj => (hσ j (Nat.lt_of_lt_of_le hj h.pin.1)).trans (h.pin.2 j hj)⟩, h.drw⟩
  · intro k o hk
    by_cases hlt : k < ob.length
    · rw [List.getElem?_append_left hlt] at hk
      simp only [show k ≠ ob.length by omega, if_false]
      exact OB.at_ext (h.at_ k o hk) hσ (by simp) fun i hi => Below.heap_alloc _ _ _ (h.hi k hlt i hi)
    · have hlen := (List.getElem?_eq_some_iff.1 hk).1
      simp at hlen
      obtain rfl : k = ob.length := by omega
      simp at hk
      subst hk
      simp only [if_true]
      refine ⟨?_, fun i => Iff.rfl, SV.wfs_mono (by simp) _ hw⟩
      rw [SV.vals_ext hσ _ hw]
      exact heap_alloc_new w _
  · intro j k hj hk hne i hi hi'
    simp at hj hk
    by_cases ej : j = ob.length
    · simp only [ej, if_true] at hi
      simp only [show k ≠ ob.length by omega, if_false] at hi'
      have := h.hi k (by omega) i hi'
      omega
    · simp only [ej, if_false] at hi
      by_cases ek : k = ob.length
      · simp only [ek, if_true] at hi'
        have := h.hi j (by omega) i hi
        omega
      · simp only [ek, if_false] at hi'
        exact h.disj j k (by omega) (by omega) hne i hi hi'
  · intro k hk i hi
    simp at hk
    by_cases ek : k = ob.length
    · simp only [ek, if_true] at hi
      have := h.kept.size
      right; omega
    · simp only [ek, if_false] at hi
      exact h.lo k (by omega) i hi
  · intro k hk i hi
    simp at hk
    rw [World.size_alloc]
    by_cases ek : k = ob.length
    · simp only [ek, if_true] at hi; omega
    · simp only [ek, if_false] at hi
      have := h.hi k (by omega) i hi
      omega

/-- one object changes, in its own blocks and in new ones -/
theorem Mem.change {C : Ctx} {σ : Nat → Nat} {fp : Nat → Nat → Prop} {ob : List OB} {w w' : World} (h : Mem C σ fp ob w) {j : Nat} (hj : j < ob.length) (o : OB) (F : Nat → Prop)
    (ho : o.at σ ob.length w' (σ j) F) (hF : ∀ i, F i → fp j i ∨ w.heap.size ≤ i) (hF' : ∀ i, F i → i < w'.heap.size) (hos : w'.os = w.os) (htape : w'.tape = w.tape) (hout : w'.output = w.output) (hsz : w.heap.size ≤ w'.heap.size)
    (hsame : ∀ i, i < w.heap.size → ¬ fp j i → w'.heap[i]? = w.heap[i]?) (hdr : C.d = true → w.drawn ≤ w'.drawn) : Mem C σ (fun k => if k = j then F else fp k) (ob.set j o) w' := by
  refine ⟨?_, ?_, ?_, ?_, ?_, ⟨by simpa using h.pin.1, h.pin.2⟩, fun hd => Nat.le_trans (h.drw hd) (hdr hd)⟩
  · intro k o' hk
    simp only [List.length_set]
    by_cases e : k = j
    · subst e
      simp [List.getElem?_set, hj] at hk
      subst hk
      simpa using ho
    · rw [List.getElem?_set_ne (by omega)] at hk
      simp only [e, if_false]
      have hlt := (List.getElem?_eq_some_iff.1 hk).1
      exact OB.at_ext (h.at_ k o' hk) (fun _ _ => rfl) (Nat.le_refl _) fun i hi => hsame i (h.hi k hlt i hi) (h.disj k j hlt hj e i hi)
  · intro a b ha hb hne i hi hi'
    simp at ha hb
    by_cases ea : a = j
    · subst ea
      simp only [if_true] at hi
      simp only [show b ≠ a by omega, if_false] at hi'
      rcases hF i hi with h1 | h1
      · exact h.disj a b ha hb hne i h1 hi'
      · have := h.hi b hb i hi'; omega
    · simp only [ea, if_false] at hi
      by_cases eb : b = j
      · subst eb
        simp only [if_true] at hi'
        rcases hF i hi' with h1 | h1
        · exact h.disj a b ha hb hne i hi h1
        · have := h.hi a ha i hi; omega
      · simp only [eb, if_false] at hi'
        exact h.disj a b ha hb hne i hi hi'
  · intro k hk i hi
    simp at hk
    by_cases e : k = j
    · subst e
      simp only [if_true] at hi
      rcases hF i hi with h1 | h1
      · exact h.lo k hk i h1
      · have := h.kept.size; right; omega
    · simp only [e, if_false] at hi
      exact h.lo k hk i hi
  · intro k hk i hi
    simp at hk
    by_cases e : k = j
    · subst e
      simp only [if_true] at hi
      exact hF' i hi
    · simp only [e, if_false] at hi
      have := h.hi k hk i hi
      omega
  · have hk := h.kept
    refine ⟨hos.trans hk.os, htape.trans hk.tape, hout.trans hk.output, by have := hk.size; omega, fun i hi hm => ?_⟩
    rw [hsame i (by have := hk.size; omega) (fun hf => ?_), hk.block i hi hm]
    rcases h.lo j hj i hf with h1 | h1
    · exact hm h1
    · omega

end Go.Proofs.Ytodaijlclbngbaa.En
