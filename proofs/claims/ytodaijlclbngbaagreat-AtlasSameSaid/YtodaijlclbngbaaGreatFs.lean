/- frame.Entries by the executor. -/
/- frame.Entries by the executor: the walk. -/
import Derived.Test.YtodaijlclbngbaaGreatEc
import Derived.Test.YtodaijlclbngbaaGreatSo
import Derived.Test.YtodaijlclbngbaaGreatLySortE
set_option linter.all false
namespace Go.Proofs.YtodaijlclbngbaaGreat.En
open Go.RowKit Go.Sort
set_option maxRecDepth 100000

theorem cell_swo : SWO (ltOf fun x y : EntT => cellI x.cell y.cell) := by
  have key : ∀ x y : EntT, ltOf (fun x y : EntT => cellI x.cell y.cell) x y = befB x.cell y.cell := by
    intro x y
    rw [Bool.eq_iff_iff]
    simp only [ltOf, decide_eq_true_eq]
    exact cellI_neg _ _
  refine ⟨fun x => ?_, fun x y z h1 h2 => ?_, fun x y z h1 h2 => ?_⟩
  · rw [key, befB_irr]
  · rw [key] at *
    exact befB_trans h1 h2
  · rw [key] at *
    rw [befB_false] at *
    omega
theorem CallX_sortE {C : Ctx} {ob : List OB} {k : SV → List OB → Prop} (hP : C.P = Tryz.prog) {g : Nat} (hen : Entr Tryz.prog g) (hg : ∀ a b : EntT, PureD Tryz.prog g [.a [I a.1, I a.2.1, I a.2.2.1, I a.2.2.2], .a [I b.1, I b.2.1, I b.2.2.1, I b.2.2.2]] (I (cellI a.cell b.cell))) (j : Nat) (xs : List EntT) {A : Option Addr} {n c e : Nat} (hj : nth ob j = some (.row e 4 A n c (xs.map encE))) (hx : xs.length = n) (hn : n < 4611686018427387904)
    (hk : ∀ ys : List EntT, ys.Perm xs → (∀ i k, i < k → k < n → befB (ys.getD k e0).cell (ys.getD i e0).cell = false) → force (setN ob j (.row e 4 A n c (ys.map encE))) fun ob => k (.t []) ob) :
    CallX C 98 [.v (.slice A n c), .fn g []] ob k := by
  obtain ⟨P, T, nn, w0, M, m, π, d⟩ := C
  simp only at hP
  subst hP
  refine CallX_sortK (ρ := SortE_ren) SortE (by decide) encE (fun _ => rfl) (fun x v hv => by
    simp [encE] at hv
    rcases hv with rfl | rfl | rfl | rfl <;> rfl) Tryz.isAgg81 Tryz.sizeOf81 (fun x y => cellI x.cell y.cell) cell_swo g (fun args w => by
      have h := hen
      unfold Entr at h
      exact h args w) (fun W x y => ?_) (Entr.of Tryz.func98 rfl rfl) j xs hj hx hn ?_
  · refine ((hg x y).2.2 (fun _ => 0) W).mono ?_
    rintro en w' ⟨rfl, hb, hdr⟩
    obtain ⟨q, os', h⟩ := grow_of_below hb hdr
    exact ⟨rfl, q, os', h⟩
  · intro ys hp hs
    refine hk ys hp fun i k' h1 h2 => ?_
    have := hs i k' h1 h2
    simp only [ltOf, decide_eq_false_iff_not] at this
    rw [cellI_neg] at this
    exact Bool.eq_false_iff.2 this

/-! ### plain -/
def imgE (f : FrT) (e : EntT) : EntT := ((cellR f e.cell).1.1, (cellR f e.cell).1.2, e.2.2.1, e.2.2.2)
def errsF (f : FrT) (l : List EntT) : List Int := l.map fun e => (cellR f e.cell).2
def okF (f : FrT) (l : List EntT) : Bool := szB f.2.1 8192 && szB f.2.2 8192 && vE l
def codeF (f : FrT) (l : List EntT) : Int := if okF f l then orI (errsF f l) else 1
def asc (l : List EntT) : Prop := l.Pairwise fun a b => befB a.cell b.cell = true
def IsOut (f : FrT) (l ys : List EntT) : Prop := if codeF f l = 0 then ys.Perm (l.map (imgE f)) ∧ asc ys else ys = []
theorem IsOut.unique {f : FrT} {l ys zs : List EntT} (h1 : IsOut f l ys) (h2 : IsOut f l zs) : ys = zs := by
  unfold IsOut at *
  split at h1
  · rename_i h
    rw [if_pos h] at h2
    exact asc_unique h1.2 h2.2 (h1.1.trans h2.1.symm)
  · rename_i h
    rw [if_neg h] at h2
    rw [h1, h2]
theorem tXY_inj {q x y x' y' : Int} (hq : q = 0 ∨ q = 1 ∨ q = 2 ∨ q = 3) (h1 : min (tX q x y) (tX q (x + 1) (y + 1)) = min (tX q x' y') (tX q (x' + 1) (y' + 1))) (h2 : min (tY q x y) (tY q (x + 1) (y + 1)) = min (tY q x' y') (tY q (x' + 1) (y' + 1))) : x = x' ∧ y = y' := by
  rcases hq with rfl | rfl | rfl | rfl <;> simp [tX, tY] at h1 h2 <;> omega
theorem cellR_ok {f : FrT} {c : CellT} (h : (cellR f c).2 = 0) : (cellR f c).1 = (min (tX (f.1 % 4) c.1 c.2) (tX (f.1 % 4) (c.1 + 1) (c.2 + 1)) + f.2.1, min (tY (f.1 % 4) c.1 c.2) (tY (f.1 % 4) (c.1 + 1) (c.2 + 1)) + f.2.2) := by
  unfold cellR at h ⊢
  split at h
  · rename_i h1
    split at h
    · rename_i h2
      rw [if_pos h1, if_pos h2]
    · simp at h
  · simp at h
theorem cellR_inj {f : FrT} {a b : CellT} (ha : (cellR f a).2 = 0) (hb : (cellR f b).2 = 0) (h : (cellR f a).1 = (cellR f b).1) : a = b := by
  rw [cellR_ok ha, cellR_ok hb] at h
  obtain ⟨h1, h2⟩ := Prod.ext_iff.1 h
  simp only at h1 h2
  obtain ⟨h3, h4⟩ := tXY_inj (q := f.1 % 4) (x := a.1) (y := a.2) (x' := b.1) (y' := b.2) (by omega) (by omega) (by omega)
  exact Prod.ext h3 h4
theorem orI_all {l : List Int} (h : orI l = 0) : ∀ x ∈ l, x = 0 := by
  induction l with
  | nil => simp
  | cons a l ih =>
    unfold orI at h
    split at h
    · rename_i h0
      intro x hx
      rcases List.mem_cons.1 hx with rfl | hx
      · exact h0
      · exact ih h x hx
    · rename_i h0
      exact (h0 h).elim
/-- the images of a valid list's cells are all different -/
theorem img_ne {f : FrT} {l : List EntT} (h : codeF f l = 0) : (l.map (imgE f)).Pairwise fun a b => a.cell ≠ b.cell := by
  unfold codeF at h
  split at h
  · rename_i hok
    simp only [okF, Bool.and_eq_true] at hok
    have hz := orI_all h
    have hp := vE_pairwise hok.2
    rw [List.pairwise_map]
    refine hp.imp_of_mem fun {a b} ha hb hab he => ?_
    have h1 := hz _ (List.mem_map_of_mem (f := fun e : EntT => (cellR f e.cell).2) ha)
    have h2 := hz _ (List.mem_map_of_mem (f := fun e : EntT => (cellR f e.cell).2) hb)
    have := cellR_inj h1 h2 he
    rw [this, befB_irr] at hab
    cases hab
  · cases h
/-- sorted, and all cells different: ascending -/
theorem asc_of_sorted {xs ys : List EntT} (hp : ys.Perm xs) (hs : ∀ i k, i < k → k < ys.length → befB (ys.getD k e0).cell (ys.getD i e0).cell = false) (hne : xs.Pairwise fun a b => a.cell ≠ b.cell) : asc ys := by
  have hne' : ys.Pairwise fun a b => a.cell ≠ b.cell := (hp.pairwise_iff (fun {a b} h => h.symm)).2 hne
  unfold asc
  rw [List.pairwise_iff_getElem] at hne' ⊢
  intro i j hi hj hij
  have h1 := hs i j hij hj
  simp only [List.getD_eq_getElem?_getD, List.getElem?_eq_getElem hi, List.getElem?_eq_getElem hj, Option.getD_some] at h1
  cases h2 : befB ys[i].cell ys[j].cell with
  | true => rfl
  | false => exact (hne' i j hi hj hij (befB_total h2 h1)).elim
theorem asc_vE {l : List EntT} (h : asc l) (hg : ∀ e ∈ l, goodB e = true) (hn : l.length ≤ 1048576) : vE l = true := by
  rw [vE_end]
  · simpa using hn
  · intro j hj
    unfold asc at h
    rw [List.pairwise_iff_getElem] at h
    have h1 := hg l[j] (List.getElem_mem hj)
    have e1 : l.getD j e0 = l[j] := by simp [hj]
    simp only [okAt, e1, h1, Bool.true_and]
    by_cases h0 : j = 0
    · simp [h0]
    · have := h (j - 1) j (by omega) hj (by omega)
      have e2 : l.getD (j - 1) e0 = l[j - 1] := by simp [show j - 1 < l.length by omega]
      rw [e2, this, Bool.or_true]
end Go.Proofs.YtodaijlclbngbaaGreat.En

namespace Go.Proofs.YtodaijlclbngbaaGreat.En
open Go.RowKit Go.Sort
set_option maxRecDepth 100000

abbrev OutT (f : FrT) (l : List EntT) := {p : Option Addr × Nat × List EntT // IsOut f l p.2.2}
theorem IsOut_bad {f : FrT} {l : List EntT} (h : codeF f l ≠ 0) : IsOut f l [] := by
  unfold IsOut
  rw [if_neg h]
theorem CallX_args {C : Ctx} {f : FuncId} {args : List SV} (args' : List SV) {ob : List OB} {k : SV → List OB → Prop} (he : ∀ σ, SV.vals σ args = SV.vals σ args') (h : CallX C f args' ob k) : CallX C f args ob k := by
  unfold CallX at *
  refine ⟨h.1, fun σ fp w hm => ?_⟩
  rw [he σ]
  exact h.2 σ fp w hm
end Go.Proofs.YtodaijlclbngbaaGreat.En
