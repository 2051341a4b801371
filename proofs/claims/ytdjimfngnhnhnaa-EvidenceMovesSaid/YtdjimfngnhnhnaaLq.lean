/- Plain: lists of entries as functions of cells. -/
import Derived.Test.YtdjimfngnhnhnaaOh
set_option linter.all false
namespace Go.Proofs.Ytdjimfngnhnhnaa.En
open Go.RowKit

def leE (a b : EntT) : Bool := !befB b.cell a.cell
/-- what a tally lists -/
def lstF (L : List EntT) : List EntT := (L.filter fun e => !zeroE e).mergeSort leE
theorem leE_trans (a b c : EntT) (h1 : leE a b = true) (h2 : leE b c = true) : leE a c = true := by
  simp only [leE, Bool.not_eq_true', befB_false] at *
  omega
theorem leE_total (a b : EntT) : (leE a b || leE b a) = true := by
  rw [Bool.or_eq_true]
  simp only [leE, Bool.not_eq_true', befB_false]
  omega
theorem lstF_list {L : List EntT} (h : neT L) : IsList L (lstF L) := by
  have hp : (lstF L).Perm (L.filter fun e => !zeroE e) := List.mergeSort_perm _ _
  refine ⟨hp, ?_⟩
  have hs : (lstF L).Pairwise fun a b => leE a b = true := List.pairwise_mergeSort leE_trans leE_total _
  have hn : (lstF L).Pairwise fun a b => a.cell ≠ b.cell := (hp.pairwise_iff (fun {a b} h => h.symm)).2 (h.sublist List.filter_sublist)
  have := hs.and hn
  refine this.imp fun {a b} ⟨h1, h2⟩ => ?_
  cases h3 : befB a.cell b.cell with
  | true => rfl
  | false =>
    simp only [leE, Bool.not_eq_true'] at h1
    exact (h2 (befB_total h3 h1)).elim

/-- a list that stands for a function: ascending, just the cells at which it is not 0 -/
def Rep (f : CellT → Int × Int) (ys : List EntT) : Prop := asc ys ∧ ∀ e, e ∈ ys ↔ zeroE e = false ∧ f e.cell = (e.2.2.1, e.2.2.2)
theorem asc_nodup {l : List EntT} (h : asc l) : l.Nodup := by
  refine List.Pairwise.imp (fun {a b} hab => ?_) h
  rintro rfl
  rw [befB_irr] at hab
  cases hab
theorem asc_ne {l : List EntT} (h : asc l) : neT l := by
  refine List.Pairwise.imp (fun {a b} hab => ?_) h
  intro e
  rw [e, befB_irr] at hab
  cases hab
theorem asc_same {l m : List EntT} (h1 : asc l) (h2 : asc m) (h : ∀ e, e ∈ l ↔ e ∈ m) : l = m := by
  refine asc_unique h1 h2 ?_
  rw [List.perm_ext_iff_of_nodup (asc_nodup h1) (asc_nodup h2)]
  exact h
theorem Rep.unique {f g : CellT → Int × Int} {l m : List EntT} (h1 : Rep f l) (h2 : Rep g m) (h : ∀ c, f c = g c) : l = m := by
  refine asc_same h1.1 h2.1 fun e => ?_
  rw [h1.2, h2.2, h]
theorem Rep.congr {f g : CellT → Int × Int} {l : List EntT} (h1 : Rep f l) (h : ∀ c, f c = g c) : Rep g l := ⟨h1.1, fun e => by rw [h1.2, h]⟩
theorem Rep.nil : Rep (fun _ => (0, 0)) [] := by
  refine ⟨by simp [asc], fun e => ?_⟩
  simp [zeroE]
  intro h1 h2
  intro h3
  exact h1 h2.symm h3.symm
theorem mem_val {L : List EntT} (h : neT L) {e : EntT} (he : e ∈ L) : valT L e.cell = (e.2.2.1, e.2.2.2) := by
  unfold valT
  rw [getT_of h he]
theorem val_mem {L : List EntT} {e : EntT} (hz : zeroE e = false) (hv : valT L e.cell = (e.2.2.1, e.2.2.2)) : e ∈ L := by
  rcases getT_mem (L := L) (c := e.cell) with ⟨h1, h2⟩ | ⟨h1, _⟩
  · have : getT L e.cell = e := by
      unfold valT at hv
      obtain ⟨e1, e2⟩ := Prod.ext_iff.1 hv
      obtain ⟨c1, c2⟩ := Prod.ext_iff.1 h2
      exact Prod.ext c1 (Prod.ext c2 (Prod.ext e1 e2))
    rwa [this] at h1
  · unfold valT at hv
    rw [h1] at hv
    simp only [e0, Prod.mk.injEq] at hv
    simp [zeroE, ← hv.1, ← hv.2] at hz
theorem rep_lst {L : List EntT} (h : neT L) : Rep (valT L) (lstF L) := by
  obtain ⟨hp, ha⟩ := lstF_list h
  refine ⟨ha, fun e => ?_⟩
  rw [hp.mem_iff, List.mem_filter]
  constructor
  · rintro ⟨h1, h2⟩
    exact ⟨by simpa using h2, mem_val h h1⟩
  · rintro ⟨h1, h2⟩
    exact ⟨val_mem h1 h2, by simp [h1]⟩
/-- a valid list stands for its counters -/
theorem rep_vE {l : List EntT} (h : vE l = true) : Rep (valT l) l := by
  have ha : asc l := vE_pairwise h
  refine ⟨ha, fun e => ⟨fun he => ⟨?_, mem_val (asc_ne ha) he⟩, fun ⟨h1, h2⟩ => val_mem h1 h2⟩⟩
  have := vE_good h he
  simp only [goodB, Bool.and_eq_true, Bool.not_eq_true'] at this
  exact this.1.1.2
theorem Rep.val {f : CellT → Int × Int} {l : List EntT} (h : Rep f l) (c : CellT) : valT l c = f c := by
  rcases getT_mem (L := l) (c := c) with ⟨h1, h2⟩ | ⟨h1, h2⟩
  · have := ((h.2 _).1 h1).2
    rw [h2] at this
    rw [this]
    rfl
  · unfold valT
    rw [h1]
    generalize hf : f c = p
    by_cases hz : p.1 = 0 ∧ p.2 = 0
    · exact Prod.ext hz.1.symm hz.2.symm
    · have : ((c.1, c.2, p.1, p.2) : EntT) ∈ l := (h.2 _).2 ⟨by simp [zeroE]; intro h3; intro h4; exact hz ⟨h3, h4⟩, by
        show f (c.1, c.2) = _
        rw [show ((c.1, c.2) : CellT) = c from rfl, hf]⟩
      exact (h2 _ this rfl).elim
end Go.Proofs.Ytdjimfngnhnhnaa.En
